/- The writer's line: it adds the plain line. Conditions: sizes as told. -/
import Derived.Test.YtcpjldhpboodnaaDoorBi
import Derived.Deep.RegionHeld3
import Derived.Laws.Concat
namespace Go.Proofs.YtcpjldhpboodnaaDoor.Lf
open Go Go.RowKit Go.Lib Go.Proofs.YtcpjldhpboodnaaDoor.PFn Go.Proofs.YtcpjldhpboodnaaDoorW.PrintWords Go.Proofs.YtcpjldhpboodnaaDoor.Rd

theorem bl_app (a b : ByteArray) : bl (a ++ b) = bl a ++ bl b := by
  unfold bl
  rw [ByteArray.data_append, Array.toList_append]
theorem b64_le (b : Bs) : (b64 b).length ≤ 2 * b.length + 4 := by rw [b64_len]; omega
def LineP (B b : Nat) (acc : Bs) (w : World) (e : Ending) (w' : World) : Prop := e = .returned (.tuple #[]) ∧ Wu B b acc w' ∧ Below B w w' ∧ OthersKept tB (some b) w w'
theorem Wr.below {B b : Nat} {acc : Bs} {w w' : World} (h : Wr B b acc w) (hb : Below w.heap.size w w') : Wr B b acc w' := by
  rcases h with ⟨h1, v, h2, h3, h4⟩ | ⟨h1, v, h2, h3, h4⟩
  · exact .inl ⟨h1, v, (hb.block b (blk_lt h2)).trans h2, own_below h3 hb, h4⟩
  · exact .inr ⟨h1, v, (hb.block b (blk_lt h2)).trans h2, own_below h3 hb, h4⟩
theorem kept_below {b : Nat} {w w' : World} (hb : Below w.heap.size w w') : OthersKept tB (some b) w w' := fun k o h _ _ => (hb.block k (by
  rcases Nat.lt_or_ge k w.heap.size with h' | h'
  · exact h'
  · rw [Array.getElem?_eq_none h'] at h; cases h)).trans h
set_option maxHeartbeats 2000000 in
set_option maxRecDepth 100000 in
theorem line_c {B b : Nat} {acc : Bs} {w : World} (h : Wr B b acc w) (n v : ByteArray) (hB : B ≤ w.heap.size) (hn : n.size ≤ 1000) (hv : v.size ≤ 30000000000000) (ha : acc.length ≤ 60000000000000) :
    Calls Tryd.prog 26 #[.pointer (some ⟨b, 0, none⟩), .string n, .string v] w (LineP B b (acc ++ lineL (bl n) (bl v)) w) := by
  have cI := isPlain_c v w (by omega)
  cases hp : plainV (bl v) with
  | true =>
    rw [hp] at cI
    have hl : lineL (bl n) (bl v) = bl (((n ++ ⟨#[58, 32]⟩) ++ v) ++ ⟨#[10]⟩) := by
      unfold lineL lineB
      rw [hp, bl_app, bl_app, bl_app]
      show (bl n ++ (58 :: 32 :: bl v)) ++ [10] = ((bl n ++ [58, 32]) ++ bl v) ++ [10]
      simp
    have hz : (((n ++ ⟨#[58, 32]⟩) ++ v) ++ ⟨#[10]⟩ : ByteArray).size = n.size + 2 + v.size + 1 := by
      simp only [ByteArray.size_append]
      rfl
    have cW := fun S (hS : S = (((n ++ ⟨#[58, 32]⟩) ++ v) ++ ⟨#[10]⟩ : ByteArray)) => writeS_c h S (by rw [hS, hz]; omega) hB
    have HL := Aside0.mk hl
    clear hl hz hp
    go_enter Tryd.func26, Tryd.ntmps26
    go_wp2_with fail
    refine cI.mono ?_
    rintro e w2 ⟨rfl, rfl⟩
    go_wp2_with fail
    refine (cW _ rfl).mono ?_
    rintro e w3 ⟨rfl, h3, hb3, hk3⟩
    go_wp2
    go_end0
    exact ⟨rfl, by rw [HL.out]; exact h3, hb3, hk3⟩
  | false =>
    rw [hp] at cI
    have hl : lineL (bl n) (bl v) = bl (((n ++ ⟨#[58, 58, 32]⟩) ++ ⟨(b64 (bl v)).toArray⟩) ++ ⟨#[10]⟩) := by
      unfold lineL lineB
      rw [hp, bl_app, bl_app, bl_app]
      show (bl n ++ (58 :: 58 :: 32 :: b64 (bl v))) ++ [10] = ((bl n ++ [58, 58, 32]) ++ b64 (bl v)) ++ [10]
      simp
    have HL := Aside0.mk hl
    have cB := fun W => base64_c v W (by omega)
    have hbz := b64_le (bl v)
    rw [bl_size] at hbz
    obtain ⟨Q, hQ⟩ : ∃ Q : ByteArray, Q = ⟨(b64 (bl v)).toArray⟩ := ⟨_, rfl⟩
    have hQz : Q.size ≤ 2 * v.size + 4 := by rw [hQ]; exact hbz
    rw [← hQ] at cB HL
    have cW := fun W (hW : Below w.heap.size w W) => writeS_c (h.below hW) (((n ++ ⟨#[58, 58, 32]⟩) ++ Q) ++ ⟨#[10]⟩ : ByteArray) (by rw [ByteArray.size_append, ByteArray.size_append, ByteArray.size_append]; show acc.length + (n.size + 3 + Q.size + 1) ≤ _; omega) (Nat.le_trans hB hW.size)
    clear hl hp hQ hbz
    go_enter Tryd.func26, Tryd.ntmps26
    go_wp2_with fail
    refine cI.mono ?_
    rintro e w2 ⟨rfl, rfl⟩
    go_wp2_with fail
    have e1 : ∀ W, (Op.stringOp .add n ⟨#[58, 58, 32]⟩).run Tryd.prog W = .ok (.string (n ++ ⟨#[58, 58, 32]⟩)) W := fun W => run_string_add_sum W n _ (by show n.size + 3 ≤ _; omega)
    have e2 : ∀ W, (Op.stringOp .add (n ++ ⟨#[58, 58, 32]⟩) Q).run Tryd.prog W = .ok (.string ((n ++ ⟨#[58, 58, 32]⟩) ++ Q)) W := fun W => run_string_add_sum W _ _ (by rw [ByteArray.size_append]; show n.size + 3 + Q.size ≤ _; omega)
    have e3 : ∀ W, (Op.stringOp .add ((n ++ ⟨#[58, 58, 32]⟩) ++ Q) ⟨#[10]⟩).run Tryd.prog W = .ok (.string (((n ++ ⟨#[58, 58, 32]⟩) ++ Q) ++ ⟨#[10]⟩)) W := fun W => run_string_add_sum W _ _ (by rw [ByteArray.size_append, ByteArray.size_append]; show n.size + 3 + Q.size + 1 ≤ _; omega)
    go_region_held3 (fun _ => True) (trivial) (first | (go_at_call 17; refine (cB _).mono ?_; rintro e w3 ⟨rfl, hb3⟩) | (go_at_call 55; refine (cW _ (below_seq (below_drew (Below.refl _ _)) hb3)).mono ?_; rintro e w4 ⟨rfl, h4, hb4, hk4⟩))
    have hb03 : Below w.heap.size w w3 := below_seq (below_drew (Below.refl _ _)) hb3
    go_end0
    exact ⟨rfl, by rw [HL.out]; exact h4, (hb03.mono hB).trans hb4, (kept_below hb03).trans hk4⟩
end Go.Proofs.YtcpjldhpboodnaaDoor.Lf
