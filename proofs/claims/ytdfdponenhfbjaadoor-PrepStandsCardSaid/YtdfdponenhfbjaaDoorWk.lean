/- The walks of package octet's Text and PutRune: what they answer. Conditions: strings of at most 2^44 bytes; the tables of unicode/utf8 as they are laid. -/
import Derived.Test.YtdfdponenhfbjaaDoorShelf
import Derived.Test.YtdfdponenhfbjaaDoorFnc
import Derived.BigCall
import Derived.Lib.Hide
namespace Go.Proofs.YtdfdponenhfbjaaDoor.Wk
open Go Go.RowKit Go.Lib Go.Proofs.YtdfdponenhfbjaaDoor.PFn Go.Proofs.YtdfdponenhfbjaaDoor.Pl Go.Proofs.YtdfdponenhfbjaaDoor.Tx Go.Proofs.YtdfdponenhfbjaaDoor.Fn Go.Proofs.YtdfdponenhfbjaaDoorW.PrintWords

/-- what the walks lean on of the package-level variables: utf8's two tables, and that bytealg's MaxLen holds some number -/
def Env (w : World) : Prop := Lib.Utf8Tabs (Tryd.lays196_ren.g 3) (Tryd.lays196_ren.g 4) w ∧ ∃ m : Int, w.cell? ⟨2, 0, none⟩ = some (.int .i64 m)
theorem Env.below {w w' : World} (h : Env w) (hb : Below w.heap.size w w') : Env w' :=
  ⟨Utf8Tabs_below h.1 hb, h.2.imp fun _ hm => pw_cell_below hb hm⟩
theorem drawn_heap {w w' : World} (h : Drawn0 w w') : w'.heap = w.heap := by
  obtain ⟨⟨n, rfl⟩⟩ := h
  rfl
theorem drawn_cell {w w' : World} (h : Drawn0 w w') {p : Addr} {v : Value} (hc : w.cell? p = some v) : w'.cell? p = some v := by
  obtain ⟨⟨n, rfl⟩⟩ := h
  exact hc
theorem below_seq {w w1 w2 : World} (h : Below w.heap.size w w1) (k : Below w1.heap.size w1 w2) : Below w.heap.size w w2 := below_then h h.size k

set_option maxHeartbeats 1000000 in
theorem text_c (s : ByteArray) (w : World) (hs : s.size ≤ 17592186044416) (hE : Env w) :
    Calls Tryd.prog 16 #[.string s] w fun e w' => e = .returned (.bool (validD s.data.toList)) ∧ Below w.heap.size w w' := by
  have cV : Calls Tryd.prog 29 #[.string s] w _ := Any.utf8_ValidString Tryd.lays196 s w (by omega) hE.1
  go_enter Tryd.func16, Tryd.ntmps16
  go_wp2_with (go_at_call 29; refine cV.mono ?_; rintro e w' ⟨rfl, hb⟩)
  go_ret
  exact ⟨rfl, hb⟩

theorem encode_good (r : Nat) (h : Tx.Good r) : Utf8.encode (r : Int) = ⟨(enc r).toArray⟩ := by
  unfold Tx.Good at h
  have hv : Utf8.valid (r : Int) = true := by
    unfold Utf8.valid
    simp only [Bool.or_eq_true, Bool.and_eq_true, decide_eq_true_eq]
    omega
  unfold Utf8.encode
  rw [hv]
  simp only [if_true, Int.toNat_natCast]
  by_cases h1 : r ≤ 127
  · rw [if_pos (by omega), enc_one h1]
  · rw [if_neg (by omega)]
    by_cases h2 : r ≤ 2047
    · rw [if_pos (by omega), enc_two (by omega) h2]
    · rw [if_neg (by omega)]
      by_cases h3 : r ≤ 65535
      · rw [if_pos (by omega), enc_three (by omega)]
      · rw [if_neg (by omega), enc_four (by omega) (by omega)]
theorem valid_f (r : Nat) (h : Tx.Good r) : utf8_ValidRune.f 1 (r : Int) = some true := by
  unfold Tx.Good at h
  unfold utf8_ValidRune.f
  rw [if_pos (by omega)]
  simp only [utf8_ValidRune.j0]
  by_cases h1 : (r : Int) < 55296
  · rw [decide_eq_true h1, if_pos rfl]
  · rw [decide_eq_false h1, if_neg (by simp), if_pos (by omega), if_pos (by omega)]

set_option maxHeartbeats 1000000 in
theorem putRune_c (r : Nat) (h : Tx.Good r) (w : World) :
    Calls Tryd.prog 33 #[.int .i32 (r : Int)] w fun e w' => e = .returned (.tuple #[.string ⟨(enc r).toArray⟩, .int .i64 0]) ∧ Drawn0 w w' := by
  have cV := utf8_ValidRune.calls 1 (r : Int) true w (valid_f r h)
  have he := Lib.hid (encode_good r h)
  go_enter Tryd.func33, Tryd.ntmps33
  go_wp2_with (go_at_call 48; refine cV.mono ?_; rintro e w' ⟨rfl, hb⟩)
  go_ret2
  exact ⟨by rw [he.out]; rfl, hb⟩
end Go.Proofs.YtdfdponenhfbjaaDoor.Wk
