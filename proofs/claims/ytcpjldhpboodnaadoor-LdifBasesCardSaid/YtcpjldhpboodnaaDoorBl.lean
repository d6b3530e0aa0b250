/- package ldif's Print of a record that deletes, and the laws' first call. Conditions: sizes as told. -/
import Derived.Test.YtcpjldhpboodnaaDoorBk
namespace Go.Proofs.YtcpjldhpboodnaaDoor.Lf
open Go Go.RowKit Go.Lib Go.Proofs.YtcpjldhpboodnaaDoor.PFn Go.Proofs.YtcpjldhpboodnaaDoorW.PrintWords Go.Proofs.YtcpjldhpboodnaaDoor.Rd

def delV (t d : ByteArray) : Value := chV t ⟨#[]⟩ d 1 (.slice none 0 0) (.slice none 0 0) ⟨#[]⟩ ⟨#[]⟩ false false
set_option maxHeartbeats 2000000 in
set_option maxRecDepth 100000 in
theorem rightDel_c (t d : ByteArray) (w : World) : Calls Tryd.prog 25 #[delV t d] w fun e w' => e = .returned (.bool true) ∧ Below w.heap.size w w' := by
  unfold delV chV
  go_enter Tryd.func25, Tryd.ntmps25
  go_wp2_with fail
  have hB := below_alloc (Below.refl w.heap.size w) (Obj.cells #[.string t, .string ⟨#[]⟩, .string d, .int .i64 1, .slice none 0 0, .slice none 0 0, .string ⟨#[]⟩, .string ⟨#[]⟩, .bool false, .bool false] 25)
  have hX := blk_new w (Obj.cells #[.string t, .string ⟨#[]⟩, .string d, .int .i64 1, .slice none 0 0, .slice none 0 0, .string ⟨#[]⟩, .string ⟨#[]⟩, .bool false, .bool false] 25)
  generalize w.alloc (Obj.cells #[.string t, .string ⟨#[]⟩, .string d, .int .i64 1, .slice none 0 0, .slice none 0 0, .string ⟨#[]⟩, .string ⟨#[]⟩, .bool false, .bool false] 25) = W at *
  have k5 : W.cell? ⟨w.heap.size, 5, none⟩ = some (.slice none 0 0) := by rw [cell_of_heap hX]; rfl
  clear hX
  go_loopw [64] (fun v wr => v = .int .i64 0 ∧ wr = W) (fun _ _ => 0)
  case atStart => exact ⟨rfl, rfl⟩
  case round =>
    obtain ⟨rfl, rfl⟩ := hrel
    go_wp2_with fail
    go_loopw [99] (fun v wr' => v = .int .i64 0 ∧ wr' = wr) (fun _ _ => 0)
    case atStart => exact ⟨rfl, rfl⟩
    case round =>
      obtain ⟨rfl, rfl⟩ := hrel
      go_wp2
      refine bodyPost_ret (v := .bool true) (by simp [results, Tryd.results25, go_sem]) rfl ?_
      exact ⟨rfl, hB⟩
set_option maxRecDepth 100000 in
theorem kinds_0 (W : World) : (Instr.index 102 (.agg #[.string ⟨#[97, 100, 100]⟩, .string ⟨#[100, 101, 108, 101, 116, 101]⟩, .string ⟨#[109, 111, 100, 105, 102, 121]⟩, .string ⟨#[109, 111, 100, 114, 100, 110]⟩]) (.int .i64 0)).run Tryd.prog W = .ok (.string ⟨(kindW 0).toArray⟩) W := by kernel_rfl
set_option maxRecDepth 100000 in
theorem kinds_1 (W : World) : (Instr.index 102 (.agg #[.string ⟨#[97, 100, 100]⟩, .string ⟨#[100, 101, 108, 101, 116, 101]⟩, .string ⟨#[109, 111, 100, 105, 102, 121]⟩, .string ⟨#[109, 111, 100, 114, 100, 110]⟩]) (.int .i64 1)).run Tryd.prog W = .ok (.string ⟨(kindW 1).toArray⟩) W := by kernel_rfl
set_option maxRecDepth 100000 in
theorem kinds_2 (W : World) : (Instr.index 102 (.agg #[.string ⟨#[97, 100, 100]⟩, .string ⟨#[100, 101, 108, 101, 116, 101]⟩, .string ⟨#[109, 111, 100, 105, 102, 121]⟩, .string ⟨#[109, 111, 100, 114, 100, 110]⟩]) (.int .i64 2)).run Tryd.prog W = .ok (.string ⟨(kindW 2).toArray⟩) W := by kernel_rfl
set_option maxRecDepth 100000 in
theorem kinds_3 (W : World) : (Instr.index 102 (.agg #[.string ⟨#[97, 100, 100]⟩, .string ⟨#[100, 101, 108, 101, 116, 101]⟩, .string ⟨#[109, 111, 100, 105, 102, 121]⟩, .string ⟨#[109, 111, 100, 114, 100, 110]⟩]) (.int .i64 3)).run Tryd.prog W = .ok (.string ⟨(kindW 3).toArray⟩) W := by kernel_rfl
set_option maxRecDepth 100000 in
theorem kinds_at (i : Int) (h0 : 0 ≤ i) (h3 : i ≤ 3) (W : World) : (Instr.index 102 (.agg #[.string ⟨#[97, 100, 100]⟩, .string ⟨#[100, 101, 108, 101, 116, 101]⟩, .string ⟨#[109, 111, 100, 105, 102, 121]⟩, .string ⟨#[109, 111, 100, 114, 100, 110]⟩]) (.int .i64 i)).run Tryd.prog W = .ok (.string ⟨(kindW i).toArray⟩) W := by
  have hi : i = 0 ∨ i = 1 ∨ i = 2 ∨ i = 3 := by omega
  rcases hi with rfl | rfl | rfl | rfl
  · exact kinds_0 W
  · exact kinds_1 W
  · exact kinds_2 W
  · exact kinds_3 W
set_option maxRecDepth 100000 in
theorem kind_c (i : Int) (h0 : 0 ≤ i) (h3 : i ≤ 3) (w : World) : Calls Tryd.prog 27 #[.int .i64 i] w fun e w' => e = .returned (.string ⟨(kindW i).toArray⟩) ∧ w = w' := by
  have hk := kinds_at i h0 h3
  obtain ⟨v, hv⟩ : ∃ v : ByteArray, v = ⟨(kindW i).toArray⟩ := ⟨_, rfl⟩
  rw [← hv] at hk ⊢
  clear hv
  go_enter Tryd.func27, Tryd.ntmps27
  go_wp2
  refine bodyPost_ret (v := .string v) (by simp [results, Tryd.results27, go_sem]) rfl ?_
  exact ⟨rfl, rfl⟩
def Cb (g : Nat) (t d : ByteArray) (w : World) : Prop := w.heap[g]? = some (.cells #[.string t, .string ⟨#[]⟩, .string d, .int .i64 1, .slice none 0 0, .slice none 0 0, .string ⟨#[]⟩, .string ⟨#[]⟩, .bool false, .bool false] 25 (0, 0))
theorem Cb.below {g B : Nat} {t d : ByteArray} {w w' : World} (h : Cb g t d w) (hb : Below B w w') (hg : g < B) : Cb g t d w' := (hb.block g hg).trans h
theorem Cb.cells {g : Nat} {t d : ByteArray} {w : World} (h : Cb g t d w) : w.cell? ⟨g, 0, none⟩ = some (.string t) ∧ w.cell? ⟨g, 1, none⟩ = some (.string ⟨#[]⟩) ∧ w.cell? ⟨g, 2, none⟩ = some (.string d) ∧ w.cell? ⟨g, 3, none⟩ = some (.int .i64 1) ∧ w.cell? ⟨g, 4, none⟩ = some (.slice none 0 0) ∧ w.cell? ⟨g, 5, none⟩ = some (.slice none 0 0) ∧ w.cell? ⟨g, 6, none⟩ = some (.string ⟨#[]⟩) ∧ w.cell? ⟨g, 7, none⟩ = some (.string ⟨#[]⟩) ∧ w.cell? ⟨g, 8, none⟩ = some (.bool false) ∧ w.cell? ⟨g, 9, none⟩ = some (.bool false) := by
  refine ⟨?_, ?_, ?_, ?_, ?_, ?_, ?_, ?_, ?_, ?_⟩ <;> (rw [cell_of_heap h]; rfl)
def delR (t d : ByteArray) : Rc := ⟨bl t, [], bl d, 1, [], [], [], [], false, false⟩
theorem delT (t d : ByteArray) : textL (delR t d) = (((([] ++ lineL wTime (bl t)) ++ lineL wWho []) ++ lineL wDn (bl d)) ++ lineL wKind wDelete) ++ [10] := by
  show ((lineL wTime (bl t) ++ lineL wWho [] ++ lineL wDn (bl d) ++ lineL wKind wDelete) ++ []) ++ [10] = _
  simp
set_option maxHeartbeats 4000000 in
set_option maxRecDepth 100000 in
theorem printDel_c (t d : ByteArray) (w : World) (hz : (textL (delR t d)).length ≤ 65536) (ht : t.size ≤ 1000) (hd : d.size ≤ 1000) :
    Calls Tryd.prog 12 #[delV t d] w fun e w' => e = .returned (.tuple #[.string ⟨(textL (delR t d)).toArray⟩, .int .i64 0]) ∧ Below w.heap.size w w' := by
  have cR := fun W => rightDel_c t d W
  obtain ⟨a1, h1⟩ : ∃ a, [] ++ lineL wTime (bl t) = a := ⟨_, rfl⟩
  obtain ⟨a2, h2⟩ : ∃ a, a1 ++ lineL wWho [] = a := ⟨_, rfl⟩
  obtain ⟨a3, h3⟩ : ∃ a, a2 ++ lineL wDn (bl d) = a := ⟨_, rfl⟩
  obtain ⟨a4, h4⟩ : ∃ a, a3 ++ lineL wKind wDelete = a := ⟨_, rfl⟩
  obtain ⟨T, hT⟩ : ∃ T, textL (delR t d) = T := ⟨_, rfl⟩
  have hT4 : T = a4 ++ [10] := by rw [← hT, delT, h1, h2, h3, h4]
  rw [hT] at hz ⊢
  have z4 : a4.length ≤ 65536 := by rw [hT4] at hz; simp at hz; omega
  have z3 : a3.length ≤ 65536 := by rw [← h4] at z4; simp at z4; omega
  have z2 : a2.length ≤ 65536 := by rw [← h3] at z3; simp at z3; omega
  have z1 : a1.length ≤ 65536 := by rw [← h2] at z2; simp at z2; omega
  have H1 := Aside0.mk h1
  have H2 := Aside0.mk h2
  have H3 := Aside0.mk h3
  have H4 := Aside0.mk h4
  have H5 := Aside0.mk hT4
  clear h1 h2 h3 h4 hT hT4
  unfold delV chV at cR ⊢
  go_enter Tryd.func12, Tryd.ntmps12
  go_wp2_with fail
  have hC : Cb w.heap.size t d (w.alloc (Obj.cells #[.string t, .string ⟨#[]⟩, .string d, .int .i64 1, .slice none 0 0, .slice none 0 0, .string ⟨#[]⟩, .string ⟨#[]⟩, .bool false, .bool false] 25)) := blk_new w _
  have hB := below_alloc (Below.refl w.heap.size w) (Obj.cells #[.string t, .string ⟨#[]⟩, .string d, .int .i64 1, .slice none 0 0, .slice none 0 0, .string ⟨#[]⟩, .string ⟨#[]⟩, .bool false, .bool false] 25)
  have hsz : (w.alloc (Obj.cells #[.string t, .string ⟨#[]⟩, .string d, .int .i64 1, .slice none 0 0, .slice none 0 0, .string ⟨#[]⟩, .string ⟨#[]⟩, .bool false, .bool false] 25)).heap.size = w.heap.size + 1 := World.size_alloc _ _
  generalize w.alloc (Obj.cells #[.string t, .string ⟨#[]⟩, .string d, .int .i64 1, .slice none 0 0, .slice none 0 0, .string ⟨#[]⟩, .string ⟨#[]⟩, .bool false, .bool false] 25) = W0 at *
  refine (cR _).mono ?_
  rintro e W1 ⟨rfl, hb1⟩
  clear cR
  have hC1 := hC.below hb1 (by omega)
  have hB1 := below_seq hB hb1
  have hsz1 := hb1.size
  obtain ⟨g, hg⟩ : ∃ g, w.heap.size = g := ⟨_, rfl⟩
  obtain ⟨b, hbb⟩ : ∃ b, W1.heap.size = b := ⟨_, rfl⟩
  have hgb : g < b := by omega
  go_upto_region 4 with fail
  have hW : Wr b b [] (W1.alloc (Obj.cells #[.pointer none, .slice none 0 0] tW)) := by
    refine .inl ⟨Nat.le_refl _, .slice none 0 0, ?_, own_nil _ _ _ _, by simp [Value.ownBlock]⟩
    rw [← hbb]
    exact blk_new W1 _
  have hsz2 : (W1.alloc (Obj.cells #[.pointer none, .slice none 0 0] tW)).heap.size = b + 1 := by rw [World.size_alloc, hbb]
  have hB2 : Below w.heap.size w (W1.alloc (Obj.cells #[.pointer none, .slice none 0 0] tW)) := below_alloc hB1 _
  have hC2 : Cb w.heap.size t d (W1.alloc (Obj.cells #[.pointer none, .slice none 0 0] tW)) := blk_alloc hC1 _
  rw [hg] at hC2
  clear hC hC1 hB hB1 hb1 hsz hsz1
  generalize W1.alloc (Obj.cells #[.pointer none, .slice none 0 0] tW) = W2 at *
  have hbw : b ≤ W2.heap.size := by omega
  have hC2c := hC2.cells
  have c0 := hC2c.1
  have cL := line_c hW ⟨#[116, 105, 109, 101]⟩ t hbw (by show (4 : Nat) ≤ 1000; decide) (by omega) (by simp)
  rw [show lineL (bl ⟨#[116, 105, 109, 101]⟩) (bl t) = lineL wTime (bl t) from rfl, H1.out] at cL
  go_wp2_with fail
  refine cL.mono ?_
  rintro e W3 ⟨rfl, hW3, hb3, _⟩
  have hC3 := hC2.below hb3 hgb
  have hbw3 : b ≤ W3.heap.size := Nat.le_trans hbw hb3.size
  have c1 := hC3.cells.2.1
  have cL3 := line_c hW3.wr ⟨#[119, 104, 111]⟩ ⟨#[]⟩ hbw3 (by show (3 : Nat) ≤ 1000; decide) (by show (0 : Nat) ≤ _; decide) (by omega)
  rw [show lineL (bl ⟨#[119, 104, 111]⟩) (bl ⟨#[]⟩) = lineL wWho [] from rfl, H2.out] at cL3
  clear cL hC2 hC2c hW c0
  go_wp2_with fail
  refine cL3.mono ?_
  rintro e W4 ⟨rfl, hW4, hb4, _⟩
  have hC4 := hC3.below hb4 hgb
  have hbw4 : b ≤ W4.heap.size := Nat.le_trans hbw3 hb4.size
  have c2 := hC4.cells.2.2.1
  have cL4 := line_c hW4.wr ⟨#[100, 110]⟩ d hbw4 (by show (2 : Nat) ≤ 1000; decide) (by omega) (by omega)
  rw [show lineL (bl ⟨#[100, 110]⟩) (bl d) = lineL wDn (bl d) from rfl, H3.out] at cL4
  clear cL3 hC3 hW3 c1
  go_wp2_with fail
  refine cL4.mono ?_
  rintro e W5 ⟨rfl, hW5, hb5, _⟩
  have hC5 := hC4.below hb5 hgb
  have hbw5 : b ≤ W5.heap.size := Nat.le_trans hbw4 hb5.size
  have c3 := hC5.cells.2.2.2.1
  have cK := kind_c 1 (by decide) (by decide)
  rw [show (⟨(kindW 1).toArray⟩ : ByteArray) = ⟨#[100, 101, 108, 101, 116, 101]⟩ from rfl] at cK
  have cL5 := line_c hW5.wr ⟨#[99, 104, 97, 110, 103, 101, 116, 121, 112, 101]⟩ ⟨#[100, 101, 108, 101, 116, 101]⟩ hbw5 (by show (10 : Nat) ≤ 1000; decide) (by show (6 : Nat) ≤ _; decide) (by omega)
  rw [show lineL (bl ⟨#[99, 104, 97, 110, 103, 101, 116, 121, 112, 101]⟩) (bl ⟨#[100, 101, 108, 101, 116, 101]⟩) = lineL wKind wDelete from rfl, H4.out] at cL5
  clear cL4 hC4 hW4 c2
  go_wp2_with fail
  refine (cK _).mono ?_
  rintro e W' ⟨rfl, rfl⟩
  go_wp2_with fail
  refine cL5.mono ?_
  rintro e W6 ⟨rfl, hW6, hb6, _⟩
  have hC6 := hC5.below hb6 hgb
  have hbw6 : b ≤ W6.heap.size := Nat.le_trans hbw5 hb6.size
  have hC6c := hC6.cells
  have cR := restDel_c hW6 hbw6 t ⟨#[]⟩ d
  unfold chV at cR
  clear cL5 hC5 hW5 c3 cK
  obtain ⟨d0, d1, d2, d3, d4, d5, d6, d7, d8, d9⟩ := hC6c
  go_wp2_with fail
  refine cR.mono ?_
  rintro e W7 ⟨rfl, hW7, hb7, _⟩
  have hbw7 : b ≤ W7.heap.size := Nat.le_trans hbw6 hb7.size
  clear d0 d1 d2 d3 d4 d5 d6 d7 d8 d9 cR hC6
  have cW := writeB_c hW7.wr 10 (by omega) hbw7
  rw [← H5.out] at cW
  go_wp2_with fail
  refine cW.mono ?_
  rintro e W8 ⟨rfl, hW8, hb8, _⟩
  have hll : ¬ (65536 : Int) < (T.length : Int) := by omega
  clear cW
  go_wp2_with fail
  refine (len_c hW8).mono ?_
  rintro e W' ⟨rfl, rfl⟩
  go_wp2_with fail
  refine (string_c hW8 (by rw [H5.out]; simp)).mono ?_
  rintro e W9 ⟨rfl, hb9⟩
  go_wp2
  refine bodyPost_ret (v := .tuple #[.string ⟨T.toArray⟩, .int .i64 0]) (by simp [results, Tryd.results12, go_sem]) rfl ?_
  exact ⟨rfl, hB2.trans ((hb3.trans (hb4.trans (hb5.trans (hb6.trans (hb7.trans (hb8.trans hb9)))))).mono (by omega))⟩
end Go.Proofs.YtcpjldhpboodnaaDoor.Lf
