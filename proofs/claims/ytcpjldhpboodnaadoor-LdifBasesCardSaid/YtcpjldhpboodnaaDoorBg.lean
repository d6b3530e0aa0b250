/- The walks of the text builder that lies in package ldif's writer: copyCheck, WriteString, WriteByte, Len, String. Conditions: at most 2^47 bytes. -/
import Derived.Test.YtcpjldhpboodnaaDoorBf
import Derived.Lib.OthersKept
import Derived.Lib.AppendStr
import Derived.Lib.MakeNoZero
import Derived.Laws.Externs
namespace Go.Proofs.YtcpjldhpboodnaaDoor.Lf
open Go Go.RowKit Go.Lib Go.Proofs.YtcpjldhpboodnaaDoor.PFn Go.Proofs.YtcpjldhpboodnaaDoorW.PrintWords Go.Proofs.YtcpjldhpboodnaaDoor.Rd

abbrev tW : Nat := 65
abbrev tB : Nat := 5
/-- the writer's block holds the bytes acc -/
def Wr (B b : Nat) (acc : Bs) (w : World) : Prop := IsBuilder tW tB B b (byteCells acc) w
def Wu (B b : Nat) (acc : Bs) (w : World) : Prop := BuilderAt tW tB B b (.pointer (some ⟨b, 0, none⟩)) (byteCells acc) w
theorem Wu.wr {B b : Nat} {acc : Bs} {w : World} (h : Wu B b acc w) : Wr B b acc w := .inr h
theorem byte_info : (Tryd.prog.info? 5).map (fun i => (i.zero, i.size, i.bytes)) = some (some (.int .u8 0), 1, 1) := by kernel_rfl
theorem bu_info : (Tryd.prog.info? 63).map (fun i => i.size) = some 2 := by kernel_rfl
theorem bu_lies : liesAt Tryd.prog Tryd.prog.depth tW (2 / Tryd.prog.cellsOf tW) 0 63 1 = true := by kernel_rfl
set_option maxHeartbeats 1000000 in
set_option maxRecDepth 100000 in
theorem check_used (b : Nat) (w : World) (h0 : w.cell? ⟨b, 0, none⟩ = some (.pointer (some ⟨b, 0, none⟩))) :
    Calls Tryd.prog 61 #[.pointer (some ⟨b, 0, none⟩)] w fun e w' => e = .returned (.tuple #[]) ∧ w' = w := by
  obtain ⟨j, hj, _⟩ := Option.map_eq_some_iff.1 bu_info
  go_enter Tryd.func61, Tryd.ntmps61
  go_wp2
  rw [Lib.run_neq_ptr_same w _ Tryd.underlying61 hj]
  go_wp2
  go_end0
  exact ⟨rfl, rfl⟩
set_option maxHeartbeats 1000000 in
set_option maxRecDepth 100000 in
theorem check_fresh (b : Nat) (w : World) (h0 : w.cell? ⟨b, 0, none⟩ = some (.pointer none)) (hsh : w.shape? b = some (tW, 2)) (hfz : w.frozen? ⟨b, 0, none⟩ = false) :
    Calls Tryd.prog 61 #[.pointer (some ⟨b, 0, none⟩)] w fun e w' => e = .returned (.tuple #[]) ∧ w' = w.setCell ⟨b, 0, none⟩ (.pointer (some ⟨b, 0, none⟩)) := by
  obtain ⟨j, hj, hjs⟩ := Option.map_eq_some_iff.1 bu_info
  go_enter Tryd.func61, Tryd.ntmps61
  go_wp2
  rw [Lib.run_to_unsafe w ⟨b, 0, none⟩ Tryd.underlying61 Tryd.underlying127 hj (by rw [hjs]; decide) hsh (Nat.zero_lt_succ 1)]
  simp only [Result.andThen]
  rw [Oper.upon_value]
  go_wp2
  rw [run_callFunc_extern Tryd.func84 (by kernel_rfl) (by kernel_rfl) (by kernel_rfl) (e := Extern.AbiNoEscape.same) (by kernel_rfl)]
  rw [Lib.run_noEscape]
  simp only [Result.andThen]
  rw [Oper.upon_value]
  go_wp2
  rw [Lib.run_from_unsafe w ⟨b, 0, none⟩ Tryd.underlying127 Tryd.underlying61 hj hsh bu_lies]
  simp only [Result.andThen]
  rw [Oper.upon_value]
  go_wp2
  go_end0
  exact ⟨rfl, rfl⟩
theorem check_c {B b : Nat} {acc : Bs} {w : World} (h : Wr B b acc w) : Calls Tryd.prog 61 #[.pointer (some ⟨b, 0, none⟩)] w fun e w' => e = .returned (.tuple #[]) ∧ Wu B b acc w' ∧ Below B w w' ∧ OthersKept tB (some b) w w' := by
  rcases h with h | h
  · refine (check_fresh b w h.cell0 h.shape h.frozen0).mono ?_
    rintro e w' ⟨rfl, rfl⟩
    exact ⟨rfl, h.used _, (Below.refl B w).setCell (p := ⟨b, 0, none⟩) h.1 _, (OthersKept.refl _ _ w).setCell ⟨b, 0, none⟩ rfl _⟩
  · refine (check_used b w h.cell0).mono ?_
    rintro e w' ⟨rfl, rfl⟩
    exact ⟨rfl, h, Below.refl B _, OthersKept.refl _ _ _⟩
theorem row_form {B n : Nat} {w : World} {v : Value} {xs : List Value} (h : w.ownsRow B tB 1 v n xs) : ∃ A n k, v = .slice A n k := by
  rcases h.2 with ⟨hv, _⟩ | ⟨g', cap, cur, hv, _⟩
  · exact ⟨_, _, _, hv⟩
  · exact ⟨_, _, _, hv⟩
theorem row_kind {B n : Nat} {w : World} {v : Value} {xs : List Value} (h : w.ownsRow B tB 1 v n xs) : ∀ g, v.ownBlock = some g → ∃ c fz, w.heap[g]? = some (.cells c tB fz) := by
  intro g hg
  rcases h.2 with ⟨hv, _⟩ | ⟨g', cap, cur, hv, _, hb, _⟩
  · rw [hv] at hg; cases hg
  · rw [hv] at hg
    injection hg with hg
    subst hg
    exact ⟨cur, (0, 0), hb⟩
set_option maxHeartbeats 2000000 in
set_option maxRecDepth 100000 in
theorem writeS_c {B b : Nat} {acc : Bs} {w : World} (h : Wr B b acc w) (s : ByteArray) (hl : acc.length + s.size ≤ 140737488355328) (hB : B ≤ w.heap.size) :
    Calls Tryd.prog 55 #[.pointer (some ⟨b, 0, none⟩), .string s] w fun e w' => e = .returned (.tuple #[.int .i64 s.size, .nilIface]) ∧ Wu B b (acc ++ bl s) w' ∧ Below B w w' ∧ OthersKept tB (some b) w w' := by
  obtain ⟨i0, hi, hz0, hz1, hz2⟩ := info_parts byte_info
  have cC := check_c h
  have HL := Aside0.mk hl
  clear h hl
  go_enter Tryd.func55, Tryd.ntmps55
  go_wp2_with fail
  refine cC.mono ?_
  rintro e w1 ⟨rfl, h1, hb1, hk1⟩
  clear cC
  obtain ⟨hBb, v, hbk, hown, hne⟩ := h1
  have c0 : w1.cell? ⟨b, 0, none⟩ = some (.pointer (some ⟨b, 0, none⟩)) := by rw [cell_of_heap hbk]; rfl
  have c1 : w1.cell? ⟨b, 1, none⟩ = some v := by rw [cell_of_heap hbk]; rfl
  have HN := Aside0.mk hne
  have HOW := Aside0.mk hown
  have HB1 := Aside0.mk hb1
  have HK1 := Aside0.mk hk1
  clear hne hown hb1 hk1
  have hlt := blk_lt hbk
  go_wp2_with (at_builtin; refine Aside0.out ?_)
  refine ⟨?_⟩
  refine wpList_append_own_string (w := w1) rfl _ _ 45 9 rfl B tB i0 Tryd.underlying45 Tryd.underlying9 hi hz0 hz1 hz2 _ _ _ rfl HOW.out s rfl (by have := HL.out; rw [byteCells_length]; unfold maxLen; omega) (by have := HL.out; rw [byteCells_length]; omega) (Nat.le_trans hB HB1.out.size) ?_
  intro v' w2 hown' hgrow _
  obtain ⟨A', n', k', rfl⟩ := row_form hown'
  have HO2 := Aside0.mk hown'
  have hb2 : w2.heap[b]? = some (.cells #[.pointer (some ⟨b, 0, none⟩), v] tW (0, 0)) := by
    rw [hgrow.block b hlt (fun e => HN.out e.symm)]
    exact hbk
  have f1 : w2.frozen? ⟨b, 1, none⟩ = false := frozen_of_heap hb2 1
  have d1 : w2.cell? ⟨b, 1, none⟩ = some v := by rw [cell_of_heap hb2]; rfl
  have HG := Aside0.mk hgrow
  clear hown' hgrow c0 c1
  go_wp2
  refine bodyPost_ret (v := .tuple #[.int .i64 s.size, .nilIface]) (by simp [results, Tryd.results55, go_sem]) rfl ?_
  refine ⟨rfl, ?_, ?_, ((HK1.out).grown HG.out (row_kind HOW.out)).setCell ⟨b, 1, none⟩ rfl _⟩
  · refine BuilderAt.put (T := tW) (e := tB) hBb hb2 (bs' := byteCells (acc ++ bl s)) ?_ (by decide)
    have := HO2.out
    rw [byteCells_length] at this ⊢
    rw [show byteCells (acc ++ bl s) = byteCells acc ++ strCells s from by unfold byteCells strCells bl; rw [List.map_append], List.length_append, bl_size]
    exact this
  · exact (HB1.out.grown HG.out (Nat.le_trans hB HB1.out.size) (fun k hk => (HOW.out.lt k hk).1)).setCell (p := ⟨b, 1, none⟩) hBb _
set_option maxHeartbeats 2000000 in
set_option maxRecDepth 100000 in
theorem writeB_c {B b : Nat} {acc : Bs} {w : World} (h : Wr B b acc w) (c : UInt8) (hl : acc.length + 1 ≤ 140737488355328) (hB : B ≤ w.heap.size) :
    Calls Tryd.prog 29 #[.pointer (some ⟨b, 0, none⟩), .int .u8 (c.toNat : Int)] w fun e w' => e = .returned .nilIface ∧ Wu B b (acc ++ [c]) w' ∧ Below B w w' ∧ OthersKept tB (some b) w w' := by
  obtain ⟨i0, hi, hz0, hz1, hz2⟩ := info_parts byte_info
  have cC := check_c h
  have HL := Aside0.mk hl
  clear h hl
  go_enter Tryd.func29, Tryd.ntmps29
  go_wp2_with fail
  refine cC.mono ?_
  rintro e w1 ⟨rfl, h1, hb1, hk1⟩
  clear cC
  obtain ⟨hBb, v, hbk, hown, hne⟩ := h1
  have c0 : w1.cell? ⟨b, 0, none⟩ = some (.pointer (some ⟨b, 0, none⟩)) := by rw [cell_of_heap hbk]; rfl
  have c1 : w1.cell? ⟨b, 1, none⟩ = some v := by rw [cell_of_heap hbk]; rfl
  have HN := Aside0.mk hne
  have HOW := Aside0.mk hown
  have HB1 := Aside0.mk hb1
  have HK1 := Aside0.mk hk1
  clear hne hown hb1 hk1
  have hlt := blk_lt hbk
  have hsz := HB1.out.size
  go_wp2_with (at_builtin; refine Aside0.out ?_)
  refine ⟨?_⟩
  refine wpList_append_own _ rfl _ _ 45 rfl B tB i0 (.int .u8 0) 1 1 Tryd.underlying45 hi hz0 hz1 hz2 rfl (by decide) _ _ _ rfl (HOW.out.alloc _) ⟨w1.heap.size, 0, none⟩ 1 1 [.int .u8 (c.toNat : Int)] rfl rfl ?c1 ?c2 ?c3 ?c4 ?c5 ?_
  case c1 =>
    intro j u hj
    match j, hj with
    | 0, hj => simp at hj; subst hj; simp [Addr.add]
  case c2 => intro u hu; simp at hu; subst hu; rfl
  case c3 => have := HL.out; rw [byteCells_length]; unfold maxLen; omega
  case c4 => have := HL.out; rw [byteCells_length]; omega
  case c5 => simp; omega
  intro v' w2 hown' hgrow _
  obtain ⟨A', n', k', rfl⟩ := row_form hown'
  have HO2 := Aside0.mk hown'
  have hb2 : w2.heap[b]? = some (.cells #[.pointer (some ⟨b, 0, none⟩), v] tW (0, 0)) := by
    rw [hgrow.block b (by simp; omega) (fun e => HN.out e.symm), alloc_old w1 _ b hlt]
    exact hbk
  have f1 : w2.frozen? ⟨b, 1, none⟩ = false := frozen_of_heap hb2 1
  have d1 : w2.cell? ⟨b, 1, none⟩ = some v := by rw [cell_of_heap hb2]; rfl
  have HG := Aside0.mk hgrow
  clear hown' hgrow c0 c1
  go_wp2
  refine bodyPost_ret (v := .nilIface) (by simp [results, Tryd.results29, go_sem]) rfl ?_
  refine ⟨rfl, ?_, ?_, ((HK1.out.alloc _).grown HG.out (row_kind (HOW.out.alloc _))).setCell ⟨b, 1, none⟩ rfl _⟩
  · refine BuilderAt.put (T := tW) (e := tB) hBb hb2 (bs' := byteCells (acc ++ [c])) ?_ (by decide)
    have := HO2.out
    rw [byteCells_length] at this ⊢
    rw [show byteCells (acc ++ [c]) = byteCells acc ++ [.int .u8 (c.toNat : Int)] from by unfold byteCells; rw [List.map_append]; rfl, List.length_append]
    exact this
  · exact ((HB1.out.alloc (Nat.le_trans hB hsz) _).grown HG.out (by simp; omega) (fun k hk => (HOW.out.lt k hk).1)).setCell (p := ⟨b, 1, none⟩) hBb _
set_option maxHeartbeats 1000000 in
theorem len_c {B b : Nat} {acc : Bs} {w : World} (h : Wu B b acc w) : Calls Tryd.prog 30 #[.pointer (some ⟨b, 0, none⟩)] w fun e w' => e = .returned (.int .i64 (acc.length : Int)) ∧ w' = w := by
  obtain ⟨hBb, v, hbk, hown, hne⟩ := h
  obtain ⟨A', k', rfl⟩ : ∃ A k, v = .slice A acc.length k := by
    rw [byteCells_length] at hown
    rcases hown.2 with ⟨hv, h0⟩ | ⟨g', cap, cur, hv, _⟩
    · exact ⟨none, 0, by rw [hv, h0]⟩
    · exact ⟨_, _, hv⟩
  have c1 : w.cell? ⟨b, 1, none⟩ = some (.slice A' acc.length k') := by rw [cell_of_heap hbk]; rfl
  clear hown hne hbk
  go_enter Tryd.func30, Tryd.ntmps30
  go_wp2
  go_ret
  exact ⟨rfl, rfl⟩
set_option maxHeartbeats 1000000 in
set_option maxRecDepth 100000 in
theorem string_c {B b : Nat} {acc : Bs} {w : World} (h : Wu B b acc w) (h0 : acc ≠ []) : Calls Tryd.prog 31 #[.pointer (some ⟨b, 0, none⟩)] w fun e w' => e = .returned (.string ⟨acc.toArray⟩) ∧ Below B w w' := by
  obtain ⟨hB, v, hbk, hown, hne⟩ := h
  have hl0 : acc.length ≠ 0 := by simpa using h0
  rw [byteCells_length] at hown
  obtain ⟨g, cap, cur, rfl, hbg, hg, hnc, hcm, hcs, htake⟩ : ∃ g cap cur, v = .slice (some ⟨g, 0, none⟩) acc.length cap ∧ B ≤ g ∧ w.heap[g]? = some (.cells cur tB (0, 0)) ∧ acc.length ≤ cap ∧ cap ≤ maxLen ∧ cur.size = cap * 1 ∧ cur.toList.take (acc.length * 1) = byteCells acc := by
    rcases hown.2 with ⟨_, hz⟩ | ⟨g, cap, cur, hv, r⟩
    · exact absurd hz hl0
    · exact ⟨g, cap, cur, hv, r⟩
  have c1 : w.drew.cell? ⟨b, 1, none⟩ = some (.slice (some ⟨g, 0, none⟩) acc.length cap) := by
    have : w.drew.heap[b]? = some (.cells #[.pointer (some ⟨b, 0, none⟩), .slice (some ⟨g, 0, none⟩) acc.length cap] tW (0, 0)) := hbk
    rw [cell_of_heap this]; rfl
  have hSD : (Builtin.unsafeSliceData_ #[45] 104 #[.slice (some ⟨g, 0, none⟩) acc.length cap]).run Tryd.prog w.drew = .ok (.pointer (some ⟨g, 0, none⟩)) w.drew :=
    Lib.run_unsafeSliceData_row _ _ _ _ _ _ (by omega)
  have hUS : (Builtin.unsafeString_ #[104, 3] 9 #[.pointer (some ⟨g, 0, none⟩), .int .i64 acc.length]).run Tryd.prog w.drew = .ok (.string ⟨acc.toArray⟩) (w.drew.freeze ⟨g, 0, none⟩ acc.length) := by
    refine Lib.run_unsafeString_row w.drew 104 3 9 tB Tryd.underlying104 (by kernel_rfl) g cur.size (by have hg' : w.drew.heap[g]? = some (.cells cur tB (0, 0)) := hg; simp [World.shape?, hg']) acc h0 (by omega) (by unfold maxLen at hcm; omega) ?_
    intro j x hx
    have := hown.cells (g := g) rfl j (.int .u8 x.toNat) (by simp [byteCells, hx])
    exact this
  clear hne hown htake
  go_enter Tryd.func31, Tryd.ntmps31
  go_wp2
  go_region
  all_goals (go_wp2; go_ret; exact ⟨rfl, Lib.below_freeze (Below.drew (Below.refl B w)) (p := ⟨g, 0, none⟩) hbg _⟩)
end Go.Proofs.YtcpjldhpboodnaaDoor.Lf
