/- The walks of chapter 3's laws alive, PrepMaps, PrepTexts, PrepFolds: each returns true. Conditions: the tables of unicode/utf8 as they are laid. -/
import Derived.Test.YtdfdponenhfbjaaDoorWkq
import Derived.Test.YtdfdponenhfbjaaDoorWkh
namespace Go.Proofs.YtdfdponenhfbjaaDoor.Wk
open Go Go.RowKit Go.Lib Go.Proofs.YtdfdponenhfbjaaDoor.PFn Go.Proofs.YtdfdponenhfbjaaDoor.Pl Go.Proofs.YtdfdponenhfbjaaDoor.Tx Go.Proofs.YtdfdponenhfbjaaDoor.Fn Go.Proofs.YtdfdponenhfbjaaDoorW.PrintWords

theorem three_C (w : World) (x y z : ByteArray) (t : TypeId) : Kd.string.C (w.alloc (.cells #[.string x, .string y, .string z] t)) (some ⟨w.heap.size, 0, none⟩) 3 [x, y, z] := by
  refine Kd.C_of_reads (d := ByteArray.empty) ⟨rfl, by omega, fun _ => ⟨_, rfl, fun j hj => ?_⟩⟩
  rw [add_plain, cell_of_row _ _ _ _ _ _ (heap_alloc_new w _)]
  match j, hj with
  | 0, _ => rfl
  | 1, _ => rfl
  | 2, _ => rfl

theorem alive_prep : prepL true (bl ⟨#[32, 32, 65, 98, 9, 32, 99, 32]⟩) = some [97, 98, 32, 99] := by decide +kernel
theorem alive_holds : holdsL (bl ⟨#[97, 98, 99]⟩) (bl ⟨#[]⟩ :: ([⟨#[98]⟩].map bl ++ [bl ⟨#[]⟩])) = true := by decide +kernel
theorem alive_fold : ((fold1 true 196 : Nat) : Int) = 228 := by decide +kernel

set_option maxHeartbeats 2000000 in
theorem alive_c (w : World) (hE : Env w) : Calls Tryd.prog 11 #[] w fun e w' => e = .returned (.bool true) ∧ Below w.heap.size w w' := by
  have cP := prepare_c ⟨#[32, 32, 65, 98, 9, 32, 99, 32]⟩ true w (by decide) hE
  have hp := alive_prep
  unfold bl at hp
  rw [hp] at cP
  clear hp
  have cF : ∀ W, Calls Tryd.prog 12 #[.int .i32 196] W fun e w' => e = .returned (.int .i32 228) ∧ Drawn0 W w' := fun W => by
    have h := fold_any 196 (by omega) W
    rw [alive_fold] at h
    exact h
  have cH : ∀ (W : World) (t : TypeId), Env W → Calls Tryd.prog 17 #[.string ⟨#[97, 98, 99]⟩, .slice (some ⟨W.heap.size, 0, none⟩) 3 3] (W.alloc (.cells #[.string ⟨#[]⟩, .string ⟨#[98]⟩, .string ⟨#[]⟩] t)) fun e w' => e = .returned (.bool true) ∧ Drawn0 (W.alloc (.cells #[.string ⟨#[]⟩, .string ⟨#[98]⟩, .string ⟨#[]⟩] t)) w' := fun W t hW => by
    have h := holds_c ⟨#[97, 98, 99]⟩ ⟨#[]⟩ ⟨#[]⟩ [⟨#[98]⟩] (some ⟨W.heap.size, 0, none⟩) 3 (W.alloc (.cells #[.string ⟨#[]⟩, .string ⟨#[98]⟩, .string ⟨#[]⟩] t)) (by decide) (by simp) (hW.below (below_alloc (Below.refl _ _) _)) (three_C W _ _ _ t) (by simp)
    rw [alive_holds] at h
    exact h
  unfold resT at cP
  go_enter Tryd.func11, Tryd.ntmps11
  go_wp2_with (first | (go_at_call 14; refine cP.mono ?_; rintro e w1 ⟨rfl, hb1⟩) | (go_at_call 12; refine (cF _).mono ?_; rintro e w2 ⟨rfl, hd2⟩) | (go_at_call 17; refine (cH w2 _ ((hE.below hb1).drawn hd2)).mono ?_; rintro e w3 ⟨rfl, hd3⟩))
  go_ret
  exact ⟨rfl, below_seq (below_alloc (below_seq hb1 hd2.below) _) hd3.below⟩

/-! ### PrepMaps -/
theorem map_c (r : Int) (x : Int) (b1 b2 : Bool) (h : mapR r = (x, b1, b2)) (w : World) : Calls Tryd.prog 9 #[.int .i32 r] w fun e w' => e = .returned (.tuple #[.int .i32 x, .bool b1, .bool b2]) ∧ Drawn0 w w' :=
  prep_Map.calls 6 r x b1 b2 w (by rw [map_f, h])
theorem refMap_c (r : Int) (x y : Int) (h : Fn.mapD r = (x, y)) (w : World) : Calls Tryd.prog 10 #[.int .i32 r] w fun e w' => e = .returned (.tuple #[.int .i32 x, .int .i64 y]) ∧ Below w.heap.size w w' :=
  chanceryref3_Map.calls 30 r x y w (by rw [mapD_f _ _ (by omega), h])
theorem fold_c (r : Int) (hlo : -2147483648 ≤ r) (hhi : r ≤ 2147483647) (w : World) : Calls Tryd.prog 12 #[.int .i32 r] w fun e w' => e = .returned (.int .i32 (foldR r)) ∧ Drawn0 w w' :=
  prep_Fold.calls 4 r (foldR r) w (fold_f r hlo hhi)
theorem refFold_c (r : Int) (hlo : -2147483648 ≤ r) (hhi : r ≤ 2147483647) (w : World) : Calls Tryd.prog 13 #[.int .i32 r] w fun e w' => e = .returned (.int .i32 (foldR r)) ∧ Below w.heap.size w w' :=
  chanceryref3_Fold.calls 30 r (foldR r) w (foldD_f r 30 (by omega) hlo hhi)
theorem map_both (r : Int) : ∃ x b1 b2 y, mapR r = (x, b1, b2) ∧ Fn.mapD r = (x, y) ∧ ((b1 = true ∧ b2 = false ∧ y = 0) ∨ (b1 = false ∧ b2 = false ∧ y = 1) ∨ (b1 = false ∧ b2 = true ∧ y = 2)) := by
  unfold mapR Fn.mapD
  by_cases h1 : blankR r = true
  · rw [if_pos h1, if_pos h1]
    exact ⟨_, _, _, _, rfl, rfl, .inl ⟨rfl, rfl, rfl⟩⟩
  · rw [if_neg h1, if_neg h1]
    by_cases h2 : goesR r = true
    · rw [if_pos h2, if_pos h2]
      exact ⟨_, _, _, _, rfl, rfl, .inr (.inl ⟨rfl, rfl, rfl⟩)⟩
    · rw [if_neg h2, if_neg h2]
      by_cases h3 : badR r = true
      · rw [if_pos h3, if_pos h3]
        exact ⟨_, _, _, _, rfl, rfl, .inr (.inr ⟨rfl, rfl, rfl⟩)⟩
      · rw [if_neg h3, if_neg h3]
        exact ⟨_, _, _, _, rfl, rfl, .inl ⟨rfl, rfl, rfl⟩⟩

set_option maxHeartbeats 2000000 in
theorem prepMaps_c (r : Int) (hlo : -2147483648 ≤ r) (hhi : r ≤ 2147483647) (w : World) (hE : Env w) :
    Calls Tryd.prog 3 #[.int .i32 r] w fun e w' => e = .returned (.bool true) ∧ Below w.heap.size w w' := by
  obtain ⟨x, b1, b2, y, h1, h2, hc⟩ := map_both r
  have cM := fun W => map_c r x b1 b2 h1 W
  have cR := fun W => refMap_c r x y h2 W
  have cF := fun W => fold_c r hlo hhi W
  have cG := fun W => refFold_c r hlo hhi W
  generalize foldR r = fr at *
  clear h1 h2
  rcases hc with ⟨rfl, rfl, rfl⟩ | ⟨rfl, rfl, rfl⟩ | ⟨rfl, rfl, rfl⟩
  all_goals
    go_enter Tryd.func3, Tryd.ntmps3
    go_wp2_with (first | (go_at_call 9; refine (cM _).mono ?_; rintro e w1 ⟨rfl, hd1⟩) | (go_at_call 10; refine (cR _).mono ?_; rintro e w2 ⟨rfl, hb2⟩) | (go_at_call 11; refine (alive_c _ ((hE.drawn hd1).below hb2)).mono ?_; rintro e w3 ⟨rfl, hb3⟩) | (go_at_call 12; refine (cF _).mono ?_; rintro e w4 ⟨rfl, hd4⟩) | (go_at_call 13; refine (cG _).mono ?_; rintro e w5 ⟨rfl, hb5⟩))
    go_ret
    exact ⟨rfl, below_seq (below_seq (below_seq (below_seq hd1.below hb2) hb3) hd4.below) hb5⟩

/-! ### PrepTexts -/
theorem resT_form (o : Option (List UInt8)) : ∃ (t : ByteArray) (n : Int), resT o = .tuple #[.string t, .int .i64 n] := by
  cases o with
  | none => exact ⟨_, _, rfl⟩
  | some l => exact ⟨_, _, rfl⟩
set_option maxHeartbeats 2000000 in
theorem prepTexts_c (s : ByteArray) (f : Bool) (w : World) (hE : Env w) :
    Calls Tryd.prog 4 #[.string s, .bool f] w fun e w' => e = .returned (.bool true) ∧ Below w.heap.size w w' := by
  by_cases hs : (70000 : Int) < (s.size : Int)
  · go_enter Tryd.func4, Tryd.ntmps4
    go_wp2_with (go_at_call 11; refine (alive_c _ hE).mono ?_; rintro e w3 ⟨rfl, hb3⟩)
    go_ret
    exact ⟨rfl, hb3⟩
  · have cP := fun W (hW : Env W) => prepare_c s f W (by omega) hW
    have cR := fun W => refPrepare_c s f W (by omega)
    obtain ⟨t, n, ht⟩ := resT_form (prepL f s.data.toList)
    rw [ht] at cP cR
    clear ht
    go_enter Tryd.func4, Tryd.ntmps4
    go_wp2_with (first | (go_at_call 14; refine (cP _ hE).mono ?_; rintro e w1 ⟨rfl, hb1⟩) | (go_at_call 15; refine (cR _).mono ?_; rintro e w2 ⟨rfl, hb2⟩) | (go_at_call 11; refine (alive_c _ ((hE.below hb1).below hb2)).mono ?_; rintro e w3 ⟨rfl, hb3⟩))
    go_ret
    exact ⟨rfl, below_seq (below_seq hb1 hb2) hb3⟩

/-! ### PrepFolds -/
theorem fold_range {r : Int} (hlo : -2147483648 ≤ r) (hhi : r ≤ 2147483647) : -2147483648 ≤ foldR r ∧ foldR r ≤ 2147483647 := by
  have h1 := up_facts r
  unfold up32 even1 at h1
  omega
theorem prep_length {f : Bool} {l t : List UInt8} (h : prepL f l = some t) : t.length ≤ 4 * l.length + 1 := by
  rw [prep_mapped] at h
  obtain ⟨q, hq, rfl⟩ := Option.map_eq_some_iff.1 h
  have := mapped_length hq
  split
  · simp
  · unfold Lib.trimB Lib.trimLeftB Lib.trimRightB
    have h1 : ((List.reverse (List.dropWhile (fun x => x == 32) q.reverse)).dropWhile (fun x => x == 32)).length ≤ (List.reverse (List.dropWhile (fun x => x == 32) q.reverse)).length := (List.dropWhile_suffix _).length_le
    have h2 : (List.dropWhile (fun x => x == 32) q.reverse).length ≤ q.reverse.length := (List.dropWhile_suffix _).length_le
    simp only [List.length_reverse] at h1 h2
    omega
set_option maxHeartbeats 2000000 in
theorem prepFolds_c (r : Int) (s : ByteArray) (hlo : -2147483648 ≤ r) (hhi : r ≤ 2147483647) (w : World) (hE : Env w) :
    Calls Tryd.prog 7 #[.int .i32 r, .string s] w fun e w' => e = .returned (.bool true) ∧ Below w.heap.size w w' := by
  by_cases hs : (3000 : Int) < (s.size : Int)
  · go_enter Tryd.func7, Tryd.ntmps7
    go_wp2_with (go_at_call 11; refine (alive_c _ hE).mono ?_; rintro e w3 ⟨rfl, hb3⟩)
    go_ret
    exact ⟨rfl, hb3⟩
  · have hfr := fold_range hlo hhi
    have cF := fun W => fold_c r hlo hhi W
    have cG := fun W => fold_c (foldR r) hfr.1 hfr.2 W
    rw [fold_fold] at cG
    have cP := fun f W (hW : Env W) => prepare_c s f W (by omega) hW
    have cP0 := cP false
    have cP1 := cP true
    clear cP hfr
    cases h0 : prepL false s.data.toList with
    | none =>
      rw [h0] at cP0
      rw [prep_fold_none.1 h0] at cP1
      have cP2 := fun W (hW : Env W) => prepare_c ⟨#[]⟩ true W (by decide) hW
      obtain ⟨t, n, ht⟩ := resT_form (prepL true (⟨#[]⟩ : ByteArray).data.toList)
      rw [ht] at cP2
      unfold resT at cP0 cP1
      clear ht h0
      generalize foldR r = fr at *
      go_enter Tryd.func7, Tryd.ntmps7
      go_wp2_with fail
      refine (cF _).mono ?_
      rintro e w1 ⟨rfl, hd1⟩
      go_wp2_with fail
      refine (cG _).mono ?_
      rintro e w2 ⟨rfl, hd2⟩
      go_wp2_with fail
      refine (cF _).mono ?_
      rintro e w3 ⟨rfl, hd3⟩
      have hE3 := ((hE.drawn hd1).drawn hd2).drawn hd3
      go_wp2_with fail
      refine (cP0 _ hE3).mono ?_
      rintro e w4 ⟨rfl, hb4⟩
      have hE4 := hE3.below hb4
      go_wp2_with fail
      refine (cP1 _ hE4).mono ?_
      rintro e w5 ⟨rfl, hb5⟩
      have hE5 := hE4.below hb5
      go_wp2_with fail
      refine (cP2 _ hE5).mono ?_
      rintro e w6 ⟨rfl, hb6⟩
      have hE6 := hE5.below hb6
      go_wp2_with fail
      refine (alive_c _ hE6).mono ?_
      rintro e w7 ⟨rfl, hb7⟩
      go_wp2
      go_ret
      exact ⟨rfl, below_seq (below_seq (below_seq (below_seq (below_seq (below_seq hd1.below hd2.below) hd3.below) hb4) hb5) hb6) hb7⟩
    | some a =>
      obtain ⟨c, hc1, hc2⟩ := prep_fold h0
      rw [h0] at cP0
      rw [hc1] at cP1
      have hal := prep_length h0
      have cP2 := fun W (hW : Env W) => prepare_c ⟨a.toArray⟩ true W (by rw [sizeArr]; rw [← size_list] at hal; omega) hW
      rw [show (⟨a.toArray⟩ : ByteArray).data.toList = a from rfl, hc2] at cP2
      unfold resT at cP0 cP1 cP2
      clear h0 hc1 hc2 hal
      generalize foldR r = fr at *
      go_enter Tryd.func7, Tryd.ntmps7
      go_wp2_with fail
      refine (cF _).mono ?_
      rintro e w1 ⟨rfl, hd1⟩
      go_wp2_with fail
      refine (cG _).mono ?_
      rintro e w2 ⟨rfl, hd2⟩
      go_wp2_with fail
      refine (cF _).mono ?_
      rintro e w3 ⟨rfl, hd3⟩
      have hE3 := ((hE.drawn hd1).drawn hd2).drawn hd3
      go_wp2_with fail
      refine (cP0 _ hE3).mono ?_
      rintro e w4 ⟨rfl, hb4⟩
      have hE4 := hE3.below hb4
      go_wp2_with fail
      refine (cP1 _ hE4).mono ?_
      rintro e w5 ⟨rfl, hb5⟩
      have hE5 := hE4.below hb5
      go_wp2_with fail
      refine (cP2 _ hE5).mono ?_
      rintro e w6 ⟨rfl, hb6⟩
      have hE6 := hE5.below hb6
      go_wp2_with fail
      refine (alive_c _ hE6).mono ?_
      rintro e w7 ⟨rfl, hb7⟩
      go_wp2
      go_ret
      exact ⟨rfl, below_seq (below_seq (below_seq (below_seq (below_seq (below_seq hd1.below hd2.below) hd3.below) hb4) hb5) hb6) hb7⟩
end Go.Proofs.YtdfdponenhfbjaaDoor.Wk
