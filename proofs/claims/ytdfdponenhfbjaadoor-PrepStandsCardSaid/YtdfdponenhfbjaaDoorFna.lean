/- The printed functions of packages prep and chanceryref3 (characters) come to the plain ones. Plain Lean over the printed functions. Conditions: a rune is an int32. -/
import Derived.Test.YtdfdponenhfbjaaDoorPFnx
import Derived.Test.YtdfdponenhfbjaaDoorPl
namespace Go.Proofs.YtdfdponenhfbjaaDoor.Fn
open Go Go.RowKit Go.Proofs.YtdfdponenhfbjaaDoor.PFn Go.Proofs.YtdfdponenhfbjaaDoor.Pl Go.Proofs.YtdfdponenhfbjaaDoorW.PrintWords

theorem i32_in (x : Int) (h : -2147483648 ≤ x ∧ x ≤ 2147483647) : wrap32 x = x := by unfold wrap32; omega
theorem i64_in (x : Int) (h : -9223372036854775808 ≤ x ∧ x ≤ 9223372036854775807) : wrap64 x = x := by unfold wrap64; omega

theorem LeO.upto {α : Type} {f : Nat → Option α} (h : ∀ k, LeO (f k) (f (k + 1))) {a b : Nat} (hab : a ≤ b) : LeO (f a) (f b) := by
  obtain ⟨d, rfl⟩ : ∃ d, b = a + d := ⟨b - a, by omega⟩
  clear hab
  induction d with
  | zero => exact LeO.refl _
  | succ d ih => exact ih.trans (h (a + d))

theorem ttrue {b : Bool} (h : b = true) : (some true : Option Bool) = some b := by rw [h]
theorem tfalse {b : Bool} (h : ¬ b = true) : (some false : Option Bool) = some b := by cases b <;> simp_all

theorem isBlank_f (r : Int) : prep_isBlank.f 2 r = some (blankR r) := by
  have hb := blank_iff r
  have e1 : ∀ x, prep_isBlank.j1 1 r x = some (decide (x = true ∨ r = 8232 ∨ r = 8233 ∨ r = 8239 ∨ r = 8287 ∨ r = 12288)) := by
    intro x
    simp only [prep_isBlank.j1]
    repeat' split
    all_goals first | (congr 1; symm; exact decide_eq_true (by omega)) | (congr 1; symm; exact decide_eq_false (by omega)) | (congr 1; symm; simp [*]; done)
  have e0 : ∀ x, prep_isBlank.j0 2 r x = some (decide (x = true ∨ r = 133 ∨ r = 160 ∨ r = 5760 ∨ (8192 ≤ r ∧ r ≤ 8202) ∨ r = 8232 ∨ r = 8233 ∨ r = 8239 ∨ r = 8287 ∨ r = 12288)) := by
    intro x
    simp only [prep_isBlank.j0, e1]
    repeat' split
    all_goals (congr 1; simp only [decide_eq_decide, decide_eq_true_eq, beq_iff_eq, Bool.false_eq_true, false_or, *])
    all_goals (first | omega | (simp_all; done) | (simp; done) | skip)
    all_goals (try omega)
  simp only [prep_isBlank.f, e0]
  split
  all_goals (congr 1; rw [Bool.eq_iff_iff, hb]; simp only [decide_eq_true_eq, Bool.false_eq_true, false_or]; omega)
set_option maxHeartbeats 16000000 in
theorem goes_f (r : Int) : prep_goes.f 6 r = some (goesR r) := by
  have hb := goes_iff r
  have e5 : ∀ x, prep_goes.j5 1 r x = some (decide (x = true ∨ r = 65279 ∨ (65529 ≤ r ∧ r ≤ 65532))) := by
    intro x
    simp only [prep_goes.j5]
    repeat' split
    all_goals first | (congr 1; symm; exact decide_eq_true (by omega)) | (congr 1; symm; exact decide_eq_false (by omega)) | (congr 1; symm; simp [*]; done)
  have e4 : ∀ x, prep_goes.j4 2 r x = some (decide (x = true ∨ (65024 ≤ r ∧ r ≤ 65039) ∨ r = 65279 ∨ (65529 ≤ r ∧ r ≤ 65532))) := by
    intro x
    simp only [prep_goes.j4, e5]
    repeat' split
    all_goals (congr 1; simp only [decide_eq_decide, decide_eq_true_eq, Bool.false_eq_true, false_or, *])
    all_goals (first | omega | (simp_all; done) | (simp; done) | (symm; simp; done) | skip)
    all_goals (try omega)
  have e3 : ∀ x, prep_goes.j3 3 r x = some (decide (x = true ∨ (8234 ≤ r ∧ r ≤ 8238) ∨ (8288 ≤ r ∧ r ≤ 8303) ∨ (65024 ≤ r ∧ r ≤ 65039) ∨ r = 65279 ∨ (65529 ≤ r ∧ r ≤ 65532))) := by
    intro x
    simp only [prep_goes.j3, e4]
    repeat' split
    all_goals (congr 1; simp only [decide_eq_decide, decide_eq_true_eq, Bool.false_eq_true, false_or, *])
    all_goals (first | omega | (simp_all; done) | (simp; done) | skip)
    all_goals (try omega)
  have e2 : ∀ x, prep_goes.j2 4 r x = some (decide (x = true ∨ (8203 ≤ r ∧ r ≤ 8207) ∨ (8234 ≤ r ∧ r ≤ 8238) ∨ (8288 ≤ r ∧ r ≤ 8303) ∨ (65024 ≤ r ∧ r ≤ 65039) ∨ r = 65279 ∨ (65529 ≤ r ∧ r ≤ 65532))) := by
    intro x
    simp only [prep_goes.j2, e3]
    repeat' split
    all_goals (congr 1; simp only [decide_eq_decide, decide_eq_true_eq, Bool.false_eq_true, false_or, *])
    all_goals (first | omega | (simp_all; done) | (simp; done) | skip)
    all_goals (try omega)
  have e1 : ∀ x, prep_goes.j1 5 r x = some (decide (x = true ∨ r = 173 ∨ r = 847 ∨ r = 6150 ∨ (6155 ≤ r ∧ r ≤ 6158) ∨ (8203 ≤ r ∧ r ≤ 8207) ∨ (8234 ≤ r ∧ r ≤ 8238) ∨ (8288 ≤ r ∧ r ≤ 8303) ∨ (65024 ≤ r ∧ r ≤ 65039) ∨ r = 65279 ∨ (65529 ≤ r ∧ r ≤ 65532))) := by
    intro x
    simp only [prep_goes.j1, e2]
    repeat' split
    all_goals (congr 1; simp only [decide_eq_decide, decide_eq_true_eq, beq_iff_eq, Bool.false_eq_true, false_or, *])
    all_goals (first | omega | (simp_all; done) | (simp; done) | skip)
    all_goals (try omega)
  have e0 : ∀ x, prep_goes.j0 6 r x = some (decide (x = true ∨ (127 ≤ r ∧ r ≤ 159) ∨ r = 173 ∨ r = 847 ∨ r = 6150 ∨ (6155 ≤ r ∧ r ≤ 6158) ∨ (8203 ≤ r ∧ r ≤ 8207) ∨ (8234 ≤ r ∧ r ≤ 8238) ∨ (8288 ≤ r ∧ r ≤ 8303) ∨ (65024 ≤ r ∧ r ≤ 65039) ∨ r = 65279 ∨ (65529 ≤ r ∧ r ≤ 65532))) := by
    intro x
    have e2' : ∀ x, prep_goes.j2 5 r x = _ := fun x => prep_goes.mono_l 4 |>.2.1 r x _ (e2 x)
    simp only [prep_goes.j0, e1, e2']
    repeat' split
    all_goals (congr 1; simp only [decide_eq_decide, decide_eq_true_eq, Bool.false_eq_true, false_or, *])
    all_goals (first | omega | (simp_all; done) | (simp; done) | skip)
    all_goals (try omega)
  simp only [prep_goes.f, e0]
  split
  all_goals (congr 1; rw [Bool.eq_iff_iff, hb]; simp only [decide_eq_true_eq, Bool.false_eq_true, false_or]; omega)
theorem isRefused_f (r : Int) : prep_isRefused.f r = some (badR r) := by
  have hb := bad_iff r
  unfold prep_isRefused.f
  repeat' split
  all_goals first | exact ttrue (hb.2 (by omega)) | skip
  all_goals (congr 1; rw [Bool.eq_iff_iff, hb, decide_eq_true_iff]; omega)
theorem map_f (r : Int) : prep_Map.f 6 r = some (mapR r) := by
  have e1 : prep_isBlank.f 6 r = some (blankR r) := LeO.upto (fun k => prep_isBlank.mono r k) (by omega) _ (isBlank_f r)
  unfold prep_Map.f mapR
  rw [e1, goes_f, isRefused_f]
  simp only [Option.bind_some]
  by_cases h1 : blankR r = true
  · rw [if_pos h1, if_pos h1]
  · by_cases h2 : goesR r = true
    · rw [if_neg h1, if_neg h1, if_pos h2, if_pos h2]
    · by_cases h3 : badR r = true
      · rw [if_neg h1, if_neg h1, if_neg h2, if_neg h2, if_pos h3, if_pos h3]
      · rw [if_neg h1, if_neg h1, if_neg h2, if_neg h2, if_neg h3, if_neg h3]
theorem fold_up {r : Int} (h : up32 r) : foldR r = r + 32 := by unfold foldR; rw [if_pos h]
theorem fold_up80 {r : Int} (h : 1024 ≤ r ∧ r ≤ 1039) : foldR r = r + 80 := by unfold foldR; rw [if_neg (by unfold up32; omega), if_pos h]
theorem fold_ss : foldR 7838 = 223 := by decide
theorem fold_even {r : Int} (h : even1 r) : foldR r = r + 1 := by unfold foldR; rw [if_neg (by unfold up32; unfold even1 at h; omega), if_neg (by unfold even1 at h; omega), if_neg (by unfold even1 at h; omega), if_pos h]
theorem fold_same {r : Int} (h1 : ¬ up32 r) (h2 : ¬ (1024 ≤ r ∧ r ≤ 1039)) (h3 : r ≠ 7838) (h4 : ¬ even1 r) : foldR r = r := by unfold foldR; rw [if_neg h1, if_neg h2, if_neg h3, if_neg h4]
set_option maxHeartbeats 8000000 in
theorem fold_f (r : Int) (hlo : -2147483648 ≤ r) (hhi : r ≤ 2147483647) : prep_Fold.f 4 r = some (foldR r) := by
  have e3 : ∀ x, (x = true ↔ 1024 ≤ r ∧ r ≤ 1039) → ¬ up32 r → prep_Fold.j3 1 r x = some (foldR r) := by
    intro x hx hu
    simp only [prep_Fold.j3]
    by_cases hc : x = true
    · rw [if_pos hc, fold_up80 (hx.1 hc), i32_in _ (by have := hx.1 hc; omega)]
    · rw [if_neg hc]
      have h80 : ¬ (1024 ≤ r ∧ r ≤ 1039) := fun h => hc (hx.2 h)
      by_cases hs : r = 7838
      · subst hs
        rw [if_pos rfl, fold_ss]
      · rw [if_neg hs]
        by_cases he : (256 ≤ r ∧ r ≤ 311) ∨ (330 ≤ r ∧ r ≤ 375)
        · have ht : Int.tmod r 2 = r % 2 := Int.tmod_eq_emod_of_nonneg (by omega)
          have key : (if r % 2 = 0 then some (wrap32 (r + 1)) else some r) = some (foldR r) := by
            split
            · rw [i32_in _ (by omega), fold_even (by unfold even1; omega)]
            · rw [fold_same hu h80 hs (by unfold even1; omega)]
          rw [ht, key]
          repeat' split
          all_goals first | rfl | omega
        · rw [fold_same hu h80 hs (by unfold even1; omega)]
          repeat' split
          all_goals first | rfl | omega
  have e2 : ∀ x, (x = true ↔ up32 r) → prep_Fold.j2 2 r x = some (foldR r) := by
    intro x hx
    simp only [prep_Fold.j2]
    split
    · rename_i h
      have := hx.1 h
      rw [fold_up this, i32_in _ (by unfold up32 at this; omega)]
    · rename_i h
      have hu : ¬ up32 r := fun h' => h (hx.2 h')
      split
      · exact e3 _ (by rw [decide_eq_true_iff]; omega) hu
      · exact e3 _ (by simp; omega) hu
  have e1 : ∀ x, (x = true ↔ (65 ≤ r ∧ r ≤ 90) ∨ (192 ≤ r ∧ r ≤ 222 ∧ r ≠ 215)) → prep_Fold.j1 3 r x = some (foldR r) := by
    intro x hx
    simp only [prep_Fold.j1]
    repeat' split
    all_goals refine e2 _ ?_
    all_goals (unfold up32; simp only [decide_eq_true_iff, bne_iff_ne, Bool.false_eq_true, *])
    all_goals (try simp_all)
    all_goals (try omega)
  have e2' : ∀ x, (x = true ↔ up32 r) → prep_Fold.j2 3 r x = some (foldR r) := fun x hx => prep_Fold.mono_l 2 |>.2.1 r x _ (e2 x hx)
  have e0 : ∀ x, (x = true ↔ (65 ≤ r ∧ r ≤ 90)) → prep_Fold.j0 4 r x = some (foldR r) := by
    intro x hx
    simp only [prep_Fold.j0]
    split
    · rename_i h
      refine e2' _ ?_
      have := hx.1 h
      unfold up32
      rw [h]
      simp [this]
    · rename_i h
      have : ¬ (65 ≤ r ∧ r ≤ 90) := fun h' => h (hx.2 h')
      repeat' split
      all_goals refine e1 _ ?_
      all_goals (try simp only [bne_iff_ne, Bool.false_eq_true, false_iff])
      all_goals omega
  unfold prep_Fold.f
  split
  · exact e0 _ (by rw [decide_eq_true_iff]; omega)
  · exact e0 _ (by simp; omega)
end Go.Proofs.YtdfdponenhfbjaaDoor.Fn
