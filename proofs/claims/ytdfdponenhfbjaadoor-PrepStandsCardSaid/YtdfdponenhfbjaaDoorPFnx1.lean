-- Printed by the kit's print.py (called by wip/tools/mkprint.sh with roots of its own): not typed by hand; Lean checks it.
import Derived.Test.YtdfdponenhfbjaaDoorPFnx0
namespace Go.Proofs.YtdfdponenhfbjaaDoor.PFn
open Go.RowKit Go.Proofs.YtdfdponenhfbjaaDoorW.PrintWords Go.Proofs.YtdfdponenhfbjaaDoorW.PrintLast Go.Proofs.YtdfdponenhfbjaaDoorW.PrintMore
attribute [local go_sem] max2_int min2_int max_two min_two max_three min_three max_four min_four   -- for this text's walks alone
set_option linter.unusedVariables false
set_option linter.unusedSimpArgs false

/-! ### prep_isBlank: function 18 -/
mutual
def prep_isBlank.j0 : Nat → Int → Bool → Option (Bool)
  | 0, _, _ => none
  | k + 1, x0, x3 => if x3 = true then (prep_isBlank.j1 k x0 x3) else (if x0 = 133 then (prep_isBlank.j1 k x0 (x0 == 133)) else (if x0 = 160 then (prep_isBlank.j1 k x0 (x0 == 160)) else (if x0 = 5760 then (prep_isBlank.j1 k x0 (x0 == 5760)) else (if x0 ≥ 8192 then (prep_isBlank.j1 k x0 (decide (x0 ≤ 8202))) else (prep_isBlank.j1 k x0 false)))))
def prep_isBlank.j1 : Nat → Int → Bool → Option (Bool)
  | 0, _, _ => none
  | k + 1, x0, x3 => if x3 = true then (some true) else (if x0 = 8232 then (some true) else (if x0 = 8233 then (some true) else (if x0 = 8239 then (some true) else (if x0 = 8287 then (some true) else (if x0 = 12288 then (some true) else (some false))))))
end
def prep_isBlank.f (k : Nat) (a0 : Int) : Option (Bool) := if a0 ≥ 9 then (prep_isBlank.j0 k a0 (decide (a0 ≤ 13))) else (prep_isBlank.j0 k a0 false)
theorem prep_isBlank.mono_l : ∀ k, (∀ y0 y1, LeO (prep_isBlank.j0 k y0 y1) (prep_isBlank.j0 (k + 1) y0 y1)) ∧ (∀ y0 y1, LeO (prep_isBlank.j1 k y0 y1) (prep_isBlank.j1 (k + 1) y0 y1))
  | 0 => ⟨fun _ _ r h => by simp [prep_isBlank.j0] at h, fun _ _ r h => by simp [prep_isBlank.j1] at h⟩
  | k + 1 => by
    obtain ⟨ih0, ih1⟩ := prep_isBlank.mono_l k
    refine ⟨?_, ?_⟩
    · intro y0 y1
      unfold prep_isBlank.j0
      repeat' first
      | (with_reducible exact ih0 _ _)
      | (with_reducible exact ih1 _ _)
      | (with_reducible exact LeO.refl _)
      | (with_reducible exact LeO.none _)
      | (with_reducible refine LeO.ite ?_ ?_)
      | (with_reducible refine LeO.bind ?_ (fun _ => ?_))
      | exact ih0 _ _
      | exact ih1 _ _
      | exact LeO.none _
      | refine LeO.ite ?_ ?_
      | refine LeO.bind ?_ (fun _ => ?_)
    · intro y0 y1
      unfold prep_isBlank.j1
      repeat' first
      | (with_reducible exact ih0 _ _)
      | (with_reducible exact ih1 _ _)
      | (with_reducible exact LeO.refl _)
      | (with_reducible exact LeO.none _)
      | (with_reducible refine LeO.ite ?_ ?_)
      | (with_reducible refine LeO.bind ?_ (fun _ => ?_))
      | exact ih0 _ _
      | exact ih1 _ _
      | exact LeO.none _
      | refine LeO.ite ?_ ?_
      | refine LeO.bind ?_ (fun _ => ?_)
theorem prep_isBlank.mono : ∀ a0 k, LeO (prep_isBlank.f k a0) (prep_isBlank.f (k + 1) a0) := by
  intro a0 k
  obtain ⟨ih0, ih1⟩ := prep_isBlank.mono_l k
  unfold prep_isBlank.f
  repeat' first
      | (with_reducible exact ih0 _ _)
      | (with_reducible exact ih1 _ _)
      | (with_reducible exact LeO.refl _)
      | (with_reducible exact LeO.none _)
      | (with_reducible refine LeO.ite ?_ ?_)
      | (with_reducible refine LeO.bind ?_ (fun _ => ?_))
      | exact ih0 _ _
      | exact ih1 _ _
      | exact LeO.none _
      | refine LeO.ite ?_ ?_
      | refine LeO.bind ?_ (fun _ => ?_)
set_option maxHeartbeats 8000000 in
set_option maxRecDepth 100000 in
theorem prep_isBlank.calls (k : Nat) (a0 : Int) (r : Bool) (w : World) (h : prep_isBlank.f k a0 = some r) :
    Calls Tryd.prog 18 #[.int .i32 a0] w fun e w' => e = .returned (.bool r) ∧ Drawn0 w w' := by
  have H : (if a0 ≥ 9 then (prep_isBlank.j0 k a0 (decide (a0 ≤ 13))) else (prep_isBlank.j0 k a0 false)) = some r := h
  clear h
  have HC2 := Aside0.mk H
  clear H
  go_enter Tryd.func18, Tryd.ntmps18
  go_upto_region 1 with (fail)
  go_cut [3] (fun v3 wc => ∃ (kq : Nat) (x3_1 : Bool), v3 = .bool x3_1 ∧ Aside0 (prep_isBlank.j0 kq a0 x3_1 = some r) ∧ Aside0 (kq ≤ k) ∧ Drawn0 w wc)
  case first =>
    have H := HC2.out
    clear HC2
    by_cases c3 : a0 ≥ 9
    · rw [if_pos c3] at H
      have c3b0 : decide (9 ≤ a0) = true := decide_eq_true c3
      clear c3
      (first | rw [c3b0] | (simp only [i64_w, i32_w]; rw [c3b0]) | skip)
      have H' := Aside0.mk H
      clear H
      go_wp2
      go_meet
      case rel => exact ⟨_, (decide (a0 ≤ 13)), (by first | rfl | (simp; done) | (simp [*]; done)), H', ⟨by first | omega | exact Nat.le_refl _⟩, by repeat (first | exact Drawn0.refl _ | apply Drawn0.step)⟩
    · rw [if_neg c3] at H
      have c3b0 : decide (9 ≤ a0) = false := decide_eq_false c3
      clear c3
      (first | rw [c3b0] | (simp only [i64_w, i32_w]; rw [c3b0]) | skip)
      have H' := Aside0.mk H
      clear H
      go_wp2
      go_meet
      case rel => exact ⟨_, (false), (by first | rfl | (simp; done) | (simp [*]; done)), H', ⟨by first | omega | exact Nat.le_refl _⟩, by repeat (first | exact Drawn0.refl _ | apply Drawn0.step)⟩
  case rest =>
    clear HC2
    try clear c1
    try clear p2
    try clear c3
    try clear c3b0
    obtain ⟨kq, x3_1, rfl, HA, HJ1, ⟨mc1, rfl⟩⟩ := hcut
    cases kq with
    | zero => exact absurd HA.out (by simp [prep_isBlank.j0])
    | succ kj1 =>
      have H := HA.out
      clear HA
      simp only [prep_isBlank.j0] at H
      have HC4 := Aside0.mk H
      clear H
      go_upto_if 3 with (fail)
      go_cut [3] (fun v3 wc => ∃ (kq : Nat) (x3_3 : Bool), v3 = .bool x3_3 ∧ Aside0 (prep_isBlank.j1 kq a0 x3_3 = some r) ∧ Aside0 (kq ≤ kj1) ∧ Drawn0 w wc)
      case first =>
        have H := HC4.out
        clear HC4
        by_cases c5 : x3_1 = true
        · subst c5
          have H1 : (prep_isBlank.j1 kj1 a0 true) = some r := by rw [if_pos rfl] at H; exact H
          clear H
          have H := H1
          clear H1
          have H' := Aside0.mk H
          clear H
          go_wp2
          go_meet
          case rel => exact ⟨_, (true), (by first | rfl | (simp; done) | (simp [*]; done)), H', ⟨by have := HJ1.out; first | omega | exact Nat.le_refl _⟩, by repeat (first | exact Drawn0.refl _ | apply Drawn0.step)⟩
        · replace c5 := Bool.eq_false_iff.mpr c5
          subst c5
          have H1 : (if a0 = 133 then (prep_isBlank.j1 kj1 a0 (a0 == 133)) else (if a0 = 160 then (prep_isBlank.j1 kj1 a0 (a0 == 160)) else (if a0 = 5760 then (prep_isBlank.j1 kj1 a0 (a0 == 5760)) else (if a0 ≥ 8192 then (prep_isBlank.j1 kj1 a0 (decide (a0 ≤ 8202))) else (prep_isBlank.j1 kj1 a0 false))))) = some r := by rw [if_neg (show ¬ (false = true) by decide)] at H; exact H
          clear H
          have H := H1
          clear H1
          by_cases c6 : a0 = 133
          · rw [if_pos c6] at H
            have c6b0 : (a0 == 133) = true := beq_iff_eq.mpr c6
            have c6b1 : (a0 != 133) = false := bne_eq_false_iff_eq.mpr c6
            clear c6
            (first | rw [c6b0] | (simp only [i64_w, i32_w]; rw [c6b0]) | skip)
            have H' := Aside0.mk H
            clear H
            go_wp2
            go_meet
            case rel => exact ⟨_, ((a0 == 133)), (by first | rfl | (simp; done) | (simp [*]; done)), H', ⟨by have := HJ1.out; first | omega | exact Nat.le_refl _⟩, by repeat (first | exact Drawn0.refl _ | apply Drawn0.step)⟩
          · rw [if_neg c6] at H
            have c6b0 : (a0 == 133) = false := beq_eq_false_iff_ne.mpr c6
            have c6b1 : (a0 != 133) = true := bne_iff_ne.mpr c6
            (first | rw [c6b0] | (simp only [i64_w, i32_w]; rw [c6b0]) | skip)
            by_cases c7 : a0 = 160
            · rw [if_pos c7] at H
              have c7b0 : (a0 == 160) = true := beq_iff_eq.mpr c7
              have c7b1 : (a0 != 160) = false := bne_eq_false_iff_eq.mpr c7
              clear c7
              have H' := Aside0.mk H
              clear H
              go_wp2
              go_meet
              case rel => exact ⟨_, ((a0 == 160)), (by first | rfl | (simp; done) | (simp [*]; done)), H', ⟨by have := HJ1.out; first | omega | exact Nat.le_refl _⟩, by repeat (first | exact Drawn0.refl _ | apply Drawn0.step)⟩
            · rw [if_neg c7] at H
              have c7b0 : (a0 == 160) = false := beq_eq_false_iff_ne.mpr c7
              have c7b1 : (a0 != 160) = true := bne_iff_ne.mpr c7
              by_cases c8 : a0 = 5760
              · rw [if_pos c8] at H
                have c8b0 : (a0 == 5760) = true := beq_iff_eq.mpr c8
                have c8b1 : (a0 != 5760) = false := bne_eq_false_iff_eq.mpr c8
                clear c8
                have H' := Aside0.mk H
                clear H
                go_wp2
                go_meet
                case rel => exact ⟨_, ((a0 == 5760)), (by first | rfl | (simp; done) | (simp [*]; done)), H', ⟨by have := HJ1.out; first | omega | exact Nat.le_refl _⟩, by repeat (first | exact Drawn0.refl _ | apply Drawn0.step)⟩
              · rw [if_neg c8] at H
                have c8b0 : (a0 == 5760) = false := beq_eq_false_iff_ne.mpr c8
                have c8b1 : (a0 != 5760) = true := bne_iff_ne.mpr c8
                by_cases c9 : a0 ≥ 8192
                · rw [if_pos c9] at H
                  have c9b0 : decide (8192 ≤ a0) = true := decide_eq_true c9
                  clear c9
                  have H' := Aside0.mk H
                  clear H
                  go_wp2
                  go_meet
                  case rel => exact ⟨_, (decide (a0 ≤ 8202)), (by first | rfl | (simp; done) | (simp [*]; done)), H', ⟨by have := HJ1.out; first | omega | exact Nat.le_refl _⟩, by repeat (first | exact Drawn0.refl _ | apply Drawn0.step)⟩
                · rw [if_neg c9] at H
                  have c9b0 : decide (8192 ≤ a0) = false := decide_eq_false c9
                  clear c9
                  have H' := Aside0.mk H
                  clear H
                  go_wp2
                  go_meet
                  case rel => exact ⟨_, (false), (by first | rfl | (simp; done) | (simp [*]; done)), H', ⟨by have := HJ1.out; first | omega | exact Nat.le_refl _⟩, by repeat (first | exact Drawn0.refl _ | apply Drawn0.step)⟩
      case rest =>
        clear HC4
        try clear c1
        try clear p2
        try clear c3
        try clear c3b0
        try clear c5
        try clear c6
        try clear c6b0
        try clear c6b1
        try clear c7
        try clear c7b0
        try clear c7b1
        try clear c8
        try clear c8b0
        try clear c8b1
        try clear c9
        try clear c9b0
        try clear p2
        obtain ⟨kq, x3_3, rfl, HA, HJ3, ⟨mc3, rfl⟩⟩ := hcut
        cases kq with
        | zero => exact absurd HA.out (by simp [prep_isBlank.j1])
        | succ kj3 =>
          have H := HA.out
          clear HA
          simp only [prep_isBlank.j1] at H
          by_cases c10 : x3_3 = true
          · subst c10
            have H1 : (some true) = some r := by rw [if_pos rfl] at H; exact H
            clear H
            have H := H1
            clear H1
            obtain rfl := Option.some.inj H
            go_wp2
            go_ret
            exact ⟨by first | rfl | (simp; done) | (simp [*]; done), by repeat (first | exact Drawn0.refl _ | apply Drawn0.step)⟩
          · replace c10 := Bool.eq_false_iff.mpr c10
            subst c10
            have H1 : (if a0 = 8232 then (some true) else (if a0 = 8233 then (some true) else (if a0 = 8239 then (some true) else (if a0 = 8287 then (some true) else (if a0 = 12288 then (some true) else (some false)))))) = some r := by rw [if_neg (show ¬ (false = true) by decide)] at H; exact H
            clear H
            have H := H1
            clear H1
            by_cases c11 : a0 = 8232
            · rw [if_pos c11] at H
              have c11b0 : (a0 == 8232) = true := beq_iff_eq.mpr c11
              have c11b1 : (a0 != 8232) = false := bne_eq_false_iff_eq.mpr c11
              clear c11
              obtain rfl := Option.some.inj H
              go_wp2
              go_ret
              exact ⟨by first | rfl | (simp; done) | (simp [*]; done), by repeat (first | exact Drawn0.refl _ | apply Drawn0.step)⟩
            · rw [if_neg c11] at H
              have c11b0 : (a0 == 8232) = false := beq_eq_false_iff_ne.mpr c11
              have c11b1 : (a0 != 8232) = true := bne_iff_ne.mpr c11
              by_cases c12 : a0 = 8233
              · rw [if_pos c12] at H
                have c12b0 : (a0 == 8233) = true := beq_iff_eq.mpr c12
                have c12b1 : (a0 != 8233) = false := bne_eq_false_iff_eq.mpr c12
                clear c12
                obtain rfl := Option.some.inj H
                go_wp2
                go_ret
                exact ⟨by first | rfl | (simp; done) | (simp [*]; done), by repeat (first | exact Drawn0.refl _ | apply Drawn0.step)⟩
              · rw [if_neg c12] at H
                have c12b0 : (a0 == 8233) = false := beq_eq_false_iff_ne.mpr c12
                have c12b1 : (a0 != 8233) = true := bne_iff_ne.mpr c12
                by_cases c13 : a0 = 8239
                · rw [if_pos c13] at H
                  have c13b0 : (a0 == 8239) = true := beq_iff_eq.mpr c13
                  have c13b1 : (a0 != 8239) = false := bne_eq_false_iff_eq.mpr c13
                  clear c13
                  obtain rfl := Option.some.inj H
                  go_wp2
                  go_ret
                  exact ⟨by first | rfl | (simp; done) | (simp [*]; done), by repeat (first | exact Drawn0.refl _ | apply Drawn0.step)⟩
                · rw [if_neg c13] at H
                  have c13b0 : (a0 == 8239) = false := beq_eq_false_iff_ne.mpr c13
                  have c13b1 : (a0 != 8239) = true := bne_iff_ne.mpr c13
                  by_cases c14 : a0 = 8287
                  · rw [if_pos c14] at H
                    have c14b0 : (a0 == 8287) = true := beq_iff_eq.mpr c14
                    have c14b1 : (a0 != 8287) = false := bne_eq_false_iff_eq.mpr c14
                    clear c14
                    obtain rfl := Option.some.inj H
                    go_wp2
                    go_ret
                    exact ⟨by first | rfl | (simp; done) | (simp [*]; done), by repeat (first | exact Drawn0.refl _ | apply Drawn0.step)⟩
                  · rw [if_neg c14] at H
                    have c14b0 : (a0 == 8287) = false := beq_eq_false_iff_ne.mpr c14
                    have c14b1 : (a0 != 8287) = true := bne_iff_ne.mpr c14
                    by_cases c15 : a0 = 12288
                    · rw [if_pos c15] at H
                      have c15b0 : (a0 == 12288) = true := beq_iff_eq.mpr c15
                      have c15b1 : (a0 != 12288) = false := bne_eq_false_iff_eq.mpr c15
                      clear c15
                      obtain rfl := Option.some.inj H
                      go_wp2
                      go_ret
                      exact ⟨by first | rfl | (simp; done) | (simp [*]; done), by repeat (first | exact Drawn0.refl _ | apply Drawn0.step)⟩
                    · rw [if_neg c15] at H
                      have c15b0 : (a0 == 12288) = false := beq_eq_false_iff_ne.mpr c15
                      have c15b1 : (a0 != 12288) = true := bne_iff_ne.mpr c15
                      obtain rfl := Option.some.inj H
                      go_wp2
                      go_ret
                      exact ⟨by first | rfl | (simp; done) | (simp [*]; done), by repeat (first | exact Drawn0.refl _ | apply Drawn0.step)⟩

end Go.Proofs.YtdfdponenhfbjaaDoor.PFn
