-- Printed by the kit's print.py (called by wip/tools/mkprint.sh with roots of its own): not typed by hand; Lean checks it.
import Derived.Test.YtdfdponenhfbjaaDoorPFnx0
namespace Go.Proofs.YtdfdponenhfbjaaDoor.PFn
open Go.RowKit Go.Proofs.YtdfdponenhfbjaaDoorW.PrintWords Go.Proofs.YtdfdponenhfbjaaDoorW.PrintLast Go.Proofs.YtdfdponenhfbjaaDoorW.PrintMore
attribute [local go_sem] max2_int min2_int max_two min_two max_three min_three max_four min_four   -- for this text's walks alone
set_option linter.unusedVariables false
set_option linter.unusedSimpArgs false

/-! ### prep_goes: function 19 -/
mutual
def prep_goes.j0 : Nat → Int → Bool → Option (Bool)
  | 0, _, _ => none
  | k + 1, x0, x3 => if x3 = true then (prep_goes.j2 k x0 x3) else (if x0 ≥ 127 then (prep_goes.j1 k x0 (decide (x0 ≤ 159))) else (prep_goes.j1 k x0 false))
def prep_goes.j2 : Nat → Int → Bool → Option (Bool)
  | 0, _, _ => none
  | k + 1, x0, x3 => if x3 = true then (some true) else (if x0 ≥ 8203 then (prep_goes.j3 k x0 (decide (x0 ≤ 8207))) else (prep_goes.j3 k x0 false))
def prep_goes.j3 : Nat → Int → Bool → Option (Bool)
  | 0, _, _ => none
  | k + 1, x0, x28 => if x28 = true then (prep_goes.j4 k x0 x28) else (if x0 ≥ 8234 then (if x0 ≤ 8238 then (prep_goes.j4 k x0 (decide (x0 ≤ 8238))) else (if x0 ≥ 8288 then (prep_goes.j4 k x0 (decide (x0 ≤ 8303))) else (prep_goes.j4 k x0 false))) else (if x0 ≥ 8288 then (prep_goes.j4 k x0 (decide (x0 ≤ 8303))) else (prep_goes.j4 k x0 false)))
def prep_goes.j4 : Nat → Int → Bool → Option (Bool)
  | 0, _, _ => none
  | k + 1, x0, x28 => if x28 = true then (some true) else (if x0 ≥ 65024 then (prep_goes.j5 k x0 (decide (x0 ≤ 65039))) else (prep_goes.j5 k x0 false))
def prep_goes.j5 : Nat → Int → Bool → Option (Bool)
  | 0, _, _ => none
  | k + 1, x0, x47 => if x47 = true then (some true) else (if x0 = 65279 then (some true) else (if x0 ≥ 65529 then (if x0 ≤ 65532 then (some true) else (some false)) else (some false)))
def prep_goes.j1 : Nat → Int → Bool → Option (Bool)
  | 0, _, _ => none
  | k + 1, x0, x3 => if x3 = true then (prep_goes.j2 k x0 x3) else (if x0 = 173 then (prep_goes.j2 k x0 (x0 == 173)) else (if x0 = 847 then (prep_goes.j2 k x0 (x0 == 847)) else (if x0 = 6150 then (prep_goes.j2 k x0 (x0 == 6150)) else (if x0 ≥ 6155 then (prep_goes.j2 k x0 (decide (x0 ≤ 6158))) else (prep_goes.j2 k x0 false)))))
end
def prep_goes.f (k : Nat) (a0 : Int) : Option (Bool) := if a0 ≥ 0 then (prep_goes.j0 k a0 (decide (a0 < 32))) else (prep_goes.j0 k a0 false)
theorem prep_goes.mono_l : ∀ k, (∀ y0 y1, LeO (prep_goes.j0 k y0 y1) (prep_goes.j0 (k + 1) y0 y1)) ∧ (∀ y0 y1, LeO (prep_goes.j2 k y0 y1) (prep_goes.j2 (k + 1) y0 y1)) ∧ (∀ y0 y1, LeO (prep_goes.j3 k y0 y1) (prep_goes.j3 (k + 1) y0 y1)) ∧ (∀ y0 y1, LeO (prep_goes.j4 k y0 y1) (prep_goes.j4 (k + 1) y0 y1)) ∧ (∀ y0 y1, LeO (prep_goes.j5 k y0 y1) (prep_goes.j5 (k + 1) y0 y1)) ∧ (∀ y0 y1, LeO (prep_goes.j1 k y0 y1) (prep_goes.j1 (k + 1) y0 y1))
  | 0 => ⟨fun _ _ r h => by simp [prep_goes.j0] at h, fun _ _ r h => by simp [prep_goes.j2] at h, fun _ _ r h => by simp [prep_goes.j3] at h, fun _ _ r h => by simp [prep_goes.j4] at h, fun _ _ r h => by simp [prep_goes.j5] at h, fun _ _ r h => by simp [prep_goes.j1] at h⟩
  | k + 1 => by
    obtain ⟨ih0, ih1, ih2, ih3, ih4, ih5⟩ := prep_goes.mono_l k
    refine ⟨?_, ?_, ?_, ?_, ?_, ?_⟩
    · intro y0 y1
      unfold prep_goes.j0
      repeat' first
      | (with_reducible exact ih0 _ _)
      | (with_reducible exact ih1 _ _)
      | (with_reducible exact ih2 _ _)
      | (with_reducible exact ih3 _ _)
      | (with_reducible exact ih4 _ _)
      | (with_reducible exact ih5 _ _)
      | (with_reducible exact LeO.refl _)
      | (with_reducible exact LeO.none _)
      | (with_reducible refine LeO.ite ?_ ?_)
      | (with_reducible refine LeO.bind ?_ (fun _ => ?_))
      | exact ih0 _ _
      | exact ih1 _ _
      | exact ih2 _ _
      | exact ih3 _ _
      | exact ih4 _ _
      | exact ih5 _ _
      | exact LeO.none _
      | refine LeO.ite ?_ ?_
      | refine LeO.bind ?_ (fun _ => ?_)
    · intro y0 y1
      unfold prep_goes.j2
      repeat' first
      | (with_reducible exact ih0 _ _)
      | (with_reducible exact ih1 _ _)
      | (with_reducible exact ih2 _ _)
      | (with_reducible exact ih3 _ _)
      | (with_reducible exact ih4 _ _)
      | (with_reducible exact ih5 _ _)
      | (with_reducible exact LeO.refl _)
      | (with_reducible exact LeO.none _)
      | (with_reducible refine LeO.ite ?_ ?_)
      | (with_reducible refine LeO.bind ?_ (fun _ => ?_))
      | exact ih0 _ _
      | exact ih1 _ _
      | exact ih2 _ _
      | exact ih3 _ _
      | exact ih4 _ _
      | exact ih5 _ _
      | exact LeO.none _
      | refine LeO.ite ?_ ?_
      | refine LeO.bind ?_ (fun _ => ?_)
    · intro y0 y1
      unfold prep_goes.j3
      repeat' first
      | (with_reducible exact ih0 _ _)
      | (with_reducible exact ih1 _ _)
      | (with_reducible exact ih2 _ _)
      | (with_reducible exact ih3 _ _)
      | (with_reducible exact ih4 _ _)
      | (with_reducible exact ih5 _ _)
      | (with_reducible exact LeO.refl _)
      | (with_reducible exact LeO.none _)
      | (with_reducible refine LeO.ite ?_ ?_)
      | (with_reducible refine LeO.bind ?_ (fun _ => ?_))
      | exact ih0 _ _
      | exact ih1 _ _
      | exact ih2 _ _
      | exact ih3 _ _
      | exact ih4 _ _
      | exact ih5 _ _
      | exact LeO.none _
      | refine LeO.ite ?_ ?_
      | refine LeO.bind ?_ (fun _ => ?_)
    · intro y0 y1
      unfold prep_goes.j4
      repeat' first
      | (with_reducible exact ih0 _ _)
      | (with_reducible exact ih1 _ _)
      | (with_reducible exact ih2 _ _)
      | (with_reducible exact ih3 _ _)
      | (with_reducible exact ih4 _ _)
      | (with_reducible exact ih5 _ _)
      | (with_reducible exact LeO.refl _)
      | (with_reducible exact LeO.none _)
      | (with_reducible refine LeO.ite ?_ ?_)
      | (with_reducible refine LeO.bind ?_ (fun _ => ?_))
      | exact ih0 _ _
      | exact ih1 _ _
      | exact ih2 _ _
      | exact ih3 _ _
      | exact ih4 _ _
      | exact ih5 _ _
      | exact LeO.none _
      | refine LeO.ite ?_ ?_
      | refine LeO.bind ?_ (fun _ => ?_)
    · intro y0 y1
      unfold prep_goes.j5
      repeat' first
      | (with_reducible exact ih0 _ _)
      | (with_reducible exact ih1 _ _)
      | (with_reducible exact ih2 _ _)
      | (with_reducible exact ih3 _ _)
      | (with_reducible exact ih4 _ _)
      | (with_reducible exact ih5 _ _)
      | (with_reducible exact LeO.refl _)
      | (with_reducible exact LeO.none _)
      | (with_reducible refine LeO.ite ?_ ?_)
      | (with_reducible refine LeO.bind ?_ (fun _ => ?_))
      | exact ih0 _ _
      | exact ih1 _ _
      | exact ih2 _ _
      | exact ih3 _ _
      | exact ih4 _ _
      | exact ih5 _ _
      | exact LeO.none _
      | refine LeO.ite ?_ ?_
      | refine LeO.bind ?_ (fun _ => ?_)
    · intro y0 y1
      unfold prep_goes.j1
      repeat' first
      | (with_reducible exact ih0 _ _)
      | (with_reducible exact ih1 _ _)
      | (with_reducible exact ih2 _ _)
      | (with_reducible exact ih3 _ _)
      | (with_reducible exact ih4 _ _)
      | (with_reducible exact ih5 _ _)
      | (with_reducible exact LeO.refl _)
      | (with_reducible exact LeO.none _)
      | (with_reducible refine LeO.ite ?_ ?_)
      | (with_reducible refine LeO.bind ?_ (fun _ => ?_))
      | exact ih0 _ _
      | exact ih1 _ _
      | exact ih2 _ _
      | exact ih3 _ _
      | exact ih4 _ _
      | exact ih5 _ _
      | exact LeO.none _
      | refine LeO.ite ?_ ?_
      | refine LeO.bind ?_ (fun _ => ?_)
theorem prep_goes.mono : ∀ a0 k, LeO (prep_goes.f k a0) (prep_goes.f (k + 1) a0) := by
  intro a0 k
  obtain ⟨ih0, ih1, ih2, ih3, ih4, ih5⟩ := prep_goes.mono_l k
  unfold prep_goes.f
  repeat' first
      | (with_reducible exact ih0 _ _)
      | (with_reducible exact ih1 _ _)
      | (with_reducible exact ih2 _ _)
      | (with_reducible exact ih3 _ _)
      | (with_reducible exact ih4 _ _)
      | (with_reducible exact ih5 _ _)
      | (with_reducible exact LeO.refl _)
      | (with_reducible exact LeO.none _)
      | (with_reducible refine LeO.ite ?_ ?_)
      | (with_reducible refine LeO.bind ?_ (fun _ => ?_))
      | exact ih0 _ _
      | exact ih1 _ _
      | exact ih2 _ _
      | exact ih3 _ _
      | exact ih4 _ _
      | exact ih5 _ _
      | exact LeO.none _
      | refine LeO.ite ?_ ?_
      | refine LeO.bind ?_ (fun _ => ?_)
set_option maxHeartbeats 8000000 in
set_option maxRecDepth 100000 in
theorem prep_goes.calls (k : Nat) (a0 : Int) (r : Bool) (w : World) (h : prep_goes.f k a0 = some r) :
    Calls Tryd.prog 19 #[.int .i32 a0] w fun e w' => e = .returned (.bool r) ∧ Drawn0 w w' := by
  have H : (if a0 ≥ 0 then (prep_goes.j0 k a0 (decide (a0 < 32))) else (prep_goes.j0 k a0 false)) = some r := h
  clear h
  have HC2 := Aside0.mk H
  clear H
  go_enter Tryd.func19, Tryd.ntmps19
  go_upto_region 1 with (fail)
  go_cut [3] (fun v3 wc => ∃ (kq : Nat) (x3_1 : Bool), v3 = .bool x3_1 ∧ Aside0 (prep_goes.j0 kq a0 x3_1 = some r) ∧ Aside0 (kq ≤ k) ∧ Drawn0 w wc)
  case first =>
    have H := HC2.out
    clear HC2
    by_cases c3 : a0 ≥ 0
    · rw [if_pos c3] at H
      have c3b0 : decide (0 ≤ a0) = true := decide_eq_true c3
      clear c3
      (first | rw [c3b0] | (simp only [i64_w, i32_w]; rw [c3b0]) | skip)
      have H' := Aside0.mk H
      clear H
      go_wp2
      go_meet
      case rel => exact ⟨_, (decide (a0 < 32)), (by first | rfl | (simp; done) | (simp [*]; done)), H', ⟨by first | omega | exact Nat.le_refl _⟩, by repeat (first | exact Drawn0.refl _ | apply Drawn0.step)⟩
    · rw [if_neg c3] at H
      have c3b0 : decide (0 ≤ a0) = false := decide_eq_false c3
      clear c3
      (first | rw [c3b0] | (simp only [i64_w, i32_w]; rw [c3b0]) | skip)
      have H' := Aside0.mk H
      clear H
      go_wp2
      go_meet
      case rel => exact ⟨_, (false), (by first | rfl | (simp; done) | (simp [*]; done)), H', ⟨by first | omega | exact Nat.le_refl _⟩, by repeat (first | exact Drawn0.refl _ | apply Drawn0.step)⟩
  case rest =>
    clear HC2
    try clear c1
    try clear p2
    try clear c3
    try clear c3b0
    obtain ⟨kq, x3_1, rfl, HA, HJ1, ⟨mc1, rfl⟩⟩ := hcut
    cases kq with
    | zero => exact absurd HA.out (by simp [prep_goes.j0])
    | succ kj1 =>
      have H := HA.out
      clear HA
      simp only [prep_goes.j0] at H
      have HC4 := Aside0.mk H
      clear H
      go_upto_if 3 with (fail)
      go_cut [3] (fun v3 wc => ∃ (kq : Nat) (x3_3 : Bool), v3 = .bool x3_3 ∧ Aside0 (prep_goes.j2 kq a0 x3_3 = some r) ∧ Aside0 (kq ≤ kj1) ∧ Drawn0 w wc)
      case first =>
        have H := HC4.out
        clear HC4
        by_cases c5 : x3_1 = true
        · subst c5
          have H1 : (prep_goes.j2 kj1 a0 true) = some r := by rw [if_pos rfl] at H; exact H
          clear H
          have H := H1
          clear H1
          have H' := Aside0.mk H
          clear H
          go_wp2
          go_meet
          case rel => exact ⟨_, (true), (by first | rfl | (simp; done) | (simp [*]; done)), H', ⟨by have := HJ1.out; first | omega | exact Nat.le_refl _⟩, by repeat (first | exact Drawn0.refl _ | apply Drawn0.step)⟩
        · replace c5 := Bool.eq_false_iff.mpr c5
          subst c5
          have H1 : (if a0 ≥ 127 then (prep_goes.j1 kj1 a0 (decide (a0 ≤ 159))) else (prep_goes.j1 kj1 a0 false)) = some r := by rw [if_neg (show ¬ (false = true) by decide)] at H; exact H
          clear H
          have H := H1
          clear H1
          have HC6 := Aside0.mk H
          clear H
          go_upto_region 2 with (fail)
          go_cut [3] (fun v3 wc => ∃ (kq : Nat) (x3_5 : Bool), v3 = .bool x3_5 ∧ Aside0 (prep_goes.j1 kq a0 x3_5 = some r) ∧ Aside0 (kq ≤ kj1) ∧ Drawn0 w wc)
          case first =>
            have H := HC6.out
            clear HC6
            by_cases c7 : a0 ≥ 127
            · rw [if_pos c7] at H
              have c7b0 : decide (127 ≤ a0) = true := decide_eq_true c7
              clear c7
              (first | rw [c7b0] | (simp only [i64_w, i32_w]; rw [c7b0]) | skip)
              have H' := Aside0.mk H
              clear H
              go_wp2
              go_meet
              case rel => exact ⟨_, (decide (a0 ≤ 159)), (by first | rfl | (simp; done) | (simp [*]; done)), H', ⟨by have := HJ1.out; first | omega | exact Nat.le_refl _⟩, by repeat (first | exact Drawn0.refl _ | apply Drawn0.step)⟩
            · rw [if_neg c7] at H
              have c7b0 : decide (127 ≤ a0) = false := decide_eq_false c7
              clear c7
              (first | rw [c7b0] | (simp only [i64_w, i32_w]; rw [c7b0]) | skip)
              have H' := Aside0.mk H
              clear H
              go_wp2
              go_meet
              case rel => exact ⟨_, (false), (by first | rfl | (simp; done) | (simp [*]; done)), H', ⟨by have := HJ1.out; first | omega | exact Nat.le_refl _⟩, by repeat (first | exact Drawn0.refl _ | apply Drawn0.step)⟩
          case rest =>
            clear HC6
            try clear c1
            try clear p2
            try clear c3
            try clear c3b0
            try clear c5
            try clear c7
            try clear c7b0
            try clear p2
            obtain ⟨kq, x3_5, rfl, HA, HJ5, ⟨mc5, rfl⟩⟩ := hcut
            cases kq with
            | zero => exact absurd HA.out (by simp [prep_goes.j1])
            | succ kj5 =>
              have H := HA.out
              clear HA
              simp only [prep_goes.j1] at H
              by_cases c8 : x3_5 = true
              · subst c8
                have H1 : (prep_goes.j2 kj5 a0 true) = some r := by rw [if_pos rfl] at H; exact H
                clear H
                have H := H1
                clear H1
                have H' := Aside0.mk H
                clear H
                go_wp2
                go_meet
                case rel => exact ⟨_, (true), (by first | rfl | (simp; done) | (simp [*]; done)), H', ⟨by have := HJ1.out; have := HJ5.out; first | omega | exact Nat.le_refl _⟩, by repeat (first | exact Drawn0.refl _ | apply Drawn0.step)⟩
              · replace c8 := Bool.eq_false_iff.mpr c8
                subst c8
                have H1 : (if a0 = 173 then (prep_goes.j2 kj5 a0 (a0 == 173)) else (if a0 = 847 then (prep_goes.j2 kj5 a0 (a0 == 847)) else (if a0 = 6150 then (prep_goes.j2 kj5 a0 (a0 == 6150)) else (if a0 ≥ 6155 then (prep_goes.j2 kj5 a0 (decide (a0 ≤ 6158))) else (prep_goes.j2 kj5 a0 false))))) = some r := by rw [if_neg (show ¬ (false = true) by decide)] at H; exact H
                clear H
                have H := H1
                clear H1
                by_cases c9 : a0 = 173
                · rw [if_pos c9] at H
                  have c9b0 : (a0 == 173) = true := beq_iff_eq.mpr c9
                  have c9b1 : (a0 != 173) = false := bne_eq_false_iff_eq.mpr c9
                  clear c9
                  have H' := Aside0.mk H
                  clear H
                  go_wp2
                  go_meet
                  case rel => exact ⟨_, ((a0 == 173)), (by first | rfl | (simp; done) | (simp [*]; done)), H', ⟨by have := HJ1.out; have := HJ5.out; first | omega | exact Nat.le_refl _⟩, by repeat (first | exact Drawn0.refl _ | apply Drawn0.step)⟩
                · rw [if_neg c9] at H
                  have c9b0 : (a0 == 173) = false := beq_eq_false_iff_ne.mpr c9
                  have c9b1 : (a0 != 173) = true := bne_iff_ne.mpr c9
                  by_cases c10 : a0 = 847
                  · rw [if_pos c10] at H
                    have c10b0 : (a0 == 847) = true := beq_iff_eq.mpr c10
                    have c10b1 : (a0 != 847) = false := bne_eq_false_iff_eq.mpr c10
                    clear c10
                    have H' := Aside0.mk H
                    clear H
                    go_wp2
                    go_meet
                    case rel => exact ⟨_, ((a0 == 847)), (by first | rfl | (simp; done) | (simp [*]; done)), H', ⟨by have := HJ1.out; have := HJ5.out; first | omega | exact Nat.le_refl _⟩, by repeat (first | exact Drawn0.refl _ | apply Drawn0.step)⟩
                  · rw [if_neg c10] at H
                    have c10b0 : (a0 == 847) = false := beq_eq_false_iff_ne.mpr c10
                    have c10b1 : (a0 != 847) = true := bne_iff_ne.mpr c10
                    by_cases c11 : a0 = 6150
                    · rw [if_pos c11] at H
                      have c11b0 : (a0 == 6150) = true := beq_iff_eq.mpr c11
                      have c11b1 : (a0 != 6150) = false := bne_eq_false_iff_eq.mpr c11
                      clear c11
                      have H' := Aside0.mk H
                      clear H
                      go_wp2
                      go_meet
                      case rel => exact ⟨_, ((a0 == 6150)), (by first | rfl | (simp; done) | (simp [*]; done)), H', ⟨by have := HJ1.out; have := HJ5.out; first | omega | exact Nat.le_refl _⟩, by repeat (first | exact Drawn0.refl _ | apply Drawn0.step)⟩
                    · rw [if_neg c11] at H
                      have c11b0 : (a0 == 6150) = false := beq_eq_false_iff_ne.mpr c11
                      have c11b1 : (a0 != 6150) = true := bne_iff_ne.mpr c11
                      by_cases c12 : a0 ≥ 6155
                      · rw [if_pos c12] at H
                        have c12b0 : decide (6155 ≤ a0) = true := decide_eq_true c12
                        clear c12
                        have H' := Aside0.mk H
                        clear H
                        go_wp2
                        go_meet
                        case rel => exact ⟨_, (decide (a0 ≤ 6158)), (by first | rfl | (simp; done) | (simp [*]; done)), H', ⟨by have := HJ1.out; have := HJ5.out; first | omega | exact Nat.le_refl _⟩, by repeat (first | exact Drawn0.refl _ | apply Drawn0.step)⟩
                      · rw [if_neg c12] at H
                        have c12b0 : decide (6155 ≤ a0) = false := decide_eq_false c12
                        clear c12
                        have H' := Aside0.mk H
                        clear H
                        go_wp2
                        go_meet
                        case rel => exact ⟨_, (false), (by first | rfl | (simp; done) | (simp [*]; done)), H', ⟨by have := HJ1.out; have := HJ5.out; first | omega | exact Nat.le_refl _⟩, by repeat (first | exact Drawn0.refl _ | apply Drawn0.step)⟩
      case rest =>
        clear HC4
        try clear c1
        try clear p2
        try clear c3
        try clear c3b0
        try clear c5
        try clear c7
        try clear c7b0
        try clear c8
        try clear c9
        try clear c9b0
        try clear c9b1
        try clear c10
        try clear c10b0
        try clear c10b1
        try clear c11
        try clear c11b0
        try clear c11b1
        try clear c12
        try clear c12b0
        try clear p2
        obtain ⟨kq, x3_3, rfl, HA, HJ3, ⟨mc3, rfl⟩⟩ := hcut
        cases kq with
        | zero => exact absurd HA.out (by simp [prep_goes.j2])
        | succ kj3 =>
          have H := HA.out
          clear HA
          simp only [prep_goes.j2] at H
          by_cases c13 : x3_3 = true
          · subst c13
            have H1 : (some true) = some r := by rw [if_pos rfl] at H; exact H
            clear H
            have H := H1
            clear H1
            obtain rfl := Option.some.inj H
            go_wp2
            go_ret
            exact ⟨by first | rfl | (simp; done) | (simp [*]; done), by repeat (first | exact Drawn0.refl _ | apply Drawn0.step)⟩
          · replace c13 := Bool.eq_false_iff.mpr c13
            subst c13
            have H1 : (if a0 ≥ 8203 then (prep_goes.j3 kj3 a0 (decide (a0 ≤ 8207))) else (prep_goes.j3 kj3 a0 false)) = some r := by rw [if_neg (show ¬ (false = true) by decide)] at H; exact H
            clear H
            have H := H1
            clear H1
            have HC14 := Aside0.mk H
            clear H
            go_upto_region 8 with (fail)
            go_cut [28] (fun v28 wc => ∃ (kq : Nat) (x28_13 : Bool), v28 = .bool x28_13 ∧ Aside0 (prep_goes.j3 kq a0 x28_13 = some r) ∧ Aside0 (kq ≤ kj3) ∧ Drawn0 w wc)
            case first =>
              have H := HC14.out
              clear HC14
              by_cases c15 : a0 ≥ 8203
              · rw [if_pos c15] at H
                have c15b0 : decide (8203 ≤ a0) = true := decide_eq_true c15
                clear c15
                (first | rw [c15b0] | (simp only [i64_w, i32_w]; rw [c15b0]) | skip)
                have H' := Aside0.mk H
                clear H
                go_wp2
                go_meet
                case rel => exact ⟨_, (decide (a0 ≤ 8207)), (by first | rfl | (simp; done) | (simp [*]; done)), H', ⟨by have := HJ1.out; have := HJ3.out; first | omega | exact Nat.le_refl _⟩, by repeat (first | exact Drawn0.refl _ | apply Drawn0.step)⟩
              · rw [if_neg c15] at H
                have c15b0 : decide (8203 ≤ a0) = false := decide_eq_false c15
                clear c15
                (first | rw [c15b0] | (simp only [i64_w, i32_w]; rw [c15b0]) | skip)
                have H' := Aside0.mk H
                clear H
                go_wp2
                go_meet
                case rel => exact ⟨_, (false), (by first | rfl | (simp; done) | (simp [*]; done)), H', ⟨by have := HJ1.out; have := HJ3.out; first | omega | exact Nat.le_refl _⟩, by repeat (first | exact Drawn0.refl _ | apply Drawn0.step)⟩
            case rest =>
              clear HC14
              try clear c1
              try clear p2
              try clear c3
              try clear c3b0
              try clear c5
              try clear c7
              try clear c7b0
              try clear c8
              try clear c9
              try clear c9b0
              try clear c9b1
              try clear c10
              try clear c10b0
              try clear c10b1
              try clear c11
              try clear c11b0
              try clear c11b1
              try clear c12
              try clear c12b0
              try clear c13
              try clear c15
              try clear c15b0
              try clear p2
              obtain ⟨kq, x28_13, rfl, HA, HJ13, ⟨mc13, rfl⟩⟩ := hcut
              cases kq with
              | zero => exact absurd HA.out (by simp [prep_goes.j3])
              | succ kj13 =>
                have H := HA.out
                clear HA
                simp only [prep_goes.j3] at H
                have HC16 := Aside0.mk H
                clear H
                go_upto_if 28 with (fail)
                go_cut [28] (fun v28 wc => ∃ (kq : Nat) (x28_15 : Bool), v28 = .bool x28_15 ∧ Aside0 (prep_goes.j4 kq a0 x28_15 = some r) ∧ Aside0 (kq ≤ kj13) ∧ Drawn0 w wc)
                case first =>
                  have H := HC16.out
                  clear HC16
                  by_cases c17 : x28_13 = true
                  · subst c17
                    have H1 : (prep_goes.j4 kj13 a0 true) = some r := by rw [if_pos rfl] at H; exact H
                    clear H
                    have H := H1
                    clear H1
                    have H' := Aside0.mk H
                    clear H
                    go_wp2
                    go_meet
                    case rel => exact ⟨_, (true), (by first | rfl | (simp; done) | (simp [*]; done)), H', ⟨by have := HJ1.out; have := HJ3.out; have := HJ13.out; first | omega | exact Nat.le_refl _⟩, by repeat (first | exact Drawn0.refl _ | apply Drawn0.step)⟩
                  · replace c17 := Bool.eq_false_iff.mpr c17
                    subst c17
                    have H1 : (if a0 ≥ 8234 then (if a0 ≤ 8238 then (prep_goes.j4 kj13 a0 (decide (a0 ≤ 8238))) else (if a0 ≥ 8288 then (prep_goes.j4 kj13 a0 (decide (a0 ≤ 8303))) else (prep_goes.j4 kj13 a0 false))) else (if a0 ≥ 8288 then (prep_goes.j4 kj13 a0 (decide (a0 ≤ 8303))) else (prep_goes.j4 kj13 a0 false))) = some r := by rw [if_neg (show ¬ (false = true) by decide)] at H; exact H
                    clear H
                    have H := H1
                    clear H1
                    by_cases c18 : a0 ≥ 8234
                    · rw [if_pos c18] at H
                      have c18b0 : decide (8234 ≤ a0) = true := decide_eq_true c18
                      clear c18
                      (first | rw [c18b0] | (simp only [i64_w, i32_w]; rw [c18b0]) | skip)
                      by_cases c19 : a0 ≤ 8238
                      · rw [if_pos c19] at H
                        have c19b0 : decide (a0 ≤ 8238) = true := decide_eq_true c19
                        clear c19
                        have H' := Aside0.mk H
                        clear H
                        go_wp2
                        go_meet
                        case rel => exact ⟨_, (decide (a0 ≤ 8238)), (by first | rfl | (simp; done) | (simp [*]; done)), H', ⟨by have := HJ1.out; have := HJ3.out; have := HJ13.out; first | omega | exact Nat.le_refl _⟩, by repeat (first | exact Drawn0.refl _ | apply Drawn0.step)⟩
                      · rw [if_neg c19] at H
                        have c19b0 : decide (a0 ≤ 8238) = false := decide_eq_false c19
                        clear c19
                        by_cases c20 : a0 ≥ 8288
                        · rw [if_pos c20] at H
                          have c20b0 : decide (8288 ≤ a0) = true := decide_eq_true c20
                          clear c20
                          have H' := Aside0.mk H
                          clear H
                          go_wp2
                          go_meet
                          case rel => exact ⟨_, (decide (a0 ≤ 8303)), (by first | rfl | (simp; done) | (simp [*]; done)), H', ⟨by have := HJ1.out; have := HJ3.out; have := HJ13.out; first | omega | exact Nat.le_refl _⟩, by repeat (first | exact Drawn0.refl _ | apply Drawn0.step)⟩
                        · rw [if_neg c20] at H
                          have c20b0 : decide (8288 ≤ a0) = false := decide_eq_false c20
                          clear c20
                          have H' := Aside0.mk H
                          clear H
                          go_wp2
                          go_meet
                          case rel => exact ⟨_, (false), (by first | rfl | (simp; done) | (simp [*]; done)), H', ⟨by have := HJ1.out; have := HJ3.out; have := HJ13.out; first | omega | exact Nat.le_refl _⟩, by repeat (first | exact Drawn0.refl _ | apply Drawn0.step)⟩
                    · rw [if_neg c18] at H
                      have c18b0 : decide (8234 ≤ a0) = false := decide_eq_false c18
                      clear c18
                      (first | rw [c18b0] | (simp only [i64_w, i32_w]; rw [c18b0]) | skip)
                      by_cases c21 : a0 ≥ 8288
                      · rw [if_pos c21] at H
                        have c21b0 : decide (8288 ≤ a0) = true := decide_eq_true c21
                        clear c21
                        have H' := Aside0.mk H
                        clear H
                        go_wp2
                        go_meet
                        case rel => exact ⟨_, (decide (a0 ≤ 8303)), (by first | rfl | (simp; done) | (simp [*]; done)), H', ⟨by have := HJ1.out; have := HJ3.out; have := HJ13.out; first | omega | exact Nat.le_refl _⟩, by repeat (first | exact Drawn0.refl _ | apply Drawn0.step)⟩
                      · rw [if_neg c21] at H
                        have c21b0 : decide (8288 ≤ a0) = false := decide_eq_false c21
                        clear c21
                        have H' := Aside0.mk H
                        clear H
                        go_wp2
                        go_meet
                        case rel => exact ⟨_, (false), (by first | rfl | (simp; done) | (simp [*]; done)), H', ⟨by have := HJ1.out; have := HJ3.out; have := HJ13.out; first | omega | exact Nat.le_refl _⟩, by repeat (first | exact Drawn0.refl _ | apply Drawn0.step)⟩
                case rest =>
                  clear HC16
                  try clear c1
                  try clear c2
                  try clear p2
                  try clear c3
                  try clear c3b0
                  try clear c5
                  try clear c7
                  try clear c7b0
                  try clear c8
                  try clear c9
                  try clear c9b0
                  try clear c9b1
                  try clear c10
                  try clear c10b0
                  try clear c10b1
                  try clear c11
                  try clear c11b0
                  try clear c11b1
                  try clear c12
                  try clear c12b0
                  try clear c13
                  try clear c15
                  try clear c15b0
                  try clear c17
                  try clear c18
                  try clear c18b0
                  try clear c19
                  try clear c19b0
                  try clear c20
                  try clear c20b0
                  try clear c21
                  try clear c21b0
                  try clear p2
                  obtain ⟨kq, x28_15, rfl, HA, HJ15, ⟨mc15, rfl⟩⟩ := hcut
                  cases kq with
                  | zero => exact absurd HA.out (by simp [prep_goes.j4])
                  | succ kj15 =>
                    have H := HA.out
                    clear HA
                    simp only [prep_goes.j4] at H
                    by_cases c22 : x28_15 = true
                    · subst c22
                      have H1 : (some true) = some r := by rw [if_pos rfl] at H; exact H
                      clear H
                      have H := H1
                      clear H1
                      obtain rfl := Option.some.inj H
                      go_wp2
                      go_ret
                      exact ⟨by first | rfl | (simp; done) | (simp [*]; done), by repeat (first | exact Drawn0.refl _ | apply Drawn0.step)⟩
                    · replace c22 := Bool.eq_false_iff.mpr c22
                      subst c22
                      have H1 : (if a0 ≥ 65024 then (prep_goes.j5 kj15 a0 (decide (a0 ≤ 65039))) else (prep_goes.j5 kj15 a0 false)) = some r := by rw [if_neg (show ¬ (false = true) by decide)] at H; exact H
                      clear H
                      have H := H1
                      clear H1
                      have HC23 := Aside0.mk H
                      clear H
                      go_upto_region 12 with (fail)
                      go_cut [47] (fun v47 wc => ∃ (kq : Nat) (x47_22 : Bool), v47 = .bool x47_22 ∧ Aside0 (prep_goes.j5 kq a0 x47_22 = some r) ∧ Aside0 (kq ≤ kj15) ∧ Drawn0 w wc)
                      case first =>
                        have H := HC23.out
                        clear HC23
                        by_cases c24 : a0 ≥ 65024
                        · rw [if_pos c24] at H
                          have c24b0 : decide (65024 ≤ a0) = true := decide_eq_true c24
                          clear c24
                          (first | rw [c24b0] | (simp only [i64_w, i32_w]; rw [c24b0]) | skip)
                          have H' := Aside0.mk H
                          clear H
                          go_wp2
                          go_meet
                          case rel => exact ⟨_, (decide (a0 ≤ 65039)), (by first | rfl | (simp; done) | (simp [*]; done)), H', ⟨by have := HJ1.out; have := HJ3.out; have := HJ13.out; have := HJ15.out; first | omega | exact Nat.le_refl _⟩, by repeat (first | exact Drawn0.refl _ | apply Drawn0.step)⟩
                        · rw [if_neg c24] at H
                          have c24b0 : decide (65024 ≤ a0) = false := decide_eq_false c24
                          clear c24
                          (first | rw [c24b0] | (simp only [i64_w, i32_w]; rw [c24b0]) | skip)
                          have H' := Aside0.mk H
                          clear H
                          go_wp2
                          go_meet
                          case rel => exact ⟨_, (false), (by first | rfl | (simp; done) | (simp [*]; done)), H', ⟨by have := HJ1.out; have := HJ3.out; have := HJ13.out; have := HJ15.out; first | omega | exact Nat.le_refl _⟩, by repeat (first | exact Drawn0.refl _ | apply Drawn0.step)⟩
                      case rest =>
                        clear HC23
                        try clear c1
                        try clear c2
                        try clear p2
                        try clear c3
                        try clear c3b0
                        try clear c5
                        try clear c7
                        try clear c7b0
                        try clear c8
                        try clear c9
                        try clear c9b0
                        try clear c9b1
                        try clear c10
                        try clear c10b0
                        try clear c10b1
                        try clear c11
                        try clear c11b0
                        try clear c11b1
                        try clear c12
                        try clear c12b0
                        try clear c13
                        try clear c15
                        try clear c15b0
                        try clear c17
                        try clear c18
                        try clear c18b0
                        try clear c19
                        try clear c19b0
                        try clear c20
                        try clear c20b0
                        try clear c21
                        try clear c21b0
                        try clear c22
                        try clear c24
                        try clear c24b0
                        try clear p2
                        obtain ⟨kq, x47_22, rfl, HA, HJ22, ⟨mc22, rfl⟩⟩ := hcut
                        cases kq with
                        | zero => exact absurd HA.out (by simp [prep_goes.j5])
                        | succ kj22 =>
                          have H := HA.out
                          clear HA
                          simp only [prep_goes.j5] at H
                          by_cases c25 : x47_22 = true
                          · subst c25
                            have H1 : (some true) = some r := by rw [if_pos rfl] at H; exact H
                            clear H
                            have H := H1
                            clear H1
                            obtain rfl := Option.some.inj H
                            go_wp2
                            go_ret
                            exact ⟨by first | rfl | (simp; done) | (simp [*]; done), by repeat (first | exact Drawn0.refl _ | apply Drawn0.step)⟩
                          · replace c25 := Bool.eq_false_iff.mpr c25
                            subst c25
                            have H1 : (if a0 = 65279 then (some true) else (if a0 ≥ 65529 then (if a0 ≤ 65532 then (some true) else (some false)) else (some false))) = some r := by rw [if_neg (show ¬ (false = true) by decide)] at H; exact H
                            clear H
                            have H := H1
                            clear H1
                            by_cases c26 : a0 = 65279
                            · rw [if_pos c26] at H
                              have c26b0 : (a0 == 65279) = true := beq_iff_eq.mpr c26
                              have c26b1 : (a0 != 65279) = false := bne_eq_false_iff_eq.mpr c26
                              clear c26
                              obtain rfl := Option.some.inj H
                              go_wp2
                              go_ret
                              exact ⟨by first | rfl | (simp; done) | (simp [*]; done), by repeat (first | exact Drawn0.refl _ | apply Drawn0.step)⟩
                            · rw [if_neg c26] at H
                              have c26b0 : (a0 == 65279) = false := beq_eq_false_iff_ne.mpr c26
                              have c26b1 : (a0 != 65279) = true := bne_iff_ne.mpr c26
                              by_cases c27 : a0 ≥ 65529
                              · rw [if_pos c27] at H
                                have c27b0 : decide (65529 ≤ a0) = true := decide_eq_true c27
                                clear c27
                                by_cases c28 : a0 ≤ 65532
                                · rw [if_pos c28] at H
                                  have c28b0 : decide (a0 ≤ 65532) = true := decide_eq_true c28
                                  clear c28
                                  obtain rfl := Option.some.inj H
                                  go_wp2
                                  go_ret
                                  exact ⟨by first | rfl | (simp; done) | (simp [*]; done), by repeat (first | exact Drawn0.refl _ | apply Drawn0.step)⟩
                                · rw [if_neg c28] at H
                                  have c28b0 : decide (a0 ≤ 65532) = false := decide_eq_false c28
                                  clear c28
                                  obtain rfl := Option.some.inj H
                                  go_wp2
                                  go_ret
                                  exact ⟨by first | rfl | (simp; done) | (simp [*]; done), by repeat (first | exact Drawn0.refl _ | apply Drawn0.step)⟩
                              · rw [if_neg c27] at H
                                have c27b0 : decide (65529 ≤ a0) = false := decide_eq_false c27
                                clear c27
                                obtain rfl := Option.some.inj H
                                go_wp2
                                go_ret
                                exact ⟨by first | rfl | (simp; done) | (simp [*]; done), by repeat (first | exact Drawn0.refl _ | apply Drawn0.step)⟩

/-! ### prep_isRefused: function 20 -/
def prep_isRefused.f (a0 : Int) : Option (Bool) := if a0 < 0 then (some true) else (if a0 ≥ 55296 then (if a0 ≤ 63743 then (some true) else (if a0 ≥ 65533 then (if a0 ≤ 65535 then (some true) else (some (decide (a0 ≥ 983040)))) else (some (decide (a0 ≥ 983040))))) else (if a0 ≥ 65533 then (if a0 ≤ 65535 then (some true) else (some (decide (a0 ≥ 983040)))) else (some (decide (a0 ≥ 983040)))))
set_option maxHeartbeats 8000000 in
set_option maxRecDepth 100000 in
theorem prep_isRefused.calls (a0 : Int) (r : Bool) (w : World) (h : prep_isRefused.f a0 = some r) :
    Calls Tryd.prog 20 #[.int .i32 a0] w fun e w' => e = .returned (.bool r) ∧ Drawn0 w w' := by
  have H : (if a0 < 0 then (some true) else (if a0 ≥ 55296 then (if a0 ≤ 63743 then (some true) else (if a0 ≥ 65533 then (if a0 ≤ 65535 then (some true) else (some (decide (a0 ≥ 983040)))) else (some (decide (a0 ≥ 983040))))) else (if a0 ≥ 65533 then (if a0 ≤ 65535 then (some true) else (some (decide (a0 ≥ 983040)))) else (some (decide (a0 ≥ 983040)))))) = some r := h
  clear h
  by_cases c2 : a0 < 0
  · rw [if_pos c2] at H
    have c2b0 : decide (a0 < 0) = true := decide_eq_true c2
    clear c2
    obtain rfl := Option.some.inj H
    go_enter Tryd.func20, Tryd.ntmps20
    go_wp2
    go_ret
    exact ⟨by first | rfl | (simp; done) | (simp [*]; done), by repeat (first | exact Drawn0.refl _ | apply Drawn0.step)⟩
  · rw [if_neg c2] at H
    have c2b0 : decide (a0 < 0) = false := decide_eq_false c2
    clear c2
    by_cases c3 : a0 ≥ 55296
    · rw [if_pos c3] at H
      have c3b0 : decide (55296 ≤ a0) = true := decide_eq_true c3
      clear c3
      by_cases c4 : a0 ≤ 63743
      · rw [if_pos c4] at H
        have c4b0 : decide (a0 ≤ 63743) = true := decide_eq_true c4
        clear c4
        obtain rfl := Option.some.inj H
        go_enter Tryd.func20, Tryd.ntmps20
        go_wp2
        go_ret
        exact ⟨by first | rfl | (simp; done) | (simp [*]; done), by repeat (first | exact Drawn0.refl _ | apply Drawn0.step)⟩
      · rw [if_neg c4] at H
        have c4b0 : decide (a0 ≤ 63743) = false := decide_eq_false c4
        clear c4
        by_cases c5 : a0 ≥ 65533
        · rw [if_pos c5] at H
          have c5b0 : decide (65533 ≤ a0) = true := decide_eq_true c5
          clear c5
          by_cases c6 : a0 ≤ 65535
          · rw [if_pos c6] at H
            have c6b0 : decide (a0 ≤ 65535) = true := decide_eq_true c6
            clear c6
            obtain rfl := Option.some.inj H
            go_enter Tryd.func20, Tryd.ntmps20
            go_wp2
            go_ret
            exact ⟨by first | rfl | (simp; done) | (simp [*]; done), by repeat (first | exact Drawn0.refl _ | apply Drawn0.step)⟩
          · rw [if_neg c6] at H
            have c6b0 : decide (a0 ≤ 65535) = false := decide_eq_false c6
            clear c6
            obtain rfl := Option.some.inj H
            go_enter Tryd.func20, Tryd.ntmps20
            go_wp2
            go_ret
            exact ⟨by first | rfl | (simp; done) | (simp [*]; done), by repeat (first | exact Drawn0.refl _ | apply Drawn0.step)⟩
        · rw [if_neg c5] at H
          have c5b0 : decide (65533 ≤ a0) = false := decide_eq_false c5
          clear c5
          obtain rfl := Option.some.inj H
          go_enter Tryd.func20, Tryd.ntmps20
          go_wp2
          go_ret
          exact ⟨by first | rfl | (simp; done) | (simp [*]; done), by repeat (first | exact Drawn0.refl _ | apply Drawn0.step)⟩
    · rw [if_neg c3] at H
      have c3b0 : decide (55296 ≤ a0) = false := decide_eq_false c3
      clear c3
      by_cases c7 : a0 ≥ 65533
      · rw [if_pos c7] at H
        have c7b0 : decide (65533 ≤ a0) = true := decide_eq_true c7
        clear c7
        by_cases c8 : a0 ≤ 65535
        · rw [if_pos c8] at H
          have c8b0 : decide (a0 ≤ 65535) = true := decide_eq_true c8
          clear c8
          obtain rfl := Option.some.inj H
          go_enter Tryd.func20, Tryd.ntmps20
          go_wp2
          go_ret
          exact ⟨by first | rfl | (simp; done) | (simp [*]; done), by repeat (first | exact Drawn0.refl _ | apply Drawn0.step)⟩
        · rw [if_neg c8] at H
          have c8b0 : decide (a0 ≤ 65535) = false := decide_eq_false c8
          clear c8
          obtain rfl := Option.some.inj H
          go_enter Tryd.func20, Tryd.ntmps20
          go_wp2
          go_ret
          exact ⟨by first | rfl | (simp; done) | (simp [*]; done), by repeat (first | exact Drawn0.refl _ | apply Drawn0.step)⟩
      · rw [if_neg c7] at H
        have c7b0 : decide (65533 ≤ a0) = false := decide_eq_false c7
        clear c7
        obtain rfl := Option.some.inj H
        go_enter Tryd.func20, Tryd.ntmps20
        go_wp2
        go_ret
        exact ⟨by first | rfl | (simp; done) | (simp [*]; done), by repeat (first | exact Drawn0.refl _ | apply Drawn0.step)⟩

end Go.Proofs.YtdfdponenhfbjaaDoor.PFn
