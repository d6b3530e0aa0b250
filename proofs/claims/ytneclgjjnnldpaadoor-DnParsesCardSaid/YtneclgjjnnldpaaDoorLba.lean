/- The walk of the law DnBack: true at every name and text. Conditions: a name that reads, of a size that a row bounds; the listed tables hold what the program lays in them. -/
import Derived.Test.YtneclgjjnnldpaaDoorLjo
namespace Go.Proofs.YtneclgjjnnldpaaDoor.Dp
theorem print_any (D : List (List Ava)) : (printL D = ([], 2) ∨ printL D = ([], 30)) ∨ ∃ t, printL D = (t, 0) ∧ t.length ≤ 65536 ∧ parseL t = (D, 0) := by
  unfold printL
  split
  · exact .inl (.inr rfl)
  · next hw =>
    split
    · exact .inl (.inl rfl)
    · next hl =>
      split
      · exact .inl (.inl rfl)
      · next hz =>
        refine .inr ⟨_, rfl, by omega, ?_⟩
        unfold parseL
        rw [if_neg hz, name_read 0 (by simpa using hw)]
        dsimp only
        rw [if_neg hl]
theorem print_cases {X : List (List Ava)} (hw : wrong X = false) (hl : tooLong X = false) : printL X = ([], 2) ∨ ∃ t, printL X = (t, 0) ∧ parseL t = (X, 0) := by
  rcases print_any X with (h | h) | ⟨t, h, _, hb⟩
  · exact .inl h
  · unfold printL at h
    rw [if_neg (by rw [hw]; decide), if_neg (by rw [hl]; decide)] at h
    split at h <;> simp at h
  · exact .inr ⟨t, h, hb⟩
theorem print_short {X : List (List Ava)} {t : Bs} (h : printL X = (t, 0)) : t.length ≤ 65536 := by
  rcases print_any X with (h2 | h2) | ⟨t2, h2, hz, _⟩
  · rw [h2] at h; cases h
  · rw [h2] at h; cases h
  · rw [h2] at h; injection h with h; rw [← h]; exact hz
theorem parse_cases (s : Bs) : (∃ _ : True, parseL s = ([], 2) ∨ parseL s = ([], 30)) ∨ ∃ X, parseL s = (X, 0) ∧ wrong X = false ∧ tooLong X = false := by
  unfold parseL
  split
  · exact .inl ⟨trivial, .inl rfl⟩
  · split
    · exact .inl ⟨trivial, .inr rfl⟩
    · next d hd =>
      split
      · exact .inl ⟨trivial, .inl rfl⟩
      · next hl => exact .inr ⟨d, rfl, name_right hd, by simpa using hl⟩
end Go.Proofs.YtneclgjjnnldpaaDoor.Dp
namespace Go.Proofs.YtneclgjjnnldpaaDoor.Rd
open Go Go.RowKit Go.Lib Go.Proofs.YtneclgjjnnldpaaDoor.PFn Go.Proofs.YtneclgjjnnldpaaDoor.Dp Go.Proofs.YtneclgjjnnldpaaDoorW.PrintWords Go.Proofs.YtneclgjjnnldpaaDoor.Rk

theorem read_fine {X : List (List Ava)} (hw : wrong X = false) (hl : tooLong X = false) : Fine (X.map sR) ∧ Small (X.map sR) := by
  obtain ⟨h1, h2⟩ := pair_short (d := X.map sR) (by rw [dP_sR]; exact hw) (by rw [dP_sR]; exact hl)
  refine ⟨⟨by omega, fun r hr => ?_, fun r hr x hx => ?_⟩, ⟨by omega, fun r hr => ?_⟩⟩
  · have := (h2 r hr).1; omega
  · have := ((h2 r hr).2 x hx).1; omega
  · have := (h2 r hr).1; omega
set_option maxHeartbeats 4000000 in
set_option maxRecDepth 100000 in
theorem dnBack_c (A : Option Addr) (c : Nat) (d : List (List S39)) (s : ByteArray) (w : World) (hd : kR.C w A d.length d) (hdc : d.length ≤ c) (hO : OkD d) (hE : Env w) :
    Calls Tryd.prog 4 #[.slice A d.length c, .string s] w (TrueP w) := by
  by_cases h1 : 200 < d.length
  · have h1i : (200 : Int) < (d.length : Int) := by omega
    clear hd
    go_enter Tryd.func4, Tryd.ntmps4
    go_wp2_with fail
    refine (alive_c _ hE).mono ?_
    rintro e w1 ⟨rfl, hb⟩
    go_wp2
    go_ret
    exact ⟨rfl, hb⟩
  have h1i : ¬ (200 : Int) < (d.length : Int) := by omega
  have h1d : decide ((200 : Int) < (d.length : Int)) = false := decide_eq_false h1i
  by_cases h2 : 9000 < s.size
  · have h2i : (9000 : Int) < (s.size : Int) := by omega
    clear hd
    go_enter Tryd.func4, Tryd.ntmps4
    go_wp2_with fail
    refine (alive_c _ hE).mono ?_
    rintro e w1 ⟨rfl, hb⟩
    go_wp2
    go_ret
    exact ⟨rfl, hb⟩
  have h2i : ¬ (9000 : Int) < (s.size : Int) := by omega
  have h2d : decide ((9000 : Int) < (s.size : Int)) = false := decide_eq_false h2i
  have hSd : Small d := small_of (by omega) hO.r
  have HD := Aside0.mk hd
  have cT := print_c A c d w hd hO.fine hE
  clear hd
  go_enter Tryd.func4, Tryd.ntmps4
  rcases print_any (dP d) with hq | ⟨t, hq, htz, hback⟩
  · rcases hq with hq | hq
    all_goals
      rw [hq] at cT
      clear hq
      go_wp2_with fail
      refine cT.mono ?_
      rintro e w0 ⟨rfl, hb0⟩
      clear cT
      have hE0 := hE.below hb0
      rcases parse_cases (bl s) with ⟨hp, hp⟩ | ⟨X, hp, hXw, hXl⟩
      · rcases hp with hp | hp
        all_goals
          have cP := parse_c s w0 hE0 (by omega)
          rw [hp] at cP
          clear hp
          go_wp2_with fail
          refine cP.mono ?_
          rintro e w1 ⟨v, rfl, hR, hb1⟩
          obtain ⟨A1, c1, rfl, _, _⟩ := Kd.R_reads hR
          rw [show (([] : List (List Ava)).map sR).length = 0 from rfl]
          clear hR cP
          have hb01 := below_seq hb0 hb1
          go_wp2_with fail
          refine (alive_c _ (hE.below hb01)).mono ?_
          rintro e w2 ⟨rfl, hb2⟩
          go_wp2
          go_ret
          exact ⟨rfl, below_seq hb01 hb2⟩
      · have cP := parse_c s w0 hE0 (by omega)
        rw [hp] at cP
        obtain ⟨hF, hS⟩ := read_fine hXw hXl
        have hdp := dP_sR X
        go_wp2_with fail
        refine cP.mono ?_
        rintro e w1 ⟨v, rfl, hR, hb1⟩
        dsimp only at hR
        generalize X.map sR = xs at *
        obtain ⟨A1, c1, rfl, hl1, hC1⟩ := Kd.R_reads hR
        have hb01 := below_seq hb0 hb1
        have cT := print_c A1 c1 xs w1 hC1 hF (hE.below hb01)
        rw [hdp] at cT
        have HC1 := Aside0.mk hC1
        clear hR cP hC1 hp
        rcases print_cases hXw hXl with hq | ⟨t, hq, hback⟩
        · rw [hq] at cT
          clear hq
          go_wp2_with fail
          refine cT.mono ?_
          rintro e w2 ⟨rfl, hb2⟩
          have hb02 := below_seq hb01 hb2
          clear cT
          go_wp2_with fail
          refine (alive_c _ (hE.below hb02)).mono ?_
          rintro e w3 ⟨rfl, hb3⟩
          go_wp2
          go_ret
          exact ⟨rfl, below_seq hb02 hb3⟩
        · rw [hq] at cT
          have htz : t.length ≤ 65536 := print_short hq
          clear hq
          go_wp2_with fail
          refine cT.mono ?_
          rintro e w2 ⟨rfl, hb2⟩
          have hb02 := below_seq hb01 hb2
          have cP2 := parse_c ⟨t.toArray⟩ w2 (hE.below hb02) (by show t.toArray.size ≤ _; simp; omega)
          rw [show bl ⟨t.toArray⟩ = t from rfl, hback] at cP2
          clear cT
          go_wp2_with fail
          refine cP2.mono ?_
          rintro e w3 ⟨v, rfl, hR3, hb3⟩
          dsimp only at hR3
          rw [show X.map sR = xs from by rw [← hdp, sR_dP]] at hR3
          obtain ⟨A3, c3, rfl, hl3, hC3⟩ := Kd.R_reads hR3
          have hb03 := below_seq hb02 hb3
          clear cP2 hR3
          go_wp2_with fail
          refine (alive_c _ (hE.below hb03)).mono ?_
          rintro e w4 ⟨rfl, hb4⟩
          have hb04 := below_seq hb03 hb4
          have cS := same_yes (Kd.C_below HC1.out (below_seq hb2 (below_seq hb3 hb4))) hl1 (Kd.C_below hC3 hb4) hl3 hS
          clear hC3
          go_wp2_with fail
          refine cS.mono ?_
          rintro e w5 ⟨rfl, hb5⟩
          go_wp2
          go_ret
          exact ⟨rfl, below_seq hb04 hb5⟩
  · rw [hq] at cT
    clear hq
    go_wp2_with fail
    refine cT.mono ?_
    rintro e w6 ⟨rfl, hb6⟩
    have cP0 := parse_c ⟨t.toArray⟩ w6 (hE.below hb6) (by show t.toArray.size ≤ _; simp; omega)
    rw [show bl ⟨t.toArray⟩ = t from rfl, hback] at cP0
    clear cT
    go_wp2_with fail
    refine cP0.mono ?_
    rintro e w7 ⟨v, rfl, hR7, hb7⟩
    dsimp only at hR7
    rw [sR_dP] at hR7
    obtain ⟨A7, c7, rfl, hl7, hC7⟩ := Kd.R_reads hR7
    have hb67 := below_seq hb6 hb7
    have cS0 := same_yes hC7 hl7 (Kd.C_below HD.out hb67) hdc hSd
    clear hR7 cP0 hC7
    go_wp2_with fail
    refine cS0.mono ?_
    rintro e w0 ⟨rfl, hb00⟩
    have hb0 := below_seq hb67 hb00
    clear cS0 HD
    have hE0 := hE.below hb0
    rcases parse_cases (bl s) with ⟨hp, hp⟩ | ⟨X, hp, hXw, hXl⟩
    · rcases hp with hp | hp
      all_goals
        have cP := parse_c s w0 hE0 (by omega)
        rw [hp] at cP
        clear hp
        go_wp2_with fail
        refine cP.mono ?_
        rintro e w1 ⟨v, rfl, hR, hb1⟩
        obtain ⟨A1, c1, rfl, _, _⟩ := Kd.R_reads hR
        rw [show (([] : List (List Ava)).map sR).length = 0 from rfl]
        clear hR cP
        have hb01 := below_seq hb0 hb1
        go_wp2_with fail
        refine (alive_c _ (hE.below hb01)).mono ?_
        rintro e w2 ⟨rfl, hb2⟩
        go_wp2
        go_ret
        exact ⟨rfl, below_seq hb01 hb2⟩
    · have cP := parse_c s w0 hE0 (by omega)
      rw [hp] at cP
      obtain ⟨hF, hS⟩ := read_fine hXw hXl
      have hdp := dP_sR X
      go_wp2_with fail
      refine cP.mono ?_
      rintro e w1 ⟨v, rfl, hR, hb1⟩
      dsimp only at hR
      generalize X.map sR = xs at *
      obtain ⟨A1, c1, rfl, hl1, hC1⟩ := Kd.R_reads hR
      have hb01 := below_seq hb0 hb1
      have cT := print_c A1 c1 xs w1 hC1 hF (hE.below hb01)
      rw [hdp] at cT
      have HC1 := Aside0.mk hC1
      clear hR cP hC1 hp
      rcases print_cases hXw hXl with hq | ⟨t, hq, hback⟩
      · rw [hq] at cT
        clear hq
        go_wp2_with fail
        refine cT.mono ?_
        rintro e w2 ⟨rfl, hb2⟩
        have hb02 := below_seq hb01 hb2
        clear cT
        go_wp2_with fail
        refine (alive_c _ (hE.below hb02)).mono ?_
        rintro e w3 ⟨rfl, hb3⟩
        go_wp2
        go_ret
        exact ⟨rfl, below_seq hb02 hb3⟩
      · rw [hq] at cT
        have htz : t.length ≤ 65536 := print_short hq
        clear hq
        go_wp2_with fail
        refine cT.mono ?_
        rintro e w2 ⟨rfl, hb2⟩
        have hb02 := below_seq hb01 hb2
        have cP2 := parse_c ⟨t.toArray⟩ w2 (hE.below hb02) (by show t.toArray.size ≤ _; simp; omega)
        rw [show bl ⟨t.toArray⟩ = t from rfl, hback] at cP2
        clear cT
        go_wp2_with fail
        refine cP2.mono ?_
        rintro e w3 ⟨v, rfl, hR3, hb3⟩
        dsimp only at hR3
        rw [show X.map sR = xs from by rw [← hdp, sR_dP]] at hR3
        obtain ⟨A3, c3, rfl, hl3, hC3⟩ := Kd.R_reads hR3
        have hb03 := below_seq hb02 hb3
        clear cP2 hR3
        go_wp2_with fail
        refine (alive_c _ (hE.below hb03)).mono ?_
        rintro e w4 ⟨rfl, hb4⟩
        have hb04 := below_seq hb03 hb4
        have cS := same_yes (Kd.C_below HC1.out (below_seq hb2 (below_seq hb3 hb4))) hl1 (Kd.C_below hC3 hb4) hl3 hS
        clear hC3
        go_wp2_with fail
        refine cS.mono ?_
        rintro e w5 ⟨rfl, hb5⟩
        go_wp2
        go_ret
        exact ⟨rfl, below_seq hb04 hb5⟩
end Go.Proofs.YtneclgjjnnldpaaDoor.Rd
