/- The walk of the law DnParses: true at every text. Conditions: a text of at most 2^47 bytes; the listed tables hold what the program lays in them. -/
import Derived.Test.YtneclgjjnnldpaaDoorKr
namespace Go.Proofs.YtneclgjjnnldpaaDoor.Rd
open Go Go.RowKit Go.Lib Go.Proofs.YtneclgjjnnldpaaDoor.PFn Go.Proofs.YtneclgjjnnldpaaDoor.Dp Go.Proofs.YtneclgjjnnldpaaDoorW.PrintWords Go.Proofs.YtneclgjjnnldpaaDoor.Rk

theorem parse_small {s : Bs} (hz : s.length ≤ 70000) : Small ((parseL s).1.map sR) := by
  unfold parseL
  split
  · exact ⟨by simp, fun r hr => by cases hr⟩
  · split
    · exact ⟨by simp, fun r hr => by cases hr⟩
    · next d hd =>
      split
      · exact ⟨by simp, fun r hr => by cases hr⟩
      · have := nameL_cnt hd
        refine ⟨by simp; omega, fun r hr => ?_⟩
        obtain ⟨p, hp, rfl⟩ := List.mem_map.1 hr
        have := this.2 p hp
        have h2 : (sR p).length = p.length := List.length_map _
        omega
theorem parseRdn_small {s : Bs} (hz : s.length ≤ 70000) : (sR (parseRdnL s).1).length ≤ 70000 := by
  have h0 : ∀ p : List Ava, (sR p).length = p.length := fun p => List.length_map _
  rw [h0]
  unfold parseRdnL
  split
  · simp
  · split
    · simp
    · next d hd =>
      split
      · split
        · simp
        · next h1 _ =>
          obtain ⟨p, rfl⟩ := List.length_eq_one_iff.1 h1
          have := (nameL_cnt hd).2 p (by simp)
          show p.length ≤ 70000
          omega
      · simp
theorem sameR_yes {A0 : Option Addr} {c0 : Nat} {A1 : Option Addr} {c1 : Nat} {l : List S39} {w : World} (h0 : kA.C w A0 l.length l) (hc0 : l.length ≤ c0) (h1 : kA.C w A1 l.length l) (hc1 : l.length ≤ c1) (hz : l.length ≤ 70000) :
    Calls Tryd.prog 18 #[.slice A0 l.length c0, .slice A1 l.length c1] w fun e w' => e = .returned (.bool true) ∧ Below w.heap.size w w' :=
  (chanceryref4_SameRdn.calls (l.length + 1) A0 c0 l A1 c1 l true w h0 hc0 h1 hc1 (by rw [sameR_f l l (by omega) _ (by omega), decide_eq_true rfl])).mono fun e w' ⟨he, hd⟩ => ⟨he, hd.below⟩
theorem ParseP.open_ {w w' : World} {r : List (List Ava) × Nat} {e : Ending} {xs : List (List S39)} (h : ParseP w r e w') (hx : r.1.map sR = xs) : ∃ A c, e = .returned (.tuple #[.slice A xs.length c, .int .i64 (r.2 : Int)]) ∧ xs.length ≤ c ∧ kR.C w' A xs.length xs ∧ Below w.heap.size w w' := by
  obtain ⟨v, he, hR, hb⟩ := h
  rw [hx] at hR
  obtain ⟨A, c, rfl⟩ := Kd.R_slice hR
  obtain ⟨hc, hC⟩ := R_view hR
  exact ⟨A, c, he, hc, hC, hb⟩
theorem RdnP.open_ {w w' : World} {r : List Ava × Nat} {e : Ending} {xs : List S39} (h : RdnP w r e w') (hx : sR r.1 = xs) : ∃ A c, e = .returned (.tuple #[.slice A xs.length c, .int .i64 (r.2 : Int)]) ∧ xs.length ≤ c ∧ kA.C w' A xs.length xs ∧ Below w.heap.size w w' := by
  subst hx
  exact h
set_option maxHeartbeats 2000000 in
set_option maxRecDepth 100000 in
theorem dnParses_c (s : ByteArray) (w : World) (hz : s.size ≤ 140737488351232) (hE : Env w) : Calls Tryd.prog 7 #[.string s] w (TrueP w) := by
  have cA := fun W (hW : Env W) => alive_c W hW
  by_cases h1 : 70000 < s.size
  · have h1i : (70000 : Int) < (s.size : Int) := by omega
    go_enter Tryd.func7, Tryd.ntmps7
    go_wp2_with fail
    refine (cA _ hE).mono ?_
    rintro e w1 ⟨rfl, hb⟩
    go_wp2
    go_ret
    exact ⟨rfl, hb⟩
  · have h1i : ¬ (70000 : Int) < (s.size : Int) := by omega
    have cP := parse_c s w hE hz
    have cQ := fun W => refParse_c s W hz
    have cR := fun W (hW : Env W) => parseRdn_c s W hW hz
    have cT := fun W => refParseRdn_c s W hz
    have HS := Aside0.mk (parse_small (s := bl s) (by rw [bl_size]; omega))
    have HT := Aside0.mk (parseRdn_small (s := bl s) (by rw [bl_size]; omega))
    have cI := fun W (hW : Env W) => isType_c s W hz hW
    have cJ := fun W => refType_c s W hz
    generalize isType (bl s) = b at *
    generalize parseL (bl s) = P at *
    generalize parseRdnL (bl s) = R at *
    obtain ⟨xs, hxs⟩ : ∃ xs, P.1.map sR = xs := ⟨_, rfl⟩
    obtain ⟨ys, hys⟩ : ∃ ys, sR R.1 = ys := ⟨_, rfl⟩
    rw [hxs] at HS
    rw [hys] at HT
    have HX := Aside0.mk hxs
    have HY := Aside0.mk hys
    clear hxs hys
    go_enter Tryd.func7, Tryd.ntmps7
    go_wp2_with fail
    refine cP.mono ?_
    intro e w1 hq
    obtain ⟨A1, c1, rfl, hc1, hC1, hb1⟩ := hq.open_ HX.out
    have HC1 := Aside0.mk hC1
    clear hq cP hC1
    go_wp2_with fail
    refine (cQ w1).mono ?_
    intro e w2 hq
    obtain ⟨A2, c2, rfl, hc2, hC2, hb2⟩ := hq.open_ HX.out
    have HC2 := Aside0.mk hC2
    have hb02 := below_seq hb1 hb2
    clear hq cQ hC2
    go_wp2_with fail
    refine (cR w2 (hE.below hb02)).mono ?_
    intro e w3 hq
    obtain ⟨A3, c3, rfl, hc3, hC3, hb3⟩ := hq.open_ HY.out
    have HC3 := Aside0.mk hC3
    have hb03 := below_seq hb02 hb3
    clear hq cR hC3
    go_wp2_with fail
    refine (cT w3).mono ?_
    intro e w4 hq
    obtain ⟨A4, c4, rfl, hc4, hC4, hb4⟩ := hq.open_ HY.out
    have HC4 := Aside0.mk hC4
    have hb04 := below_seq hb03 hb4
    clear hq cT hC4
    go_wp2_with fail
    refine (cA _ (hE.below hb04)).mono ?_
    rintro e w5 ⟨rfl, hb5⟩
    have hb05 := below_seq hb04 hb5
    have cS := same_yes (Kd.C_below HC1.out (below_seq hb2 (below_seq hb3 (below_seq hb4 hb5)))) hc1 (Kd.C_below HC2.out (below_seq hb3 (below_seq hb4 hb5))) hc2 HS.out
    go_wp2_with fail
    refine cS.mono ?_
    rintro e w6 ⟨rfl, hb6⟩
    have hb06 := below_seq hb05 hb6
    have cS2 := sameR_yes (Kd.C_below HC3.out (below_seq hb4 (below_seq hb5 hb6))) hc3 (Kd.C_below HC4.out (below_seq hb5 hb6)) hc4 HT.out
    clear cS
    go_wp2_with fail
    refine cS2.mono ?_
    rintro e w7 ⟨rfl, hb7⟩
    have hb07 := below_seq hb06 hb7
    clear cS2
    go_wp2_with fail
    refine (cI _ (hE.below hb07)).mono ?_
    rintro e w8 ⟨rfl, hb8⟩
    have hb08 := below_seq hb07 hb8
    clear cI
    go_wp2_with fail
    refine (cJ _).mono ?_
    rintro e w9 ⟨rfl, q, rfl⟩
    go_wp2
    go_ret
    exact ⟨rfl, pw_below_drewN hb08 _⟩
end Go.Proofs.YtneclgjjnnldpaaDoor.Rd
