/- The walk of the law DnJoined: true at every name and part. Conditions: a name and a part that read, of sizes that a row bounds; the listed tables hold what the program lays in them. -/
import Derived.Test.YtneclgjjnnldpaaDoorMe
namespace Go.Proofs.YtneclgjjnnldpaaDoor.Rd
open Go Go.RowKit Go.Lib Go.Proofs.YtneclgjjnnldpaaDoor.PFn Go.Proofs.YtneclgjjnnldpaaDoor.Dp Go.Proofs.YtneclgjjnnldpaaDoorW.PrintWords Go.Proofs.YtneclgjjnnldpaaDoor.Rk

theorem R_view {α : Type} {d : Kd α} {e : Nat} {w : World} {base : Nat} {ok : Nat → Prop} {A : Option Addr} {k : Nat} {xs : List α} (h : d.R e w base ok (.slice A xs.length k) xs) : xs.length ≤ k ∧ d.C w A xs.length xs := by
  obtain ⟨A', c', he, hl, hC⟩ := Kd.R_reads h
  injection he with h1 _ h3
  subst h1 h3
  exact ⟨hl, hC⟩
theorem small_of {d : List (List S39)} (h1 : d.length ≤ 1000000000) (h2 : ∀ r ∈ d, OkR r) : Small d := ⟨h1, fun r hr => (h2 r hr).z⟩
theorem same_yes {A0 : Option Addr} {c0 : Nat} {A1 : Option Addr} {c1 : Nat} {l : List (List S39)} {w : World} (h0 : kR.C w A0 l.length l) (hc0 : l.length ≤ c0) (h1 : kR.C w A1 l.length l) (hc1 : l.length ≤ c1) (hS : Small l) :
    Calls Tryd.prog 11 #[.slice A0 l.length c0, .slice A1 l.length c1] w fun e w' => e = .returned (.bool true) ∧ Below w.heap.size w w' := by
  have := same_c A0 c0 l A1 c1 l w h0 hc0 h1 hc1 (by have := hS.z; omega) (fun r hr => by have := hS.zz r hr; omega)
  rwa [decide_eq_true rfl] at this
def TrueP (w : World) (e : Ending) (w' : World) : Prop := e = .returned (.bool true) ∧ Below w.heap.size w w'
set_option maxHeartbeats 2000000 in
set_option maxRecDepth 100000 in
theorem dnJoined_c (A : Option Addr) (c : Nat) (d : List (List S39)) (B : Option Addr) (k : Nat) (r : List S39) (w : World) (hd : kR.C w A d.length d) (hdc : d.length ≤ c) (hO : OkD d) (hr : kA.C w B r.length r) (hrc : r.length ≤ k) (hOr : OkR r) (hE : Env w) :
    Calls Tryd.prog 3 #[.slice A d.length c, .slice B r.length k] w (TrueP w) := by
  have cA := fun W (hW : Env W) => alive_c W hW
  by_cases h1 : 200 < d.length
  · have h1i : (200 : Int) < (d.length : Int) := by omega
    clear hd hr
    go_enter Tryd.func3, Tryd.ntmps3
    go_wp2_with fail
    refine (cA _ hE).mono ?_
    rintro e w1 ⟨rfl, hb⟩
    go_wp2
    go_ret
    exact ⟨rfl, hb⟩
  · have h1i : ¬ (200 : Int) < (d.length : Int) := by omega
    have h1d : decide ((200 : Int) < (d.length : Int)) = false := decide_eq_false h1i
    by_cases h2 : 200 < r.length
    · have h2i : (200 : Int) < (r.length : Int) := by omega
      clear hd hr
      go_enter Tryd.func3, Tryd.ntmps3
      go_wp2_with fail
      refine (cA _ hE).mono ?_
      rintro e w1 ⟨rfl, hb⟩
      go_wp2
      go_ret
      exact ⟨rfl, hb⟩
    · have h2i : ¬ (200 : Int) < (r.length : Int) := by omega
      have h2d : decide ((200 : Int) < (r.length : Int)) = false := decide_eq_false h2i
      have hS1 : Small (r :: d) := small_of (by simp; omega) (fun x hx => by
        rcases List.mem_cons.1 hx with rfl | hx
        · exact hOr
        · exact hO.r x hx)
      have hS : Small d := small_of (by omega) hO.r
      have cJ := joinD_c B k r A c d w hr hrc hd hS1
      have HD := Aside0.mk hd
      clear hd hr
      go_enter Tryd.func3, Tryd.ntmps3
      go_wp2_with fail
      refine cJ.mono ?_
      rintro e w1 ⟨A1, k1, rfl, hR1, hb1⟩
      obtain ⟨hl1, hC1⟩ := R_view hR1
      have cP := parent_c A1 k1 (r :: d) w1 hC1 hl1 hS1
      go_wp2_with fail
      refine cP.mono ?_
      rintro e w2 ⟨A2, k2, rfl, hR2, hb2⟩
      have hdr : (r :: d).drop 1 = d := rfl
      rw [hdr] at hR2
      rw [show decide (0 < (r :: d).length) = true from rfl, hdr]
      obtain ⟨hl2, hC2⟩ := R_view hR2
      have hb12 := below_seq hb1 hb2
      have cS := same_yes hC2 hl2 (Kd.C_below HD.out hb12) hdc hS
      go_wp2_with fail
      refine cS.mono ?_
      rintro e w3 ⟨rfl, hb3⟩
      have hb13 := below_seq hb12 hb3
      have cP2 := parent_c A c d w3 (Kd.C_below HD.out hb13) hdc hS
      clear hC1 hC2 hR1 hR2 cS cP cJ hdr
      go_wp2_with fail
      refine cP2.mono ?_
      rintro e w4 ⟨A4, k4, rfl, hR4, hb4⟩
      have hb14 := below_seq hb13 hb4
      go_wp2_with fail
      refine (cA _ (hE.below hb14)).mono ?_
      rintro e w5 ⟨rfl, hb5⟩
      have hb15 := below_seq hb14 hb5
      cases d with
      | nil =>
        go_wp2
        go_ret
        exact ⟨rfl, hb15⟩
      | cons x t =>
        obtain ⟨ad, B0, c0, hAd, h0, h1, h2⟩ := at_rdn (Kd.C_below HD.out hb15) 0 (by simp)
        have htr : (x :: t).drop 1 = t := rfl
        rw [htr] at hR4
        obtain ⟨hl4, hC4⟩ := R_view hR4
        have hS5 : Small (x :: t) := hS
        have cJ := joinD_c B0 c0 x A4 k4 t w5 h2 h1 (Kd.C_below hC4 hb5) hS5
        simp only [List.getElem_cons_zero] at h0 h1 h2 cJ
        subst hAd
        replace h0 : w5.cell? ad = some (.slice B0 x.length c0) := h0
        have hlen : (((x :: t).length : Nat) : Int) - 1 = (t.length : Int) := by simp
        have h0i : (0 : Int) < ((x :: t).length : Int) := by simp
        clear hC4 hR4 cP2 h2 cA
        rw [show ((x :: t).length - 1 : Nat) = t.length from rfl]
        rw [show decide (0 < (x :: t).length) = true from rfl]
        go_wp2_with fail
        refine cJ.mono ?_
        rintro e w6 ⟨A6, k6, rfl, hR6, hb6⟩
        obtain ⟨hl6, hC6⟩ := R_view hR6
        have hb16 := below_seq hb15 hb6
        have cS := same_yes hC6 hl6 (Kd.C_below HD.out hb16) hdc hS
        clear hR6 hC6 cJ
        simp only [List.length_cons] at cS
        go_wp2_with fail
        refine cS.mono ?_
        rintro e w7 ⟨rfl, hb7⟩
        go_wp2
        go_ret
        exact ⟨rfl, below_seq hb16 hb7⟩
end Go.Proofs.YtneclgjjnnldpaaDoor.Rd
