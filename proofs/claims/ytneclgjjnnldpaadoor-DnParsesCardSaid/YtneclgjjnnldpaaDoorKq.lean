/- The walk of the reference's pair: one pair is read as the plain function reads it; where that reads none, it tells so, or stops ahead of a byte that no name goes on with. Conditions: a text of at most 10^6 bytes. -/
import Derived.Test.YtneclgjjnnldpaaDoorKo
namespace Go.Proofs.YtneclgjjnnldpaaDoor.Rd
open Go Go.RowKit Go.Lib Go.Proofs.YtneclgjjnnldpaaDoor.PFn Go.Proofs.YtneclgjjnnldpaaDoor.Dp Go.Proofs.YtneclgjjnnldpaaDoorW.PrintWords Go.Proofs.YtneclgjjnnldpaaDoor.Rk
set_option maxHeartbeats 40000000 in
set_option maxRecDepth 100000 in
theorem pairD_c {w0 w : World} {g i : Nat} {s : ByteArray} {l : Bs} (h : Sd w0 w w g s i) (hl : Lr s i l) (hs : s.size ≤ 1000000) :
    Calls Tryd.prog 52 #[.pointer (some ⟨g, 0, none⟩)] w (PairR w0 w g s (pairL l)) := by
  obtain ⟨ANS, hA⟩ : ∃ b, pairL l = b := ⟨_, rfl⟩
  rw [hA]
  have HA := Aside0.mk hA
  have hglt := h.lt
  have h0 := h.size0
  clear hA
  go_enter Tryd.func52, Tryd.ntmps52
  go_wp2_with fail
  have hR0 : Ab (w.alloc (Obj.cells #[Value.string { data := #[] }, Value.string { data := #[] }] 39)) w.heap.size ⟨#[]⟩ ⟨#[]⟩ := blk_new w _
  have hst0 := h.below (below_alloc (Below.refl _ w) (Obj.cells #[Value.string { data := #[] }, Value.string { data := #[] }] 39))
  generalize w.alloc (Obj.cells #[Value.string { data := #[] }, Value.string { data := #[] }] 39) = W0 at *
  have neR : w.heap.size ≠ g := by omega
  refine (blanksD_c hst0.self hl hs).mono ?_
  rintro e w1 ⟨rfl, k, hst1, hl1⟩
  have hp1 := hst0.trans hst1
  have hR1 := hR0.keep hst1.2.2 neR
  have c1 := hp1.c1
  have hks := hl1.2
  clear hR0 hst1
  go_upto_block 0 with fail
  go_cut [] (fun wx => ∃ (j : Nat) (m : Bs), Sd w0 w wx g s j ∧ Lr s j m ∧ k ≤ j ∧ bl (s.extract k j) = (blanks l).takeWhile inTypeB ∧ (s.extract k j).size ≤ s.size ∧ (blanks l).dropWhile inTypeB = m ∧ Ab wx w.heap.size ⟨#[]⟩ ⟨#[]⟩)
  case first =>
    as_aux_lemma =>
      go_wp2_with fail
      go_loopw [] (fun wr => TwRd inTypeB w0 w g s k (blanks l) (fun W => Ab W w.heap.size ⟨#[]⟩ ⟨#[]⟩) wr) (fun wr => md s g wr)
      case atStart => exact ⟨k, blanks l, hp1, hl1, Nat.le_refl _, by rw [Nat.sub_self]; rfl, rfl, hR1⟩
      case round =>
        clear c1 hp1 hR1
        obtain ⟨j, m, hst, hm, hij, htw, hdw, hR⟩ := hrel
        have hB := hst.bk
        have c0 := hst.c0
        have c1 := hst.c1
        have hjs := hm.2
        have fz := hst.fz
        by_cases hgo : ∃ x r, m = x :: r ∧ inTypeB x = true
        · obtain ⟨x, r, rfl, hx⟩ := hgo
          have HM := Aside0.mk (tw_more hl1 hm hij hx htw hdw)
          have hj := hm.lt
          have hxx : ((s[j]'hj).toNat : Int) = (x.toNat : Int) := by rw [hm.at_]
          have hji : (j : Int) < (s.size : Int) := by omega
          have cL : ∀ W n, Calls Tryd.prog 35 #[.int .u8 (x.toNat : Int)] (World.drewN W n) fun e w'' => e = .returned (.bool (letterB x)) ∧ ∃ q, w'' = W.drewN q := fun W n => @quiet_let x W n
          have cD : ∀ W n, Calls Tryd.prog 36 #[.int .u8 (x.toNat : Int)] (World.drewN W n) fun e w'' => e = .returned (.bool (digitB x)) ∧ ∃ q, w'' = W.drewN q := fun W n => @quiet_dgt x W n
          have HX := Aside0.mk hx
          have HR := Aside0.mk hR
          clear htw hdw hx hR
          have hfin : ∀ q, Sd w0 w ((wr.drewN q).setCell ⟨g, 1, none⟩ (.int .i64 ((j + 1 : Nat) : Int))) g s (j + 1) := fun q => (hst.drewN q).set (j + 1)
          have HFIN := Aside0.mk hfin
          clear hfin
          cases hL : letterB x
          case' true =>
            rw [hL] at cL
            clear hL cD
            go_wp2_with fail
            go_quiet (first | (go_at_call 35; exact cL _ _))
          case' false =>
            rw [hL] at cL
            cases hD : digitB x
            case' true =>
              rw [hD] at cD
              clear hL hD
              go_wp2_with fail
              go_quiet (first | (go_at_call 35; exact cL _ _) | (go_at_call 36; exact cD _ _))
            case' false =>
              rw [hD] at cD
              by_cases h45 : x = 45
              case' pos =>
                subst h45
                clear hL hD
                go_wp2_with fail
                go_quiet (first | (go_at_call 35; exact cL _ _) | (go_at_call 36; exact cD _ _))
              case' neg =>
                have h46 : x = 46 := by
                  have := HX.out
                  unfold inTypeB at this
                  rw [hL, hD] at this
                  simpa [h45] using this
                subst h46
                clear hL hD h45
                go_wp2_with fail
                go_quiet (first | (go_at_call 35; exact cL _ _) | (go_at_call 36; exact cD _ _))
          all_goals
            go_wp2
            have hst2 := HFIN.out nq
            exact ⟨⟨j + 1, r, hst2, hm.next, by omega, HM.out.1, HM.out.2, HR.out.far (p := ⟨g, 1, none⟩) neR _⟩, by rw [md_eq hB, show (j : Int) + 1 = ((j + 1 : Nat) : Int) from rfl, md_eq hst2.bk]; omega⟩
        · have hstop : ∀ c ∈ m.head?, inTypeB c = false := by
            intro c hc
            cases m with
            | nil => cases hc
            | cons x r =>
              have : c = x := by simpa using hc.symm
              subst this
              cases hn : inTypeB c with
              | false => rfl
              | true => exact absurd ⟨c, r, rfl, hn⟩ hgo
          obtain ⟨hpc, hpz, hdr⟩ := tw_end hl1 hstop htw hdw
          have HDR := Aside0.mk hdr
          have HPC := Aside0.mk hpc
          have HST := Aside0.mk hstop
          have HR := Aside0.mk hR
          have HL1 := Aside0.mk hl1
          clear hpc hdr htw hdw hgo hstop hR hl1
          cases m
          case' nil =>
            have hend := hm.nil
            have hji : ¬ (j : Int) < (s.size : Int) := by omega
            have hjd : decide (j < s.size) = false := decide_eq_false (by omega)
            clear hend
            go_wp2_with fail
            go_quiet (fail)
            clear hji hjd
          case' cons x r =>
            have hj := hm.lt
            have hxx : ((s[j]'hj).toNat : Int) = (x.toNat : Int) := by rw [hm.at_]
            have hji : (j : Int) < (s.size : Int) := by omega
            have hno : letterB x = false ∧ digitB x = false ∧ x ≠ 45 ∧ x ≠ 46 := by
              have := HST.out x (by simp)
              unfold inTypeB at this
              simp only [Bool.or_eq_false_iff] at this
              exact ⟨this.1.1.1, this.1.1.2, by simpa using this.1.2, by simpa using this.2⟩
            obtain ⟨hL, hD, h45, h46⟩ := hno
            have n45 : ((x.toNat : Int) == 45) = false := byte_ne (n := 45) h45
            have n46 : ((x.toNat : Int) == 46) = false := byte_ne (n := 46) h46
            have cL : ∀ W n, Calls Tryd.prog 35 #[.int .u8 (x.toNat : Int)] (World.drewN W n) fun e w'' => e = .returned (.bool false) ∧ ∃ q, w'' = W.drewN q := fun W n => by have := @quiet_let x W n; rw [hL] at this; exact this
            have cD : ∀ W n, Calls Tryd.prog 36 #[.int .u8 (x.toNat : Int)] (World.drewN W n) fun e w'' => e = .returned (.bool false) ∧ ∃ q, w'' = W.drewN q := fun W n => by have := @quiet_dgt x W n; rw [hD] at this; exact this
            clear hL hD h45 h46
            go_wp2_with fail
            go_quiet (first | (go_at_call 35; exact cL _ _) | (go_at_call 36; exact cD _ _))
            clear cL cD n45 n46 hxx hj hji
          all_goals
            have hst2 := hst.drewN nq
            have hR2 : Ab (wr.drewN nq) w.heap.size ⟨#[]⟩ ⟨#[]⟩ := HR.out
            clear hst hB c0 c1 fz HR HST
            go_wp2_with fail
            go_meet
            exact ⟨j, _, hst2, hm, hij, HPC.out, hpz, HDR.out, hR2⟩
  case rest =>
    clear c1 hp1 hR1
    obtain ⟨j, m, hst2, hm, hkj, hpc, hpz, hdr, hR2⟩ := hcut
    have c0 := hst2.c0
    have c1 := hst2.c1
    have hjs := hm.2
    clear hl1 hks hst0 h
    obtain ⟨T, hT⟩ : ∃ T, s.extract k j = T := ⟨_, rfl⟩
    go_wp2_with fail
    go_region_held3 (fun w' => w'.cell? ⟨g, 0, none⟩ = some (.string s) ∧ w'.cell? ⟨g, 1, none⟩ = some (.int .i64 (j : Int))) (go_keep) (fail)
    have hp3 : Sd w0 w (wc.alloc (Obj.cells #[Value.string T, Value.string { data := #[] }] 39)).drew g s j := (hst2.below (below_alloc (Below.refl _ wc) (Obj.cells #[Value.string T, Value.string { data := #[] }] 39))).drewN 1
    have hR3 : Ab (wc.alloc (Obj.cells #[Value.string T, Value.string { data := #[] }] 39)).drew w.heap.size ⟨#[]⟩ ⟨#[]⟩ := blk_alloc hR2 _
    have hX3 : Ab (wc.alloc (Obj.cells #[Value.string T, Value.string { data := #[] }] 39)).drew wc.heap.size T ⟨#[]⟩ := blk_new wc _
    have hXl : w.heap.size < wc.heap.size := hR2.lt
    obtain ⟨X, hXX⟩ : ∃ X, wc.heap.size = X := ⟨_, rfl⟩
    rw [hXX] at hX3 hXl ⊢
    have neX : X ≠ g := by omega
    have hTz : T.size ≤ 1000000 := by rw [← hT]; omega
    have HP := Aside0.mk (pairL_ty (T := T) (by rw [← hT]; exact hpc) hdr)
    clear hXX hst2 hR2 c0 c1 hpc hdr hpz hT
    generalize (wc.alloc (Obj.cells #[Value.string T, Value.string { data := #[] }] 39)).drew = w3 at *
    go_wp2_with fail
    refine (blanksD_c hp3.self hm hs).mono ?_
    rintro e w4 ⟨rfl, j4, hst4, hl4⟩
    have hp4 := hp3.trans hst4
    have hR4 := hR3.keep hst4.2.2 neR
    have hX4 := hX3.keep hst4.2.2 neX
    have e0 := hX4.c0
    have e1 := hX4.c1
    clear hp3 hR3 hX3 hst4 hm hjs hkj
    by_cases hbad : ¬ (isType (bl T) = true ∧ ∃ r, blanks m = 61 :: r)
    · have hans : ANS = none := by
        rw [← HA.out, HP.out]
        by_cases hty : isType (bl T) = true
        · rw [if_pos hty]
          cases hb : blanks m with
          | nil => rfl
          | cons c r =>
            have : c ≠ 61 := fun e => hbad ⟨hty, r, by rw [hb, e]⟩
            simp [this]
        · rw [if_neg hty]
      subst hans
      have a0 := hR4.c0
      have a1 := hR4.c1
      have g0 := hR4.f 0
      have g1 := hR4.f 1
      by_cases hty : isType (bl T) = true
      case' pos =>
        have cI := refType_d hty hTz
        have hne := head_no (m := blanks m) (c := 61) (fun h => hbad ⟨hty, h⟩)
        clear hty hbad
        go_wp2_with fail
        refine (cI _).mono ?_
        rintro e w5 ⟨rfl, q, rfl⟩
        clear cI
        have hp5 := hp4.drewN q
        have cQ := isD_lit hp5.self hl4 61 61 rfl hne
        go_wp2_with fail
        refine cQ.mono ?_
        rintro e w6 ⟨rfl, hst6⟩
        have hp6 := hp5.trans hst6
        have hR6 := Ab.keep (w := w4.drewN q) hR4 hst6.2.2 neR
        have hX6 := Ab.keep (w := w4.drewN q) hX4 hst6.2.2 neX
        clear cQ hst6 hp4 hp5 hR4 hX4 e0 e1 a0 a1 g0 g1
      case' neg =>
        have cI := refType_d (eq_false_of_ne_true hty) hTz
        clear hty hbad
        go_wp2_with fail
        refine (cI _).mono ?_
        rintro e w6 ⟨rfl, q, rfl⟩
        have hp6 := hp4.drewN q
        have hR6 : Ab (w4.drewN q) w.heap.size ⟨#[]⟩ ⟨#[]⟩ := hR4
        have hX6 : Ab (w4.drewN q) X T ⟨#[]⟩ := hX4
        clear cI hp4 hR4 hX4 e0 e1 a0 a1 g0 g1
        generalize w4.drewN q = w6 at *
      all_goals
        have a0 := hR6.c0
        have a1 := hR6.c1
        have g0 := hR6.f 0
        have g1 := hR6.f 1
        have e0 := hX6.c0
        have e1 := hX6.c1
        go_wp2_with fail
        have hpb := (hp6.far (b := w.heap.size) (k := 0) (Nat.le_refl _) h0 hglt (.string T)).far (b := w.heap.size) (k := 1) (Nat.le_refl _) h0 hglt (.string ⟨#[]⟩)
        have hb := (hR6.set0 T).set1 ⟨#[]⟩
        generalize (w6.setCell ⟨w.heap.size, 0, none⟩ (.string T)).setCell ⟨w.heap.size, 1, none⟩ (.string ⟨#[]⟩) = wb at *
        clear a0 a1 g0 g1
        have r0 := hb.c0
        have r1 := hb.c1
        refine bodyPost_ret (v := .tuple #[.agg #[.string T, .string ⟨#[]⟩], .bool false]) (by simp [results, Tryd.results52, go_sem, r0, r1]) rfl ?_
        exact ⟨(bl T, []), false, j4, _, rfl, hpb, hl4, fun h => by cases h⟩
    · obtain ⟨hty, r, hr⟩ := Classical.not_not.1 hbad
      have hans : ANS = (valueL (blanks r)).map fun y => ((bl T, y.1), blanks y.2) := by rw [← HA.out, HP.out, if_pos hty, hr]; rfl
      rw [hr] at hl4
      have cI := refType_d hty hTz
      clear hty hbad hr HP HA
      have HANS := Aside0.mk hans
      clear hans
      go_wp2_with fail
      refine (cI _).mono ?_
      rintro e w5 ⟨rfl, q, rfl⟩
      clear cI
      have hp5 := hp4.drewN q
      have cQ := isD_lit hp5.self hl4 61 61 rfl (b := true) rfl
      go_wp2_with fail
      refine cQ.mono ?_
      rintro e w6 ⟨rfl, hst6⟩
      have hp6 := hp5.trans hst6
      have hR6 := Ab.keep (w := w4.drewN q) hR4 hst6.2.2 neR
      have hX6 := Ab.keep (w := w4.drewN q) hX4 hst6.2.2 neX
      clear cQ hst6 hp4 hp5 hR4 hX4 e0 e1
      have c1 := hp6.c1
      have fz := hp6.fz
      have hj4 := hl4.lt
      have hl5 := hl4.next
      go_wp2_with fail
      have hp7 := hp6.set (j4 + 1)
      have hR7 := hR6.far (p := ⟨g, 1, none⟩) neR (.int .i64 ((j4 + 1 : Nat) : Int))
      have hX7 := hX6.far (p := ⟨g, 1, none⟩) neX (.int .i64 ((j4 + 1 : Nat) : Int))
      rw [show ((j4 + 1 : Nat) : Int) = (j4 : Int) + 1 from rfl] at hp7 hR7 hX7
      clear c1 fz hp6 hR6 hX6
      generalize w6.setCell ⟨g, 1, none⟩ (.int .i64 ((j4 : Int) + 1)) = w7 at *
      refine (blanksD_c hp7.self hl5 hs).mono ?_
      rintro e w8 ⟨rfl, j8, hst8, hl8⟩
      have hp8 := hp7.trans hst8
      have hR8 := hR7.keep hst8.2.2 neR
      have hX8 := hX7.keep hst8.2.2 neX
      clear hst8 hp7 hR7 hX7 hl4 hl5 hj4
      by_cases hh : ∃ v, blanks r = 35 :: v
      · as_aux_lemma =>
          obtain ⟨v, hv⟩ := hh
          rw [hv] at hl8 HANS
          have HANS2 : Aside0 (ANS = (hexL v).map fun y => ((bl T, y.1), blanks y.2)) := ⟨HANS.out⟩
          clear HANS hv
          have cQ := isD_lit hp8.self hl8 35 35 rfl (b := true) rfl
          go_wp2_with fail
          refine cQ.mono ?_
          rintro e w9 ⟨rfl, hst9⟩
          have hp9 := hp8.trans hst9
          have hR9 := hR8.keep hst9.2.2 neR
          have hX9 := hX8.keep hst9.2.2 neX
          clear cQ hst9 hp8 hR8 hX8
          have c1 := hp9.c1
          have fz := hp9.fz
          have hj8 := hl8.lt
          have hl9 := hl8.next
          have hp10 := hp9.set (j8 + 1)
          have hR10 := hR9.far (p := ⟨g, 1, none⟩) neR (.int .i64 ((j8 + 1 : Nat) : Int))
          have hX10 := hX9.far (p := ⟨g, 1, none⟩) neX (.int .i64 ((j8 + 1 : Nat) : Int))
          obtain ⟨k2, hk2⟩ : ∃ k2 : Nat, j8 + 1 = k2 := ⟨_, rfl⟩
          have hk2i : (j8 : Int) + 1 = (k2 : Int) := by omega
          rw [hk2] at hp10 hR10 hX10 hl9
          have hk2s := hl9.2
          clear hp9 hR9 hX9
          go_upto_block 2 with fail
          clear c1 fz
          generalize w9.setCell ⟨g, 1, none⟩ (.int .i64 (k2 : Int)) = w10 at *
          clear hk2i hk2 hj8 hl8
          go_cut [] (fun wx => ∃ (j : Nat) (m : Bs), Sd w0 w wx g s j ∧ Lr s j m ∧ k2 ≤ j ∧ bl (s.extract k2 j) = v.takeWhile hexB ∧ (s.extract k2 j).size ≤ s.size ∧ v.dropWhile hexB = m ∧ Ab wx w.heap.size ⟨#[]⟩ ⟨#[]⟩ ∧ Ab wx X T ⟨#[]⟩)
          case first =>
            as_aux_lemma =>
              go_wp2_with fail
              go_loopw [] (fun wr => TwRd hexB w0 w g s k2 v (fun W => Ab W w.heap.size ⟨#[]⟩ ⟨#[]⟩ ∧ Ab W X T ⟨#[]⟩) wr) (fun wr => md s g wr)
              case atStart => exact ⟨k2, v, hp10, hl9, Nat.le_refl _, by rw [Nat.sub_self]; rfl, rfl, hR10, hX10⟩
              case round =>
                clear hp10 hR10 hX10
                obtain ⟨j, m, hst, hm, hij, htw, hdw, hRX⟩ := hrel
                have hB := hst.bk
                have c0 := hst.c0
                have c1 := hst.c1
                have hjs := hm.2
                have fz := hst.fz
                have HRX := Aside0.mk hRX
                clear hRX
                by_cases hgo : ∃ x q n, m = x :: q ∧ hv x = some n
                · obtain ⟨x, q, n, rfl, hn⟩ := hgo
                  have HM := Aside0.mk (tw_more hl9 hm hij (hex_some hn) htw hdw)
                  have hj := hm.lt
                  have hxx : ((s[j]'hj).toNat : Int) = (x.toNat : Int) := by rw [hm.at_]
                  have hji : (j : Int) < (s.size : Int) := by omega
                  have cA : ∀ W k, Calls Tryd.prog 64 #[.int .u8 (x.toNat : Int)] (World.drewN W k) fun e w'' => e = .returned (.int .i64 (n : Int)) ∧ ∃ q, w'' = W.drewN q := fun W k => by have := @quiet_rdig x W k; rw [show dv x = n by unfold dv; rw [hn]] at this; exact this
                  clear htw hdw hn
                  go_wp2_with fail
                  go_quiet (first | (go_at_call 64; exact cA _ _))
                  go_wp2
                  have hst2 := (hst.drewN nq).set (j + 1)
                  exact ⟨⟨j + 1, q, hst2, hm.next, by omega, HM.out.1, HM.out.2, Ab.far (w := wr.drewN nq) HRX.out.1 (p := ⟨g, 1, none⟩) neR _, Ab.far (w := wr.drewN nq) HRX.out.2 (p := ⟨g, 1, none⟩) neX _⟩, by rw [md_eq hB, show (j : Int) + 1 = ((j + 1 : Nat) : Int) from rfl, md_eq hst2.bk]; omega⟩
                · have hstop : ∀ c ∈ m.head?, hexB c = false := by
                    intro c hc
                    cases m with
                    | nil => cases hc
                    | cons x q =>
                      have : c = x := by simpa using hc.symm
                      subst this
                      cases hn : hv c with
                      | none => exact hex_none hn
                      | some n => exact absurd ⟨c, q, n, rfl, hn⟩ hgo
                  obtain ⟨hpc, hpz, hdr⟩ := tw_end hl9 hstop htw hdw
                  have HDR := Aside0.mk hdr
                  have HPC := Aside0.mk hpc
                  have HST := Aside0.mk hstop
                  clear hpc hdr htw hdw hgo hstop
                  cases m
                  case' nil =>
                    have hend := hm.nil
                    have hji : ¬ (j : Int) < (s.size : Int) := by omega
                    have hjd : decide (j < s.size) = false := decide_eq_false (by omega)
                    clear hend
                    go_wp2_with fail
                    go_quiet (fail)
                    clear hji hjd
                  case' cons x q =>
                    have hj := hm.lt
                    have hxx : ((s[j]'hj).toNat : Int) = (x.toNat : Int) := by rw [hm.at_]
                    have hji : (j : Int) < (s.size : Int) := by omega
                    have hn : hv x = none := by
                      have := HST.out x (by simp)
                      unfold hexB at this
                      cases h : hv x with
                      | none => rfl
                      | some n => rw [h] at this; cases this
                    have cA : ∀ W k, Calls Tryd.prog 64 #[.int .u8 (x.toNat : Int)] (World.drewN W k) fun e w'' => e = .returned (.int .i64 (-1)) ∧ ∃ q, w'' = W.drewN q := fun W k => by have := @quiet_rdig x W k; rw [show dv x = -1 by unfold dv; rw [hn]] at this; exact this
                    clear hn
                    go_wp2_with fail
                    go_quiet (first | (go_at_call 64; exact cA _ _))
                    clear cA hxx hj hji
                  all_goals
                    have hst2 := hst.drewN nq
                    go_wp2_with fail
                    go_meet
                    exact ⟨j, _, hst2, hm, hij, HPC.out, hpz, HDR.out, HRX.out.1, HRX.out.2⟩
          case rest =>
            clear hp10 hR10 hX10 hl9 hk2s
            obtain ⟨j, m2, hst2, hm2, hkj, hpc, hpz, hdr, hR2, hX2⟩ := hcut
            have c0 := hst2.c0
            have c1 := hst2.c1
            have hjs := hm2.2
            obtain ⟨V, E, cU, hcase⟩ := hexD hpc (by omega)
            have HC := Aside0.mk hcase
            have HDR := Aside0.mk hdr
            clear hpc hdr hcase
            go_wp2_with fail
            go_region_held3 (fun w' => w'.cell? ⟨g, 0, none⟩ = some (.string s) ∧ w'.cell? ⟨g, 1, none⟩ = some (.int .i64 (j : Int))) (first | go_keep | exact ⟨pw_cell_below hb4 (by assumption), pw_cell_below hb4 (by assumption)⟩) (first | (go_at_call 65; refine (cU _).mono ?_; rintro e w4 ⟨rfl, hb4⟩))
            have hst4 := (hst2.drewN 1).below hb4
            have hR4 := Ab.keep (w := wc.drew) hR2 (KeepBut.of_below hb4 g none) neR
            have hX4 := Ab.keep (w := wc.drew) hX2 (KeepBut.of_below hb4 g none) neX
            clear hb4 hst2 hR2 hX2 c0 c1 cU
            have e0 := hX4.c0
            have e1 := hX4.c1
            have f1 := hX4.f 1
            go_wp2_with fail
            have hp5 := hst4.far (b := X) (k := 1) (Nat.le_of_lt hXl) h0 hglt (.string V)
            have hR5 := hR4.far (p := ⟨X, 1, none⟩) (by show w.heap.size ≠ X; omega) (.string V)
            have hX5 := hX4.set1 V
            clear e0 e1 f1 hst4 hR4 hX4
            generalize w4.setCell ⟨X, 1, none⟩ (.string V) = w5 at *
            refine (blanksD_c hp5.self hm2 hs).mono ?_
            rintro e w6 ⟨rfl, j6, hst6, hl6⟩
            have hp6 := hp5.trans hst6
            have hR6 := hR5.keep hst6.2.2 neR
            have hX6 := hX5.keep hst6.2.2 neX
            clear hp5 hR5 hX5 hst6 hm2
            have a0 := hR6.c0
            have a1 := hR6.c1
            have g0 := hR6.f 0
            have g1 := hR6.f 1
            have e0 := hX6.c0
            have e1 := hX6.c1
            have hpb := (hp6.far (b := w.heap.size) (k := 0) (Nat.le_refl _) h0 hglt (.string T)).far (b := w.heap.size) (k := 1) (Nat.le_refl _) h0 hglt (.string V)
            have hb := (hR6.set0 T).set1 V
            rcases HC.out with ⟨rfl, hx⟩ | ⟨rfl, hem, hx⟩ | ⟨rfl, hem, hx⟩
            · have hans : ANS = none := by rw [HANS2.out, hx]; rfl
              subst hans
              go_wp2_with fail
              clear a0 a1 g0 g1
              generalize (w6.setCell ⟨w.heap.size, 0, none⟩ (.string T)).setCell ⟨w.heap.size, 1, none⟩ (.string V) = wb at *
              have r0 := hb.c0
              have r1 := hb.c1
              refine bodyPost_ret (v := .tuple #[.agg #[.string T, .string V], .bool false]) (by simp [results, Tryd.results52, go_sem, r0, r1]) rfl ?_
              exact ⟨(bl T, bl V), false, j6, _, rfl, hpb, hl6, fun h => by cases h⟩
            · have hans : ANS = none := by rw [HANS2.out, hx]; rfl
              subst hans
              go_wp2_with fail
              clear a0 a1 g0 g1
              generalize (w6.setCell ⟨w.heap.size, 0, none⟩ (.string T)).setCell ⟨w.heap.size, 1, none⟩ (.string V) = wb at *
              have r0 := hb.c0
              have r1 := hb.c1
              refine bodyPost_ret (v := .tuple #[.agg #[.string T, .string V], .bool false]) (by simp [results, Tryd.results52, go_sem, r0, r1]) rfl ?_
              exact ⟨(bl T, bl V), false, j6, _, rfl, hpb, hl6, fun h => by cases h⟩
            · have hans : ANS = some ((bl T, bl V), blanks m2) := by rw [HANS2.out, hx, HDR.out]; rfl
              subst hans
              go_wp2_with fail
              clear a0 a1 g0 g1
              generalize (w6.setCell ⟨w.heap.size, 0, none⟩ (.string T)).setCell ⟨w.heap.size, 1, none⟩ (.string V) = wb at *
              have r0 := hb.c0
              have r1 := hb.c1
              refine bodyPost_ret (v := .tuple #[.agg #[.string T, .string V], .bool true]) (by simp [results, Tryd.results52, go_sem, r0, r1]) rfl ?_
              exact ⟨(bl T, bl V), true, j6, _, rfl, hpb, hl6, rfl, rfl, rfl⟩
      · have hne := head_no hh
        have hval : valueL (blanks r) = valF [] 0 (blanks r) := by
          cases hb : blanks r with
          | nil => rfl
          | cons c q =>
            have : c ≠ 35 := fun e => hh ⟨q, by rw [hb, e]⟩
            simp only [valueL]
            rw [if_neg this]
        have cQ := isD_lit hp8.self hl8 35 35 rfl hne
        have HANS2 : Aside0 (ANS = (valF [] 0 (blanks r)).map fun y => ((bl T, y.1), blanks y.2)) := ⟨by rw [HANS.out, hval]⟩
        clear hh hne hval HANS
        generalize blanks r = V0 at *
        go_wp2_with fail
        refine cQ.mono ?_
        rintro e w9 ⟨rfl, hst9⟩
        have hp9 := hp8.trans hst9
        have hR9 := hR8.keep hst9.2.2 neR
        have hX9 := hX8.keep hst9.2.2 neX
        clear cQ hst9 hp8 hR8 hX8
        -- VALUE LOOP
        have hBz : X < w9.heap.size := hX9.lt
        obtain ⟨Bz, hBzz⟩ : ∃ Bz, w9.heap.size = Bz := ⟨_, rfl⟩
        have hgB : g < Bz := by omega
        have hwB : w.heap.size ≤ Bz := by omega
        have hown9 : w9.ownsRow Bz 5 1 (.slice none 0 0) 0 (encs eB []) := own_nil _ _ _ _
        rw [hBzz] at hBz
        have hBw : w9.heap.size = Bz := hBzz
        go_upto_block 4 with fail
        go_cut [8, 9] (fun s8 s9 wx => ∃ (acc : Bs) (long j : Nat) (m : Bs), s9 = .int .i64 (long : Int) ∧ long ≤ acc.length ∧ Sd w0 w wx g s j ∧ Lr s j m ∧ wx.ownsRow Bz 5 1 s8 acc.length (encs eB acc) ∧ Ab wx w.heap.size ⟨#[]⟩ ⟨#[]⟩ ∧ Ab wx X T ⟨#[]⟩ ∧ ((valF [] 0 V0 = some (acc.take long, m) ∧ EndP m) ∨ (valF [] 0 V0 = none ∧ Stuck m)))
        case first =>
          as_aux_lemma =>
            go_wp2_with fail
            go_loopw [8, 9, 10, 11] (fun v8 v9 _ _ wr => VRd w0 w g s (valF [] 0 V0) Bz X T v8 v9 wr) (fun _ _ _ _ wr => md s g wr)
            case atStart => exact ⟨[], 0, j8, V0, rfl, Nat.le_refl _, Nat.zero_le _, hp9, hl8, rfl, hown9, by omega, hR9, hX9⟩
            case round =>
              clear hp9 hR9 hX9 hown9 hBw hBzz
              obtain ⟨acc, long, j, m, rfl, hlong, hacc, hstr, hm, hval, hownr, hBzr, hRr, hXr⟩ := hrel
              have HOr := Aside0.mk hownr
              have HV := Aside0.mk hval
              have hBr : Bz ≤ wr.heap.size := hBzr
              clear hownr hval hBzr
              have hB := hstr.bk
              have HMD := Aside0.mk (md_eq hB)
              have c0 := hstr.c0
              have c1 := hstr.c1
              have hjs := hm.2
              clear hB
              cases m with
              | nil =>
                as_aux_lemma =>
                  have hend := hm.nil
                  have hji : ¬ (j : Int) < (s.size : Int) := by omega
                  have hjd : decide (j < s.size) = false := decide_eq_false (by omega)
                  clear hend
                  obtain ⟨wA, hwA⟩ : ∃ wA : World, wA = wr := ⟨_, rfl⟩
                  go_wp2_with fail
                  go_quiet (fail)
                  clear hji hjd
                  go_wp2_with fail
                  go_meet
                  exact ⟨acc, long, j, _, rfl, hlong, hstr.drewN nq, hm, own_drewN HOr.out _, hRr, hXr, .inl ⟨HV.out.symm, .inl rfl⟩⟩
              | cons x q =>
                have hj := hm.lt
                have hxx : ((s[j]'hj).toNat : Int) = (x.toNat : Int) := by rw [hm.at_]
                have hji : (j : Int) < (s.size : Int) := by omega
                have hvc := valF_cons acc long x q
                rw [HV.out] at hvc
                have hnx := hm.next
                go_wp2_with fail
                go_quiet (fail)
                have hstA := hstr.drewN nq
                have HOA : Aside0 ((wr.drewN nq).ownsRow Bz 5 1 u8 acc.length (encs eB acc)) := ⟨own_drewN HOr.out _⟩
                have hRA : Ab (wr.drewN nq) w.heap.size ⟨#[]⟩ ⟨#[]⟩ := hRr
                have hXA : Ab (wr.drewN nq) X T ⟨#[]⟩ := hXr
                have hBA : Bz ≤ (wr.drewN nq).heap.size := hBr
                clear hstr HOr hRr hXr hBr
                generalize wr.drewN nq = wA at *
                have c0 := hstA.c0
                have c1 := hstA.c1
                go_wp2_with fail
                go_quiet (fail)
                have hstB := hstA.drewN nq
                have HOB : Aside0 ((wA.drewN nq).ownsRow Bz 5 1 u8 acc.length (encs eB acc)) := ⟨own_drewN HOA.out _⟩
                have hRB : Ab (wA.drewN nq) w.heap.size ⟨#[]⟩ ⟨#[]⟩ := hRA
                have hXB : Ab (wA.drewN nq) X T ⟨#[]⟩ := hXA
                have hBB : Bz ≤ (wA.drewN nq).heap.size := hBA
                clear hstA HOA hRA hXA hBA
                generalize wA.drewN nq = wB at *
                have c0 := hstB.c0
                have c1 := hstB.c1
                by_cases h92 : x = 92
                · skip
                  subst h92
                  rw [if_neg (by decide), if_pos rfl] at hvc
                  have hsum : IntKind.i64.wrap ((j : Int) + 1) = (j : Int) + 1 := IntWalk.i64_in _ (by omega)
                  cases q with
                  | nil =>
                    as_aux_lemma =>
                      have hend := hnx.nil
                      have hge : (s.size : Int) ≤ (j : Int) + 1 := by omega
                      have hgd : decide ((s.size : Int) ≤ (j : Int) + 1) = true := decide_eq_true hge
                      clear hend
                      rw [show escL [] = none from rfl] at hvc
                      have hans : ANS = none := by rw [HANS2.out, hvc]; rfl
                      subst hans
                      clear hvc
                      go_wp2_with fail
                      go_quiet (fail)
                      clear hge hgd hsum
                      have hstC := hstB.drewN nq
                      have HOC : Aside0 ((wB.drewN nq).ownsRow Bz 5 1 u8 acc.length (encs eB acc)) := ⟨own_drewN HOB.out _⟩
                      have hRC : Ab (wB.drewN nq) w.heap.size ⟨#[]⟩ ⟨#[]⟩ := hRB
                      have hXC : Ab (wB.drewN nq) X T ⟨#[]⟩ := hXB
                      have hBC : Bz ≤ (wB.drewN nq).heap.size := hBB
                      clear hstB HOB hRB hXB hBB
                      generalize wB.drewN nq = wC at *
                      have c0 := hstC.c0
                      have c1 := hstC.c1
                      have a0 := hRC.c0
                      have a1 := hRC.c1
                      have g0 := hRC.f 0
                      have g1 := hRC.f 1
                      have e0 := hXC.c0
                      have e1 := hXC.c1
                      have hpb := (hstC.far (b := w.heap.size) (k := 0) (Nat.le_refl _) h0 hglt (.string T)).far (b := w.heap.size) (k := 1) (Nat.le_refl _) h0 hglt (.string ⟨#[]⟩)
                      have hb := (hRC.set0 T).set1 ⟨#[]⟩
                      go_wp2_with fail
                      clear a0 a1 g0 g1
                      generalize (wC.setCell ⟨w.heap.size, 0, none⟩ (.string T)).setCell ⟨w.heap.size, 1, none⟩ (.string ⟨#[]⟩) = wb at *
                      have r0 := hb.c0
                      have r1 := hb.c1
                      refine bodyPost_ret (v := .tuple #[.agg #[.string T, .string ⟨#[]⟩], .bool false]) (by simp [results, Tryd.results52, go_sem, r0, r1]) rfl ?_
                      exact ⟨(bl T, []), false, j, _, rfl, hpb, hm, fun h => by cases h⟩
                  | cons n q2 =>
                    have hj1 := hnx.lt
                    have hge : ¬ (s.size : Int) ≤ (j : Int) + 1 := by omega
                    have hgd : decide ((s.size : Int) ≤ (j : Int) + 1) = false := decide_eq_false hge
                    go_wp2_with fail
                    go_quiet (fail)
                    have hstC := hstB.drewN nq
                    have HOC : Aside0 ((wB.drewN nq).ownsRow Bz 5 1 u8 acc.length (encs eB acc)) := ⟨own_drewN HOB.out _⟩
                    have hRC : Ab (wB.drewN nq) w.heap.size ⟨#[]⟩ ⟨#[]⟩ := hRB
                    have hXC : Ab (wB.drewN nq) X T ⟨#[]⟩ := hXB
                    have hBC : Bz ≤ (wB.drewN nq).heap.size := hBB
                    clear hstB HOB hRB hXB hBB
                    generalize wB.drewN nq = wC at *
                    have c0 := hstC.c0
                    have c1 := hstC.c1
                    have hnn : (0 : Int) ≤ (j : Int) + 1 := by omega
                    have htn : ((j : Int) + 1).toNat = j + 1 := by omega
                    have hj1i : (j : Int) + 1 < (s.size : Int) := by omega
                    have hxn : ((s[j + 1]'hj1).toNat : Int) = (n.toNat : Int) := by rw [hnx.at_]
                    go_wp2_with fail
                    go_quiet (fail)
                    clear hge hgd hsum hnn htn hj1i hxn
                    have hstE := hstC.drewN nq
                    have HOE : Aside0 ((wC.drewN nq).ownsRow Bz 5 1 u8 acc.length (encs eB acc)) := ⟨own_drewN HOC.out _⟩
                    have hRE : Ab (wC.drewN nq) w.heap.size ⟨#[]⟩ ⟨#[]⟩ := hRC
                    have hXE : Ab (wC.drewN nq) X T ⟨#[]⟩ := hXC
                    have hBE : Bz ≤ (wC.drewN nq).heap.size := hBC
                    clear hstC HOC hRC hXC hBC
                    generalize wC.drewN nq = wE at *
                    have c0 := hstE.c0
                    have c1 := hstE.c1
                    have hnx2 : Lr s (j + 2) q2 := hnx.next
                    have hml := hm.len
                    simp only [List.length_cons] at hml
                    by_cases hesc : escapable n = true
                    · as_aux_lemma =>
                        have hvc2 : valF (acc ++ [n]) (acc.length + 1) q2 = valF [] 0 V0 := by
                          rw [hvc, escL_yes hesc]
                        have HVC := Aside0.mk hvc2
                        clear hvc hvc2
                        have cSp := special_d n
                        by_cases hsp : Dp.special n = true
                        · rw [hsp] at cSp
                          clear hsp hesc
                          go_wp2_with fail
                          refine (cSp _).mono ?_
                          rintro e w3 ⟨rfl, q3, rfl⟩
                          have hstD := hstE.drewN q3
                          have HOD : Aside0 ((wE.drewN q3).ownsRow Bz 5 1 u8 acc.length (encs eB acc)) := ⟨own_drewN HOE.out _⟩
                          have hRD : Ab (wE.drewN q3) w.heap.size ⟨#[]⟩ ⟨#[]⟩ := hRE
                          have hXD : Ab (wE.drewN q3) X T ⟨#[]⟩ := hXE
                          have hBD : Bz ≤ (wE.drewN q3).heap.size := hBE
                          clear hstE HOE hRE hXE hBE
                          generalize wE.drewN q3 = wD at *
                          have c0 := hstD.c0
                          have c1 := hstD.c1
                          have hstA_ := hstD
                          go_wp2_with (at_builtin; refine Aside0.out ?_)
                          refine ⟨?_⟩
                          refine print_append_of (w0 := wD) eB Bz rfl _ _ 64 5 (.int .u8 0) 1 rfl Tryd.underlying64 byte_info rfl (by omega) u8 acc n rfl (by simp [Act.eval]) rfl HOD.out (Below.refl _ _) hBD (by omega) ?_
                          intro v1 w6 HO6 _ hg6 _
                          obtain ⟨A6, c6, rfl⟩ := slice_more HO6
                          have hst6 := hstD.grown hglt h0 hg6 (fun k hk => Nat.le_trans hwB (own_base HOD.out k hk))
                          have hR6 := hRD.grown hg6 (own_block_ne HOD.out (by omega))
                          have hX6 := hXD.grown hg6 (own_block_ne HOD.out hBz)
                          have hB6 := Nat.le_trans hBD hg6.size
                          have c1 := hst6.c1
                          have fz := hst6.fz
                          have HO7 := Aside0.mk HO6
                          clear HO6 hg6 hstA_
                          go_wp2_with fail
                          have hst7 := hst6.set (j + 2)
                          exact ⟨⟨acc ++ [n], acc.length + 1, j + 2, q2, by go_num, by simp, by simp; omega, hst7, hnx2, HVC.out, own_setCell (p := ⟨g, 1, none⟩) HO7.out (fun e => own_block_ne HO7.out hgB e.symm) _, by rw [World.size_setCell]; exact hB6, hR6.far (p := ⟨g, 1, none⟩) neR _, hX6.far (p := ⟨g, 1, none⟩) neX _⟩, by rw [HMD.out, show (j : Int) + 2 = ((j + 2 : Nat) : Int) from rfl, md_eq hst7.bk]; omega⟩
                        · have hn3 : n = 61 ∨ n = 35 ∨ n = 32 := by
                            unfold escapable at hesc
                            rw [eq_false_of_ne_true hsp] at hesc
                            simp only [Bool.false_or, Bool.or_eq_true, beq_iff_eq] at hesc
                            rcases hesc with (h | h) | h
                            · exact .inl h
                            · exact .inr (.inl h)
                            · exact .inr (.inr h)
                          clear hsp hesc cSp
                          rcases hn3 with rfl | rfl | rfl
                          · have cSp : ∀ W, Calls Tryd.prog 66 #[.int .u8 61] W fun e w' => e = .returned (.bool false) ∧ ∃ m, w' = W.drewN m := special_d 61
                            go_wp2_with fail
                            refine (cSp _).mono ?_
                            rintro e w3 ⟨rfl, q3, rfl⟩
                            have hstD := hstE.drewN q3
                            have HOD : Aside0 ((wE.drewN q3).ownsRow Bz 5 1 u8 acc.length (encs eB acc)) := ⟨own_drewN HOE.out _⟩
                            have hRD : Ab (wE.drewN q3) w.heap.size ⟨#[]⟩ ⟨#[]⟩ := hRE
                            have hXD : Ab (wE.drewN q3) X T ⟨#[]⟩ := hXE
                            have hBD : Bz ≤ (wE.drewN q3).heap.size := hBE
                            clear hstE HOE hRE hXE hBE
                            generalize wE.drewN q3 = wD at *
                            have c0 := hstD.c0
                            have c1 := hstD.c1
                            have hstA_ := hstD
                            go_wp2_with (at_builtin; refine Aside0.out ?_)
                            refine ⟨?_⟩
                            refine print_append_of (w0 := wD) eB Bz rfl _ _ 64 5 (.int .u8 0) 1 rfl Tryd.underlying64 byte_info rfl (by omega) u8 acc (61 : UInt8) rfl (by simp [Act.eval]) rfl HOD.out (Below.refl _ _) hBD (by omega) ?_
                            intro v1 w6 HO6 _ hg6 _
                            obtain ⟨A6, c6, rfl⟩ := slice_more HO6
                            have hst6 := hstD.grown hglt h0 hg6 (fun k hk => Nat.le_trans hwB (own_base HOD.out k hk))
                            have hR6 := hRD.grown hg6 (own_block_ne HOD.out (by omega))
                            have hX6 := hXD.grown hg6 (own_block_ne HOD.out hBz)
                            have hB6 := Nat.le_trans hBD hg6.size
                            have c1 := hst6.c1
                            have fz := hst6.fz
                            have HO7 := Aside0.mk HO6
                            clear HO6 hg6 hstA_
                            go_wp2_with fail
                            have hst7 := hst6.set (j + 2)
                            exact ⟨⟨acc ++ [(61 : UInt8)], acc.length + 1, j + 2, q2, by go_num, by simp, by simp; omega, hst7, hnx2, HVC.out, own_setCell (p := ⟨g, 1, none⟩) HO7.out (fun e => own_block_ne HO7.out hgB e.symm) _, by rw [World.size_setCell]; exact hB6, hR6.far (p := ⟨g, 1, none⟩) neR _, hX6.far (p := ⟨g, 1, none⟩) neX _⟩, by rw [HMD.out, show (j : Int) + 2 = ((j + 2 : Nat) : Int) from rfl, md_eq hst7.bk]; omega⟩
                          · have cSp : ∀ W, Calls Tryd.prog 66 #[.int .u8 35] W fun e w' => e = .returned (.bool false) ∧ ∃ m, w' = W.drewN m := special_d 35
                            go_wp2_with fail
                            refine (cSp _).mono ?_
                            rintro e w3 ⟨rfl, q3, rfl⟩
                            have hstD := hstE.drewN q3
                            have HOD : Aside0 ((wE.drewN q3).ownsRow Bz 5 1 u8 acc.length (encs eB acc)) := ⟨own_drewN HOE.out _⟩
                            have hRD : Ab (wE.drewN q3) w.heap.size ⟨#[]⟩ ⟨#[]⟩ := hRE
                            have hXD : Ab (wE.drewN q3) X T ⟨#[]⟩ := hXE
                            have hBD : Bz ≤ (wE.drewN q3).heap.size := hBE
                            clear hstE HOE hRE hXE hBE
                            generalize wE.drewN q3 = wD at *
                            have c0 := hstD.c0
                            have c1 := hstD.c1
                            have hstA_ := hstD
                            go_wp2_with (at_builtin; refine Aside0.out ?_)
                            refine ⟨?_⟩
                            refine print_append_of (w0 := wD) eB Bz rfl _ _ 64 5 (.int .u8 0) 1 rfl Tryd.underlying64 byte_info rfl (by omega) u8 acc (35 : UInt8) rfl (by simp [Act.eval]) rfl HOD.out (Below.refl _ _) hBD (by omega) ?_
                            intro v1 w6 HO6 _ hg6 _
                            obtain ⟨A6, c6, rfl⟩ := slice_more HO6
                            have hst6 := hstD.grown hglt h0 hg6 (fun k hk => Nat.le_trans hwB (own_base HOD.out k hk))
                            have hR6 := hRD.grown hg6 (own_block_ne HOD.out (by omega))
                            have hX6 := hXD.grown hg6 (own_block_ne HOD.out hBz)
                            have hB6 := Nat.le_trans hBD hg6.size
                            have c1 := hst6.c1
                            have fz := hst6.fz
                            have HO7 := Aside0.mk HO6
                            clear HO6 hg6 hstA_
                            go_wp2_with fail
                            have hst7 := hst6.set (j + 2)
                            exact ⟨⟨acc ++ [(35 : UInt8)], acc.length + 1, j + 2, q2, by go_num, by simp, by simp; omega, hst7, hnx2, HVC.out, own_setCell (p := ⟨g, 1, none⟩) HO7.out (fun e => own_block_ne HO7.out hgB e.symm) _, by rw [World.size_setCell]; exact hB6, hR6.far (p := ⟨g, 1, none⟩) neR _, hX6.far (p := ⟨g, 1, none⟩) neX _⟩, by rw [HMD.out, show (j : Int) + 2 = ((j + 2 : Nat) : Int) from rfl, md_eq hst7.bk]; omega⟩
                          · have cSp : ∀ W, Calls Tryd.prog 66 #[.int .u8 32] W fun e w' => e = .returned (.bool false) ∧ ∃ m, w' = W.drewN m := special_d 32
                            go_wp2_with fail
                            refine (cSp _).mono ?_
                            rintro e w3 ⟨rfl, q3, rfl⟩
                            have hstD := hstE.drewN q3
                            have HOD : Aside0 ((wE.drewN q3).ownsRow Bz 5 1 u8 acc.length (encs eB acc)) := ⟨own_drewN HOE.out _⟩
                            have hRD : Ab (wE.drewN q3) w.heap.size ⟨#[]⟩ ⟨#[]⟩ := hRE
                            have hXD : Ab (wE.drewN q3) X T ⟨#[]⟩ := hXE
                            have hBD : Bz ≤ (wE.drewN q3).heap.size := hBE
                            clear hstE HOE hRE hXE hBE
                            generalize wE.drewN q3 = wD at *
                            have c0 := hstD.c0
                            have c1 := hstD.c1
                            have hstA_ := hstD
                            go_wp2_with (at_builtin; refine Aside0.out ?_)
                            refine ⟨?_⟩
                            refine print_append_of (w0 := wD) eB Bz rfl _ _ 64 5 (.int .u8 0) 1 rfl Tryd.underlying64 byte_info rfl (by omega) u8 acc (32 : UInt8) rfl (by simp [Act.eval]) rfl HOD.out (Below.refl _ _) hBD (by omega) ?_
                            intro v1 w6 HO6 _ hg6 _
                            obtain ⟨A6, c6, rfl⟩ := slice_more HO6
                            have hst6 := hstD.grown hglt h0 hg6 (fun k hk => Nat.le_trans hwB (own_base HOD.out k hk))
                            have hR6 := hRD.grown hg6 (own_block_ne HOD.out (by omega))
                            have hX6 := hXD.grown hg6 (own_block_ne HOD.out hBz)
                            have hB6 := Nat.le_trans hBD hg6.size
                            have c1 := hst6.c1
                            have fz := hst6.fz
                            have HO7 := Aside0.mk HO6
                            clear HO6 hg6 hstA_
                            go_wp2_with fail
                            have hst7 := hst6.set (j + 2)
                            exact ⟨⟨acc ++ [(32 : UInt8)], acc.length + 1, j + 2, q2, by go_num, by simp, by simp; omega, hst7, hnx2, HVC.out, own_setCell (p := ⟨g, 1, none⟩) HO7.out (fun e => own_block_ne HO7.out hgB e.symm) _, by rw [World.size_setCell]; exact hB6, hR6.far (p := ⟨g, 1, none⟩) neR _, hX6.far (p := ⟨g, 1, none⟩) neX _⟩, by rw [HMD.out, show (j : Int) + 2 = ((j + 2 : Nat) : Int) from rfl, md_eq hst7.bk]; omega⟩
                    · have hesc2 := eq_false_of_ne_true hesc
                      have hno : Dp.special n = false ∧ n ≠ 61 ∧ n ≠ 35 ∧ n ≠ 32 := by
                        unfold escapable at hesc2
                        simp only [Bool.or_eq_false_iff] at hesc2
                        exact ⟨hesc2.1.1.1, by simpa using hesc2.1.1.2, by simpa using hesc2.1.2, by simpa using hesc2.2⟩
                      have cSp := special_d n
                      rw [hno.1] at cSp
                      have n61 : ((n.toNat : Int) == 61) = false := byte_ne (n := 61) hno.2.1
                      have n35 : ((n.toNat : Int) == 35) = false := byte_ne (n := 35) hno.2.2.1
                      have n32 : ((n.toNat : Int) == 32) = false := byte_ne (n := 32) hno.2.2.2
                      have ESC := Aside0.mk hesc2
                      have p61 : ¬ (n.toNat : Int) = 61 := u8_ne (n := 61) hno.2.1
                      have p35 : ¬ (n.toNat : Int) = 35 := u8_ne (n := 35) hno.2.2.1
                      have p32 : ¬ (n.toNat : Int) = 32 := u8_ne (n := 32) hno.2.2.2
                      clear hesc hesc2 hno
                      go_wp2_with fail
                      refine (cSp _).mono ?_
                      rintro e w3 ⟨rfl, q3, rfl⟩
                      have hstD := hstE.drewN q3
                      have HOD : Aside0 ((wE.drewN q3).ownsRow Bz 5 1 u8 acc.length (encs eB acc)) := ⟨own_drewN HOE.out _⟩
                      have hRD : Ab (wE.drewN q3) w.heap.size ⟨#[]⟩ ⟨#[]⟩ := hRE
                      have hXD : Ab (wE.drewN q3) X T ⟨#[]⟩ := hXE
                      have hBD : Bz ≤ (wE.drewN q3).heap.size := hBE
                      clear hstE HOE hRE hXE hBE
                      generalize wE.drewN q3 = wD at *
                      have c0 := hstD.c0
                      have c1 := hstD.c1
                      clear cSp
                      have hsum2 : IntKind.i64.wrap ((j : Int) + 2) = (j : Int) + 2 := IntWalk.i64_in _ (by omega)
                      cases q2 with
                      | nil =>
                        as_aux_lemma =>
                          have hend := hnx2.nil
                          have hge : (s.size : Int) ≤ (j : Int) + 2 := by omega
                          have hgd : decide ((s.size : Int) ≤ (j : Int) + 2) = true := decide_eq_true hge
                          clear hend
                          rw [escL_no0 ESC.out] at hvc
                          have hans : ANS = none := by rw [HANS2.out, hvc]; rfl
                          subst hans
                          clear hvc
                          go_wp2_with fail
                          go_quiet (fail)
                          clear hge hgd hsum2
                          have hstF := hstD.drewN nq
                          have HOF : Aside0 ((wD.drewN nq).ownsRow Bz 5 1 u8 acc.length (encs eB acc)) := ⟨own_drewN HOD.out _⟩
                          have hRF : Ab (wD.drewN nq) w.heap.size ⟨#[]⟩ ⟨#[]⟩ := hRD
                          have hXF : Ab (wD.drewN nq) X T ⟨#[]⟩ := hXD
                          have hBF : Bz ≤ (wD.drewN nq).heap.size := hBD
                          clear hstD HOD hRD hXD hBD
                          generalize wD.drewN nq = wF at *
                          have c0 := hstF.c0
                          have c1 := hstF.c1
                          have a0 := hRF.c0
                          have a1 := hRF.c1
                          have g0 := hRF.f 0
                          have g1 := hRF.f 1
                          have e0 := hXF.c0
                          have e1 := hXF.c1
                          have hpb := (hstF.far (b := w.heap.size) (k := 0) (Nat.le_refl _) h0 hglt (.string T)).far (b := w.heap.size) (k := 1) (Nat.le_refl _) h0 hglt (.string ⟨#[]⟩)
                          have hb := (hRF.set0 T).set1 ⟨#[]⟩
                          go_wp2_with fail
                          clear a0 a1 g0 g1
                          generalize (wF.setCell ⟨w.heap.size, 0, none⟩ (.string T)).setCell ⟨w.heap.size, 1, none⟩ (.string ⟨#[]⟩) = wb at *
                          have r0 := hb.c0
                          have r1 := hb.c1
                          refine bodyPost_ret (v := .tuple #[.agg #[.string T, .string ⟨#[]⟩], .bool false]) (by simp [results, Tryd.results52, go_sem, r0, r1]) rfl ?_
                          exact ⟨(bl T, []), false, j, _, rfl, hpb, hm, fun h => by cases h⟩
                      | cons d q3 =>
                        have hj2 := hnx2.lt
                        have hge : ¬ (s.size : Int) ≤ (j : Int) + 2 := by omega
                        have hgd : decide ((s.size : Int) ≤ (j : Int) + 2) = false := decide_eq_false hge
                        have hnn : (0 : Int) ≤ (j : Int) + 2 := by omega
                        have htn : ((j : Int) + 2).toNat = j + 2 := by omega
                        have hj2i : (j : Int) + 2 < (s.size : Int) := by omega
                        have hxd : ((s[j + 2]'hj2).toNat : Int) = (d.toNat : Int) := by rw [hnx2.at_]
                        have hnx3 : Lr s (j + 3) q3 := hnx2.next
                        rw [escL_no1 ESC.out] at hvc
                        cases hN : hv n with
                        | none =>
                          as_aux_lemma =>
                            have cA : ∀ W k, Calls Tryd.prog 64 #[.int .u8 (n.toNat : Int)] (World.drewN W k) fun e w'' => e = .returned (.int .i64 (-1)) ∧ ∃ q, w'' = W.drewN q := fun W k => by have := @quiet_rdig n W k; rw [show dv n = -1 by unfold dv; rw [hN]] at this; exact this
                            rw [show byte2 n d = none from by unfold byte2; rw [hN]; rfl] at hvc
                            have hans : ANS = none := by rw [HANS2.out, hvc]; rfl
                            subst hans
                            clear hvc hN
                            go_wp2_with fail
                            go_quiet (first | (go_at_call 64; exact cA _ _))
                            clear hge hgd hsum2 hnn htn hj2i hxd cA
                            have hstF := hstD.drewN nq
                            have HOF : Aside0 ((wD.drewN nq).ownsRow Bz 5 1 u8 acc.length (encs eB acc)) := ⟨own_drewN HOD.out _⟩
                            have hRF : Ab (wD.drewN nq) w.heap.size ⟨#[]⟩ ⟨#[]⟩ := hRD
                            have hXF : Ab (wD.drewN nq) X T ⟨#[]⟩ := hXD
                            have hBF : Bz ≤ (wD.drewN nq).heap.size := hBD
                            clear hstD HOD hRD hXD hBD
                            generalize wD.drewN nq = wF at *
                            have c0 := hstF.c0
                            have c1 := hstF.c1
                            have a0 := hRF.c0
                            have a1 := hRF.c1
                            have g0 := hRF.f 0
                            have g1 := hRF.f 1
                            have e0 := hXF.c0
                            have e1 := hXF.c1
                            have hpb := (hstF.far (b := w.heap.size) (k := 0) (Nat.le_refl _) h0 hglt (.string T)).far (b := w.heap.size) (k := 1) (Nat.le_refl _) h0 hglt (.string ⟨#[]⟩)
                            have hb := (hRF.set0 T).set1 ⟨#[]⟩
                            go_wp2_with fail
                            clear a0 a1 g0 g1
                            generalize (wF.setCell ⟨w.heap.size, 0, none⟩ (.string T)).setCell ⟨w.heap.size, 1, none⟩ (.string ⟨#[]⟩) = wb at *
                            have r0 := hb.c0
                            have r1 := hb.c1
                            refine bodyPost_ret (v := .tuple #[.agg #[.string T, .string ⟨#[]⟩], .bool false]) (by simp [results, Tryd.results52, go_sem, r0, r1]) rfl ?_
                            exact ⟨(bl T, []), false, j, _, rfl, hpb, hm, fun h => by cases h⟩
                        | some a =>
                          have ha16 := hv_lt hN
                          have cA : ∀ W k, Calls Tryd.prog 64 #[.int .u8 (n.toNat : Int)] (World.drewN W k) fun e w'' => e = .returned (.int .i64 ((a : Int))) ∧ ∃ q, w'' = W.drewN q := fun W k => by have := @quiet_rdig n W k; rw [show dv n = (a : Int) by unfold dv; rw [hN]] at this; exact this
                          cases hM : hv d with
                          | none =>
                            as_aux_lemma =>
                              have cB : ∀ W k, Calls Tryd.prog 64 #[.int .u8 (d.toNat : Int)] (World.drewN W k) fun e w'' => e = .returned (.int .i64 (-1)) ∧ ∃ q, w'' = W.drewN q := fun W k => by have := @quiet_rdig d W k; rw [show dv d = -1 by unfold dv; rw [hM]] at this; exact this
                              rw [show byte2 n d = none from by unfold byte2; rw [hN, hM]; rfl] at hvc
                              have hans : ANS = none := by rw [HANS2.out, hvc]; rfl
                              subst hans
                              clear hvc hN hM
                              go_wp2_with fail
                              go_quiet (first | (go_at_call 64; first | (with_reducible exact cA _ _) | (with_reducible exact cB _ _)))
                              clear hge hgd hsum2 hnn htn hj2i hxd cA cB
                              have hstF := hstD.drewN nq
                              have HOF : Aside0 ((wD.drewN nq).ownsRow Bz 5 1 u8 acc.length (encs eB acc)) := ⟨own_drewN HOD.out _⟩
                              have hRF : Ab (wD.drewN nq) w.heap.size ⟨#[]⟩ ⟨#[]⟩ := hRD
                              have hXF : Ab (wD.drewN nq) X T ⟨#[]⟩ := hXD
                              have hBF : Bz ≤ (wD.drewN nq).heap.size := hBD
                              clear hstD HOD hRD hXD hBD
                              generalize wD.drewN nq = wF at *
                              have c0 := hstF.c0
                              have c1 := hstF.c1
                              have a0 := hRF.c0
                              have a1 := hRF.c1
                              have g0 := hRF.f 0
                              have g1 := hRF.f 1
                              have e0 := hXF.c0
                              have e1 := hXF.c1
                              have hpb := (hstF.far (b := w.heap.size) (k := 0) (Nat.le_refl _) h0 hglt (.string T)).far (b := w.heap.size) (k := 1) (Nat.le_refl _) h0 hglt (.string ⟨#[]⟩)
                              have hb := (hRF.set0 T).set1 ⟨#[]⟩
                              go_wp2_with fail
                              clear a0 a1 g0 g1
                              generalize (wF.setCell ⟨w.heap.size, 0, none⟩ (.string T)).setCell ⟨w.heap.size, 1, none⟩ (.string ⟨#[]⟩) = wb at *
                              have r0 := hb.c0
                              have r1 := hb.c1
                              refine bodyPost_ret (v := .tuple #[.agg #[.string T, .string ⟨#[]⟩], .bool false]) (by simp [results, Tryd.results52, go_sem, r0, r1]) rfl ?_
                              exact ⟨(bl T, []), false, j, _, rfl, hpb, hm, fun h => by cases h⟩
                          | some b =>
                            have hb16 := hv_lt hM
                            have cB : ∀ W k, Calls Tryd.prog 64 #[.int .u8 (d.toNat : Int)] (World.drewN W k) fun e w'' => e = .returned (.int .i64 ((b : Int))) ∧ ∃ q, w'' = W.drewN q := fun W k => by have := @quiet_rdig d W k; rw [show dv d = (b : Int) by unfold dv; rw [hM]] at this; exact this
                            rw [show byte2 n d = some (UInt8.ofNat (16 * a + b)) from by unfold byte2; rw [hN, hM]; rfl] at hvc
                            have hbyte2 := byte_wrap ha16 hb16
                            have HVC : Aside0 (valF (acc ++ [UInt8.ofNat (16 * a + b)]) (acc.length + 1) q3 = valF [] 0 V0) := ⟨hvc.symm⟩
                            generalize UInt8.ofNat (16 * a + b) = z at *
                            clear hvc hN hM
                            go_wp2_with fail
                            go_quiet (first | (go_at_call 64; first | (with_reducible exact cA _ _) | (with_reducible exact cB _ _)))
                            have hstF := hstD.drewN nq
                            have HOF : Aside0 ((wD.drewN nq).ownsRow Bz 5 1 u8 acc.length (encs eB acc)) := ⟨own_drewN HOD.out _⟩
                            have hRF : Ab (wD.drewN nq) w.heap.size ⟨#[]⟩ ⟨#[]⟩ := hRD
                            have hXF : Ab (wD.drewN nq) X T ⟨#[]⟩ := hXD
                            have hBF : Bz ≤ (wD.drewN nq).heap.size := hBD
                            clear hstD HOD hRD hXD hBD
                            generalize wD.drewN nq = wF at *
                            have c0 := hstF.c0
                            have c1 := hstF.c1
                            go_wp2_with fail
                            have hbyte3 : IntKind.u8.wrap (IntKind.i64.wrap (IntKind.i64.wrap (16 * (a : Int)) + (b : Int))) = (z.toNat : Int) := hbyte2
                            have hOB : ∀ k, u8.ownBlock = some k → w.heap.size ≤ k := fun k hk => Nat.le_trans hwB (own_base HOF.out k hk)
                            obtain ⟨i0, hi0, hz0, hz1, hz2⟩ := info_parts byte_info
                            have dA : ∀ W : World, Calls Tryd.prog 64 #[.int .u8 (n.toNat : Int)] W fun e w'' => e = .returned (.int .i64 (a : Int)) ∧ ∃ q, w'' = W.drewN q := fun W => cA W 0
                            have dB : ∀ W : World, Calls Tryd.prog 64 #[.int .u8 (d.toNat : Int)] W fun e w'' => e = .returned (.int .i64 (b : Int)) ∧ ∃ q, w'' = W.drewN q := fun W => cB W 0
                            clear cA cB
                            go_region_held3 (fun w' => w'.cell? ⟨g, 0, none⟩ = some (.string s) ∧ w'.cell? ⟨g, 1, none⟩ = some (.int .i64 (j : Int))) (first | go_keep | exact ⟨(Sd.grown ((hstF.drewN _).below (below_alloc (Below.refl _ _) _)) hglt h0 hg5 hOB).c0, (Sd.grown ((hstF.drewN _).below (below_alloc (Below.refl _ _) _)) hglt h0 hg5 hOB).c1⟩) (first | (go_at_call 64; first | (with_reducible refine (dA _).mono ?_; rintro e w4 ⟨rfl, q4, rfl⟩) | (with_reducible refine (dB _).mono ?_; rintro e w4 ⟨rfl, q4, rfl⟩)) | (refine step_append_lies _ rfl _ _ _ rfl Bz 5 i0 (.int .u8 0) 1 1 Tryd.underlying64 hi0 hz0 hz1 hz2 rfl (by omega) u8 acc.length (encs eB acc) rfl (own_alloc (by exact HOF.out) _) ⟨wF.heap.size, 0, none⟩ 1 1 [eB z] rfl rfl (World.news_of_block (cs := #[eB z]) (t := 5) (fr := (0, 0)) (by exact heap_alloc_new (wF.drewN _) _)) (by intro u hu; rw [List.mem_singleton.1 hu]; rfl) (by omega) (by simp only [maxLen]; omega) (by omega) (by have := hBF; simp; omega) _ rfl ?_; intro gg cap w5 HO5 hg5 _ _))
                            all_goals
                              have hst6 := Sd.grown ((hstF.drewN _).below (below_alloc (Below.refl _ _) _)) hglt h0 hg5 hOB
                              have hR6 : Ab w5 w.heap.size ⟨#[]⟩ ⟨#[]⟩ := Ab.grown (by exact blk_alloc (w := wF.drewN _) (by exact hRF) _) hg5 (own_block_ne HOF.out (by omega))
                              have hX6 : Ab w5 X T ⟨#[]⟩ := Ab.grown (by exact blk_alloc (w := wF.drewN _) (by exact hXF) _) hg5 (own_block_ne HOF.out hBz)
                              have hB6 : Bz ≤ w5.heap.size := Nat.le_trans (Nat.le_trans hBF (by simp)) hg5.size
                              have HO7 : Aside0 (w5.ownsRow Bz 5 1 (.slice (some ⟨gg, 0, none⟩) (acc.length + 1) cap) (acc ++ [z]).length (encs eB (acc ++ [z]))) := ⟨by rw [List.length_append, encs_append]; exact HO5⟩
                              have c1 := hst6.c1
                              have fz := hst6.fz
                              clear HO5 hg5 hstF HOF hRF hXF hge hgd hsum2 hnn htn hj2i hxd hbyte2 hbyte3 dA dB
                              go_wp2_with fail
                              have hst7 := hst6.set (j + 3)
                              exact ⟨⟨acc ++ [z], acc.length + 1, j + 3, q3, by go_num, by simp, by simp; omega, hst7, hnx3, HVC.out, own_setCell (p := ⟨g, 1, none⟩) HO7.out (fun e => own_block_ne HO7.out hgB e.symm) _, by rw [World.size_setCell]; exact hB6, hR6.far (p := ⟨g, 1, none⟩) neR _, hX6.far (p := ⟨g, 1, none⟩) neX _⟩, by rw [HMD.out, show (j : Int) + 3 = ((j + 3 : Nat) : Int) from rfl, md_eq hst7.bk]; omega⟩
                · as_aux_lemma =>
                    have hx92 : ¬ (x.toNat : Int) = 92 := u8_ne (n := 92) h92
                    have hb92 : ((x.toNat : Int) == 92) = false := byte_ne (n := 92) h92
                    have cSp := special_d x
                    by_cases hbad : Dp.special x = true ∨ x = 0
                    · have hexit : (valF [] 0 V0 = some (acc.take long, x :: q) ∧ EndP (x :: q)) ∨ (valF [] 0 V0 = none ∧ Stuck (x :: q)) := by
                        by_cases h44 : x = 44 ∨ x = 43
                        · rw [if_pos h44] at hvc
                          exact .inl ⟨hvc, .inr (by rcases h44 with rfl | rfl; exact ⟨q, .inl rfl⟩; exact ⟨q, .inr rfl⟩)⟩
                        · rw [if_neg h44, if_neg h92, if_pos (hbad.symm.imp_right id)] at hvc
                          exact .inr ⟨hvc, x, q, rfl, fun e => h44 (.inr e), fun e => h44 (.inl e)⟩
                      have HEX := Aside0.mk hexit
                      by_cases hsp : Dp.special x = true
                      case' pos =>
                        rw [hsp] at cSp
                        clear hvc hexit hbad hsp h92
                        go_wp2_with fail
                        refine (cSp _).mono ?_
                        rintro e w3 ⟨rfl, q3, rfl⟩
                        go_wp2_with fail
                      case' neg =>
                        have hx0 : x = 0 := hbad.resolve_left hsp
                        subst hx0
                        have cSp0 : ∀ W, Calls Tryd.prog 66 #[.int .u8 0] W fun e w' => e = .returned (.bool false) ∧ ∃ m, w' = W.drewN m := special_d 0
                        clear hvc hexit hbad hsp h92 cSp hx92 hb92
                        go_wp2_with fail
                        refine (cSp0 _).mono ?_
                        rintro e w3 ⟨rfl, q3, rfl⟩
                        go_wp2_with fail
                      all_goals
                        go_meet
                        exact ⟨acc, long, j, _, rfl, hlong, hstB.drewN q3, hm, own_drewN HOB.out _, hRB, hXB, HEX.out⟩
                    · have hsp : Dp.special x = false := by
                        cases h : Dp.special x with
                        | false => rfl
                        | true => exact absurd (.inl h) hbad
                      have hx0 : x ≠ 0 := fun e => hbad (.inr e)
                      have hx0' : ¬ (x.toNat : Int) = 0 := u8_ne (n := 0) hx0
                      have hz : ((x.toNat : Int) == 0) = false := byte_ne (n := 0) hx0
                      have h44 : ¬ (x = 44 ∨ x = 43) := by
                        rintro (rfl | rfl) <;> exact absurd hsp (by decide)
                      rw [if_neg h44, if_neg h92, if_neg (by rintro (h | h); exact hx0 h; rw [hsp] at h; cases h)] at hvc
                      rw [hsp] at cSp
                      have HVC := Aside0.mk hvc
                      have hml := hm.len
                      rw [List.length_cons] at hml
                      clear hvc hbad hsp hx0 h44 h92
                      have fz := hstB.fz
                      by_cases h32 : x = 32
                      · skip
                        subst h32
                        have cSp : ∀ W, Calls Tryd.prog 66 #[.int .u8 32] W fun e w' => e = .returned (.bool false) ∧ ∃ m, w' = W.drewN m := special_d 32
                        clear hx92 hb92 hz hx0'
                        go_wp2_with fail
                        refine (cSp _).mono ?_
                        rintro e w3 ⟨rfl, q3, rfl⟩
                        have hst3 := hstB.drewN q3
                        have HO3 : Aside0 ((wB.drewN q3).ownsRow Bz 5 1 u8 acc.length (encs eB acc)) := ⟨own_drewN HOB.out _⟩
                        have hR3 : Ab (wB.drewN q3) w.heap.size ⟨#[]⟩ ⟨#[]⟩ := hRB
                        have hX3 : Ab (wB.drewN q3) X T ⟨#[]⟩ := hXB
                        have hB3 : Bz ≤ (wB.drewN q3).heap.size := hBB
                        clear hstB HOB hRB hXB hBB cSp c0 c1
                        generalize wB.drewN q3 = w3 at *
                        go_wp2_with (at_builtin; refine Aside0.out ?_)
                        refine ⟨?_⟩
                        refine print_append_of (w0 := w3) eB Bz rfl _ _ 64 5 (.int .u8 0) 1 rfl Tryd.underlying64 byte_info rfl (by omega) u8 acc (32 : UInt8) rfl (by simp [Act.eval]) rfl HO3.out (Below.refl _ _) hB3 (by omega) ?_
                        intro v1 w6 HO6 _ hg6 _
                        obtain ⟨A6, c6, rfl⟩ := slice_more HO6
                        have hst6 := hst3.grown hglt h0 hg6 (fun k hk => Nat.le_trans hwB (own_base HO3.out k hk))
                        have hR6 := hR3.grown hg6 (own_block_ne HO3.out (by omega))
                        have hX6 := hX3.grown hg6 (own_block_ne HO3.out hBz)
                        have hB6 := Nat.le_trans hB3 hg6.size
                        have c1 := hst6.c1
                        have fz := hst6.fz
                        have HO7 := Aside0.mk HO6
                        clear HO6 hg6 hst3 hR3 hX3 HO3
                        go_wp2_with fail
                        have hst7 := hst6.set (j + 1)
                        exact ⟨⟨acc ++ [(32 : UInt8)], long, j + 1, q, rfl, by simp; omega, by simp; omega, hst7, hnx, by rw [HVC.out]; rfl, own_setCell (p := ⟨g, 1, none⟩) HO7.out (fun e => own_block_ne HO7.out hgB e.symm) _, by rw [World.size_setCell]; exact hB6, hR6.far (p := ⟨g, 1, none⟩) neR _, hX6.far (p := ⟨g, 1, none⟩) neX _⟩, by rw [HMD.out, show (j : Int) + 1 = ((j + 1 : Nat) : Int) from rfl, md_eq hst7.bk]; omega⟩
                      · skip
                        have hx32 : ¬ (x.toNat : Int) = 32 := u8_ne (n := 32) h32
                        have hb32 : ((x.toNat : Int) == 32) = false := byte_ne (n := 32) h32
                        go_wp2_with fail
                        refine (cSp _).mono ?_
                        rintro e w3 ⟨rfl, q3, rfl⟩
                        have hst3 := hstB.drewN q3
                        have HO3 : Aside0 ((wB.drewN q3).ownsRow Bz 5 1 u8 acc.length (encs eB acc)) := ⟨own_drewN HOB.out _⟩
                        have hR3 : Ab (wB.drewN q3) w.heap.size ⟨#[]⟩ ⟨#[]⟩ := hRB
                        have hX3 : Ab (wB.drewN q3) X T ⟨#[]⟩ := hXB
                        have hB3 : Bz ≤ (wB.drewN q3).heap.size := hBB
                        clear hstB HOB hRB hXB hBB cSp c0 c1
                        generalize wB.drewN q3 = w3 at *
                        go_wp2_with (at_builtin; refine Aside0.out ?_)
                        refine ⟨?_⟩
                        refine print_append_of (w0 := w3) eB Bz rfl _ _ 64 5 (.int .u8 0) 1 rfl Tryd.underlying64 byte_info rfl (by omega) u8 acc x rfl (by simp [Act.eval]) rfl HO3.out (Below.refl _ _) hB3 (by omega) ?_
                        intro v1 w6 HO6 _ hg6 _
                        obtain ⟨A6, c6, rfl⟩ := slice_more HO6
                        have hst6 := hst3.grown hglt h0 hg6 (fun k hk => Nat.le_trans hwB (own_base HO3.out k hk))
                        have hR6 := hR3.grown hg6 (own_block_ne HO3.out (by omega))
                        have hX6 := hX3.grown hg6 (own_block_ne HO3.out hBz)
                        have hB6 := Nat.le_trans hB3 hg6.size
                        have c1 := hst6.c1
                        have fz := hst6.fz
                        have HO7 := Aside0.mk HO6
                        clear HO6 hg6 hst3 hR3 hX3 HO3
                        go_wp2_with fail
                        have hst7 := hst6.set (j + 1)
                        exact ⟨⟨acc ++ [x], acc.length + 1, j + 1, q, by go_num, by simp, by simp; omega, hst7, hnx, by rw [HVC.out, if_neg h32], own_setCell (p := ⟨g, 1, none⟩) HO7.out (fun e => own_block_ne HO7.out hgB e.symm) _, by rw [World.size_setCell]; exact hB6, hR6.far (p := ⟨g, 1, none⟩) neR _, hX6.far (p := ⟨g, 1, none⟩) neX _⟩, by rw [HMD.out, show (j : Int) + 1 = ((j + 1 : Nat) : Int) from rfl, md_eq hst7.bk]; omega⟩
        case rest =>
          clear hp9 hR9 hX9 hown9 hBw hBzz hl8
          obtain ⟨acc, long, j, m, rfl, hlong, hst, hm, hown, hR2, hX2, hend⟩ := hcut
          obtain ⟨A8, c8, rfl, hsl, hcv⟩ := cut_str hown rfl hlong
          have hcv0 : (convert 64 9 (.slice A8 long c8)).run Tryd.prog wc = .ok (.string ⟨(acc.take long).toArray⟩) wc := hcv 0
          have HE := Aside0.mk hend
          have HOW := Aside0.mk hown
          clear hend hown
          have e0 := hX2.c0
          have e1 := hX2.c1
          have f1 := hX2.f 1
          have a0 := hR2.c0
          have a1 := hR2.c1
          have g0 := hR2.f 0
          have g1 := hR2.f 1
          obtain ⟨V, hV⟩ : ∃ V : ByteArray, V = ⟨(acc.take long).toArray⟩ := ⟨_, rfl⟩
          rw [← hV] at hcv0
          have hVb : bl V = acc.take long := by rw [hV]; rfl
          clear hV hcv
          go_upto_region 42 with fail
          have hp5 := hst.far (b := X) (k := 1) (Nat.le_of_lt hXl) h0 hglt (.string V)
          have hR5 := hR2.far (p := ⟨X, 1, none⟩) (by show w.heap.size ≠ X; omega) (.string V)
          have hX5 := hX2.set1 V
          clear e0 e1 f1 a0 a1 g0 g1 hst hR2 hX2 hsl hcv0
          generalize wc.setCell ⟨X, 1, none⟩ (.string V) = w5 at *
          have a0 := hR5.c0
          have a1 := hR5.c1
          have g0 := hR5.f 0
          have g1 := hR5.f 1
          have e0 := hX5.c0
          have e1 := hX5.c1
          have hpb := (hp5.far (b := w.heap.size) (k := 0) (Nat.le_refl _) h0 hglt (.string T)).far (b := w.heap.size) (k := 1) (Nat.le_refl _) h0 hglt (.string V)
          have hb := (hR5.set0 T).set1 V
          go_wp2_with fail
          clear a0 a1 g0 g1
          generalize (w5.setCell ⟨w.heap.size, 0, none⟩ (.string T)).setCell ⟨w.heap.size, 1, none⟩ (.string V) = wb at *
          have r0 := hb.c0
          have r1 := hb.c1
          refine bodyPost_ret (v := .tuple #[.agg #[.string T, .string V], .bool true]) (by simp [results, Tryd.results52, go_sem, r0, r1]) rfl ?_
          rcases HE.out with ⟨he, hem⟩ | ⟨he, hstk⟩
          · have hans : ANS = some ((bl T, bl V), m) := by rw [HANS2.out, he, hVb]; show some ((bl T, acc.take long), blanks m) = _; rw [hem.blanks]
            subst hans
            exact ⟨(bl T, bl V), true, j, m, rfl, hpb, hm, rfl, rfl, rfl⟩
          · have hans : ANS = none := by rw [HANS2.out, he]; rfl
            subst hans
            exact ⟨(bl T, bl V), true, j, m, rfl, hpb, hm, fun _ => hstk⟩
end Go.Proofs.YtneclgjjnnldpaaDoor.Rd
