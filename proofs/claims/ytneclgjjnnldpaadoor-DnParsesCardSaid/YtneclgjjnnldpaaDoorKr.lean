/- The walks of the reference's Parse and ParseRdn and of package dn's ParseRdn: what the plain functions say. Conditions: a text of at most 2^47 bytes; the listed tables hold what the program lays in them. -/
import Derived.Test.YtneclgjjnnldpaaDoorKn
namespace Go.Proofs.YtneclgjjnnldpaaDoor.Rd
open Go Go.RowKit Go.Lib Go.Proofs.YtneclgjjnnldpaaDoor.PFn Go.Proofs.YtneclgjjnnldpaaDoor.Dp Go.Proofs.YtneclgjjnnldpaaDoorW.PrintWords Go.Proofs.YtneclgjjnnldpaaDoor.Rk

/-- what ParseRdn answers -/
def parseRdnL (s : Bs) : List Ava × Nat :=
  if 65536 < s.length then ([], 2) else match nameL s with
    | none => ([], 30)
    | some d => if d.length = 1 then (if tooLong d then ([], 2) else (d.headD [], 0)) else ([], 30)
theorem nameGo_ge : ∀ (n : Nat) (acc : List (List Ava)) (l : Bs) (y : List (List Ava) × Bs), nameGo n acc l = some y → acc.length ≤ y.1.length
  | n, acc, [], y, h => by
    have : nameGo n acc [] = some (acc, []) := by cases n <;> rfl
    rw [this] at h
    injection h with h
    subst h
    exact Nat.le_refl _
  | 0, acc, c :: l, y, h => by
    injection h with h
    subst h
    exact Nat.le_refl _
  | n + 1, acc, c :: l, y, h => by
    simp only [nameGo] at h
    split at h
    · cases he : partL l with
      | none => rw [he] at h; cases h
      | some x =>
        rw [he] at h
        have := nameGo_ge n _ _ _ h
        simp at this
        omega
    · injection h with h
      subst h
      exact Nat.le_refl _
theorem name_part {l : Bs} {d : List (List Ava)} (h : nameL l = some d) (hd : d ≠ []) : ∃ x, partL l = some x ∧ decide (x.2 = []) = decide (d.length = 1) := by
  unfold nameL at h
  split at h
  · injection h with h
    exact absurd h.symm hd
  · obtain ⟨x, hx, h⟩ := Option.bind_eq_some_iff.1 h
    obtain ⟨y, hy, h⟩ := Option.bind_eq_some_iff.1 h
    refine ⟨x, hx, ?_⟩
    split at h
    · next hy2 =>
      injection h with h
      subst h
      cases hx2 : x.2 with
      | nil =>
        rw [hx2] at hy
        rw [nameF_nil] at hy
        injection hy with hy
        subst hy
        rfl
      | cons c r =>
        rw [hx2, nameF_cons] at hy
        split at hy
        · cases he : partL r with
          | none => rw [he] at hy; cases hy
          | some z =>
            rw [he] at hy
            have := nameGo_ge _ _ _ _ hy
            simp at this
            rw [decide_eq_false (by simp), decide_eq_false (by omega)]
        · injection hy with hy
          subst hy
          cases hy2
    · cases h
theorem NamD.none_ {w w' : World} {e : Ending} (h : NamD w none e w') : ∃ v, e = .returned (.tuple #[v, .bool false]) ∧ Below w.heap.size w w' := by
  obtain ⟨v, he, _, hb⟩ := h
  exact ⟨v, he, hb⟩
theorem NamD.some_ {w w' : World} {e : Ending} {d : List (List Ava)} (h : NamD w (some d) e w') : ∃ A c, e = .returned (.tuple #[.slice A (d.map sR).length c, .bool true]) ∧ (d.map sR).length ≤ c ∧ kR.R 25 w' w.heap.size (fun k => w.heap.size ≤ k) (.slice A (d.map sR).length c) (d.map sR) ∧ kR.C w' A (d.map sR).length (d.map sR) ∧ Below w.heap.size w w' := by
  obtain ⟨v, he, hR, hb⟩ := h
  obtain ⟨A, c, rfl⟩ := Kd.R_slice hR
  obtain ⟨hc, hC⟩ := R_view hR
  exact ⟨A, c, he, hc, hR, hC, hb⟩
set_option maxHeartbeats 1000000 in
set_option maxRecDepth 10000 in
theorem refParse_c (s : ByteArray) (w : World) (hz : s.size ≤ 140737488351232) : Calls Tryd.prog 15 #[.string s] w (ParseP w (parseL (bl s))) := by
  by_cases hlong : 65536 < s.size
  · have hp : parseL (bl s) = ([], 2) := by unfold parseL; rw [if_pos (by rw [bl_size]; exact hlong)]
    rw [hp]
    have hli : (65536 : Int) < (s.size : Int) := by omega
    clear hp
    go_enter Tryd.func15, Tryd.ntmps15
    go_wp2
    refine bodyPost_ret (v := .tuple #[.slice none 0 0, .int .i64 2]) (by simp [results, Tryd.results15, go_sem]) rfl ?_
    exact ⟨_, rfl, Kd.R_nil _ _ _ _ _, Below.refl _ _⟩
  · have hli : ¬ (65536 : Int) < (s.size : Int) := by omega
    have hpl : parseL (bl s) = match nameL (bl s) with
      | none => ([], 30)
      | some d => if tooLong d then ([], 2) else (d, 0) := by unfold parseL; rw [if_neg (by rw [bl_size]; exact hlong)]; cases nameL (bl s) <;> rfl
    obtain ⟨ANS, hA⟩ : ∃ b, parseL (bl s) = b := ⟨_, rfl⟩
    rw [hA] at hpl ⊢
    clear hA
    have cN := nameD_c s w (by omega)
    cases hN : nameL (bl s) with
    | none =>
      rw [hN] at cN hpl
      have hp : ANS = ([], 30) := hpl
      subst hp
      clear hN hpl
      go_enter Tryd.func15, Tryd.ntmps15
      go_wp2_with fail
      refine cN.mono ?_
      intro e w1 hq
      obtain ⟨v, rfl, hb⟩ := hq.none_
      go_wp2
      refine bodyPost_ret (v := .tuple #[.slice none 0 0, .int .i64 30]) (by simp [results, Tryd.results15, go_sem]) rfl ?_
      exact ⟨_, rfl, Kd.R_nil _ _ _ _ _, hb⟩
    | some d =>
      rw [hN] at cN hpl
      have hp : ANS = if tooLong d then ([], 2) else (d, 0) := hpl
      clear hN hpl
      go_enter Tryd.func15, Tryd.ntmps15
      have HP := Aside0.mk hp
      clear hp
      go_wp2_with fail
      refine cN.mono ?_
      intro e w1 hq
      obtain ⟨A, c, rfl, hc, hR, hC, hb⟩ := hq.some_
      have cF := fits_c A c (d.map sR) w1 hC hc
      rw [dP_sR] at cF
      have HR := Aside0.mk hR
      clear hR hq cN
      obtain ⟨n, hn⟩ : ∃ n, (d.map sR).length = n := ⟨_, rfl⟩
      rw [hn] at cF HR ⊢
      clear hC hc
      cases hT : tooLong d with
      | true =>
        rw [hT] at cF
        have hp : ANS = ([], 2) := by rw [HP.out, hT]; rfl
        subst hp
        clear hn hT
        go_wp2_with fail
        refine cF.mono ?_
        rintro e w2 ⟨rfl, hb2⟩
        go_wp2
        refine bodyPost_ret (v := .tuple #[.slice none 0 0, .int .i64 2]) (by simp [results, Tryd.results15, go_sem]) rfl ?_
        exact ⟨_, rfl, Kd.R_nil _ _ _ _ _, below_seq hb hb2⟩
      | false =>
        rw [hT] at cF
        have hp : ANS = (d, 0) := by rw [HP.out, hT]; rfl
        subst hp
        clear hn hT
        go_wp2_with fail
        refine cF.mono ?_
        rintro e w2 ⟨rfl, hb2⟩
        go_wp2
        refine bodyPost_ret (v := .tuple #[.slice A n c, .int .i64 0]) (by simp [results, Tryd.results15, go_sem]) rfl ?_
        exact ⟨_, rfl, Kd.R_below HR.out hb2, below_seq hb hb2⟩
/-- what ParseRdn leaves -/
def RdnP (w : World) (r : List Ava × Nat) (e : Ending) (w' : World) : Prop :=
  ∃ A c, e = .returned (.tuple #[.slice A (sR r.1).length c, .int .i64 (r.2 : Int)]) ∧ (sR r.1).length ≤ c ∧ kA.C w' A (sR r.1).length (sR r.1) ∧ Below w.heap.size w w'
theorem RdnP.no {w w' : World} {n : Nat} (h : Below w.heap.size w w') : RdnP w ([], n) (.returned (.tuple #[.slice none 0 0, .int .i64 (n : Int)])) w' :=
  ⟨none, 0, rfl, Nat.le_refl _, (R_view (k := 0) (xs := []) (Kd.R_nil kA 39 w' 0 (fun _ => True))).2, h⟩
set_option maxHeartbeats 1000000 in
set_option maxRecDepth 10000 in
theorem refParseRdn_c (s : ByteArray) (w : World) (hz : s.size ≤ 140737488351232) : Calls Tryd.prog 17 #[.string s] w (RdnP w (parseRdnL (bl s))) := by
  by_cases hlong : 65536 < s.size
  · have hp : parseRdnL (bl s) = ([], 2) := by unfold parseRdnL; rw [if_pos (by rw [bl_size]; exact hlong)]
    rw [hp]
    have hli : (65536 : Int) < (s.size : Int) := by omega
    clear hp
    go_enter Tryd.func17, Tryd.ntmps17
    go_wp2
    refine bodyPost_ret (v := .tuple #[.slice none 0 0, .int .i64 2]) (by simp [results, Tryd.results17, go_sem]) rfl ?_
    exact RdnP.no (Below.refl _ _)
  · have hli : ¬ (65536 : Int) < (s.size : Int) := by omega
    have hpl : parseRdnL (bl s) = match nameL (bl s) with
      | none => ([], 30)
      | some d => if d.length = 1 then (if tooLong d then ([], 2) else (d.headD [], 0)) else ([], 30) := by unfold parseRdnL; rw [if_neg (by rw [bl_size]; exact hlong)]
    obtain ⟨ANS, hA⟩ : ∃ b, parseRdnL (bl s) = b := ⟨_, rfl⟩
    rw [hA] at hpl ⊢
    clear hA
    have cN := nameD_c s w (by omega)
    cases hN : nameL (bl s) with
    | none =>
      rw [hN] at cN hpl
      have hp : ANS = ([], 30) := hpl
      subst hp
      clear hN hpl
      go_enter Tryd.func17, Tryd.ntmps17
      go_wp2_with fail
      refine cN.mono ?_
      intro e w1 hq
      obtain ⟨v, rfl, hb⟩ := hq.none_
      go_wp2
      refine bodyPost_ret (v := .tuple #[.slice none 0 0, .int .i64 30]) (by simp [results, Tryd.results17, go_sem]) rfl ?_
      exact RdnP.no hb
    | some d =>
      rw [hN] at cN hpl
      have hp : ANS = if d.length = 1 then (if tooLong d then ([], 2) else (d.headD [], 0)) else ([], 30) := hpl
      have HP := Aside0.mk hp
      clear hN hpl hp
      go_enter Tryd.func17, Tryd.ntmps17
      go_wp2_with fail
      refine cN.mono ?_
      intro e w1 hq
      obtain ⟨A, c, rfl, hc, hR, hC, hb⟩ := hq.some_
      clear hR hq cN
      by_cases h1 : d.length = 1
      · obtain ⟨p, rfl⟩ := List.length_eq_one_iff.1 h1
        have cF : Calls Tryd.prog 30 #[.slice A 1 c] w1 fun e w' => e = .returned (.bool (!tooLong [p])) ∧ Below w1.heap.size w1 w' := by
          have := fits_c A c ([p].map sR) w1 hC hc
          rwa [dP_sR] at this
        have HC : Aside0 (kR.C w1 A ([p].map sR).length ([p].map sR)) := ⟨hC⟩
        rw [show ([p].map sR).length = 1 from rfl]
        clear hC hc h1
        cases hT : tooLong [p] with
        | true =>
          rw [hT] at cF
          have hp : ANS = ([], 2) := by rw [HP.out, hT]; rfl
          subst hp
          clear hT
          go_wp2_with fail
          refine cF.mono ?_
          rintro e w2 ⟨rfl, hb2⟩
          go_wp2
          refine bodyPost_ret (v := .tuple #[.slice none 0 0, .int .i64 2]) (by simp [results, Tryd.results17, go_sem]) rfl ?_
          exact RdnP.no (below_seq hb hb2)
        | false =>
          rw [hT] at cF
          have hp : ANS = (p, 0) := by rw [HP.out, hT]; rfl
          subst hp
          clear hT
          go_wp2_with fail
          refine cF.mono ?_
          rintro e w2 ⟨rfl, hb2⟩
          obtain ⟨ad, B, c2, rfl, h0, h1, h2⟩ := at_rdn (Kd.C_below HC.out hb2) 0 (by simp)
          replace h0 : w2.cell? ad = some (.slice B (sR p).length c2) := h0
          replace h1 : (sR p).length ≤ c2 := h1
          replace h2 : Aside0 (kA.C w2 B (sR p).length (sR p)) := ⟨h2⟩
          go_wp2
          refine bodyPost_ret (v := .tuple #[.slice B (sR p).length c2, .int .i64 0]) (by simp [results, Tryd.results17, go_sem]) rfl ?_
          exact ⟨B, c2, rfl, h1, h2.out, below_seq hb hb2⟩
      · have hp : ANS = ([], 30) := by rw [HP.out, if_neg h1]
        subst hp
        have hn : ¬ (d.map sR).length = 1 := by simpa using h1
        obtain ⟨n, hn2⟩ : ∃ n, (d.map sR).length = n := ⟨_, rfl⟩
        rw [hn2] at hn ⊢
        have hne : ((n : Int) == 1) = false := beq_false_of_ne (by omega)
        have hne2 : ¬ (n : Int) = 1 := by omega
        clear hC hc hn2 h1
        go_wp2
        refine bodyPost_ret (v := .tuple #[.slice none 0 0, .int .i64 30]) (by simp [results, Tryd.results17, go_sem]) rfl ?_
        exact RdnP.no hb
set_option maxHeartbeats 1000000 in
set_option maxRecDepth 10000 in
theorem onePart_c (s : ByteArray) (w : World) (hz : s.size ≤ 1000000) (hE : Env w) {x : List Ava × Bs} (hx : partL (bl s) = some x) :
    Calls Tryd.prog 31 #[.string s] w fun e w' => e = .returned (.bool (decide (x.2 = []))) ∧ Below w.heap.size w w' := by
  obtain ⟨b, hbb⟩ : ∃ b, decide (x.2 = []) = b := ⟨_, rfl⟩
  rw [hbb]
  have HBB := Aside0.mk hbb
  clear hbb
  have kg := IsS56.new w w s 0 (Below.refl _ _)
  have hst : St w (w.alloc (.cells #[.string s, .int .i64 0] 56)) (w.alloc (.cells #[.string s, .int .i64 0] 56)) w.heap.size s 0 := ⟨kg, below_alloc (Below.refl _ _) _, KeepBut.refl _ _ _⟩
  have cP := part_c hst ⟨List.drop_zero, Nat.zero_le _⟩ hz hE
  rw [hx] at cP
  have HB := Aside0.mk (below_alloc (Below.refl w.heap.size w) (.cells #[.string s, .int .i64 0] 56))
  clear kg hst hx
  go_enter Tryd.func31, Tryd.ntmps31
  go_wp2_with fail
  generalize w.alloc (.cells #[.string s, .int .i64 0] 56) = w1 at *
  refine cP.mono ?_
  intro e w2 hq
  obtain ⟨A, n, c, rfl, hR, j, hst, hl⟩ := hq.some_
  have cE := ended_q hst.bk
  have hj : decide (j = s.size) = b := by
    rw [← HBB.out]
    cases hx : x.2 with
    | nil => rw [hx] at hl; rw [decide_eq_true hl.nil, decide_eq_true rfl]
    | cons a r => rw [hx] at hl; have := hl.lt; rw [decide_eq_false (by omega), decide_eq_false (by simp)]
  rw [hj] at cE
  have HST := Aside0.mk hst
  clear hj hR hq cP hst hl
  go_wp2_with fail
  refine cE.mono ?_
  rintro e w3 ⟨rfl, q, rfl⟩
  go_wp2
  refine bodyPost_ret (v := .bool b) (by simp [results, Tryd.results31, go_sem]) rfl ?_
  exact ⟨rfl, (HST.out.drewN q).2.1⟩
theorem ParseP.zero {w w' : World} {d : List (List Ava)} {n : Nat} {e : Ending} (h : ParseP w (d, n) e w') : ∃ A c, e = .returned (.tuple #[.slice A (d.map sR).length c, .int .i64 (n : Int)]) ∧ (d.map sR).length ≤ c ∧ kR.C w' A (d.map sR).length (d.map sR) ∧ Below w.heap.size w w' := by
  obtain ⟨v, he, hR, hb⟩ := h
  obtain ⟨A, c, rfl⟩ := Kd.R_slice hR
  obtain ⟨hc, hC⟩ := R_view hR
  exact ⟨A, c, he, hc, hC, hb⟩
set_option maxHeartbeats 2000000 in
set_option maxRecDepth 10000 in
theorem parseRdn_c (s : ByteArray) (w : World) (hE : Env w) (hz : s.size ≤ 140737488351232) : Calls Tryd.prog 16 #[.string s] w (RdnP w (parseRdnL (bl s))) := by
  have cP := parse_c s w hE hz
  by_cases hlong : 65536 < s.size
  · have hp : parseRdnL (bl s) = ([], 2) := by unfold parseRdnL; rw [if_pos (by rw [bl_size]; exact hlong)]
    have hp2 : parseL (bl s) = ([], 2) := by unfold parseL; rw [if_pos (by rw [bl_size]; exact hlong)]
    rw [hp]
    rw [hp2] at cP
    have hli : ¬ (s.size : Int) ≤ (65536 : Int) := by omega
    have hld : decide ((s.size : Int) ≤ (65536 : Int)) = false := decide_eq_false hli
    clear hp hp2
    go_enter Tryd.func16, Tryd.ntmps16
    go_wp2_with fail
    refine cP.mono ?_
    intro e w1 hq
    obtain ⟨A, c, rfl, hc, hC, hb⟩ := hq.zero
    clear hC hc hq cP
    go_wp2
    refine bodyPost_ret (v := .tuple #[.slice none 0 0, .int .i64 2]) (by simp [results, Tryd.results16, go_sem]) rfl ?_
    exact RdnP.no hb
  · have hli : (s.size : Int) ≤ (65536 : Int) := by omega
    have hld : decide ((s.size : Int) ≤ (65536 : Int)) = true := decide_eq_true hli
    have hpl : parseRdnL (bl s) = match nameL (bl s) with
      | none => ([], 30)
      | some d => if d.length = 1 then (if tooLong d then ([], 2) else (d.headD [], 0)) else ([], 30) := by unfold parseRdnL; rw [if_neg (by rw [bl_size]; exact hlong)]
    have hpl2 : parseL (bl s) = match nameL (bl s) with
      | none => ([], 30)
      | some d => if tooLong d then ([], 2) else (d, 0) := by unfold parseL; rw [if_neg (by rw [bl_size]; exact hlong)]; cases nameL (bl s) <;> rfl
    obtain ⟨ANS, hA⟩ : ∃ b, parseRdnL (bl s) = b := ⟨_, rfl⟩
    rw [hA] at hpl ⊢
    clear hA
    rw [hpl2] at cP
    clear hpl2
    cases hN : nameL (bl s) with
    | none =>
      rw [hN] at cP hpl
      have hp : ANS = ([], 30) := hpl
      replace cP : Calls Tryd.prog 13 #[.string s] w (ParseP w ([], 30)) := cP
      subst hp
      clear hN hpl
      go_enter Tryd.func16, Tryd.ntmps16
      go_wp2_with fail
      refine cP.mono ?_
      intro e w1 hq
      obtain ⟨A, c, rfl, hc, hC, hb⟩ := hq.zero
      clear hC hc hq cP
      go_wp2
      refine bodyPost_ret (v := .tuple #[.slice none 0 0, .int .i64 30]) (by simp [results, Tryd.results16, go_sem]) rfl ?_
      exact RdnP.no hb
    | some d =>
      rw [hN] at cP hpl
      have hp : ANS = if d.length = 1 then (if tooLong d then ([], 2) else (d.headD [], 0)) else ([], 30) := hpl
      have HP := Aside0.mk hp
      clear hpl hp
      cases hT : tooLong d with
      | true =>
        replace cP : Calls Tryd.prog 13 #[.string s] w (ParseP w ([], 2)) := by
          have h2 := cP
          simp only [hT, if_true] at h2
          exact h2
        obtain ⟨x, hx, hx2⟩ := name_part hN (by rintro rfl; cases hT)
        have cO := fun W (hW : Env W) => onePart_c s W (by omega) hW hx
        rw [hx2] at cO
        clear hN hx hx2
        by_cases h1 : d.length = 1
        · have hp : ANS = ([], 2) := by rw [HP.out, if_pos h1, hT]; rfl
          subst hp
          rw [decide_eq_true h1] at cO
          clear hT h1
          go_enter Tryd.func16, Tryd.ntmps16
          go_wp2_with fail
          refine cP.mono ?_
          intro e w1 hq
          obtain ⟨A, c, rfl, hc, hC, hb⟩ := hq.zero
          clear hC hc hq cP
          go_wp2_with fail
          refine (cO _ (hE.below hb)).mono ?_
          rintro e w2 ⟨rfl, hb2⟩
          go_wp2
          refine bodyPost_ret (v := .tuple #[.slice none 0 0, .int .i64 2]) (by simp [results, Tryd.results16, go_sem]) rfl ?_
          exact RdnP.no (below_seq hb hb2)
        · have hp : ANS = ([], 30) := by rw [HP.out, if_neg h1]
          subst hp
          rw [decide_eq_false h1] at cO
          clear hT h1
          go_enter Tryd.func16, Tryd.ntmps16
          go_wp2_with fail
          refine cP.mono ?_
          intro e w1 hq
          obtain ⟨A, c, rfl, hc, hC, hb⟩ := hq.zero
          clear hC hc hq cP
          go_wp2_with fail
          refine (cO _ (hE.below hb)).mono ?_
          rintro e w2 ⟨rfl, hb2⟩
          go_wp2
          refine bodyPost_ret (v := .tuple #[.slice none 0 0, .int .i64 30]) (by simp [results, Tryd.results16, go_sem]) rfl ?_
          exact RdnP.no (below_seq hb hb2)
      | false =>
        replace cP : Calls Tryd.prog 13 #[.string s] w (ParseP w (d, 0)) := by
          have h2 := cP
          simp only [hT, Bool.false_eq_true, if_false] at h2
          exact h2
        clear hN
        by_cases h1 : d.length = 1
        · have hp : ANS = (d.headD [], 0) := by rw [HP.out, if_pos h1, hT]; rfl
          subst hp
          obtain ⟨p, rfl⟩ := List.length_eq_one_iff.1 h1
          clear hT h1
          go_enter Tryd.func16, Tryd.ntmps16
          go_wp2_with fail
          refine cP.mono ?_
          intro e w1 hq
          obtain ⟨A, c, rfl, hc, hC, hb⟩ := hq.zero
          obtain ⟨ad, B, c2, rfl, h0, h1, h2⟩ := at_rdn hC 0 (by simp)
          replace h0 : w1.cell? ad = some (.slice B (sR p).length c2) := h0
          replace h1 : (sR p).length ≤ c2 := h1
          replace h2 : Aside0 (kA.C w1 B (sR p).length (sR p)) := ⟨h2⟩
          rw [show ([p].map sR).length = 1 from rfl]
          clear hC hc hq cP
          go_wp2
          refine bodyPost_ret (v := .tuple #[.slice B (sR p).length c2, .int .i64 0]) (by simp [results, Tryd.results16, go_sem]) rfl ?_
          exact ⟨B, c2, rfl, h1, h2.out, hb⟩
        · have hp : ANS = ([], 30) := by rw [HP.out, if_neg h1]
          subst hp
          go_enter Tryd.func16, Tryd.ntmps16
          go_wp2_with fail
          refine cP.mono ?_
          intro e w1 hq
          obtain ⟨A, c, rfl, hc, hC, hb⟩ := hq.zero
          have hn : ¬ (d.map sR).length = 1 := by simpa using h1
          obtain ⟨n, hn2⟩ : ∃ n, (d.map sR).length = n := ⟨_, rfl⟩
          rw [hn2] at hn ⊢
          have hne : ((n : Int) == 1) = false := beq_false_of_ne (by omega)
          have hne2 : ¬ (n : Int) = 1 := by omega
          clear hC hc hn2 h1 hq cP
          go_wp2
          refine bodyPost_ret (v := .tuple #[.slice none 0 0, .int .i64 30]) (by simp [results, Tryd.results16, go_sem]) rfl ?_
          exact RdnP.no hb
end Go.Proofs.YtneclgjjnnldpaaDoor.Rd
