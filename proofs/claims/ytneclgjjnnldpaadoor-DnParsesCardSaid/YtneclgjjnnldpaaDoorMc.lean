/- Merged out of Rn Ri Rz (by wip/tools/merge.py). -/
import Derived.Test.YtneclgjjnnldpaaDoorMb
import Derived.Test.YtneclgjjnnldpaaDoorMa
import Derived.Defers
import Derived.Recover
import Derived.Laws.Pointers
section
/- The walk of the reader's name: it answers, or panics, as the plain function says. Conditions: a text of at most 10^6 bytes. -/
namespace Go.Proofs.YtneclgjjnnldpaaDoor.Rd
open Go Go.RowKit Go.Lib Go.Proofs.YtneclgjjnnldpaaDoor.PFn Go.Proofs.YtneclgjjnnldpaaDoor.Dp Go.Proofs.YtneclgjjnnldpaaDoorW.PrintWords

theorem rdn_info : (Tryd.prog.info? 25).map (fun i => (i.zero, i.size, i.bytes)) = some (some (.slice none 0 0), kR.sz, 24) := by kernel_rfl
def sR (r : List Ava) : List S39 := r.map sA
theorem R_block_lt {α : Type} {d : Kd α} {e : Nat} {w : World} {base : Nat} {ok : Nat → Prop} {v : Value} {xs : List α} (h : d.R e w base ok v xs) (k : Nat) (hk : v.ownBlock = some k) : k < w.heap.size := by
  obtain ⟨inner, ho⟩ := Kd.R_own h
  exact own_lt ho k hk
theorem PartP.some_ {w0 w w' : World} {g : Nat} {s : ByteArray} {x : List Ava × Bs} {e : Ending} (h : PartP w0 w g s (some x) e w') : ∃ A n c, e = .returned (.slice A n c) ∧ kA.R 39 w' w.heap.size (fun k => w.heap.size ≤ k) (.slice A n c) (sR x.1) ∧ ∃ j, St w0 w w' g s j ∧ Lr s j x.2 := by
  obtain ⟨⟨v, he, hr⟩, hs⟩ := h
  obtain ⟨A, c, rfl⟩ := Kd.R_slice hr
  exact ⟨A, _, c, he, hr, hs⟩
theorem PartP.none_ {w0 w w' : World} {g : Nat} {s : ByteArray} {e : Ending} (h : PartP w0 w g s none e w') : e = .panicked Pan ∧ ∃ j, St w0 w w' g s j := h
def NameP (w0 w : World) (g : Nat) (s : ByteArray) (r : Option (List (List Ava))) (e : Ending) (w' : World) : Prop := match r with
  | some x => (∃ v, e = .returned v ∧ kR.R 25 w' w.heap.size (fun k => w.heap.size ≤ k) v (x.map sR)) ∧ ∃ j, St w0 w w' g s j
  | none => e = .panicked Pan ∧ ∃ j, St w0 w w' g s j
theorem NameP.yes {w0 w w' : World} {g j : Nat} {s : ByteArray} {xs : List (List Ava)} {v : Value} (hr : kR.R 25 w' w.heap.size (fun k => w.heap.size ≤ k) v (xs.map sR)) (hs : St w0 w w' g s j) : NameP w0 w g s (some xs) (.returned v) w' := ⟨⟨v, rfl, hr⟩, j, hs⟩
theorem NameP.no {w0 w w' : World} {g j : Nat} {s : ByteArray} (hs : St w0 w w' g s j) : NameP w0 w g s none (.panicked Pan) w' := ⟨rfl, j, hs⟩
def NaRel (w0 w : World) (g : Nat) (s : ByteArray) (ans : Option (List (List Ava) × Bs)) (v3 : Value) (wr : World) : Prop :=
  ∃ (acc : List (List Ava)) (j : Nat) (m : Bs), kR.R 25 wr w.heap.size (fun k => w.heap.size ≤ k) v3 (acc.map sR) ∧ acc.length ≤ j ∧ St w0 w wr g s j ∧ Lr s j m ∧ nameF acc m = ans
set_option maxHeartbeats 1000000 in
set_option maxRecDepth 100000 in
theorem name_c {w0 w : World} {g : Nat} {s : ByteArray} (h : St w0 w w g s 0) (hs : s.size ≤ 1000000) (hE : Env w0) :
    Calls Tryd.prog 28 #[.pointer (some ⟨g, 0, none⟩)] w (NameP w0 w g s (nameL (bl s))) := by
  have hglt := h.lt
  have h0 := h.size0
  have d0 : w.cell? ⟨g, 0, none⟩ = some (.string s) := cellS56_0 h.bk
  have hl : Lr s 0 (bl s) := ⟨List.drop_zero, Nat.zero_le _⟩
  cases hb : bl s with
  | nil =>
    have hemp := empty_of hb
    rw [show nameL [] = some [] from rfl]
    clear hb
    go_enter Tryd.func28, Tryd.ntmps28
    go_wp2
    go_ret
    exact NameP.yes (Kd.R_nil _ _ _ _ _) h
  | cons c0 r0 =>
    have hemp := nonempty_of hb
    rw [hb] at hl
    obtain ⟨L, hL⟩ : ∃ L, c0 :: r0 = L := ⟨_, rfl⟩
    have hLne : L ≠ [] := by rw [← hL]; simp
    rw [hL] at hl ⊢
    clear hb hL
    obtain ⟨ANS, hA⟩ : ∃ b, nameL L = b := ⟨_, rfl⟩
    have hA0 : ANS = (partL L).bind fun x => (nameF [x.1] x.2).bind fun y => if y.2 = [] then some y.1 else none := by rw [← hA]; unfold nameL; rw [if_neg hLne]
    rw [hA]
    have HA := Aside0.mk hA0
    clear hA hA0 hLne
    have cP := part_c h hl hs hE
    cases hP : partL L with
    | none =>
      rw [hP] at cP
      have hans : ANS = none := by rw [HA.out, hP]; rfl
      subst hans
      clear hP
      go_enter Tryd.func28, Tryd.ntmps28
      go_wp2_with fail
      refine cP.mono ?_
      intro e w1 hq
      obtain ⟨rfl, j, hst⟩ := hq.none_
      refine ⟨rfl, ?_⟩
      exact NameP.no hst
    | some x =>
      rw [hP] at cP
      obtain ⟨FIN, hF⟩ : ∃ b, nameF [x.1] x.2 = b := ⟨_, rfl⟩
      have hfin : ANS = FIN.bind fun y => if y.2 = [] then some y.1 else none := by rw [HA.out, hP, ← hF]; rfl
      have HANS := Aside0.mk hF
      have HFIN := Aside0.mk hfin
      have hlen := partL_len (show partL L = some (x.1, x.2) from hP)
      have hll := hl.len
      clear hP hF hfin HA
      go_enter Tryd.func28, Tryd.ntmps28
      go_wp2_with fail
      refine cP.mono ?_
      intro e w1 hq
      obtain ⟨A1, n1, c1, rfl, hr1, j, hst, hl1⟩ := hq.some_
      have hl1l := hl1.len
      have hRo := R_one kR (W := w1) (base := w.heap.size) (e := 25) (ok := fun k => w.heap.size ≤ k) (okp := fun k => w.heap.size ≤ k) (p := sR x.1) (cs := [.slice A1 n1 c1]) ⟨_, rfl, hr1⟩ (fun _ hk => hk) hst.2.2.1 hst.2.2.1
      have hst2 := hst.below (below_alloc (Below.refl _ w1) (Obj.cells #[.slice A1 n1 c1] 25))
      have HRo := Aside0.mk hRo
      have Hst2 := Aside0.mk hst2
      have hj1 : 1 ≤ j := by have := hl1.2; omega
      clear hRo hst2 hr1
      go_wp2_with fail
      go_loopw [3] (fun v3 wr => NaRel w0 w g s FIN v3 wr) (fun _ wr => ms s g wr)
      case atStart => exact ⟨[x.1], j, x.2, HRo.out, hj1, Hst2.out, hl1, HANS.out⟩
      case round =>
        clear hst hl1 hl1l hj1 HRo Hst2 hq HANS hlen cP
        obtain ⟨acc, j, m, hR, hacc, hst, hm, hans⟩ := hrel
        have HR := Aside0.mk hR
        have hBr := hst.bk
        by_cases hplus : ∃ r, m = 44 :: r
        · obtain ⟨r, rfl⟩ := hplus
          have hans1 : FIN = match partL r with
            | none => none
            | some (a, r') => nameF (acc ++ [a]) r' := by rw [← hans, nameF_cons, if_pos rfl]; cases partL r <;> rfl
          have cQ := comma_q hBr hm (b := true) rfl
          have hj := hm.lt
          have hm1 := hm.next
          have hml := hm.len
          clear hans hR
          go_wp2_with fail
          refine cQ.mono ?_
          rintro e w2 ⟨rfl, q2, rfl⟩
          have hp2 := hst.drewN q2
          have d1 : (wr.drewN q2).cell? ⟨g, 1, none⟩ = some (.int .i64 (j : Int)) := cellS56_1 hp2.bk
          have fz : (wr.drewN q2).frozen? ⟨g, 1, none⟩ = false := blk_frozen hp2.bk 1
          have hjs := hm.2
          go_wp2_with fail
          have hp3 := hp2.set (j + 1)
          have HR3 : Aside0 (kR.R 25 ((wr.drewN q2).setCell ⟨g, 1, none⟩ (.int .i64 ((j : Int) + 1))) w.heap.size (fun k => w.heap.size ≤ k) u3 (acc.map sR)) :=
            ⟨Kd.R_far (Kd.R_below HR.out (pw_below_drewN (Below.refl _ _) q2)) (p := ⟨g, 1, none⟩) (fun k hk => by show k ≠ g; omega) _⟩
          rw [show ((j + 1 : Nat) : Int) = (j : Int) + 1 from rfl] at hp3
          have hms : ms s g wr = s.size + 1 - j := ms_eq hBr
          have HMS := Aside0.mk hms
          clear hms d1 fz HR cQ
          clear hBr
          generalize (wr.drewN q2).setCell ⟨g, 1, none⟩ (.int .i64 ((j : Int) + 1)) = w3 at *
          have cP := part_c hp3.self hm1 hs hE
          cases hP : partL r with
          | none =>
            rw [hP] at cP hans1
            have hans2 : FIN = none := hans1
            have hans3 : ANS = none := by rw [HFIN.out, hans2]; rfl
            subst hans3
            clear hP hans1 hans2
            refine cP.mono ?_
            intro e w4 hq
            obtain ⟨rfl, j4, hst4⟩ := hq.none_
            refine ⟨rfl, ?_⟩
            exact NameP.no (hp3.trans hst4)
          | some y =>
            rw [hP] at cP hans1
            have hans2 : nameF (acc ++ [y.1]) y.2 = FIN := hans1.symm
            have HANS2 := Aside0.mk hans2
            have hlen := partL_len (show partL r = some (y.1, y.2) from hP)
            clear hP hans1 hans2
            refine cP.mono ?_
            intro e w4 hq
            obtain ⟨A4, n4, c4, rfl, hr4, j4, hst4, hl4⟩ := hq.some_
            have hp4 := hp3.trans hst4
            have hl4l := hl4.len
            have hl42 := hl4.2
            have HR4 : Aside0 (kR.R 25 w4 w.heap.size (fun k => w.heap.size ≤ k) u3 (acc.map sR)) := ⟨Kd.R_keep HR3.out hst4.2.2 (fun k hk => by omega)⟩
            have hsz3 := hp3.2.2.1
            have hsz4 := hp4.2.2.1
            have HM4 : Aside0 (kR.M w4 w.heap.size (fun k => w3.heap.size ≤ k) (sR y.1) [.slice A4 n4 c4]) := ⟨⟨_, rfl, Kd.R_lower hr4 hsz3⟩⟩
            have hokp : Aside0 (∀ k, w3.heap.size ≤ k → w.heap.size ≤ k ∧ some k ≠ u3.ownBlock) := ⟨fun k hk => ⟨Nat.le_trans hsz3 hk, fun e => by have := R_block_lt HR3.out k e.symm; omega⟩⟩
            clear hq cP hr4
            go_wp2_with (at_builtin; refine Kd.R_append kR w.heap.size rfl _ _ 23 25 (.slice none 0 0) 24 rfl Tryd.underlying23 rdn_info rfl (by decide) (by decide) u3 (acc.map sR) (sR y.1) [.slice A4 n4 c4] (fun k => w.heap.size ≤ k) (fun k => w3.heap.size ≤ k) rfl rfl HM4.out hokp.out (fun k hk => Nat.le_trans hsz4 hk) HR4.out (Below.refl _ _) hsz4 (by simp; omega) ?_; intro v1 w6 HR6 _ hg6 _)
            have hp6 := hp4.grown hglt h0 hg6 HR4.out.1
            rw [List.length_cons] at hml
            exact ⟨⟨acc ++ [y.1], j4, y.2, by rw [← map_snoc]; exact HR6, by simp; omega, hp6, hl4, HANS2.out⟩, by rw [HMS.out, ms_eq hp6.bk]; omega⟩
        · have hno : (m.head? == some 44) = false := by
            cases m with
            | nil => rfl
            | cons c r =>
              have : c ≠ 44 := fun e => hplus ⟨r, by rw [e]⟩
              simp [this]
          have hans1 : FIN = some (acc, m) := by
            rw [← hans]
            cases m with
            | nil => rfl
            | cons c r =>
              have : c ≠ 44 := fun e => hplus ⟨r, by rw [e]⟩
              rw [nameF_cons, if_neg this]
          have hans2 : ANS = if m = [] then some acc else none := by rw [HFIN.out, hans1]; rfl
          have cQ := comma_q hBr hm hno
          have cE := fun n => ended_q (hBr.drewN n)
          clear hans hR hplus hno
          cases m with
          | nil =>
            rw [decide_eq_true hm.nil] at cE
            rw [if_pos rfl] at hans2
            subst hans2
            clear hans1
            go_wp2_with fail
            refine cQ.mono ?_
            rintro e w2 ⟨rfl, q2, rfl⟩
            go_wp2_with fail
            refine (cE q2).mono ?_
            rintro e w3 ⟨rfl, q3, rfl⟩
            go_wp2
            refine bodyPost_ret (v := u3) (by simp [results, Tryd.results28, go_sem]) rfl ?_
            exact NameP.yes (Kd.R_below HR.out (pw_below_drewN (Below.refl _ _) _)) (hst.drewN _)
          | cons c r =>
            have hj := hm.lt
            rw [decide_eq_false (by omega)] at cE
            rw [if_neg (by simp)] at hans2
            subst hans2
            clear hans1
            go_wp2_with fail
            refine cQ.mono ?_
            rintro e w2 ⟨rfl, q2, rfl⟩
            go_wp2_with fail
            refine (cE q2).mono ?_
            rintro e w3 ⟨rfl, q3, rfl⟩
            go_wp2
            refine ⟨rfl, ?_⟩
            exact NameP.no (hst.drewN _)
end Go.Proofs.YtneclgjjnnldpaaDoor.Rd
end
section
/- slices.ContainsFunc over pairs and over parts: does any meet the predicate? Conditions: the list reads; the function value answers at each of its elements. -/
namespace Go.Proofs.YtneclgjjnnldpaaDoor.Rd
open Go Go.RowKit Go.Lib Go.Proofs.YtneclgjjnnldpaaDoor.PFn Go.Proofs.YtneclgjjnnldpaaDoor.Dp Go.Proofs.YtneclgjjnnldpaaDoorW.PrintWords

theorem any_hit {α : Type} {p : α → Bool} {l : List α} {k : Nat} (hk : k < l.length) (h : p l[k] = true) : l.any p = true := List.any_eq_true.2 ⟨_, List.getElem_mem hk, h⟩
theorem any_miss {α : Type} {p : α → Bool} {l : List α} (h : ∀ x ∈ l.take l.length, p x = false) : l.any p = false := by
  rw [List.any_eq_false]
  intro x hx
  rw [List.take_length] at h
  rw [h x hx]
  decide
theorem take_miss {α : Type} {p : α → Bool} {l : List α} {k : Nat} (hk : k < l.length) (h : ∀ x ∈ l.take k, p x = false) (hp : p l[k] = false) : ∀ x ∈ l.take (k + 1), p x = false := by
  intro x hx
  rw [List.take_succ_eq_append_getElem hk] at hx
  rcases List.mem_append.1 hx with hx | hx
  · exact h x hx
  · rw [List.mem_singleton.1 hx]; exact hp
/-- an element's cells -/
theorem at_ava {w : World} {A : Option Addr} {l : List S39} (h : kA.C w A l.length l) (k : Nat) (hk : k < l.length) :
    ∃ ad, A = some ad ∧ w.cell? (ad.add (k * 2)) = some (.string l[k].f0) ∧ w.cell? ⟨(ad.add (k * 2)).block, (ad.add (k * 2)).off + 1, none⟩ = some (.string l[k].f1) := by
  obtain ⟨ad, e, h0, h1⟩ := at_T39 h (k : Int) (by omega) (by omega)
  have hrd : rd_T39 l (k : Int) = l[k] := by
    unfold rd_T39
    rw [Int.toNat_natCast, List.getD_eq_getElem?_getD, List.getElem?_eq_getElem hk]
    rfl
  rw [hrd, Int.toNat_natCast] at h0 h1
  exact ⟨ad, e, h0, h1⟩
theorem at_rdn {w : World} {A : Option Addr} {l : List (List S39)} (h : kR.C w A l.length l) (k : Nat) (hk : k < l.length) :
    ∃ ad B c, A = some ad ∧ w.cell? (ad.add k) = some (.slice B l[k].length c) ∧ l[k].length ≤ c ∧ kA.C w B l[k].length l[k] := by
  obtain ⟨ad, B, c, e, h0, h1, h2⟩ := at_L2 h (k : Int) (by omega) (by omega)
  have hrd : rd_L2 l (k : Int) = l[k] := by
    unfold rd_L2
    rw [Int.toNat_natCast, List.getD_eq_getElem?_getD, List.getElem?_eq_getElem hk]
    rfl
  rw [hrd] at h0 h1 h2
  rw [Int.toNat_natCast] at h0
  exact ⟨ad, B, c, e, h0, h1, h2⟩
def IdxRel {α : Type} (p : α → Bool) (l : List α) (w : World) (v8 : Value) (wr : World) : Prop := ∃ k : Nat, v8 = .int .i64 (k : Int) ∧ k ≤ l.length ∧ (∀ x ∈ l.take k, p x = false) ∧ Below w.heap.size w wr
set_option maxHeartbeats 1000000 in
set_option maxRecDepth 100000 in
theorem idxA_c (g : FuncId) (eg : ∀ args w, (callFunc g args).run Tryd.prog w = .ok (.enter g args) w) (p : S39 → Bool) (A : Option Addr) (c : Nat) (l : List S39) (w : World) (hl : kA.C w A l.length l) (hz : l.length ≤ 140737488351232)
    (hp : ∀ W, Below w.heap.size w W → ∀ x ∈ l, Calls Tryd.prog g #[.agg #[.string x.f0, .string x.f1]] W fun e w' => e = .returned (.bool (p x)) ∧ Below W.heap.size W w') :
    Calls Tryd.prog 39 #[.slice A l.length c, .func (.func g) #[] #[]] w fun e w' => ∃ k : Int, e = .returned (.int .i64 k) ∧ decide (0 ≤ k) = l.any p ∧ Below w.heap.size w w' := by
  have HL := Aside0.mk hl
  have HP := Aside0.mk hp
  clear hl hp
  go_enter Tryd.func39, Tryd.ntmps39
  go_wp2
  go_loopw [5, 8] (fun _ v8 wr => IdxRel p l w v8 wr) (fun _ v8 _ => l.length - (RowKit.intOf v8).toNat)
  case atStart => exact ⟨0, rfl, Nat.zero_le _, fun x hx => by simp at hx, Below.refl _ _⟩
  case round =>
    obtain ⟨k, rfl, hk, hall, hb⟩ := hrel
    have HALL := Aside0.mk hall
    have HB := Aside0.mk hb
    clear hall hb
    by_cases hlt : k < l.length
    · have hki : (k : Int) < (l.length : Int) := by omega
      obtain ⟨ad, rfl, h0, h1⟩ := at_ava (Kd.C_below HL.out HB.out) k hlt
      have cP := HP.out wr HB.out l[k] (List.getElem_mem hlt)
      have HIT : Aside0 (p l[k] = true → l.any p = true) := ⟨any_hit hlt⟩
      have MISS : Aside0 (p l[k] = false → ∀ x ∈ l.take (k + 1), p x = false) := ⟨take_miss hlt HALL.out⟩
      generalize l[k] = x at *
      cases hq : p x with
      | true =>
        rw [hq] at cP
        have HA := Aside0.mk (HIT.out hq)
        clear hq HIT MISS
        go_wp2_with (go_at_fn g; refine cP.mono ?_; rintro e w1 ⟨rfl, hb1⟩)
        go_ret
        exact ⟨_, rfl, by rw [HA.out]; exact decide_eq_true (by omega), below_seq HB.out hb1⟩
      | false =>
        rw [hq] at cP
        have HM := Aside0.mk (MISS.out hq)
        clear hq HIT MISS
        go_wp2_with (go_at_fn g; refine cP.mono ?_; rintro e w1 ⟨rfl, hb1⟩)
        exact ⟨⟨k + 1, by go_num, by omega, HM.out, below_seq HB.out hb1⟩, by simp [RowKit.intOf]; omega⟩
    · have hke : k = l.length := by omega
      subst hke
      have HM := Aside0.mk (any_miss HALL.out)
      go_wp2
      go_ret
      exact ⟨-1, rfl, by rw [HM.out]; rfl, HB.out⟩
set_option maxHeartbeats 1000000 in
set_option maxRecDepth 100000 in
theorem idxR_c (g : FuncId) (eg : ∀ args w, (callFunc g args).run Tryd.prog w = .ok (.enter g args) w) (p : List S39 → Bool) (A : Option Addr) (c : Nat) (l : List (List S39)) (w : World) (hl : kR.C w A l.length l) (hz : l.length ≤ 140737488351232)
    (hp : ∀ W, Below w.heap.size w W → ∀ x ∈ l, ∀ B k, kA.C W B x.length x → x.length ≤ k → Calls Tryd.prog g #[.slice B x.length k] W fun e w' => e = .returned (.bool (p x)) ∧ Below W.heap.size W w') :
    Calls Tryd.prog 57 #[.slice A l.length c, .func (.func g) #[] #[]] w fun e w' => ∃ k : Int, e = .returned (.int .i64 k) ∧ decide (0 ≤ k) = l.any p ∧ Below w.heap.size w w' := by
  have HL := Aside0.mk hl
  have HP := Aside0.mk hp
  clear hl hp
  go_enter Tryd.func57, Tryd.ntmps57
  go_wp2
  go_loopw [5, 8] (fun _ v8 wr => IdxRel p l w v8 wr) (fun _ v8 _ => l.length - (RowKit.intOf v8).toNat)
  case atStart => exact ⟨0, rfl, Nat.zero_le _, fun x hx => by simp at hx, Below.refl _ _⟩
  case round =>
    obtain ⟨k, rfl, hk, hall, hb⟩ := hrel
    have HALL := Aside0.mk hall
    have HB := Aside0.mk hb
    clear hall hb
    by_cases hlt : k < l.length
    · have hki : (k : Int) < (l.length : Int) := by omega
      obtain ⟨ad, B, cc, rfl, h0, h1, h2⟩ := at_rdn (Kd.C_below HL.out HB.out) k hlt
      have cP := HP.out wr HB.out l[k] (List.getElem_mem hlt) B cc h2 h1
      clear h2
      have HIT : Aside0 (p l[k] = true → l.any p = true) := ⟨any_hit hlt⟩
      have MISS : Aside0 (p l[k] = false → ∀ x ∈ l.take (k + 1), p x = false) := ⟨take_miss hlt HALL.out⟩
      generalize l[k] = x at *
      cases hq : p x with
      | true =>
        rw [hq] at cP
        have HA := Aside0.mk (HIT.out hq)
        clear hq HIT MISS
        go_wp2_with (go_at_fn g; refine cP.mono ?_; rintro e w1 ⟨rfl, hb1⟩)
        go_ret
        exact ⟨_, rfl, by rw [HA.out]; exact decide_eq_true (by omega), below_seq HB.out hb1⟩
      | false =>
        rw [hq] at cP
        have HM := Aside0.mk (MISS.out hq)
        clear hq HIT MISS
        go_wp2_with (go_at_fn g; refine cP.mono ?_; rintro e w1 ⟨rfl, hb1⟩)
        exact ⟨⟨k + 1, by go_num, by omega, HM.out, below_seq HB.out hb1⟩, by simp [RowKit.intOf]; omega⟩
    · have hke : k = l.length := by omega
      subst hke
      have HM := Aside0.mk (any_miss HALL.out)
      go_wp2
      go_ret
      exact ⟨-1, rfl, by rw [HM.out]; rfl, HB.out⟩
set_option maxHeartbeats 400000 in
theorem contA_c (g : FuncId) (eg : ∀ args w, (callFunc g args).run Tryd.prog w = .ok (.enter g args) w) (p : S39 → Bool) (A : Option Addr) (c : Nat) (l : List (S39)) (w : World) (hl : kA.C w A l.length l) (hz : l.length ≤ 140737488351232)
    (hp : ∀ W, Below w.heap.size w W → ∀ x ∈ l, Calls Tryd.prog g #[.agg #[.string x.f0, .string x.f1]] W fun e w' => e = .returned (.bool (p x)) ∧ Below W.heap.size W w') :
    Calls Tryd.prog 22 #[.slice A l.length c, .func (.func g) #[] #[]] w fun e w' => e = .returned (.bool (l.any p)) ∧ Below w.heap.size w w' := by
  have HL := Aside0.mk (idxA_c g eg p A c l w hl hz hp)
  clear hl hp
  go_enter Tryd.func22, Tryd.ntmps22
  go_wp2_with fail
  refine HL.out.mono ?_
  rintro e w1 ⟨k, rfl, hk, hb⟩
  go_wp2
  go_ret
  exact ⟨rfl, hb⟩
set_option maxHeartbeats 400000 in
theorem contR_c (g : FuncId) (eg : ∀ args w, (callFunc g args).run Tryd.prog w = .ok (.enter g args) w) (p : List S39 → Bool) (A : Option Addr) (c : Nat) (l : List (List S39)) (w : World) (hl : kR.C w A l.length l) (hz : l.length ≤ 140737488351232)
    (hp : ∀ W, Below w.heap.size w W → ∀ x ∈ l, ∀ B k, kA.C W B x.length x → x.length ≤ k → Calls Tryd.prog g #[.slice B x.length k] W fun e w' => e = .returned (.bool (p x)) ∧ Below W.heap.size W w') :
    Calls Tryd.prog 40 #[.slice A l.length c, .func (.func g) #[] #[]] w fun e w' => e = .returned (.bool (l.any p)) ∧ Below w.heap.size w w' := by
  have HL := Aside0.mk (idxR_c g eg p A c l w hl hz hp)
  clear hl hp
  go_enter Tryd.func40, Tryd.ntmps40
  go_wp2_with fail
  refine HL.out.mono ?_
  rintro e w1 ⟨k, rfl, hk, hb⟩
  go_wp2
  go_ret
  exact ⟨rfl, hb⟩
/-! ### the function values -/
def longB (x : S39) : Bool := decide (1024 < x.f1.size)
def longR (r : List S39) : Bool := decide (4 < r.length) || r.any longB
def longM (d : List (List S39)) : Bool := decide (20 < d.length) || d.any longR
theorem sA_long (a : Ava) : longB (sA a) = decide (1024 < a.2.length) := rfl
theorem sR_long (r : List Ava) : longR (sR r) = (decide (4 < r.length) || r.any fun a => decide (1024 < a.2.length)) := by
  unfold longR sR
  rw [List.length_map, List.any_map]
  rfl
theorem long_map (d : List (List Ava)) : longM (d.map sR) = tooLong d := by
  unfold longM tooLong
  rw [List.length_map, List.any_map]
  congr 2
  funext r
  exact sR_long r
set_option maxHeartbeats 400000 in
theorem valLong_c (x : S39) (W : World) : Calls Tryd.prog 42 #[.agg #[.string x.f0, .string x.f1]] W fun e w' => e = .returned (.bool (longB x)) ∧ Below W.heap.size W w' := by
  have hd : longB x = decide ((1024 : Int) < (x.f1.size : Int)) := by
    unfold longB
    congr 1
    exact propext ⟨fun h => by omega, fun h => by omega⟩
  have HD := Aside0.mk hd
  clear hd
  go_enter Tryd.func42, Tryd.ntmps42
  go_wp2
  go_ret
  exact ⟨by rw [HD.out]; rfl, below_alloc (Below.refl _ _) _⟩
theorem e_valLong : ∀ args w, (callFunc 42 args).run Tryd.prog w = .ok (.enter 42 args) w := enters_of Tryd.func42 (by kernel_rfl) rfl
theorem e_partLong : ∀ args w, (callFunc 41 args).run Tryd.prog w = .ok (.enter 41 args) w := enters_of Tryd.func41 (by kernel_rfl) rfl
set_option maxHeartbeats 400000 in
theorem partLong_c (B : Option Addr) (c : Nat) (l : List S39) (W : World) (hl : kA.C W B l.length l) (hz : l.length ≤ 140737488351232) : Calls Tryd.prog 41 #[.slice B l.length c] W fun e w' => e = .returned (.bool (longR l)) ∧ Below W.heap.size W w' := by
  by_cases h4 : 4 < l.length
  · have hr : longR l = true := by unfold longR; rw [decide_eq_true h4]; rfl
    rw [hr]
    have h4i : (4 : Int) < (l.length : Int) := by omega
    clear hl hr
    go_enter Tryd.func41, Tryd.ntmps41
    go_wp2
    go_ret
    exact ⟨rfl, Below.refl _ _⟩
  · have hr : longR l = l.any longB := by unfold longR; rw [decide_eq_false h4]; rfl
    rw [hr]
    have h4i : ¬ (4 : Int) < (l.length : Int) := by omega
    have hd4 : decide ((4 : Int) < (l.length : Int)) = false := decide_eq_false h4i
    have cC := Aside0.mk (contA_c 42 e_valLong longB B c l W hl hz (fun W' _ x _ => valLong_c x W'))
    clear hl hr h4
    go_enter Tryd.func41, Tryd.ntmps41
    go_wp2_with fail
    refine cC.out.mono ?_
    rintro e w1 ⟨rfl, hb⟩
    go_wp2
    go_ret
    exact ⟨rfl, hb⟩
set_option maxHeartbeats 400000 in
/-- tooLong over a name in memory -/
theorem tooLong_c (A : Option Addr) (c : Nat) (d : List (List S39)) (w : World) (hl : kR.C w A d.length d) (hz : d.length ≤ 140737488351232) (hzz : ∀ r ∈ d, r.length ≤ 140737488351232) :
    Calls Tryd.prog 24 #[.slice A d.length c] w fun e w' => e = .returned (.bool (longM d)) ∧ Below w.heap.size w w' := by
  by_cases h4 : 20 < d.length
  · have hr : longM d = true := by unfold longM; rw [decide_eq_true h4]; rfl
    rw [hr]
    have h4i : (20 : Int) < (d.length : Int) := by omega
    clear hl hr
    go_enter Tryd.func24, Tryd.ntmps24
    go_wp2
    go_ret
    exact ⟨rfl, Below.refl _ _⟩
  · have hr : longM d = d.any longR := by unfold longM; rw [decide_eq_false h4]; rfl
    rw [hr]
    have h4i : ¬ (20 : Int) < (d.length : Int) := by omega
    have cC := Aside0.mk (contR_c 41 e_partLong longR A c d w hl hz (fun W' _ x hx B k hB _ => partLong_c B k x W' hB (hzz x hx)))
    clear hl hr h4 hzz
    go_enter Tryd.func24, Tryd.ntmps24
    go_wp2_with fail
    refine cC.out.mono ?_
    rintro e w1 ⟨rfl, hb⟩
    go_wp2
    go_ret
    exact ⟨rfl, hb⟩
end Go.Proofs.YtneclgjjnnldpaaDoor.Rd
end
section
/- The walk of dn's Parse, which recovers from the reader's panic: it answers the plain function. Conditions: the text's size as a row bounds it; the listed tables hold what the program lays in them. -/
namespace Go.Proofs.YtneclgjjnnldpaaDoor.Rd
open Go Go.RowKit Go.Lib Go.Proofs.YtneclgjjnnldpaaDoor.PFn Go.Proofs.YtneclgjjnnldpaaDoor.Dp Go.Proofs.YtneclgjjnnldpaaDoorW.PrintWords

set_option maxHeartbeats 1000000 in
set_option maxRecDepth 100000 in
theorem catch_pan (b0 b1 : Nat) (c : Int) (older : List PanicEntry) (w : World) (h0 : w.heap[b0]? = some (.cells #[.slice none 0 0] 23 (0, 0))) (h1 : w.heap[b1]? = some (.cells #[.int .i64 0] 32 (0, 0))) (hne : b0 ≠ b1) :
    CallsD Tryd.prog 27 #[.pointer (some ⟨b0, 0, none⟩), .pointer (some ⟨b1, 0, none⟩)] (.panicking ({ v := .iface 32 (.int .i64 c), recovered := false } :: older)) w fun e u' w' =>
      e = .returned (.tuple #[]) ∧ u' = .panicking ({ v := .iface 32 (.int .i64 c), recovered := true } :: older) ∧ w' = (w.setCell ⟨b0, 0, none⟩ (.slice none 0 0)).setCell ⟨b1, 0, none⟩ (.int .i64 c) := by
  have c0 : w.cell? ⟨b0, 0, none⟩ = some (.slice none 0 0) := blk_cell h0 0
  have f0 : w.frozen? ⟨b0, 0, none⟩ = false := blk_frozen h0 0
  have c1 : w.cell? ⟨b1, 0, none⟩ = some (.int .i64 0) := blk_cell h1 0
  have f1 : w.frozen? ⟨b1, 0, none⟩ = false := blk_frozen h1 0
  have hta : ∀ w : World, (Instr.typeAssert (.iface 32 (.int .i64 c)) 20 32 true).run Tryd.prog w = .ok (.tuple #[.int .i64 c, .bool true]) w := fun _ => by kernel_rfl
  refine callsD_of_wpS Tryd.func27 rfl fun cf cs hu => ?_
  simp only [Tryd.ntmps27, List.size_toArray, List.length_cons, List.length_nil, Nat.reduceAdd, Nat.reduceSub, Array.replicate_succ, Array.replicate_zero, List.push_toArray, List.append_toArray, List.nil_append, List.cons_append]
  apply wpS_seq
  apply wpS_region
  simp [wpOpsS, go_sem, recoverD, hu, Exit.thenS]
  refine wpS_of_wp ?_
  go_wp2
  exact ⟨rfl, _, rfl, _, by simp [results, Tryd.results27, go_sem], rfl, rfl, rfl⟩
set_option maxHeartbeats 1000000 in
set_option maxRecDepth 100000 in
theorem catch_idle (b0 b1 : Nat) (w : World) :
    CallsD Tryd.prog 27 #[.pointer (some ⟨b0, 0, none⟩), .pointer (some ⟨b1, 0, none⟩)] .returning w fun e u' w' => e = .returned (.tuple #[]) ∧ u' = .returning ∧ w' = w := by
  refine callsD_of_wpS Tryd.func27 rfl fun cf cs hu => ?_
  simp only [Tryd.ntmps27, List.size_toArray, List.length_cons, List.length_nil, Nat.reduceAdd, Nat.reduceSub, Array.replicate_succ, Array.replicate_zero, List.push_toArray, List.append_toArray, List.nil_append, List.cons_append]
  apply wpS_seq
  apply wpS_region
  simp [wpOpsS, go_sem, recoverD, hu, Exit.thenS]
  refine wpS_of_wp ?_
  go_wp2
  cases cf
  simp only at hu
  subst hu
  exact ⟨rfl, _, rfl, _, by simp [results, Tryd.results27, go_sem], rfl, rfl, rfl⟩
def ParseP (w : World) (r : List (List Ava) × Nat) (e : Ending) (w' : World) : Prop :=
  ∃ v, e = .returned (.tuple #[v, .int .i64 (r.2 : Int)]) ∧ kR.R 25 w' w.heap.size (fun k => w.heap.size ≤ k) v (r.1.map sR) ∧ Below w.heap.size w w'
/-- a result's blocks -/
def Db (w : World) (b : Nat) (v : Value) : Prop := w.heap[b]? = some (.cells #[v] 23 (0, 0))
def Eb (w : World) (b : Nat) (c : Int) : Prop := w.heap[b]? = some (.cells #[.int .i64 c] 32 (0, 0))
theorem parse_done {w W : World} {tmps : Array Value} {v : Value} {A : Option Addr} {n c : Nat} {r : List (List Ava) × Nat} (t2 : tmps[2]?.getD undef = .pointer (some ⟨w.heap.size, 0, none⟩)) (t3 : tmps[3]?.getD undef = .pointer (some ⟨w.heap.size + 1, 0, none⟩))
    (hv : v = .slice A n c) (h0 : Db W w.heap.size v) (h1 : Eb W (w.heap.size + 1) (r.2 : Int)) (hr : kR.R 25 W w.heap.size (fun k => w.heap.size ≤ k) v (r.1.map sR)) (hb : Below w.heap.size w W) :
    Leaves Tryd.prog Tryd.f13 tmps (ParseP w r) [] .returning W := by
  subst hv
  have c0 : W.cell? ⟨w.heap.size, 0, none⟩ = some (.slice A n c) := blk_cell h0 0
  have c1 : W.cell? ⟨w.heap.size + 1, 0, none⟩ = some (.int .i64 (r.2 : Int)) := blk_cell h1 0
  refine ⟨.tuple #[.slice A n c, .int .i64 (r.2 : Int)], ?_, _, rfl, hr, hb⟩
  simp only [results, Tryd.results13]
  simp [t2, t3, go_sem, c0, c1]
theorem below_seq' {w w1 w2 : World} (h : Below w.heap.size w w1) (k : Below w1.heap.size w1 w2) : Below w.heap.size w w2 := below_then h h.size k
set_option maxHeartbeats 1000000 in
set_option maxRecDepth 100000 in
theorem parse_c (s : ByteArray) (w : World) (hE : Env w) (hz : s.size ≤ 140737488351232) : Calls Tryd.prog 13 #[.string s] w (ParseP w (parseL (bl s))) := by
  have hmf : ∀ (fn : Fn) (first cap : Array Value) (w : World), (Instr.makeFunc fn first cap).run Tryd.prog w = .ok (.func fn first cap) w := fun _ _ _ _ => rfl
  by_cases hlong : 65536 < s.size
  · have hp : parseL (bl s) = ([], 2) := by unfold parseL; rw [if_pos (by rw [bl_size]; exact hlong)]
    rw [hp]
    have hli : (65536 : Int) < (s.size : Int) := by omega
    clear hp
    go_enter_defers Tryd.func13, Tryd.ntmps13
    go_wp2
    have hb1 := blk_new (w.alloc (Obj.cells #[Value.slice none 0 0] 23)) (Obj.cells #[Value.int .i64 2] 32)
    rw [World.size_alloc] at hb1
    exact parse_done (r := ([], 2)) rfl rfl rfl (blk_alloc (blk_new w _) _) hb1 (Kd.R_nil _ _ _ _ _) (below_alloc (below_alloc (Below.refl _ _) _) _)
  · have hli : ¬ (65536 : Int) < (s.size : Int) := by omega
    have hpl : parseL (bl s) = match nameL (bl s) with
      | none => ([], 30)
      | some d => if tooLong d then ([], 2) else (d, 0) := by unfold parseL; rw [if_neg (by rw [bl_size]; exact hlong)]; cases nameL (bl s) <;> rfl
    obtain ⟨ANS, hA⟩ : ∃ b, parseL (bl s) = b := ⟨_, rfl⟩
    rw [hA] at hpl ⊢
    clear hA
    have HPL := Aside0.mk hpl
    clear hpl
    go_enter_defers Tryd.func13, Tryd.ntmps13
    go_wp2_with fail
    have k0 : Db (w.alloc (Obj.cells #[Value.slice none 0 0] 23)) w.heap.size (.slice none 0 0) := blk_new w _
    have k1 : Eb ((w.alloc (Obj.cells #[Value.slice none 0 0] 23)).alloc (Obj.cells #[Value.int .i64 0] 32)) (w.heap.size + 1) 0 := by
      have := blk_new (w.alloc (Obj.cells #[Value.slice none 0 0] 23)) (Obj.cells #[Value.int .i64 0] 32)
      rw [World.size_alloc] at this
      exact this
    have hB2 : Below w.heap.size w ((w.alloc (Obj.cells #[Value.slice none 0 0] 23)).alloc (Obj.cells #[Value.int .i64 0] 32)) := below_alloc (below_alloc (Below.refl _ _) _) _
    have hsz2 : ((w.alloc (Obj.cells #[Value.slice none 0 0] 23)).alloc (Obj.cells #[Value.int .i64 0] 32)).heap.size = w.heap.size + 1 + 1 := by rw [World.size_alloc, World.size_alloc]
    have kg := IsS56.new w _ s 0 hB2
    rw [hsz2] at kg
    have hB3 : Below w.heap.size w (((w.alloc (Obj.cells #[Value.slice none 0 0] 23)).alloc (Obj.cells #[Value.int .i64 0] 32)).alloc (.cells #[.string s, .int .i64 0] 56)) := below_alloc hB2 _
    have hsz3 : (((w.alloc (Obj.cells #[Value.slice none 0 0] 23)).alloc (Obj.cells #[Value.int .i64 0] 32)).alloc (.cells #[.string s, .int .i64 0] 56)).heap.size = w.heap.size + 1 + 1 + 1 := by rw [World.size_alloc, hsz2]
    have k0 := blk_alloc (blk_alloc k0 (Obj.cells #[Value.int .i64 0] 32)) (.cells #[.string s, .int .i64 0] 56)
    have k1 := blk_alloc k1 (.cells #[.string s, .int .i64 0] 56)
    generalize ((w.alloc (Obj.cells #[Value.slice none 0 0] 23)).alloc (Obj.cells #[Value.int .i64 0] 32)).alloc (.cells #[.string s, .int .i64 0] 56) = w3 at *
    clear hsz2 hB2
    have hst3 : St w w3 w3 (w.heap.size + 1 + 1) s 0 := ⟨kg, hB3, KeepBut.refl _ _ _⟩
    have cN := name_c hst3 (by omega) hE
    have hpl := HPL.out
    clear HPL
    have HSZ := Aside0.mk hsz3
    clear hsz3
    cases hN : nameL (bl s) with
    | none =>
      rw [hN] at cN hpl
      have hp : ANS = ([], 30) := hpl
      subst hp
      clear hN hpl
      refine cN.mono ?_
      rintro e w4 ⟨rfl, j, hst4⟩
      have k0 : Db w4 w.heap.size (.slice none 0 0) := hst4.2.2.blk k0 (by omega) (by simp)
      have k1 : Eb w4 (w.heap.size + 1) 0 := hst4.2.2.blk k1 (by omega) (by simp)
      refine leaves_cons (f := 27) (args := #[.pointer (some ⟨w.heap.size, 0, none⟩), .pointer (some ⟨w.heap.size + 1, 0, none⟩)]) (by simp) (by simp [go_sem]) ?_
      refine (catch_pan w.heap.size (w.heap.size + 1) 30 [] w4 k0 k1 (by omega)).mono ?_
      rintro e u' w5 ⟨rfl, rfl, rfl⟩
      refine parse_done (r := ([], 30)) rfl rfl rfl (blk_far (blk_set k0 0 _) (by show w.heap.size ≠ w.heap.size + 1; omega) _) (blk_set (blk_far k1 (by show w.heap.size + 1 ≠ w.heap.size; omega) _) 0 _) (Kd.R_nil _ _ _ _ _) ?_
      exact below_set (below_set hst4.2.1 (Nat.le_refl _)) (Nat.le_succ _)
    | some d =>
      rw [hN] at cN hpl
      have hcnt := nameL_cnt hN
      rw [bl_size] at hcnt
      have hp : ANS = if tooLong d then ([], 2) else (d, 0) := hpl
      have HP := Aside0.mk hp
      clear hN hpl hp
      refine cN.mono ?_
      rintro e w4 ⟨⟨v, rfl, hR⟩, j, hst4⟩
      obtain ⟨A, c, rfl, hlen, hC⟩ := Kd.R_reads hR
      have k0 : Db w4 w.heap.size (.slice none 0 0) := hst4.2.2.blk k0 (by omega) (by simp)
      have k1 : Eb w4 (w.heap.size + 1) 0 := hst4.2.2.blk k1 (by omega) (by simp)
      have cT := tooLong_c A c (d.map sR) w4 hC (by rw [List.length_map]; omega) (fun r hr => by
        obtain ⟨p, hp, rfl⟩ := List.mem_map.1 hr
        have := hcnt.2 p hp
        unfold sR
        rw [List.length_map]
        omega)
      rw [long_map] at cT
      have HR := Aside0.mk hR
      clear hR hC hlen hcnt
      generalize (d.map sR).length = n at *
      have hsz4 : w.heap.size + 1 + 1 + 1 ≤ w4.heap.size := by rw [← HSZ.out]; exact hst4.2.2.1
      cases hT : tooLong d with
      | true =>
        have hp : ANS = ([], 2) := by rw [HP.out, hT]; rfl
        subst hp
        rw [hT] at cT
        clear hT
        go_wp2_with fail
        refine cT.mono ?_
        rintro e w5 ⟨rfl, hb5⟩
        have k0 : Db w5 w.heap.size (.slice none 0 0) := blk_below k0 hb5
        have k1 : Eb w5 (w.heap.size + 1) 0 := blk_below k1 hb5
        have c0 : w5.cell? ⟨w.heap.size, 0, none⟩ = some (.slice none 0 0) := blk_cell k0 0
        have f0 : w5.frozen? ⟨w.heap.size, 0, none⟩ = false := blk_frozen k0 0
        have c1 : w5.cell? ⟨w.heap.size + 1, 0, none⟩ = some (.int .i64 0) := blk_cell k1 0
        have f1 : w5.frozen? ⟨w.heap.size + 1, 0, none⟩ = false := blk_frozen k1 0
        have hb := below_seq' hst4.2.1 hb5
        go_wp2
        refine leaves_cons (f := 27) (args := #[.pointer (some ⟨w.heap.size, 0, none⟩), .pointer (some ⟨w.heap.size + 1, 0, none⟩)]) (by simp) (by simp [go_sem]) ?_
        refine (catch_idle w.heap.size (w.heap.size + 1) _).mono ?_
        rintro e u' w6 ⟨rfl, rfl, rfl⟩
        refine parse_done (r := ([], 2)) rfl rfl rfl (blk_far (blk_set k0 0 _) (by show w.heap.size ≠ w.heap.size + 1; omega) _) (blk_set (blk_far k1 (by show w.heap.size + 1 ≠ w.heap.size; omega) _) 0 _) (Kd.R_nil _ _ _ _ _) ?_
        exact below_set (below_set hb (Nat.le_refl _)) (Nat.le_succ _)
      | false =>
        have hp : ANS = (d, 0) := by rw [HP.out, hT]; rfl
        subst hp
        rw [hT] at cT
        clear hT
        go_wp2_with fail
        refine cT.mono ?_
        rintro e w5 ⟨rfl, hb5⟩
        have k0 : Db w5 w.heap.size (.slice none 0 0) := blk_below k0 hb5
        have k1 : Eb w5 (w.heap.size + 1) 0 := blk_below k1 hb5
        have c0 : w5.cell? ⟨w.heap.size, 0, none⟩ = some (.slice none 0 0) := blk_cell k0 0
        have f0 : w5.frozen? ⟨w.heap.size, 0, none⟩ = false := blk_frozen k0 0
        have c1 : w5.cell? ⟨w.heap.size + 1, 0, none⟩ = some (.int .i64 0) := blk_cell k1 0
        have f1 : w5.frozen? ⟨w.heap.size + 1, 0, none⟩ = false := blk_frozen k1 0
        have hb := below_seq' hst4.2.1 hb5
        go_wp2
        refine leaves_cons (f := 27) (args := #[.pointer (some ⟨w.heap.size, 0, none⟩), .pointer (some ⟨w.heap.size + 1, 0, none⟩)]) (by simp) (by simp [go_sem]) ?_
        refine (catch_idle w.heap.size (w.heap.size + 1) _).mono ?_
        rintro e u' w6 ⟨rfl, rfl, rfl⟩
        refine parse_done (r := (d, 0)) rfl rfl rfl (blk_far (blk_set k0 0 _) (by show w.heap.size ≠ w.heap.size + 1; omega) _) (blk_set (blk_far k1 (by show w.heap.size + 1 ≠ w.heap.size; omega) _) 0 _) ?_ ?_
        · have h3 := HSZ.out
          refine Kd.R_mono (Kd.R_lower (Kd.R_far (p := ⟨w.heap.size + 1, 0, none⟩) (Kd.R_far (p := ⟨w.heap.size, 0, none⟩) (Kd.R_below HR.out hb5) (fun k hk => by show k ≠ w.heap.size; omega) _) (fun k hk => by show k ≠ w.heap.size + 1; omega) _) (by omega)) (fun k hk => by omega)
        · exact below_set (below_set hb (Nat.le_refl _)) (Nat.le_succ _)
end Go.Proofs.YtneclgjjnnldpaaDoor.Rd
end
