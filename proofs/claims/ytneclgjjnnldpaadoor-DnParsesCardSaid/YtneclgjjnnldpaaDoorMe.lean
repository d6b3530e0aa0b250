/- Merged out of Rsm Rcp Rjn Rkd (by wip/tools/merge.py). -/
import Derived.Test.YtneclgjjnnldpaaDoorMd
import Derived.WalkSpells
import Derived.Test.YtneclgjjnnldpaaDoorCards
import Derived.Test.YtneclgjjnnldpaaDoorTie
import Derived.WalkKit
import Derived.ProofKit
import Derived.OpenShut
import Derived.SizedLaws
import Derived.Lib.LaidIn
import Derived.Lib.LaidU8T
import Derived.Deep.DeepHandedRow
import Derived.Deep.DeepWitnessRowRef
import Derived.Deep.SlicePairs
import Derived.Shelf.Vars
import Derived.Carry
import Derived.ChangeSlices
section
/- What the reference's Same and SameRdn answer: whether the plain names are equal. Conditions: lists of at most 2^47 elements that read. -/
namespace Go.Proofs.YtneclgjjnnldpaaDoor.Rd
open Go Go.RowKit Go.Lib Go.Proofs.YtneclgjjnnldpaaDoor.PFn Go.Proofs.YtneclgjjnnldpaaDoor.Dp Go.Proofs.YtneclgjjnnldpaaDoorW.PrintWords

theorem wrap_up {i n : Nat} (h : i < n) (hn : n ≤ 140737488351232) : wrap64 ((i : Int) + 1) = ((i + 1 : Nat) : Int) := by unfold wrap64; omega
theorem rdT_at {l : List S39} {k : Nat} (hk : k < l.length) : rd_T39 l (k : Int) = l[k] := by
  unfold rd_T39
  rw [Int.toNat_natCast, List.getD_eq_getElem?_getD, List.getElem?_eq_getElem hk]
  rfl
theorem rdL_at {l : List (List S39)} {k : Nat} (hk : k < l.length) : rd_L2 l (k : Int) = l[k] := by
  unfold rd_L2
  rw [Int.toNat_natCast, List.getD_eq_getElem?_getD, List.getElem?_eq_getElem hk]
  rfl
theorem ava_test (x y : S39) : (!(x.f0.toList == y.f0.toList) || !(x.f1.toList == y.f1.toList)) = !decide (aP x = aP y) := by
  rw [Lib.toList_data, Lib.toList_data, Lib.toList_data, Lib.toList_data]
  show (!(bl x.f0 == bl y.f0) || !(bl x.f1 == bl y.f1)) = !decide ((bl x.f0, bl x.f1) = (bl y.f0, bl y.f1))
  by_cases h0 : bl x.f0 = bl y.f0 <;> by_cases h1 : bl x.f1 = bl y.f1 <;> simp [h0, h1]
theorem sameR_l (xs ys : List S39) (hl : xs.length = ys.length) (hz : xs.length ≤ 140737488351232) : ∀ (d k i : Nat), xs.length - i = d → d < k → i ≤ xs.length →
    chanceryref4_SameRdn.l0 k xs ys (i : Int) = some (decide (rP (xs.drop i) = rP (ys.drop i)))
  | 0, k + 1, i, hd, _, hi => by
    simp only [chanceryref4_SameRdn.l0]
    rw [if_neg (by omega), List.drop_eq_nil_of_le (by omega), List.drop_eq_nil_of_le (by omega)]
    rfl
  | d + 1, k + 1, i, hd, hk, hi => by
    have h1 : i < xs.length := by omega
    have h2 : i < ys.length := by omega
    have ih := sameR_l xs ys hl hz d k (i + 1) (by omega) (by omega) (by omega)
    simp only [chanceryref4_SameRdn.l0]
    rw [if_pos (by omega), if_pos (by omega), if_pos (by omega), rdT_at h1, rdT_at h2, ava_test, wrap_up h1 hz, ih]
    rw [List.drop_eq_getElem_cons h1, List.drop_eq_getElem_cons h2]
    show (if (!decide (aP xs[i] = aP ys[i])) = true then some false else some (decide (rP (xs.drop (i + 1)) = rP (ys.drop (i + 1))))) = some (decide (aP xs[i] :: rP (xs.drop (i + 1)) = aP ys[i] :: rP (ys.drop (i + 1))))
    by_cases h3 : aP xs[i] = aP ys[i]
    · rw [decide_eq_true h3, if_neg (by decide), h3]
      simp
    · rw [decide_eq_false h3]
      simp [h3]
  | _, 0, _, _, hk, _ => absurd hk (Nat.not_lt_zero _)
theorem rP_len (r : List S39) : (rP r).length = r.length := List.length_map _
theorem sameR_f (xs ys : List S39) (hz : xs.length ≤ 140737488351232) (k : Nat) (hk : xs.length < k) : chanceryref4_SameRdn.f k xs ys = some (decide (rP xs = rP ys)) := by
  unfold chanceryref4_SameRdn.f
  by_cases hl : xs.length = ys.length
  · rw [if_pos (by omega)]
    exact sameR_l xs ys hl hz _ k 0 rfl (by omega) (Nat.zero_le _)
  · rw [if_neg (by omega), decide_eq_false (fun h => hl (by have := congrArg List.length h; rwa [rP_len, rP_len] at this))]
theorem sameD_l (xs ys : List (List S39)) (hl : xs.length = ys.length) (hz : xs.length ≤ 140737488351232) (N : Nat) (hzz : ∀ r ∈ xs, r.length ≤ 140737488351232 ∧ r.length < N) : ∀ (d k i : Nat), xs.length - i = d → d + N < k → i ≤ xs.length →
    chanceryref4_Same.l0 k xs ys (i : Int) = some (decide (dP (xs.drop i) = dP (ys.drop i)))
  | 0, k + 1, i, hd, _, hi => by
    simp only [chanceryref4_Same.l0]
    rw [if_neg (by omega), List.drop_eq_nil_of_le (by omega), List.drop_eq_nil_of_le (by omega)]
    rfl
  | d + 1, k + 1, i, hd, hk, hi => by
    have h1 : i < xs.length := by omega
    have h2 : i < ys.length := by omega
    have ih := sameD_l xs ys hl hz N hzz d k (i + 1) (by omega) (by omega) (by omega)
    have hr := hzz _ (List.getElem_mem h1)
    simp only [chanceryref4_Same.l0]
    rw [if_pos (by omega), if_pos (by omega), if_pos (by omega), rdL_at h1, rdL_at h2, sameR_f _ _ hr.1 k (by omega), wrap_up h1 hz, ih]
    rw [List.drop_eq_getElem_cons h1, List.drop_eq_getElem_cons h2]
    show (if decide (rP xs[i] = rP ys[i]) = true then some (decide (dP (xs.drop (i + 1)) = dP (ys.drop (i + 1)))) else some false) = some (decide (rP xs[i] :: dP (xs.drop (i + 1)) = rP ys[i] :: dP (ys.drop (i + 1))))
    by_cases h3 : rP xs[i] = rP ys[i]
    · rw [decide_eq_true h3, if_pos rfl, h3]
      simp
    · rw [decide_eq_false h3]
      simp [h3]
  | _, 0, _, _, hk, _ => absurd hk (Nat.not_lt_zero _)
theorem dP_len (d : List (List S39)) : (dP d).length = d.length := List.length_map _
theorem max_len (xs : List (List S39)) : ∃ N, ∀ r ∈ xs, r.length < N := by
  induction xs with
  | nil => exact ⟨0, fun r hr => by cases hr⟩
  | cons y u ih =>
    obtain ⟨N, hN⟩ := ih
    refine ⟨N + y.length + 1, fun r hr => ?_⟩
    rcases List.mem_cons.1 hr with rfl | hr
    · omega
    · have := hN r hr; omega
theorem sameD_f (xs ys : List (List S39)) (hz : xs.length ≤ 140737488351232) (hzz : ∀ r ∈ xs, r.length ≤ 140737488351232) : ∃ k, chanceryref4_Same.f k xs ys = some (decide (dP xs = dP ys)) := by
  unfold chanceryref4_Same.f
  by_cases hl : xs.length = ys.length
  · obtain ⟨N, hN⟩ := max_len xs
    refine ⟨xs.length + N + 1, ?_⟩
    rw [if_pos (by omega)]
    exact sameD_l xs ys hl hz N (fun r hr => ⟨hzz r hr, hN r hr⟩) _ _ 0 rfl (by omega) (Nat.zero_le _)
  · refine ⟨0, ?_⟩
    rw [if_neg (by omega), decide_eq_false (fun h => hl (by have := congrArg List.length h; rwa [dP_len, dP_len] at this))]
theorem same_c (A0 : Option Addr) (c0 : Nat) (l0 : List (List S39)) (A1 : Option Addr) (c1 : Nat) (l1 : List (List S39)) (w : World) (h0 : kR.C w A0 l0.length l0) (hc0 : l0.length ≤ c0) (h1 : kR.C w A1 l1.length l1) (hc1 : l1.length ≤ c1)
    (hz : l0.length ≤ 140737488351232) (hzz : ∀ r ∈ l0, r.length ≤ 140737488351232) :
    Calls Tryd.prog 11 #[.slice A0 l0.length c0, .slice A1 l1.length c1] w fun e w' => e = .returned (.bool (decide (dP l0 = dP l1))) ∧ Below w.heap.size w w' := by
  obtain ⟨k, hk⟩ := sameD_f l0 l1 hz hzz
  exact (chanceryref4_Same.calls k A0 c0 l0 A1 c1 l1 _ w h0 hc0 h1 hc1 hk).mono fun e w' ⟨he, hd⟩ => ⟨he, hd.below⟩
end Go.Proofs.YtneclgjjnnldpaaDoor.Rd
end
section
/- The walks of slices.Clone at a part, of dn's copied, Parent and Join. Conditions: names that read, of sizes that a row bounds. -/
namespace Go.Proofs.YtneclgjjnnldpaaDoor.Rd
open Go Go.RowKit Go.Lib Go.Proofs.YtneclgjjnnldpaaDoor.PFn Go.Proofs.YtneclgjjnnldpaaDoor.Dp Go.Proofs.YtneclgjjnnldpaaDoorW.PrintWords

theorem R_lit0 {α : Type} (d : Kd α) (W : World) (base e : Nat) (ok : Nat → Prop) (hbase : base ≤ W.heap.size) (hfresh : ok W.heap.size) : d.R e (W.alloc (.cells #[] e)) base ok (.slice (some ⟨W.heap.size, 0, none⟩) 0 0) [] := by
  refine ⟨fun k hk => ?_, [], ?_, Reps.none _ _⟩
  · have : W.heap.size = k := by simpa [Value.ownBlock] using hk
    subst this
    exact hfresh
  · have h2 := World.ownsRow_lit (base := base) (e := e) (size := d.sz) W #[] 0 hbase (by simp [maxLen]) (by simp)
    simpa using h2
set_option maxHeartbeats 1000000 in
set_option maxRecDepth 100000 in
theorem clone1_c (A : Option Addr) (c : Nat) (l : List S39) (w : World) (hC : kA.C w A l.length l) (hz : l.length * 32 ≤ 140737488351232) :
    Calls Tryd.prog 38 #[.slice A l.length c] w fun e w' => ∃ B k, e = .returned (.slice B l.length k) ∧ kA.R 39 w' w.heap.size (fun k => w.heap.size ≤ k) (.slice B l.length k) l ∧ Below w.heap.size w w' := by
  have hnil := fun wx => Lib.run_eql_slice_nil (P := Tryd.prog) wx 25 39 A l.length c 0 0 Tryd.underlying25
  cases A with
  | none =>
    have hl : l = [] := by
      rcases Nat.eq_zero_or_pos l.length with h | h
      · exact List.eq_nil_of_length_eq_zero h
      · obtain ⟨ad, he, _⟩ := hC.2.2 h
        cases he
    subst hl
    have hnil0 := fun wx => Lib.run_eql_slice_nil (P := Tryd.prog) wx 25 39 none 0 c 0 0 Tryd.underlying25
    clear hnil hC hz
    go_enter Tryd.func38, Tryd.ntmps38
    go_wp2
    go_ret
    exact ⟨none, 0, rfl, Kd.R_nil _ _ _ _ _, Below.refl _ _⟩
  | some ad =>
    have HC := Aside0.mk hC
    clear hC
    go_enter Tryd.func38, Tryd.ntmps38
    go_wp2_with (at_builtin; refine Aside0.out ?_)
    refine ⟨?_⟩
    refine Kd.R_append_rows (Rr := kA.K (w.alloc (.cells #[] 39))) kA (w0 := w) w.heap.size rfl _ _ 25 39 (.agg #[.string ByteArray.empty, .string ByteArray.empty]) 32 rfl Tryd.underlying25 ava_info rfl (by decide) (by decide) (.slice (some ⟨w.heap.size, 0, none⟩) 0 0) [] l (some ad) l.length c (fun k => w.heap.size ≤ k) (fun _ => False) rfl rfl (R_lit0 kA w w.heap.size _ _ (Nat.le_refl _) (Nat.le_refl _)) (Kd.C_below HC.out (below_alloc (Below.refl _ _) _)) (fun x cs hk => by rw [k39_open hk]; exact k39_mkM _ _ _ x) (fun _ hk => hk.elim) (fun k hk => by rw [World.size_alloc] at hk; omega) (below_alloc (Below.refl _ _) _) (by rw [World.size_alloc]; omega) (by simp; omega) ?_
    intro v1 w1 HR1 hb1 _ _
    rw [List.nil_append] at HR1
    obtain ⟨B, k, rfl⟩ := Kd.R_slice HR1
    go_wp2
    go_ret
    exact ⟨B, k, rfl, HR1, hb1⟩
/-- what a name's copy asks -/
structure Small (d : List (List S39)) : Prop where
  z : d.length ≤ 1000000000
  zz : ∀ r ∈ d, r.length * 32 ≤ 140737488351232
def CpRel (d : List (List S39)) (w : World) (v3 v8 : Value) (wr : World) : Prop := ∃ k : Nat, v8 = .int .i64 (k : Int) ∧ k ≤ d.length ∧ kR.R 25 wr w.heap.size (fun k => w.heap.size ≤ k) v3 (d.take k) ∧ Below w.heap.size w wr
def CopyP (d : List (List S39)) (w : World) (e : Ending) (w' : World) : Prop := ∃ A k, e = .returned (.slice A d.length k) ∧ kR.R 25 w' w.heap.size (fun k => w.heap.size ≤ k) (.slice A d.length k) d ∧ Below w.heap.size w w'
set_option maxHeartbeats 1000000 in
set_option maxRecDepth 100000 in
theorem copied_c (A : Option Addr) (c : Nat) (d : List (List S39)) (w : World) (hC : kR.C w A d.length d) (hS : Small d) :
    Calls Tryd.prog 21 #[.slice A d.length c] w (CopyP d w) := by
  have HC := Aside0.mk hC
  have HSM := Aside0.mk hS
  have hdz := hS.z
  clear hC hS
  go_enter Tryd.func21, Tryd.ntmps21
  go_wp2_with fail
  go_loopw [3, 8] (fun v3 v8 wr => CpRel d w v3 v8 wr) (fun _ v8 _ => d.length - (RowKit.intOf v8).toNat)
  case atStart => exact ⟨0, rfl, Nat.zero_le _, Kd.R_nil _ _ _ _ _, Below.refl _ _⟩
  case round =>
    obtain ⟨k, rfl, hk, hR, hb⟩ := hrel
    have HR := Aside0.mk hR
    have HB := Aside0.mk hb
    clear hR hb
    by_cases hlt : k < d.length
    · have hki : (k : Int) < (d.length : Int) := by omega
      obtain ⟨ad, B, cc, hAd, h0, h1, h2⟩ := at_rdn (Kd.C_below HC.out HB.out) k hlt
      have cC := clone1_c B cc d[k] wr h2 (HSM.out.zz _ (List.getElem_mem hlt))
      have HSN : Aside0 (d.take (k + 1) = d.take k ++ [d[k]]) := ⟨List.take_succ_eq_append_getElem hlt⟩
      obtain ⟨n, hn⟩ : ∃ n, (d.take k).length = n := ⟨_, rfl⟩
      have hnk : n ≤ 1000000000 := by rw [← hn, List.length_take]; omega
      have HN := Aside0.mk hn
      clear h2 hn
      generalize d[k] = r at *
      subst hAd
      go_wp2_with fail
      refine cC.mono ?_
      rintro e w1 ⟨B1, k1, rfl, hR1, hb1⟩
      have HR1 : Aside0 (kR.M w1 w.heap.size (fun k => wr.heap.size ≤ k) r [.slice B1 r.length k1]) := ⟨⟨_, rfl, Kd.R_lower hR1 HB.out.size⟩⟩
      have HR3 : Aside0 (kR.R 25 w1 w.heap.size (fun k => w.heap.size ≤ k) u3 (d.take k)) := ⟨Kd.R_below HR.out hb1⟩
      have HB1 : Aside0 (Below w.heap.size w w1) := ⟨below_seq HB.out hb1⟩
      have hokp : Aside0 (∀ k, wr.heap.size ≤ k → w.heap.size ≤ k ∧ some k ≠ u3.ownBlock) := ⟨fun k hk => ⟨Nat.le_trans HB.out.size hk, fun e => by have := R_block_lt HR.out k e.symm; omega⟩⟩
      clear hR1 hb1 cC
      go_wp2_with (at_builtin; refine Kd.R_append kR (w0 := w) w.heap.size rfl _ _ 23 25 (.slice none 0 0) 24 rfl Tryd.underlying23 rdn_info rfl (by decide) (by decide) u3 (d.take k) r [.slice B1 r.length k1] (fun k => w.heap.size ≤ k) (fun k => wr.heap.size ≤ k) rfl rfl HR1.out hokp.out (fun k hk => Nat.le_trans HB1.out.size hk) HR3.out HB1.out HB1.out.size (by rw [HN.out]; omega) ?_; intro v1 w6 HR6 hb6 _ _)
      exact ⟨⟨k + 1, by go_num, by omega, by rw [HSN.out]; exact HR6, hb6⟩, by simp [RowKit.intOf]; omega⟩
    · have hke : k = d.length := by omega
      have hki : ¬ (k : Int) < (d.length : Int) := by omega
      have ht : d.take k = d := by rw [hke, List.take_length]
      rw [ht] at HR
      obtain ⟨A3, k3, rfl⟩ := Kd.R_slice HR.out
      clear ht hke
      go_wp2
      refine bodyPost_ret (v := .slice A3 d.length k3) (by simp [results, Tryd.results21, go_sem]) rfl ?_
      exact ⟨A3, k3, rfl, HR.out, HB.out⟩
theorem cut1 (A : Option Addr) (n c : Nat) (hn : 1 ≤ n) (W : World) : (Instr.slice 23 (.slice A n c) (some (.int .i64 1)) none none).run Tryd.prog W = .ok (.slice (if c = 1 then A else A.map (·.add (1 * kR.sz))) (n - 1) (c - 1)) W := by
  obtain ⟨i0, hi, hz0, hz1, hz2⟩ := info_parts rdn_info
  have hel : Tryd.prog.elem 23 = 25 := by simp [Program.elem, Tryd.underlying23]
  have hu : Tryd.prog.underlying 23 = some (.slice (Tryd.prog.elem 23)) := by rw [hel]; exact Tryd.underlying23
  rw [run_slice_l W 23 A n c hu .i64 1 (by omega) (by omega), hel]
  simp [sizeOf, typeInfo, hi, hz1, sliced, Result.andThen]
def ParentP (d : List (List S39)) (w : World) (e : Ending) (w' : World) : Prop := ∃ A k, e = .returned (.tuple #[.slice A (d.drop 1).length k, .bool (decide (0 < d.length))]) ∧ kR.R 25 w' w.heap.size (fun k => w.heap.size ≤ k) (.slice A (d.drop 1).length k) (d.drop 1) ∧ Below w.heap.size w w'
set_option maxHeartbeats 1000000 in
set_option maxRecDepth 100000 in
theorem parent_c (A : Option Addr) (c : Nat) (d : List (List S39)) (w : World) (hC : kR.C w A d.length d) (hc : d.length ≤ c) (hS : Small d) :
    Calls Tryd.prog 9 #[.slice A d.length c] w (ParentP d w) := by
  cases d with
  | nil =>
    clear hC hS hc
    go_enter Tryd.func9, Tryd.ntmps9
    go_wp2
    go_ret2
    exact ⟨none, 0, rfl, Kd.R_nil _ _ _ _ _, Below.refl _ _⟩
  | cons r t =>
    have hcut := cut1 A (r :: t).length c (by simp)
    have hD := Kd.C_drop (m := 1) hC (by simp) hc
    have hS2 : Small ((r :: t).drop 1) := ⟨by have := hS.z; simp at this ⊢; omega, fun x hx => hS.zz x (List.mem_of_mem_drop hx)⟩
    have hl : ((r :: t).drop 1).length = (r :: t).length - 1 := by simp
    have cC := copied_c _ (c - 1) _ w hD hS2
    rw [hl] at cC
    obtain ⟨n, hn⟩ : ∃ n, (r :: t).length = n := ⟨_, rfl⟩
    have hn0 : ¬ (n : Int) = 0 := by rw [← hn]; simp; omega
    have hnb : ((n : Int) == 0) = false := beq_eq_false_iff_ne.2 hn0
    have HN := Aside0.mk hn
    have HL := Aside0.mk hl
    generalize (if c = 1 then A else A.map (·.add (1 * kR.sz))) = B at *
    rw [hn] at hcut cC ⊢
    clear hC hD hS hS2 hc hl hn
    go_enter Tryd.func9, Tryd.ntmps9
    go_wp2_with fail
    refine cC.mono ?_
    rintro e w1 ⟨A1, k1, rfl, hR, hb⟩
    go_wp2
    go_ret2
    exact ⟨A1, k1, by rw [HN.out, decide_eq_true (by omega)]; rfl, hR, hb⟩
end Go.Proofs.YtneclgjjnnldpaaDoor.Rd
end
section
/- The walks of dn's Join and of the law's alive. Conditions: names that read, of sizes that a row bounds; the listed tables hold what the program lays in them. -/
namespace Go.Proofs.YtneclgjjnnldpaaDoor.Rd
open Go Go.RowKit Go.Lib Go.Proofs.YtneclgjjnnldpaaDoor.PFn Go.Proofs.YtneclgjjnnldpaaDoor.Dp Go.Proofs.YtneclgjjnnldpaaDoorW.PrintWords

abbrev kF (w : World) : Kd (List S39) := Kd.fixed kR w
set_option maxHeartbeats 1000000 in
set_option maxRecDepth 100000 in
theorem joinD_c (A : Option Addr) (c : Nat) (r : List S39) (B : Option Addr) (k : Nat) (d : List (List S39)) (w : World) (hr : kA.C w A r.length r) (hrc : r.length ≤ c) (hd : kR.C w B d.length d) (hS : Small (r :: d)) :
    Calls Tryd.prog 10 #[.slice A r.length c, .slice B d.length k] w (CopyP (r :: d) w) := by
  have HR := Aside0.mk hr
  have HD := Aside0.mk hd
  have HSM := Aside0.mk hS
  have hdz : d.length + 1 ≤ 1000000000 := by have := hS.z; simpa using this
  clear hr hd hS
  go_enter Tryd.func10, Tryd.ntmps10
  go_wp2_with (at_builtin; refine Aside0.out ?_)
  refine ⟨?_⟩
  refine Kd.R_append_rows (Rr := kR.K w) (kF w) (w0 := w) w.heap.size rfl _ _ 23 25 (.slice none 0 0) 24 rfl Tryd.underlying23 rdn_info rfl (show 0 < kR.sz by decide) (by decide) (.slice (some ⟨w.heap.size, 0, none⟩) 1 1) [r] d B d.length k (fun k => w.heap.size ≤ k) (fun _ => False) rfl rfl (R_one (kF w) (okp := fun _ => False) (cs := [.slice A r.length c]) ⟨A, c, rfl, hrc, HR.out⟩ (fun _ hk => hk.elim) (Nat.le_refl _) (Nat.le_refl _)) (HD.out.imp_ (below_alloc (Below.refl _ _) _) (fun _ _ hp => hp)) (fun x cs hk => hk) (fun _ hk => hk.elim) (fun k hk => by rw [World.size_alloc] at hk; omega) (below_alloc (Below.refl _ _) _) (by rw [World.size_alloc]; omega) (by simp; omega) ?_
  intro v1 w1 HR1 hb1 _ _
  obtain ⟨A1, c1, rfl, hlen, hC⟩ := Kd.R_reads HR1
  have hC2 : kR.C w1 A1 (r :: d).length (r :: d) := ReadsRow.imp_ hC (Below.refl _ _) (fun p cs h => kR.K_below hb1 h)
  have cC := copied_c A1 c1 (r :: d) w1 hC2 HSM.out
  have HB1 := Aside0.mk hb1
  clear HR1 hC hC2 hb1 hlen
  have hl1 : ([r] ++ d).length = (r :: d).length := rfl
  rw [hl1]
  obtain ⟨n, hn⟩ : ∃ n, (r :: d).length = n := ⟨_, rfl⟩
  have HN := Aside0.mk hn
  rw [hn] at cC ⊢
  clear hn hl1
  go_wp2_with fail
  refine cC.mono ?_
  rintro e w2 ⟨A2, k2, rfl, hR2, hb2⟩
  rw [HN.out] at hR2 ⊢
  go_wp2
  refine bodyPost_ret (v := .slice A2 n k2) (by simp [results, Tryd.results10, go_sem]) rfl ?_
  refine ⟨A2, k2, by rw [HN.out], ?_, below_seq HB1.out hb2⟩
  rw [HN.out]
  exact Kd.R_mono (Kd.R_lower hR2 HB1.out.size) (fun k hk => Nat.le_trans HB1.out.size hk)
/-! ### alive -/
def aliveS : Bs := [99, 110, 61, 65, 92, 44, 32, 98, 32, 43, 32, 115, 110, 32, 61, 32, 99, 32, 44, 100, 99, 61, 120]
def aliveD : List (List Ava) := [[([99, 110], [65, 44, 32, 98]), ([115, 110], [99])], [([100, 99], [120])]]
def aliveT : Bs := [99, 110, 61, 65, 92, 44, 32, 98, 43, 115, 110, 61, 99, 44, 100, 99, 61, 120]
theorem alive_parse : parseL aliveS = (aliveD, 0) := by decide +kernel
theorem alive_print : printL aliveD = (aliveT, 0) := by decide +kernel
theorem alive_type : isType [49, 46, 50] = true := by decide +kernel
theorem fine_of {d : List (List S39)} (h1 : d.length ≤ 1000000000) (h2 : ∀ r ∈ d, r.length ≤ 1000000000 ∧ ∀ x ∈ r, x.f0.size ≤ 140737488351232) : Fine d :=
  ⟨by omega, fun r hr => by have := (h2 r hr).1; omega, fun r hr => (h2 r hr).2⟩
theorem alive_fine : Fine (aliveD.map sR) := by
  refine fine_of (by decide) (fun r hr => ?_)
  have h : ∀ r ∈ aliveD.map sR, r.length ≤ 2 ∧ ∀ x ∈ r, x.f0.size ≤ 2 := by
    intro r hr
    obtain ⟨a, ha, rfl⟩ := List.mem_map.1 hr
    have key : ∀ a ∈ aliveD, a.length ≤ 2 ∧ ∀ y ∈ a, y.1.length ≤ 2 := by decide
    obtain ⟨h1, h2⟩ := key a ha
    refine ⟨by unfold sR; rw [List.length_map]; exact h1, fun x hx => ?_⟩
    obtain ⟨y, hy, rfl⟩ := List.mem_map.1 hx
    have := h2 y hy
    show (y.1.toArray).size ≤ 2
    simpa using this
  obtain ⟨h1, h2⟩ := h r hr
  exact ⟨by omega, fun x hx => by have := h2 x hx; omega⟩
set_option maxHeartbeats 1000000 in
set_option maxRecDepth 100000 in
theorem alive_c (w : World) (hE : Env w) : Calls Tryd.prog 8 #[] w fun e w' => e = .returned (.bool true) ∧ Below w.heap.size w w' := by
  have cP : Calls Tryd.prog 13 #[.string ⟨#[99, 110, 61, 65, 92, 44, 32, 98, 32, 43, 32, 115, 110, 32, 61, 32, 99, 32, 44, 100, 99, 61, 120]⟩] w (ParseP w (aliveD, 0)) := by
    have h := parse_c ⟨aliveS.toArray⟩ w hE (by decide)
    rw [show bl ⟨aliveS.toArray⟩ = aliveS from rfl, alive_parse] at h
    exact h
  have cI := fun W (hW : Env W) => isType_c ⟨#[49, 46, 50]⟩ W (by decide) hW
  rw [show bl ⟨#[49, 46, 50]⟩ = [49, 46, 50] from rfl, alive_type] at cI
  go_enter Tryd.func8, Tryd.ntmps8
  go_wp2_with fail
  refine cP.mono ?_
  rintro e w1 ⟨v, rfl, hR, hb⟩
  obtain ⟨A, c, rfl, _, hC⟩ := Kd.R_reads hR
  have hE1 := hE.below hb
  have cT := print_c A c (aliveD.map sR) w1 hC alive_fine hE1
  rw [dP_sR, alive_print] at cT
  have hl : (aliveD.map sR).length = 2 := rfl
  rw [hl] at cT ⊢
  clear hR hC hl
  go_wp2_with fail
  refine cT.mono ?_
  rintro e w2 ⟨rfl, hb2⟩
  have hE2 := hE1.below hb2
  unfold aliveT
  go_wp2_with fail
  refine (cI _ hE2).mono ?_
  rintro e w3 ⟨rfl, hb3⟩
  go_wp2
  go_ret
  exact ⟨rfl, below_seq (below_seq hb hb2) hb3⟩
end Go.Proofs.YtneclgjjnnldpaaDoor.Rd
end
section
/- What the rows of this seat share: a world for the witnesses; what the listed package variables give the walks; a name that came in, opened. Conditions: none beyond the rows'. -/
set_option maxRecDepth 100000
namespace Go.Proofs.YtneclgjjnnldpaaDoor.Rk
open Go.Proofs.YtneclgjjnnldpaaDoorW.PrintWords
open Go Go.ChangeShapes Go.WideShapes Go.ChangeAt Go.RowKit Go.Lib Go.Proofs.YtneclgjjnnldpaaDoor.PFn Go.Proofs.YtneclgjjnnldpaaDoor.Rd

theorem own : ownKnob Tryd.prog.godebug = none := by kernel_rfl

noncomputable def laidWorld (os : Os) : World :=
  let w0 := World.holding Tryd.prog os ⟨#[], #[], []⟩
  let put (h : Array Obj) (g : Nat) (cs : Array Value) : Array Obj := h.modify g fun
    | .cells _ t frozen => .cells cs t frozen
    | o => o
  let h1 := put w0.heap 0 (Lib.firstTab.map fun z => Value.int .u8 z).toArray
  let h2 := put h1 1 ((List.range 16).flatMap fun i => [Value.int .u8 (Lib.accLo i), Value.int .u8 (Lib.accHi i)]).toArray
  { w0 with heap := h2 }
def laidList : List (String × DataW Unit) := [("unicode/utf8.acceptRanges", Rows.laid_unicode_utf8_acceptRanges), ("unicode/utf8.first", Rows.laid_unicode_utf8_first)]
theorem laid_met (os : Os) (args : Array Value) : laidMet Tryd.prog laidList ((laidWorld os).forCall (fun _ _ => 0) ⟨#[], args, []⟩).memory :=
  (LaidIn.of_run (l := laidList) [0, 1] 8 (by kernel_rfl) (by kernel_rfl) (by kernel_rfl) (by kernel_rfl)).met

theorem first_same : Rows.laid_unicode_utf8_first = Lib.firstData := by kernel_rfl
theorem accept_same : (Rows.laid_unicode_utf8_acceptRanges : DataW Unit) = Lib.acceptData := by kernel_rfl

theorem env_of {W : World} (hL : laidMetH Tryd.prog laidList W) (hsh : W.ShapedOpen Tryd.prog) : Env W := by
  refine ⟨utf8Tabs_of_readsT (U8Types.of196 Tryd.lays196) ⟨by kernel_rfl, by kernel_rfl, by kernel_rfl, by kernel_rfl, by kernel_rfl, by kernel_rfl, by kernel_rfl⟩ ?_ ?_, ?_⟩
  · have h := Lib.laidMet.reads hL (.tail _ (.head _))
    rw [first_same] at h
    exact h
  · have h := Lib.laidMet.reads hL (.head _)
    rw [accept_same] at h
    exact h
  · exact cell_of_shapedOpen_int (zero := #[.int .i64 0]) (t := 3) hsh (of_decide_eq_true (by kernel_rfl)) (by kernel_rfl) rfl (by kernel_rfl) (by kernel_rfl) Tryd.underlying3
theorem str_small {H : Type} {P : Program} {ts : List TypeId} {ds : List (DataW H)} (h : (DataW.weightsEach P ts ds).all (· ≤ reachBytes) = true) {j : Nat} {t : TypeId} {s : ByteArray} (ht : ts[j]? = some t) (hd : ds[j]? = some (.lit (.string s.data.toList))) : s.size ≤ 140737488351232 := by
  have := sized_string h ht hd
  unfold reachBytes at this
  have hl : s.data.toList.length = s.size := Array.length_toList
  omega
theorem laidOut : laidOutB Tryd.prog = true := by kernel_rfl
/-- what was read before the call reads so behind it -/
theorem trodAll_below {H : Type} {enc : TypeId × Value → H} {W W' : World} (hb : Below W.heap.size W W') : ∀ {ts : List TypeId} {vs : List Value} {ds : List (DataW H)} {ps : List MemPlace},
    (∀ t ∈ ts, Tryd.prog.readableRec t = true ∧ t < Tryd.prog.types.size) → DataW.TrodAll enc Tryd.prog W 0 (fun _ => true) true ts vs ds ps → (∀ x ∈ ps, x.block < W.heap.size) → DataW.TrodAll enc Tryd.prog W' 0 (fun b => decide (b < W.heap.size)) true ts vs ds ps
  | [], [], [], _, _, h, _ => h
  | [], _ :: _, _, _, _, h, _ => by simp [DataW.TrodAll] at h
  | [], [], _ :: _, _, _, h, _ => by simp [DataW.TrodAll] at h
  | t :: ts, vs, ds, ps, ht, h, hlt => by
    obtain ⟨v, vs', d, ds', p, q, rfl, rfl, rfl, h0, hr⟩ := trodAll_cons h
    exact ⟨p, q, Below.trod laidOut (ht t (by simp)).1 (ht t (by simp)).2 h0 hb (fun x hx => hlt x (by simp [hx])), trodAll_below hb (fun u hu => ht u (by simp [hu])) hr (fun x hx => hlt x (by simp [hx])), rfl⟩

/-! ### a name that came in -/
theorem weightsAll_mem {H : Type} {P : Program} {e : TypeId} {d : DataW H} {n : Nat} (hn : n ∈ d.weights P e) : ∀ {l : List (DataW H)}, d ∈ l → n ∈ DataW.weightsAll P e l
  | x :: r, h => by
    simp only [DataW.weightsAll]
    rcases List.mem_cons.1 h with rfl | h
    · exact List.mem_append.2 (.inl hn)
    · exact List.mem_append.2 (.inr (weightsAll_mem hn h))
structure OkR (l : List S39) : Prop where
  z : l.length * 32 ≤ 140737488351232
  s : ∀ x ∈ l, x.f0.size ≤ 140737488351232 ∧ x.f1.size ≤ 140737488351232
theorem ava_cells : Tryd.prog.cellsOf 39 = 2 := by kernel_rfl
theorem ava_bytes : Tryd.prog.bytesOf 39 = 32 := by kernel_rfl
theorem rdn_cells : Tryd.prog.cellsOf 25 = 1 := by kernel_rfl
theorem rdn_bytes : Tryd.prog.bytesOf 25 = 24 := by kernel_rfl
theorem str_cells : Tryd.prog.cellsOf 9 = 1 := by kernel_rfl
theorem rdn_open {H : Type} {enc : TypeId × Value → H} {W : World} {fuel : Nat} {v : Value} {x : DataW H × List MemPlace} (h : DataW.trod enc Tryd.prog W 0 (fun _ => true) true fuel 25 [v] = some x) (hw : ∀ n ∈ x.1.weights Tryd.prog 25, n ≤ reachBytes) :
    ∃ A c l, v = .slice A l.length c ∧ l.length ≤ c ∧ kA.C W A l.length l ∧ OkR l := by
  rcases Go.Deep.open_slice_pairs (f0 := _) (f1 := _) Tryd.underlying25 Tryd.underlying39 ava_cells rfl rfl str_cells str_cells h with ⟨hv, _⟩ | ⟨a, len, cap, m, n, V0, V1, D0, D1, P0, P1, hv, _, hlc, hcm, hm, rfl, hx⟩
  · injection hv with hv _
    exact ⟨none, 0, [], hv, Nat.le_refl _, ⟨rfl, by simp, fun hp => absurd hp (by simp)⟩, ⟨by simp, fun x hx => by cases hx⟩⟩
  · injection hv with hv _
    simp only [if_true] at hm
    subst hm
    have hst : ∀ i, i < m → ∃ q : ByteArray × ByteArray, V0 i = .string q.1 ∧ V1 i = .string q.2 ∧ D0 i = .lit (.string q.1.data.toList) ∧ D1 i = .lit (.string q.2.data.toList) := by
      intro i hi
      obtain ⟨_, _, t0, t1⟩ := hx i hi
      obtain ⟨s0, e0, d0, _⟩ := DataW.trod_string Tryd.underlying9 t0
      obtain ⟨s1, e1, d1, _⟩ := DataW.trod_string Tryd.underlying9 t1
      injection e0 with e0 _
      injection e1 with e1 _
      simp only [Prod.mk.injEq] at d0 d1
      exact ⟨(s0, s1), e0, e1, d0.1, d1.1⟩
    obtain ⟨q, hq⟩ := Go.Deep.choose_lt (α := ByteArray × ByteArray) hst
    have hll : ((List.range len).map fun i => (⟨(q i).1, (q i).2⟩ : S39)).length = len := by simp
    have hwl : (len + (m - len)) * 32 ≤ reachBytes := by
      refine hw _ ?_
      simp only [DataW.weights, Tryd.underlying25, List.length_map, List.length_range, ava_bytes]
      exact List.mem_cons_self
    unfold reachBytes at hwl
    refine ⟨some a, m, (List.range len).map fun i => ⟨(q i).1, (q i).2⟩, by rw [hll]; exact hv, by rw [hll]; exact hlc, ?_, ⟨by rw [hll]; omega, fun x hx' => ?_⟩⟩
    · refine ⟨rfl, by rw [hll]; simp only [maxLen] at hcm; omega, fun hp => ⟨a, rfl, fun j p hj => ?_⟩⟩
      obtain ⟨hjl, hp⟩ := List.getElem?_eq_some_iff.1 hj
      rw [hll] at hjl
      rw [List.getElem_map, List.getElem_range] at hp
      obtain ⟨h0, h1, _, _⟩ := hx j (by omega)
      obtain ⟨v0, v1, _, _⟩ := hq j (by omega)
      refine ⟨[.string (q j).1, .string (q j).2], rfl, by rw [← hp]; exact k39_mk W _, fun i u hu => ?_⟩
      match i, hu with
      | 0, hu =>
        injection hu with hu
        rw [← hu, ← v0]
        exact h0
      | 1, hu =>
        injection hu with hu
        rw [← hu, ← v1]
        exact h1
      | i + 2, hu => simp at hu
    · obtain ⟨i, hi, rfl⟩ := List.mem_map.1 hx'
      have hi' := List.mem_range.1 hi
      obtain ⟨_, _, d0, d1⟩ := hq i (by omega)
      have hmem : ∀ n ∈ (DataW.agg [D0 i, D1 i]).weights Tryd.prog 39, n ≤ reachBytes := fun n hn => by
        refine hw n ?_
        simp only [DataW.weights, Tryd.underlying25]
        exact List.mem_cons_of_mem _ (List.mem_append.2 (.inl (weightsAll_mem hn (List.mem_map.2 ⟨i, hi, rfl⟩))))
      have e0 : (q i).1.data.toList.length ≤ reachBytes := hmem _ (by
        rw [d0, d1]
        simp [DataW.weights, Tryd.underlying39, DataW.weightsEach])
      have e1 : (q i).2.data.toList.length ≤ reachBytes := hmem _ (by
        rw [d0, d1]
        simp [DataW.weights, Tryd.underlying39, DataW.weightsEach])
      unfold reachBytes at e0 e1
      rw [Array.length_toList] at e0 e1
      exact ⟨e0, e1⟩
structure OkD (d : List (List S39)) : Prop where
  z : d.length * 24 ≤ 140737488351232
  r : ∀ r ∈ d, OkR r
theorem dn_open {H : Type} {enc : TypeId × Value → H} {W : World} {fuel : Nat} {v : Value} {x : DataW H × List MemPlace} (h : DataW.trod enc Tryd.prog W 0 (fun _ => true) true fuel 23 [v] = some x) (hw : ∀ n ∈ x.1.weights Tryd.prog 23, n ≤ reachBytes) :
    ∃ A c d, v = .slice A d.length c ∧ d.length ≤ c ∧ kR.C W A d.length d ∧ OkD d := by
  rcases Go.Deep.open_slice1 Tryd.underlying23 rdn_cells h with ⟨hv, _⟩ | ⟨a, len, cap, m, n, V, D, Pl, hv, _, hlc, hcm, hm, rfl, hx⟩
  · injection hv with hv _
    exact ⟨none, 0, [], hv, Nat.le_refl _, ⟨rfl, by simp, fun hp => absurd hp (by simp)⟩, ⟨by simp, fun x hx => by cases hx⟩⟩
  · injection hv with hv _
    simp only [if_true] at hm
    subst hm
    have hst : ∀ i, i < len → ∃ q : Option Addr × Nat × List S39, V i = .slice q.1 q.2.2.length q.2.1 ∧ q.2.2.length ≤ q.2.1 ∧ kA.C W q.1 q.2.2.length q.2.2 ∧ OkR q.2.2 := by
      intro i hi
      obtain ⟨_, t0⟩ := hx i (by omega)
      obtain ⟨A, c, l, e0, h1, h2, h3⟩ := rdn_open t0 (fun n hn => by
        refine hw n ?_
        simp only [DataW.weights, Tryd.underlying23]
        exact List.mem_cons_of_mem _ (List.mem_append.2 (.inl (weightsAll_mem hn (List.mem_map.2 ⟨i, List.mem_range.2 hi, rfl⟩)))))
      exact ⟨(A, c, l), e0, h1, h2, h3⟩
    obtain ⟨q, hq⟩ := Go.Deep.choose_lt (α := Option Addr × Nat × List S39) hst
    have hll : ((List.range len).map fun i => (q i).2.2).length = len := by simp
    have hwl : (len + (m - len)) * 24 ≤ reachBytes := by
      refine hw _ ?_
      simp only [DataW.weights, Tryd.underlying23, List.length_map, List.length_range, rdn_bytes]
      exact List.mem_cons_self
    unfold reachBytes at hwl
    refine ⟨some a, m, (List.range len).map fun i => (q i).2.2, by rw [hll]; exact hv, by rw [hll]; exact hlc, ?_, ⟨by rw [hll]; omega, fun x hx' => ?_⟩⟩
    · refine ⟨rfl, by rw [hll]; simp only [maxLen] at hcm; omega, fun hp => ⟨a, rfl, fun j p hj => ?_⟩⟩
      obtain ⟨hjl, hp⟩ := List.getElem?_eq_some_iff.1 hj
      rw [hll] at hjl
      rw [List.getElem_map, List.getElem_range] at hp
      obtain ⟨h0, _⟩ := hx j (by omega)
      obtain ⟨v0, v1, v2, _⟩ := hq j hjl
      refine ⟨[.slice (q j).1 (q j).2.2.length (q j).2.1], rfl, by rw [← hp]; exact ⟨_, _, rfl, v1, v2⟩, fun i u hu => ?_⟩
      match i, hu with
      | 0, hu =>
        injection hu with hu
        rw [← hu, ← v0]
        have e : j * kR.sz + 0 = j := Nat.mul_one j
        rw [e]
        exact h0
      | i + 1, hu => simp at hu
    · obtain ⟨i, hi, rfl⟩ := List.mem_map.1 hx'
      exact (hq i (List.mem_range.1 hi)).2.2.2
theorem weight_of {H : Type} {P : Program} {ts : List TypeId} {ds : List (DataW H)} (h : (DataW.weightsEach P ts ds).all (· ≤ reachBytes) = true) {j : Nat} {t : TypeId} {d : DataW H} (ht : ts[j]? = some t) (hd : ds[j]? = some d) : ∀ n ∈ d.weights P t, n ≤ reachBytes := fun n hn => by
  have := List.all_eq_true.1 h n (DataW.weights_mem_each ht hd n hn)
  simpa using this
theorem OkR.len {r : List S39} (h : OkR r) : r.length ≤ 140737488351232 := by have := h.z; omega
theorem OkD.fine {d : List (List S39)} (h : OkD d) : Fine d := ⟨by have := h.z; omega, fun r hr => (h.r r hr).len, fun r hr x hx => ((h.r r hr).s x hx).1⟩
end Go.Proofs.YtneclgjjnnldpaaDoor.Rk
end
