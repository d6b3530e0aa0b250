/- The walk of dn's PrintRdn and of the law DnBlanks: true at every name and number. Conditions: a name that reads, of a size that a row bounds; the listed tables hold what the program lays in them. -/
import Derived.Test.YtneclgjjnnldpaaDoorLes
namespace Go.Proofs.YtneclgjjnnldpaaDoor.Dp
def sepN (n : Nat) (c : UInt8) (i : Nat) : Bs := if 0 < i then rep n ++ c :: rep n else []
theorem joinN_snoc (n : Nat) (c : UInt8) : ∀ (l : List Bs) (x : Bs), joinN n c (l ++ [x]) = joinN n c l ++ sepN n c l.length ++ x
  | [], x => rfl
  | [y], x => by
    show y ++ (rep n ++ c :: (rep n ++ x)) = y ++ (if 0 < 1 then rep n ++ c :: rep n else []) ++ x
    simp
  | y :: z :: r, x => by
    show y ++ (rep n ++ c :: (rep n ++ joinN n c ((z :: r) ++ [x]))) = y ++ (rep n ++ c :: (rep n ++ joinN n c (z :: r))) ++ sepN n c (r.length + 1 + 1) ++ x
    rw [joinN_snoc n c (z :: r) x]
    have e : sepN n c (z :: r).length = sepN n c (r.length + 1 + 1) := by simp [sepN]
    rw [e]
    simp
theorem joinN_take (n : Nat) (c : UInt8) {α : Type} (f : α → Bs) {l : List α} {i : Nat} (h : i < l.length) : joinN n c ((l.take (i + 1)).map f) = joinN n c ((l.take i).map f) ++ sepN n c i ++ f l[i] := by
  rw [List.take_succ_eq_append_getElem h, List.map_append]
  show joinN n c (_ ++ [f l[i]]) = _
  rw [joinN_snoc, List.length_map, List.length_take, Nat.min_eq_left (Nat.le_of_lt h)]
theorem joinN_lim (n : Nat) (c : UInt8) (M : Nat) : ∀ l : List Bs, (∀ x ∈ l, x.length ≤ M) → (joinN n c l).length ≤ l.length * (M + 2 * n + 1)
  | [], _ => Nat.zero_le _
  | [x], h => by
    have := h x (by simp)
    show x.length ≤ 1 * _
    omega
  | x :: y :: r, h => by
    have h1 := h x (by simp)
    have h2 := joinN_lim n c M (y :: r) (fun z hz => h z (by simp [hz]))
    show (x ++ (rep n ++ c :: (rep n ++ joinN n c (y :: r)))).length ≤ _
    simp only [List.length_append, List.length_cons, rep_len] at h2 ⊢
    rw [Nat.succ_mul]
    omega
theorem one_print {a : Ava} (ht : isType a.1 = true) (h : a.2.length ≤ 1024) : printL [[a]] = (pairN 0 a, 0) := by
  have hw : wrong [[a]] = false := by simp [wrong, ht]
  have hl : tooLong [[a]] = false := by simp [tooLong]; omega
  have e : nameN 0 [[a]] = pairN 0 a := rfl
  unfold printL
  rw [if_neg (by rw [hw]; decide), if_neg (by rw [hl]; decide), e, if_neg]
  have h1 := isType_len ht
  have h2 := written_len a.2
  unfold pairN
  simp only [List.length_append, List.length_cons, rep_len]
  omega
theorem spaced_parse {n : Nat} (hn : n ≤ 3) {D : List (List Ava)} (hw : wrong D = false) (hl : tooLong D = false) (hz : (nameN 0 D).length ≤ 60000) : parseL (nameN n D) = (D, 0) := by
  have h1 := nameN_up hn hl
  unfold parseL
  rw [if_neg (by omega), name_read n hw]
  dsimp only
  rw [if_neg (by rw [hl]; decide)]
theorem partN_lim {n : Nat} (hn : n ≤ 3) {r : List Ava} (h4 : r.length ≤ 4) (h : ∀ a ∈ r, a.1.length ≤ 64 ∧ a.2.length ≤ 1024) : (partN n r).length ≤ 14000 := by
  have := joinN_lim n 43 3300 (r.map (pairN n)) (fun x hx => by
    obtain ⟨a, ha, rfl⟩ := List.mem_map.1 hx
    have h1 := h a ha
    have h2 := written_len a.2
    unfold pairN
    simp only [List.length_append, List.length_cons, rep_len]
    omega)
  rw [List.length_map] at this
  have h5 : r.length * (3300 + 2 * n + 1) ≤ 4 * (3300 + 2 * n + 1) := Nat.mul_le_mul_right _ h4
  unfold partN
  omega
theorem nameN_lim {n : Nat} (hn : n ≤ 3) {D : List (List Ava)} (h20 : D.length ≤ 20) (h : ∀ r ∈ D, r.length ≤ 4 ∧ ∀ a ∈ r, a.1.length ≤ 64 ∧ a.2.length ≤ 1024) : (nameN n D).length ≤ 300000 := by
  have := joinN_lim n 44 14000 (D.map (partN n)) (fun x hx => by
    obtain ⟨r, hr, rfl⟩ := List.mem_map.1 hx
    exact partN_lim hn (h r hr).1 (h r hr).2)
  rw [List.length_map] at this
  have h5 : D.length * (14000 + 2 * n + 1) ≤ 20 * (14000 + 2 * n + 1) := Nat.mul_le_mul_right _ h20
  unfold nameN
  omega
theorem sepN_lim {n : Nat} (hn : n ≤ 3) (c : UInt8) (i : Nat) : (sepN n c i).length ≤ 7 := by
  unfold sepN
  split
  · simp only [List.length_append, List.length_cons, rep_len]; omega
  · simp
theorem print_facts {D : List (List Ava)} {t : Bs} (h : printL D = (t, 0)) : wrong D = false ∧ tooLong D = false ∧ t = nameN 0 D := by
  unfold printL at h
  split at h
  · simp at h
  · next hw =>
    split at h
    · simp at h
    · next hl =>
      split at h
      · simp at h
      · injection h with h _
        exact ⟨by simpa using hw, by simpa using hl, h.symm⟩
theorem pairN_0 (a : Ava) : pairN 0 a = a.1 ++ 61 :: written a.2 := rfl
theorem pairN_n (n : Nat) (a : Ava) : pairN n a = a.1 ++ rep n ++ [61] ++ rep n ++ written a.2 := by
  unfold pairN
  simp
end Go.Proofs.YtneclgjjnnldpaaDoor.Dp
namespace Go.Proofs.YtneclgjjnnldpaaDoor.Rd
open Go Go.RowKit Go.Lib Go.Proofs.YtneclgjjnnldpaaDoor.PFn Go.Proofs.YtneclgjjnnldpaaDoor.Dp Go.Proofs.YtneclgjjnnldpaaDoorW.PrintWords Go.Proofs.YtneclgjjnnldpaaDoor.Rk

theorem C_one {A : Option Addr} {c : Nat} {r : List S39} {w : World} (hr : kA.C w A r.length r) (hrc : r.length ≤ c) : kR.C (w.alloc (.cells #[.slice A r.length c] 25)) (some ⟨w.heap.size, 0, none⟩) 1 [r] := by
  have hR := R_one (kF w) (W := w) (base := w.heap.size) (e := 25) (ok := fun _ => True) (okp := fun _ => False) (p := r) (cs := [.slice A r.length c]) ⟨A, c, rfl, hrc, hr⟩ (fun _ hk => hk.elim) trivial (Nat.le_refl _)
  have hC := (Kd.R_reads hR)
  obtain ⟨A', c', he, _, hC⟩ := hC
  injection he with h1 _ h3
  subst h1
  exact ReadsRow.imp_ hC (Below.refl _ _) (fun p cs h => kR.K_below (below_alloc (Below.refl _ _) _) h)
set_option maxHeartbeats 1000000 in
set_option maxRecDepth 100000 in
theorem printRdn_c (A : Option Addr) (c : Nat) (r : List S39) (w : World) (hr : kA.C w A r.length r) (hrc : r.length ≤ c) (hF : Fine [r]) (hE : Env w) :
    Calls Tryd.prog 14 #[.slice A r.length c] w (PrintP w (printL [rP r])) := by
  have hb0 := below_alloc (Below.refl w.heap.size w) (.cells #[.slice A r.length c] 25)
  have cT := print_c (some ⟨w.heap.size, 0, none⟩) 1 [r] _ (C_one hr hrc) hF (hE.below hb0)
  clear hr
  obtain ⟨ANS, hA⟩ : ∃ b, printL [rP r] = b := ⟨_, rfl⟩
  rw [hA]
  rw [show dP [r] = [rP r] from rfl, hA] at cT
  obtain ⟨a1, a2⟩ := ANS
  clear hA
  go_enter Tryd.func14, Tryd.ntmps14
  go_wp2_with fail
  refine cT.mono ?_
  rintro e w1 ⟨rfl, hb1⟩
  dsimp only
  go_wp2
  go_ret2
  exact ⟨rfl, below_seq hb0 hb1⟩
theorem cutb (m : Nat) (hm : m ≤ 3) (w : World) : (Instr.slice 9 (.string ⟨#[32, 32, 32]⟩) none (some (.int .i64 (m : Int))) none).run Tryd.prog w = .ok (.string ⟨(rep m).toArray⟩) w := by
  obtain rfl | rfl | rfl | rfl : m = 0 ∨ m = 1 ∨ m = 2 ∨ m = 3 := by omega
  all_goals kernel_rfl
theorem bl5 (x a b c d e : ByteArray) : bl (x ++ (a ++ b ++ c ++ d ++ e)) = bl x ++ (bl a ++ bl b ++ bl c ++ bl d ++ bl e) := by rw [bl_cat, bl_cat, bl_cat, bl_cat, bl_cat]
def BmRel (d : List (List S39)) (m : Nat) (w : World) (v7 v9 : Value) (wr : World) : Prop :=
  ∃ (i : Nat) (x : ByteArray), v7 = .string x ∧ v9 = .int .i64 (i : Int) ∧ i ≤ d.length ∧ bl x = nameN m ((dP d).take i) ∧ Below w.heap.size w wr
def BnRel (r : List S39) (m : Nat) (pre : Bs) (w : World) (v7 v10 : Value) (wr : World) : Prop :=
  ∃ (k : Nat) (x : ByteArray), v7 = .string x ∧ v10 = .int .i64 (k : Int) ∧ k ≤ r.length ∧ bl x = pre ++ partN m ((rP r).take k) ∧ Below w.heap.size w wr
theorem C_ava (a : S39) (w : World) : kA.C (w.alloc (.cells #[.string a.f0, .string a.f1] 39)) (some ⟨w.heap.size, 0, none⟩) 1 [a] := by
  have hR := R_one kA (W := w) (base := w.heap.size) (e := 39) (ok := fun _ => True) (okp := fun _ => False) (p := a) (cs := [.string a.f0, .string a.f1]) (sA_mk w w.heap.size _ (aP a)) (fun _ hk => hk.elim) trivial (Nat.le_refl _)
  exact (R_view (A := some ⟨w.heap.size, 0, none⟩) (k := 1) (xs := [a]) hR).2
theorem bl_extract (s : ByteArray) (i j : Nat) : bl (s.extract i j) = ((bl s).drop i).take (j - i) := Lib.extract_data s i j
theorem bl_inj {a b : ByteArray} (h : bl a = bl b) : a = b := by
  have h2 : a.data.toList.toArray = b.data.toList.toArray := congrArg List.toArray h
  rw [Array.toArray_toList, Array.toArray_toList] at h2
  cases a
  cases b
  exact congrArg ByteArray.mk h2
theorem one_c (a : S39) (w : World) (hE : Env w) (ht : isType (bl a.f0) = true) (h0 : a.f0.size ≤ 64) (h1 : a.f1.size ≤ 1024) :
    ∃ one : ByteArray, Calls Tryd.prog 14 #[.slice (some ⟨w.heap.size, 0, none⟩) 1 1] (w.alloc (.cells #[.string a.f0, .string a.f1] 39)) (fun e w' => e = .returned (.tuple #[.string one, .int .i64 0]) ∧ Below (w.alloc (.cells #[.string a.f0, .string a.f1] 39)).heap.size (w.alloc (.cells #[.string a.f0, .string a.f1] 39)) w') ∧ bl one = pairN 0 (aP a) := by
  refine ⟨⟨(pairN 0 (aP a)).toArray⟩, ?_, rfl⟩
  have hf : Fine [[a]] := ⟨by simp, fun r hr => by rw [List.mem_singleton.1 hr]; simp, fun r hr x hx => by rw [List.mem_singleton.1 hr] at hx; rw [List.mem_singleton.1 hx]; omega⟩
  have := printRdn_c (some ⟨w.heap.size, 0, none⟩) 1 [a] _ (C_ava a w) (Nat.le_refl _) hf (hE.below (below_alloc (Below.refl _ _) _))
  rw [show rP [a] = [aP a] from rfl, one_print (a := aP a) ht (by show (bl a.f1).length ≤ 1024; rw [bl_size]; exact h1)] at this
  exact this
theorem one_parts {a : S39} {one : ByteArray} (h : bl one = pairN 0 (aP a)) (h1 : a.f1.size ≤ 1024) :
    ∃ wv : ByteArray, bl wv = Dp.written (bl a.f1) ∧ wv.size ≤ 3100 ∧ one.size = a.f0.size + 1 + wv.size ∧ one.extract 0 a.f0.size = a.f0 ∧ one.extract (a.f0.size + 1) one.size = wv := by
  rw [pairN_0] at h
  have hs : (bl a.f0).length = a.f0.size := bl_size _
  refine ⟨⟨(Dp.written (bl a.f1)).toArray⟩, rfl, ?_, ?_, ?_, ?_⟩
  · have := written_len (bl a.f1)
    rw [bl_size] at this
    show (Dp.written (bl a.f1)).toArray.size ≤ _
    simp
    omega
  · rw [← bl_size, h]
    show ((bl a.f0) ++ 61 :: Dp.written (bl a.f1)).length = a.f0.size + 1 + (Dp.written (bl a.f1)).toArray.size
    simp only [List.length_append, List.length_cons, List.size_toArray, hs]
    omega
  · apply bl_inj
    rw [bl_extract, h, List.drop_zero, Nat.sub_zero, ← hs]
    exact List.take_left
  · apply bl_inj
    rw [bl_extract, ← hs]
    have hd : (bl one).drop ((bl a.f0).length + 1) = Dp.written (bl a.f1) := by
      rw [h, ← List.drop_drop]
      rw [show (aP a).1 = bl a.f0 from rfl, List.drop_left]
      rfl
    rw [hd]
    apply List.take_of_length_le
    rw [← hd, List.length_drop, bl_size]
    exact Nat.le_refl _
set_option maxHeartbeats 4000000 in
set_option maxRecDepth 100000 in
theorem dnBlanks_c (A : Option Addr) (c : Nat) (d : List (List S39)) (n : Int) (w : World) (hd : kR.C w A d.length d) (hdc : d.length ≤ c) (hO : OkD d) (hE : Env w) :
    Calls Tryd.prog 6 #[.slice A d.length c, .int .i64 n] w (TrueP w) := by
  have cA := fun W (hW : Env W) => alive_c W hW
  by_cases h1 : 20 < d.length
  · have h1i : (20 : Int) < (d.length : Int) := by omega
    clear hd
    go_enter Tryd.func6, Tryd.ntmps6
    go_wp2_with fail
    refine (cA _ hE).mono ?_
    rintro e w1 ⟨rfl, hb⟩
    go_wp2
    go_ret
    exact ⟨rfl, hb⟩
  have h1i : ¬ (20 : Int) < (d.length : Int) := by omega
  have h1d : decide ((20 : Int) < (d.length : Int)) = false := decide_eq_false h1i
  by_cases h2 : n < 0
  · clear hd
    go_enter Tryd.func6, Tryd.ntmps6
    go_wp2_with fail
    refine (cA _ hE).mono ?_
    rintro e w1 ⟨rfl, hb⟩
    go_wp2
    go_ret
    exact ⟨rfl, hb⟩
  have h2d : decide (n < 0) = false := decide_eq_false h2
  by_cases h3 : 3 < n
  · clear hd
    go_enter Tryd.func6, Tryd.ntmps6
    go_wp2_with fail
    refine (cA _ hE).mono ?_
    rintro e w1 ⟨rfl, hb⟩
    go_wp2
    go_ret
    exact ⟨rfl, hb⟩
  have h3d : decide (3 < n) = false := decide_eq_false h3
  obtain ⟨m, rfl⟩ : ∃ m : Nat, n = (m : Int) := ⟨n.toNat, by omega⟩
  have hm3 : m ≤ 3 := by omega
  have hSd : Small d := small_of (by omega) hO.r
  have HD := Aside0.mk hd
  have cT := print_c A c d w hd hO.fine hE
  have HEE := Aside0.mk hE
  clear hd
  go_enter Tryd.func6, Tryd.ntmps6
  rcases print_any (dP d) with hq | ⟨t, hq, htz, hback⟩
  · rcases hq with hq | hq
    all_goals
      rw [hq] at cT
      clear hq
      go_wp2_with fail
      refine cT.mono ?_
      rintro e w1 ⟨rfl, hb1⟩
      clear cT
      go_wp2_with fail
      refine (cA _ (hE.below hb1)).mono ?_
      rintro e w2 ⟨rfl, hb2⟩
      go_wp2
      go_ret
      exact ⟨rfl, below_seq hb1 hb2⟩
  · have hfacts := print_facts hq
    obtain ⟨hwr, htl, htt⟩ := hfacts
    rw [hq] at cT
    clear hq hback
    obtain ⟨T, hT⟩ : ∃ T : ByteArray, T = ⟨t.toArray⟩ := ⟨_, rfl⟩
    have hTb : bl T = t := by rw [hT]; rfl
    have HTB : Aside0 (bl T = nameN 0 (dP d)) := ⟨hTb.trans htt⟩
    have hTz : T.size ≤ 65536 := by rw [← bl_size, hTb]; exact htz
    have cT' : Calls Tryd.prog 12 #[.slice A d.length c] w fun e w' => e = .returned (.tuple #[.string T, .int .i64 0]) ∧ Below w.heap.size w w' := by rw [hT]; exact cT
    clear cT hT hTb htt htz
    go_wp2_with fail
    refine cT'.mono ?_
    rintro e w1 ⟨rfl, hb1⟩
    clear cT'
    by_cases h4 : 60000 < T.size
    · have h4i : (60000 : Int) < (T.size : Int) := by omega
      go_wp2_with fail
      refine (cA _ (hE.below hb1)).mono ?_
      rintro e w2 ⟨rfl, hb2⟩
      go_wp2
      go_ret
      exact ⟨rfl, below_seq hb1 hb2⟩
    have h4i : ¬ (60000 : Int) < (T.size : Int) := by omega
    have h4d : decide ((60000 : Int) < (T.size : Int)) = false := decide_eq_false h4i
    have HB1 := Aside0.mk hb1
    obtain ⟨bs, hbs⟩ : ∃ b : ByteArray, b = ⟨(rep m).toArray⟩ := ⟨_, rfl⟩
    have hcut : ∀ W : World, (Instr.slice 9 (.string ⟨#[32, 32, 32]⟩) none (some (.int .i64 (m : Int))) none).run Tryd.prog W = .ok (.string bs) W := fun W => by rw [hbs]; exact cutb m hm3 W
    have hbb : bl bs = rep m := by rw [hbs]; rfl
    have hbz : bs.size ≤ 3 := by rw [← bl_size, hbb, rep_len]; exact hm3
    clear hbs hb1
    have HSH : Aside0 (∀ r ∈ d, r.length ≤ 4 ∧ ∀ x ∈ r, x.f0.size ≤ 64 ∧ x.f1.size ≤ 1024) := ⟨(pair_short hwr htl).2⟩
    have HSP : Aside0 (∀ r ∈ dP d, r.length ≤ 4 ∧ ∀ a ∈ r, a.1.length ≤ 64 ∧ a.2.length ≤ 1024) := ⟨fun r hr => by
      obtain ⟨q, hq, rfl⟩ := List.mem_map.1 hr
      refine ⟨by rw [rP_len]; exact (HSH.out q hq).1, fun a ha => ?_⟩
      obtain ⟨y, hy, rfl⟩ := List.mem_map.1 ha
      have := (HSH.out q hq).2 y hy
      exact ⟨by show (bl y.f0).length ≤ 64; rw [bl_size]; exact this.1, by show (bl y.f1).length ≤ 1024; rw [bl_size]; exact this.2⟩⟩
    have HTY : Aside0 (∀ r ∈ d, ∀ x ∈ r, isType (bl x.f0) = true) := ⟨fun r hr x hx => (wrong_no hwr (rP r) (List.mem_map.2 ⟨r, hr, rfl⟩)).2 (aP x) (List.mem_map.2 ⟨x, hx, rfl⟩)⟩
    have HPARSE : Aside0 (T.size ≤ 60000 → parseL (nameN m (dP d)) = (dP d, 0)) := ⟨fun hz => spaced_parse hm3 hwr htl (by rw [← HTB.out, bl_size]; exact hz)⟩
    have hd20 : d.length ≤ 20 := by omega
    have HLIM : Aside0 (∀ i, (nameN m ((dP d).take i)).length ≤ 300000) := ⟨fun i => nameN_lim hm3 (by rw [List.length_take, dP_len]; omega) (fun r hr => HSP.out r (List.mem_of_mem_take hr))⟩
    clear hwr htl
    go_wp2_with fail
    go_loopw [7, 9] (fun v7 v9 wr => BmRel d m w v7 v9 wr) (fun _ v9 _ => d.length - (RowKit.intOf v9).toNat)
    case atStart => exact ⟨0, _, rfl, rfl, Nat.zero_le _, by rw [List.take_zero]; rfl, HB1.out⟩
    case round =>
      obtain ⟨i, x, rfl, rfl, hi, hx, hb⟩ := hrel
      have HX := Aside0.mk hx
      have HB := Aside0.mk hb
      have hxz : x.size ≤ 300000 := by rw [← bl_size, hx]; exact HLIM.out i
      clear hx hb
      by_cases hlt : i < d.length
      · have hii : (i : Int) < (d.length : Int) := by omega
        obtain ⟨r, hr⟩ : ∃ r, d[i] = r := ⟨_, rfl⟩
        have hmem : r ∈ d := hr ▸ List.getElem_mem hlt
        have HRS := Aside0.mk (HSH.out r hmem)
        have HRT := Aside0.mk (HTY.out r hmem)
        have HPL : Aside0 (∀ k, (partN m ((rP r).take k)).length ≤ 14000) := ⟨fun k => partN_lim hm3 (by rw [List.length_take, rP_len]; have := HRS.out.1; omega) (fun a ha => (HSP.out (rP r) (List.mem_map.2 ⟨r, hmem, rfl⟩)).2 a (List.mem_of_mem_take ha))⟩
        have hr4 := HRS.out.1
        have HNX : Aside0 (nameN m ((dP d).take (i + 1)) = (nameN m ((dP d).take i) ++ sepN m 44 i) ++ partN m (rP r)) := ⟨by
          have := joinN_take m 44 (partN m) (l := dP d) (i := i) (by rw [dP_len]; exact hlt)
          rw [show (dP d)[i]'(by rw [dP_len]; exact hlt) = rP r from by rw [← hr]; exact List.getElem_map _] at this
          exact this⟩
        have HR := Aside0.mk hr
        clear hr hmem
        have HPRE : Aside0 ((nameN m ((dP d).take i) ++ sepN m 44 i).length ≤ 300010) := ⟨by rw [List.length_append]; have := HLIM.out i; have := sepN_lim hm3 44 i; omega⟩
        rcases Nat.eq_zero_or_pos i with hi0 | hi0
        · have hi0i : ¬ (0 : Int) < (i : Int) := by omega
          have HPR : Aside0 (bl x = (nameN m ((dP d).take i) ++ sepN m 44 i) ++ partN m ((rP r).take 0)) := ⟨by
            rw [List.take_zero]
            show bl x = (_ ++ _) ++ []
            rw [List.append_nil, HX.out, show sepN m 44 i = [] from by rw [hi0]; rfl, List.append_nil]⟩
          clear hi0
          go_wp2_with fail
          go_loopw [7, 10] (fun v7 v10 w' => BnRel r m (nameN m ((dP d).take i) ++ sepN m 44 i) w v7 v10 w') (fun _ v10 _ => r.length - (RowKit.intOf v10).toNat)
          case atStart => exact ⟨0, _, rfl, rfl, Nat.zero_le _, HPR.out, HB.out⟩
          case round =>
            obtain ⟨k, x2, rfl, rfl, hk, hx2, hb2⟩ := hrel
            obtain ⟨ad, B, cc, hAd, h0, h1, h2⟩ := at_rdn (Kd.C_below HD.out hb2) i hlt
            rw [HR.out] at h0 h1 h2
            have HX2 := Aside0.mk hx2
            have HB2 := Aside0.mk hb2
            have hx2z : x2.size ≤ 320000 := by rw [← bl_size, hx2, List.length_append]; have := HPRE.out; have := HPL.out k; omega
            clear hx2 hb2
            subst hAd
            by_cases hlt2 : k < r.length
            · have hkk : (k : Int) < (r.length : Int) := by omega
              obtain ⟨ad2, hB2, e0, e1⟩ := at_ava h2 k hlt2
              obtain ⟨a, ha⟩ : ∃ a, r[k] = a := ⟨_, rfl⟩
              rw [ha] at e0 e1
              subst hB2
              have hmem2 : a ∈ r := ha ▸ List.getElem_mem hlt2
              have hsz0 := (HRS.out.2 a hmem2).1
              have hsz1 := (HRS.out.2 a hmem2).2
              have hty := HRT.out a hmem2
              have HNX2 : Aside0 (partN m ((rP r).take (k + 1)) = partN m ((rP r).take k) ++ sepN m 43 k ++ pairN m (aP a)) := ⟨by
                have := joinN_take m 43 (pairN m) (l := rP r) (i := k) (by rw [rP_len]; exact hlt2)
                rw [show (rP r)[k]'(by rw [rP_len]; exact hlt2) = aP a from by rw [← ha]; exact List.getElem_map _] at this
                exact this⟩
              obtain ⟨one, cR, hob⟩ := one_c a wr (HEE.out.below HB2.out) hty hsz0 hsz1
              obtain ⟨wv, hwb, hwz, hoz, hex1, hex2⟩ := one_parts hob hsz1
              have HEX : Aside0 (bl (one.extract (a.f0.size + 1) (a.f0.size + 1 + wv.size)) = Dp.written (bl a.f1)) := ⟨by rw [← hoz, hex2]; exact hwb⟩
              clear hex2 hwb
              have hled : decide ((one.size : Int) ≤ (a.f0.size : Int)) = false := decide_eq_false (by omega)
              have hcz : (a.f0.size : Int) ≤ (one.size : Int) := by omega
              have hcz1 : (a.f0.size : Int) + 1 ≤ (one.size : Int) := by omega
              clear h2 ha hmem2 hty hob
              go_wp2_with fail
              refine cR.mono ?_
              rintro e w3 ⟨rfl, hb3⟩
              have hb03 : Below wr.heap.size wr w3 := below_seq (below_alloc (Below.refl _ _) _) hb3
              replace h0 := pw_cell_below hb03 h0
              replace e0 := pw_cell_below hb03 e0
              have HB3 := Aside0.mk (below_seq HB2.out hb03)
              clear cR hb3 hb03 e1
              have hwrap : IntKind.i64.wrap ((a.f0.size : Int) + 1) = (a.f0.size : Int) + 1 := IntWalk.i64_in _ (by omega)
              have hnn : (0 : Int) ≤ (a.f0.size : Int) + 1 := by omega
              have htn : ((a.f0.size : Int) + 1).toNat = a.f0.size + 1 := by omega
              rcases Nat.eq_zero_or_pos k with hk0 | hk0
              · have hk0i : ¬ (0 : Int) < (k : Int) := by omega
                have HSEP : Aside0 (sepN m 43 k = []) := ⟨by rw [hk0]; rfl⟩
                clear hk0
                go_wp2_with fail
                go_quiet (fail)
                clear hwrap hnn htn
                go_wp2
                refine ⟨⟨k + 1, _, rfl, by go_num, by omega, ?_, pw_below_drewN HB3.out _⟩, by simp [RowKit.intOf]; omega⟩
                rw [bl5, HX2.out, HNX2.out, HSEP.out, pairN_n, HEX.out, hbb, show bl (⟨#[61]⟩ : ByteArray) = [61] from rfl]
                simp [aP]
              · have hk0i : (0 : Int) < (k : Int) := by omega
                have HSEP : Aside0 (sepN m 43 k = rep m ++ 43 :: rep m) := ⟨if_pos hk0⟩
                go_wp2_with fail
                go_quiet (fail)
                clear hwrap hnn htn
                go_wp2
                refine ⟨⟨k + 1, _, rfl, by go_num, by omega, ?_, pw_below_drewN HB3.out _⟩, by simp [RowKit.intOf]; omega⟩
                rw [bl5, bl3, HX2.out, HNX2.out, HSEP.out, pairN_n, HEX.out, hbb, show bl (⟨#[61]⟩ : ByteArray) = [61] from rfl, show bl (⟨#[43]⟩ : ByteArray) = [43] from rfl]
                simp [aP]
            · have hkk : ¬ (k : Int) < (r.length : Int) := by omega
              have ht2 : (rP r).take k = rP r := by
                have : k = (rP r).length := by rw [rP_len]; omega
                rw [this, List.take_length]
              have HF : Aside0 (bl x2 = nameN m ((dP d).take (i + 1))) := ⟨by rw [HNX.out, HX2.out, ht2]⟩
              clear ht2 h2
              go_wp2
              exact ⟨⟨i + 1, x2, rfl, by go_num, by omega, HF.out, HB2.out⟩, by simp [RowKit.intOf]; omega⟩
        · have hi0i : (0 : Int) < (i : Int) := by omega
          have HPR : Aside0 (bl (x ++ (bs ++ (⟨#[44]⟩ : ByteArray) ++ bs)) = (nameN m ((dP d).take i) ++ sepN m 44 i) ++ partN m ((rP r).take 0)) := ⟨by
            rw [List.take_zero]
            show bl (x ++ (bs ++ (⟨#[44]⟩ : ByteArray) ++ bs)) = (_ ++ _) ++ []
            rw [List.append_nil, bl3, HX.out, hbb, show sepN m 44 i = rep m ++ 44 :: rep m from if_pos hi0, show bl (⟨#[44]⟩ : ByteArray) = [44] from rfl]
            simp⟩
          go_wp2_with fail
          go_loopw [7, 10] (fun v7 v10 w' => BnRel r m (nameN m ((dP d).take i) ++ sepN m 44 i) w v7 v10 w') (fun _ v10 _ => r.length - (RowKit.intOf v10).toNat)
          case atStart => exact ⟨0, _, rfl, rfl, Nat.zero_le _, HPR.out, HB.out⟩
          case round =>
            obtain ⟨k, x2, rfl, rfl, hk, hx2, hb2⟩ := hrel
            obtain ⟨ad, B, cc, hAd, h0, h1, h2⟩ := at_rdn (Kd.C_below HD.out hb2) i hlt
            rw [HR.out] at h0 h1 h2
            have HX2 := Aside0.mk hx2
            have HB2 := Aside0.mk hb2
            have hx2z : x2.size ≤ 320000 := by rw [← bl_size, hx2, List.length_append]; have := HPRE.out; have := HPL.out k; omega
            clear hx2 hb2
            subst hAd
            by_cases hlt2 : k < r.length
            · have hkk : (k : Int) < (r.length : Int) := by omega
              obtain ⟨ad2, hB2, e0, e1⟩ := at_ava h2 k hlt2
              obtain ⟨a, ha⟩ : ∃ a, r[k] = a := ⟨_, rfl⟩
              rw [ha] at e0 e1
              subst hB2
              have hmem2 : a ∈ r := ha ▸ List.getElem_mem hlt2
              have hsz0 := (HRS.out.2 a hmem2).1
              have hsz1 := (HRS.out.2 a hmem2).2
              have hty := HRT.out a hmem2
              have HNX2 : Aside0 (partN m ((rP r).take (k + 1)) = partN m ((rP r).take k) ++ sepN m 43 k ++ pairN m (aP a)) := ⟨by
                have := joinN_take m 43 (pairN m) (l := rP r) (i := k) (by rw [rP_len]; exact hlt2)
                rw [show (rP r)[k]'(by rw [rP_len]; exact hlt2) = aP a from by rw [← ha]; exact List.getElem_map _] at this
                exact this⟩
              obtain ⟨one, cR, hob⟩ := one_c a wr (HEE.out.below HB2.out) hty hsz0 hsz1
              obtain ⟨wv, hwb, hwz, hoz, hex1, hex2⟩ := one_parts hob hsz1
              have HEX : Aside0 (bl (one.extract (a.f0.size + 1) (a.f0.size + 1 + wv.size)) = Dp.written (bl a.f1)) := ⟨by rw [← hoz, hex2]; exact hwb⟩
              clear hex2 hwb
              have hled : decide ((one.size : Int) ≤ (a.f0.size : Int)) = false := decide_eq_false (by omega)
              have hcz : (a.f0.size : Int) ≤ (one.size : Int) := by omega
              have hcz1 : (a.f0.size : Int) + 1 ≤ (one.size : Int) := by omega
              clear h2 ha hmem2 hty hob
              go_wp2_with fail
              refine cR.mono ?_
              rintro e w3 ⟨rfl, hb3⟩
              have hb03 : Below wr.heap.size wr w3 := below_seq (below_alloc (Below.refl _ _) _) hb3
              replace h0 := pw_cell_below hb03 h0
              replace e0 := pw_cell_below hb03 e0
              have HB3 := Aside0.mk (below_seq HB2.out hb03)
              clear cR hb3 hb03 e1
              have hwrap : IntKind.i64.wrap ((a.f0.size : Int) + 1) = (a.f0.size : Int) + 1 := IntWalk.i64_in _ (by omega)
              have hnn : (0 : Int) ≤ (a.f0.size : Int) + 1 := by omega
              have htn : ((a.f0.size : Int) + 1).toNat = a.f0.size + 1 := by omega
              rcases Nat.eq_zero_or_pos k with hk0 | hk0
              · have hk0i : ¬ (0 : Int) < (k : Int) := by omega
                have HSEP : Aside0 (sepN m 43 k = []) := ⟨by rw [hk0]; rfl⟩
                clear hk0
                go_wp2_with fail
                go_quiet (fail)
                clear hwrap hnn htn
                go_wp2
                refine ⟨⟨k + 1, _, rfl, by go_num, by omega, ?_, pw_below_drewN HB3.out _⟩, by simp [RowKit.intOf]; omega⟩
                rw [bl5, HX2.out, HNX2.out, HSEP.out, pairN_n, HEX.out, hbb, show bl (⟨#[61]⟩ : ByteArray) = [61] from rfl]
                simp [aP]
              · have hk0i : (0 : Int) < (k : Int) := by omega
                have HSEP : Aside0 (sepN m 43 k = rep m ++ 43 :: rep m) := ⟨if_pos hk0⟩
                go_wp2_with fail
                go_quiet (fail)
                clear hwrap hnn htn
                go_wp2
                refine ⟨⟨k + 1, _, rfl, by go_num, by omega, ?_, pw_below_drewN HB3.out _⟩, by simp [RowKit.intOf]; omega⟩
                rw [bl5, bl3, HX2.out, HNX2.out, HSEP.out, pairN_n, HEX.out, hbb, show bl (⟨#[61]⟩ : ByteArray) = [61] from rfl, show bl (⟨#[43]⟩ : ByteArray) = [43] from rfl]
                simp [aP]
            · have hkk : ¬ (k : Int) < (r.length : Int) := by omega
              have ht2 : (rP r).take k = rP r := by
                have : k = (rP r).length := by rw [rP_len]; omega
                rw [this, List.take_length]
              have HF : Aside0 (bl x2 = nameN m ((dP d).take (i + 1))) := ⟨by rw [HNX.out, HX2.out, ht2]⟩
              clear ht2 h2
              go_wp2
              exact ⟨⟨i + 1, x2, rfl, by go_num, by omega, HF.out, HB2.out⟩, by simp [RowKit.intOf]; omega⟩
      · have hki : ¬ (i : Int) < (d.length : Int) := by omega
        have hke : i = d.length := by omega
        have ht : (dP d).take i = dP d := by rw [hke, ← dP_len d, List.take_length]
        rw [ht] at HX
        clear hke ht
        have cP := parse_c x wr (HEE.out.below HB.out) (by omega)
        rw [HX.out, HPARSE.out (by omega)] at cP
        go_wp2_with fail
        refine cP.mono ?_
        rintro e w2 ⟨v, rfl, hR2, hb2⟩
        dsimp only at hR2
        rw [sR_dP] at hR2
        obtain ⟨A2, c2, rfl, hl2, hC2⟩ := Kd.R_reads hR2
        have hb02 := below_seq HB.out hb2
        clear cP hR2
        go_wp2_with fail
        refine (cA _ (HEE.out.below hb02)).mono ?_
        rintro e w3 ⟨rfl, hb3⟩
        have hb03 := below_seq hb02 hb3
        have cS := same_yes (Kd.C_below hC2 hb3) hl2 (Kd.C_below HD.out hb03) hdc hSd
        clear hC2
        go_wp2_with fail
        refine cS.mono ?_
        rintro e w4 ⟨rfl, hb4⟩
        have hne : T.size < (x ++ (⟨#[120]⟩ : ByteArray)).size := by
          rw [← bl_size, ← bl_size, bl_cat, HX.out, HTB.out, List.length_append]
          have := nameN_le m (dP d)
          show _ < _ + 1
          omega
        have hq2 : (T.toList == (x ++ (⟨#[120]⟩ : ByteArray)).toList) = false := beq_eq_false_iff_ne.2 (fun h => by
          rw [Lib.toList_data, Lib.toList_data] at h
          have h5 : (bl T).length = (bl (x ++ (⟨#[120]⟩ : ByteArray))).length := congrArg List.length h
          rw [bl_size, bl_size] at h5
          omega)
        clear hne
        go_wp2
        go_ret
        exact ⟨rfl, below_seq hb03 hb4⟩
end Go.Proofs.YtneclgjjnnldpaaDoor.Rd
