/- The walk of the reference's name: the whole text's parts, or none, as the plain function says. Conditions: a text of at most 10^6 bytes. -/
import Derived.Test.YtneclgjjnnldpaaDoorKq
namespace Go.Proofs.YtneclgjjnnldpaaDoor.Rd
open Go Go.RowKit Go.Lib Go.Proofs.YtneclgjjnnldpaaDoor.PFn Go.Proofs.YtneclgjjnnldpaaDoor.Dp Go.Proofs.YtneclgjjnnldpaaDoorW.PrintWords Go.Proofs.YtneclgjjnnldpaaDoor.Rk

/-- what is left to read behind a pair -/
def TK (out : List (List Ava)) (part : List Ava) (m : Bs) : Option (List (List Ava)) := (partF part m).bind fun y => (nameF (out ++ [y.1]) y.2).bind fun z => if z.2 = [] then some z.1 else none
/-- what is left to read ahead of a pair -/
def HK (out : List (List Ava)) (part : List Ava) (m : Bs) : Option (List (List Ava)) := (pairL m).bind fun x => TK out (part ++ [x.1]) x.2
theorem TK_nil (out : List (List Ava)) (part : List Ava) : TK out part [] = some (out ++ [part]) := rfl
theorem TK_plus (out : List (List Ava)) (part : List Ava) (r : Bs) : TK out part (43 :: r) = HK out part r := by
  unfold TK HK
  rw [partF_cons, if_pos rfl]
  cases pairL r <;> rfl
theorem TK_comma (out : List (List Ava)) (part : List Ava) (r : Bs) : TK out part (44 :: r) = HK (out ++ [part]) [] r := by
  unfold TK HK
  rw [partF_cons, if_neg (by decide)]
  show (nameF (out ++ [part]) (44 :: r)).bind _ = _
  rw [nameF_cons, if_pos rfl]
  unfold partL
  cases pairL r with
  | none => rfl
  | some x =>
    show (match partF [x.1] x.2 with
      | none => none
      | some (a, r') => nameF (out ++ [part] ++ [a]) r').bind _ = (partF [x.1] x.2).bind _
    cases partF [x.1] x.2 <;> rfl
theorem TK_other (out : List (List Ava)) (part : List Ava) {c : UInt8} {r : Bs} (h1 : c ≠ 43) (h2 : c ≠ 44) : TK out part (c :: r) = none := by
  unfold TK
  rw [partF_cons, if_neg h1]
  show (nameF (out ++ [part]) (c :: r)).bind _ = none
  rw [nameF_cons, if_neg h2]
  rfl
theorem nameL_HK {l : Bs} (h : l ≠ []) : nameL l = HK [] [] l := by
  unfold nameL HK TK
  rw [if_neg h]
  unfold partL
  cases pairL l <;> rfl
def NamD (w : World) (r : Option (List (List Ava))) (e : Ending) (w' : World) : Prop :=
  ∃ v, e = .returned (.tuple #[v, .bool r.isSome]) ∧ kR.R 25 w' w.heap.size (fun k => w.heap.size ≤ k) v ((r.getD []).map sR) ∧ Below w.heap.size w w'
theorem NamD.no {w w' : World} (h : Below w.heap.size w w') : NamD w none (.returned (.tuple #[.slice none 0 0, .bool false])) w' := ⟨_, rfl, Kd.R_nil _ _ _ _ _, h⟩
def NdRel (w W1 : World) (g : Nat) (s : ByteArray) (ans : Option (List (List Ava))) (v5 v6 : Value) (wr : World) : Prop :=
  ∃ (out : List (List Ava)) (part : List Ava) (j : Nat) (m : Bs), kR.R 25 wr W1.heap.size (fun k => W1.heap.size ≤ k ∧ some k ≠ v6.ownBlock) v5 (out.map sR) ∧ kA.R 39 wr W1.heap.size (fun k => W1.heap.size ≤ k) v6 (part.map sA) ∧
    out.length ≤ j ∧ part.length ≤ j ∧ Sd w W1 wr g s j ∧ Lr s j m ∧ HK out part m = ans
theorem pairR_cases {w0 w w' : World} {g : Nat} {s : ByteArray} {e : Ending} {l : Bs} (h : PairR w0 w g s (pairL l) e w') (out : List (List Ava)) (part : List Ava) : ∃ (a : Ava) (b : Bool) (j : Nat) (m : Bs), e = .returned (.tuple #[avaV a, .bool b]) ∧ Sd w0 w w' g s j ∧ Lr s j m ∧
    ((b = false ∧ HK out part l = none) ∨ (b = true ∧ TK out (part ++ [a]) m = HK out part l ∧ ((∃ r, m = 43 :: r ∨ m = 44 :: r) → m.length < l.length))) := by
  obtain ⟨a, b, j, m, he, hs, hl, hr⟩ := h
  refine ⟨a, b, j, m, he, hs, hl, ?_⟩
  cases hp : pairL l with
  | none =>
    rw [hp] at hr
    have hk : HK out part l = none := by unfold HK; rw [hp]; rfl
    cases b with
    | false => exact .inl ⟨rfl, hk⟩
    | true =>
      obtain ⟨c, r, rfl, h43, h44⟩ := hr rfl
      refine .inr ⟨rfl, by rw [hk, TK_other _ _ h43 h44], ?_⟩
      rintro ⟨q, h | h⟩
      · injection h with h _; exact absurd h h43
      · injection h with h _; exact absurd h h44
  | some x =>
    rw [hp] at hr
    obtain ⟨rfl, rfl, rfl⟩ := hr
    exact .inr ⟨rfl, by unfold HK; rw [hp]; rfl, fun _ => pairL_len (show pairL l = some (x.1, x.2) from hp)⟩
theorem ava_flat {w : World} {base : Nat} {ok1 ok2 : Nat → Prop} {x : S39} {cs : List Value} (h : kA.M w base ok1 x cs) : kA.M w base ok2 x cs := by
  obtain rfl := k39_openM h
  exact k39_mkM _ _ _ _
set_option maxHeartbeats 4000000 in
set_option maxRecDepth 100000 in
theorem nameD_c (s : ByteArray) (w : World) (hs : s.size ≤ 1000000) : Calls Tryd.prog 29 #[.string s] w (NamD w (nameL (bl s))) := by
  cases hb : bl s with
  | nil =>
    have hemp := empty_of hb
    rw [show nameL [] = some [] from rfl]
    clear hb
    go_enter Tryd.func29, Tryd.ntmps29
    go_wp2
    refine bodyPost_ret (v := .tuple #[.slice none 0 0, .bool true]) (by simp [results, Tryd.results29, go_sem]) rfl ?_
    exact ⟨_, rfl, Kd.R_nil _ _ _ _ _, below_alloc (Below.refl _ _) _⟩
  | cons c0 r0 =>
    have hemp := nonempty_of hb
    have hl : Lr s 0 (bl s) := ⟨List.drop_zero, Nat.zero_le _⟩
    rw [hb] at hl
    rw [nameL_HK (by simp)]
    obtain ⟨L, hL⟩ : ∃ L, c0 :: r0 = L := ⟨_, rfl⟩
    rw [hL] at hl ⊢
    clear hb hL
    obtain ⟨ANS, hA⟩ : ∃ b, HK [] [] L = b := ⟨_, rfl⟩
    rw [hA]
    have HA := Aside0.mk hA
    clear hA
    go_enter Tryd.func29, Tryd.ntmps29
    go_wp2_with fail
    have kg := IsS78.new w w s 0 (Below.refl _ _)
    have hst : Sd w (w.alloc (.cells #[.string s, .int .i64 0] 78)) (w.alloc (.cells #[.string s, .int .i64 0] 78)) w.heap.size s 0 := ⟨kg, below_alloc (Below.refl _ _) _, KeepBut.refl _ _ _⟩
    have hsz1 : (w.alloc (.cells #[.string s, .int .i64 0] 78)).heap.size = w.heap.size + 1 := World.size_alloc _ _
    clear kg
    obtain ⟨g, hg⟩ : ∃ g, w.heap.size = g := ⟨_, rfl⟩
    rw [hg] at hst hsz1 ⊢
    have hgle : w.heap.size ≤ g := by omega
    have HG := Aside0.mk hg
    clear hg
    generalize w.alloc (.cells #[.string s, .int .i64 0] 78) = W1 at *
    have hg1 : g < W1.heap.size := by omega
    have HSZ := Aside0.mk hsz1
    clear hsz1
    go_wp2_with fail
    go_loopw [5, 6] (fun v5 v6 wr => NdRel w W1 g s ANS v5 v6 wr) (fun _ _ wr => md s g wr)
    case atStart => exact ⟨[], [], 0, L, Kd.R_nil _ _ _ _ _, Kd.R_nil _ _ _ _ _, Nat.le_refl _, Nat.le_refl _, hst, hl, HA.out⟩
    case round =>
      clear hst hl HA
      obtain ⟨out, part, j, m, hO, hP, hol, hpl, hst, hm, hans⟩ := hrel
      have HO := Aside0.mk hO
      have HP := Aside0.mk hP
      have HMD := Aside0.mk (md_eq hst.bk)
      have hjs := hm.2
      have hml := hm.len
      clear hO hP
      have cP := pairD_c hst.self hm hs
      clear hm
      go_wp2_with fail
      refine cP.mono ?_
      intro e w2 hq
      obtain ⟨a, b, j2, m2, rfl, hst2, hl2, hca⟩ := pairR_cases hq out part
      rw [hans] at hca
      unfold avaV
      clear hq cP hans
      have hsd2 := hst.trans hst2
      have HO2 : Aside0 (kR.R 25 w2 W1.heap.size (fun k => W1.heap.size ≤ k ∧ some k ≠ u6.ownBlock) u5 (out.map sR)) := ⟨Kd.R_keep HO.out hst2.2.2 (fun k hk => by omega)⟩
      have HP2 : Aside0 (kA.R 39 w2 W1.heap.size (fun k => W1.heap.size ≤ k) u6 (part.map sA)) := ⟨Kd.R_keep HP.out hst2.2.2 (fun k hk => by omega)⟩
      clear HO HP hst hst2
      rcases hca with ⟨rfl, hans⟩ | ⟨rfl, hans, hdec⟩
      · subst hans
        go_wp2
        refine bodyPost_ret (v := .tuple #[.slice none 0 0, .bool false]) (by simp [results, Tryd.results29, go_sem]) rfl ?_
        exact NamD.no (below_alloc hsd2.2.1 _)
      · have HANS := Aside0.mk hans
        have HDEC := Aside0.mk hdec
        clear hans hdec
        go_upto_region 9 with fail
        have hX : Ab (w2.alloc (Obj.cells #[Value.string { data := a.1.toArray }, Value.string { data := a.2.toArray }] 39)) w2.heap.size ⟨a.1.toArray⟩ ⟨a.2.toArray⟩ := blk_new w2 _
        have hsd3 := hsd2.below (below_alloc (Below.refl _ w2) (Obj.cells #[Value.string { data := a.1.toArray }, Value.string { data := a.2.toArray }] 39))
        have HO3 : Aside0 _ := ⟨Kd.R_alloc HO2.out (Obj.cells #[Value.string { data := a.1.toArray }, Value.string { data := a.2.toArray }] 39)⟩
        have HP3 : Aside0 _ := ⟨Kd.R_alloc HP2.out (Obj.cells #[Value.string { data := a.1.toArray }, Value.string { data := a.2.toArray }] 39)⟩
        obtain ⟨X, hXX⟩ : ∃ X, w2.heap.size = X := ⟨_, rfl⟩
        rw [hXX] at hX ⊢
        clear hXX hsd2 HO2 HP2
        generalize w2.alloc (Obj.cells #[Value.string { data := a.1.toArray }, Value.string { data := a.2.toArray }] 39) = w3 at *
        have e0 := hX.c0
        have e1 := hX.c1
        have hsz3 := hsd3.2.2.1
        go_wp2_with (at_builtin; refine Kd.R_append kA W1.heap.size rfl _ _ 25 39 (.agg #[.string ByteArray.empty, .string ByteArray.empty]) 32 rfl Tryd.underlying25 ava_info rfl (by decide) (by decide) u6 (part.map sA) (sA a) [.string ⟨a.1.toArray⟩, .string ⟨a.2.toArray⟩] (fun k => W1.heap.size ≤ k) (fun _ => False) rfl rfl (sA_mk _ _ _ _) (fun _ hk => hk.elim) (fun k hk => Nat.le_trans hsz3 hk) HP3.out (Below.refl _ _) hsz3 (by simp; omega) ?_; intro v6 w6 HP6 _ hg6 hat6)
        have hO6 := Kd.R_after HO3.out hg6 hat6
        have hsd6 := hsd3.grown hg1 (Nat.le_trans hgle (Nat.le_of_lt hg1)) hg6 (fun k hk => HP3.out.1 k hk)
        rw [map_snoc] at HP6
        obtain ⟨part2, hpart2⟩ : ∃ p, part ++ [a] = p := ⟨_, rfl⟩
        have hpz : part2.length = part.length + 1 := by rw [← hpart2]; simp
        rw [hpart2] at HP6 HANS
        obtain ⟨A6, c6, rfl⟩ := Kd.R_slice HP6
        have HO6 := Aside0.mk hO6
        have HP6' := Aside0.mk HP6
        generalize (part2.map sA).length = n6 at *
        clear hg6 hat6 HP6 hO6 HO3 HP3 hX e0 e1 hsd3 hpart2
        have hj2 := hl2.2
        by_cases hplus : ∃ r, m2 = 43 :: r
        · obtain ⟨r, rfl⟩ := hplus
          have cQ := isD_lit hsd6.self hl2 43 43 rfl (b := true) rfl
          have hlt := HDEC.out ⟨r, .inl rfl⟩
          have hml2 := hl2.len
          rw [List.length_cons] at hml2 hlt
          refine cQ.mono ?_
          rintro e w7 ⟨rfl, hst7⟩
          have hsd7 := hsd6.trans hst7
          have HO7 : Aside0 _ := ⟨Kd.R_keep HO6.out hst7.2.2 (fun k hk => by omega)⟩
          have HP7 : Aside0 _ := ⟨Kd.R_keep HP6'.out hst7.2.2 (fun k hk => by omega)⟩
          have c1 := hsd7.c1
          have fz := hsd7.fz
          clear hst7 hsd6 HO6 HP6' cQ
          go_wp2_with fail
          have hsd8 := hsd7.set (j2 + 1)
          have HO8 := Kd.R_far HO7.out (p := ⟨g, 1, none⟩) (fun k hk => by show k ≠ g; omega) (.int .i64 ((j2 + 1 : Nat) : Int))
          have HP8 := Kd.R_far HP7.out (p := ⟨g, 1, none⟩) (fun k hk => by show k ≠ g; omega) (.int .i64 ((j2 + 1 : Nat) : Int))
          have hl8 := hl2.next
          exact ⟨⟨out, part2, j2 + 1, r, HO8, HP8, by omega, by omega, hsd8, hl8, by rw [← HANS.out, TK_plus]⟩, by rw [HMD.out, show (j2 : Int) + 1 = ((j2 + 1 : Nat) : Int) from rfl, md_eq hsd8.bk]; omega⟩
        · have cQ := isD_lit hsd6.self hl2 43 43 rfl (head_no hplus)
          refine cQ.mono ?_
          rintro e w7 ⟨rfl, hst7⟩
          have hsd7 := hsd6.trans hst7
          have hO7 := Kd.R_keep HO6.out hst7.2.2 (fun k hk => by omega)
          have hP7 := Kd.R_keep HP6'.out hst7.2.2 (fun k hk => by omega)
          have HP7 : Aside0 (kR.M w7 W1.heap.size (fun k => W1.heap.size ≤ k ∧ some k ≠ u5.ownBlock) (sR part2) [.slice A6 n6 c6]) := ⟨Kd.M_row (Kd.R_flat ava_flat hP7 (fun k hk hok => ⟨hok, fun e => (hO7.1 k e.symm).2 hk.symm⟩))⟩
          have HO7 : Aside0 (kR.R 25 w7 W1.heap.size (fun k => W1.heap.size ≤ k) u5 (out.map sR)) := ⟨Kd.R_drop hO7⟩
          have hsz7 := hsd7.2.2.1
          clear hst7 hsd6 HO6 HP6' cQ hO7 hP7
          go_wp2_with (at_builtin; refine Kd.R_append kR W1.heap.size rfl _ _ 23 25 (.slice none 0 0) 24 rfl Tryd.underlying23 rdn_info rfl (by decide) (by decide) u5 (out.map sR) (sR part2) [.slice A6 n6 c6] (fun k => W1.heap.size ≤ k) (fun k => W1.heap.size ≤ k ∧ some k ≠ u5.ownBlock) rfl rfl HP7.out (fun k hk => hk) (fun k hk => Nat.le_trans hsz7 hk) HO7.out (Below.refl _ _) hsz7 (by simp; omega) ?_; intro v5 w8 HO8 _ hg8 _)
          have hsd8 := hsd7.grown hg1 (Nat.le_trans hgle (Nat.le_of_lt hg1)) hg8 (fun k hk => HO7.out.1 k hk)
          rw [show out.map sR ++ [sR part2] = (out ++ [part2]).map sR from by simp] at HO8
          have HO8' := Aside0.mk HO8
          have c0 := hsd8.c0
          have c1 := hsd8.c1
          clear hg8 HO8 HO7 HP7 hsd7
          cases m2 with
          | nil =>
            have hend := hl2.nil
            have hbe : ((j2 : Int) == (s.size : Int)) = true := by rw [hend]; simp
            have hans : ANS = some (out ++ [part2]) := by rw [← HANS.out, TK_nil]
            subst hans
            clear HANS HDEC hplus
            go_wp2_with fail
            go_quiet (fail)
            clear hend
            go_wp2
            refine bodyPost_ret (v := .tuple #[v5, .bool true]) (by simp [results, Tryd.results29, go_sem]) rfl ?_
            exact ⟨_, rfl, Kd.R_mono (Kd.R_lower (Kd.R_drewN HO8'.out _) (Nat.le_trans hgle (Nat.le_of_lt hg1))) (fun k hk => Nat.le_trans (Nat.le_trans hgle (Nat.le_of_lt hg1)) hk), (hsd8.drewN nq).2.1⟩
          | cons c r =>
            have hlt2 := hl2.lt
            have hbe : ((j2 : Int) == (s.size : Int)) = false := beq_false_of_ne (by omega)
            have hne : ¬ (j2 : Int) = (s.size : Int) := by omega
            by_cases h44 : c = 44
            · subst h44
              have hans : HK (out ++ [part2]) [] r = ANS := by rw [← HANS.out, TK_comma]
              have HANS2 := Aside0.mk hans
              have hlt := HDEC.out ⟨r, .inr rfl⟩
              have hml2 := hl2.len
              rw [List.length_cons] at hml2 hlt
              have hl8 := hl2.next
              clear hans HANS HDEC hplus
              go_wp2_with fail
              go_quiet (fail)
              have hsd9 := hsd8.drewN nq
              have HO9 := Kd.R_drewN HO8'.out nq
              clear hsd8 HO8' c0 c1
              generalize w8.drewN nq = w9 at *
              have cQ := isD_lit hsd9.self hl2 44 44 rfl (b := true) rfl
              have HO9' := Aside0.mk HO9
              clear HO9
              go_wp2_with fail
              refine cQ.mono ?_
              rintro e wA ⟨rfl, hstA⟩
              have hsdA := hsd9.trans hstA
              have HOA : Aside0 _ := ⟨Kd.R_keep HO9'.out hstA.2.2 (fun k hk => by omega)⟩
              have c1 := hsdA.c1
              have fz := hsdA.fz
              clear hstA hsd9 HO9' cQ
              go_wp2_with fail
              have hsdB := hsdA.set (j2 + 1)
              have HOB := Kd.R_far HOA.out (p := ⟨g, 1, none⟩) (fun k hk => by show k ≠ g; omega) (.int .i64 ((j2 + 1 : Nat) : Int))
              exact ⟨⟨out ++ [part2], [], j2 + 1, r, Kd.R_apart_nil HOB, Kd.R_nil _ _ _ _ _, by simp; omega, by simp, hsdB, hl8, HANS2.out⟩, by rw [HMD.out, show (j2 : Int) + 1 = ((j2 + 1 : Nat) : Int) from rfl, md_eq hsdB.bk]; omega⟩
            · have hans : ANS = none := by rw [← HANS.out, TK_other _ _ (fun e => hplus ⟨r, by rw [e]⟩) h44]
              subst hans
              have hno := head_no (m := c :: r) (c := 44) (by rintro ⟨q, h⟩; injection h with h _; exact h44 h)
              clear HANS HDEC hplus
              go_wp2_with fail
              go_quiet (fail)
              have hsd9 := hsd8.drewN nq
              clear hsd8 HO8' c0 c1
              generalize w8.drewN nq = w9 at *
              have cQ := isD_lit hsd9.self hl2 44 44 rfl hno
              clear hno
              go_wp2_with fail
              refine cQ.mono ?_
              rintro e wA ⟨rfl, hstA⟩
              have hsdA := hsd9.trans hstA
              go_wp2
              refine bodyPost_ret (v := .tuple #[.slice none 0 0, .bool false]) (by simp [results, Tryd.results29, go_sem]) rfl ?_
              exact NamD.no hsdA.2.1
end Go.Proofs.YtneclgjjnnldpaaDoor.Rd
