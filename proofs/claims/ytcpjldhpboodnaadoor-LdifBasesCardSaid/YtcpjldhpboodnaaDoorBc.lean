/- A change record's text is read back as the record; a text is read as the record whose text it is, or as none. In plain Lean, no program. Conditions: none. -/
import Derived.Test.YtcpjldhpboodnaaDoorBb
namespace Go.Proofs.YtcpjldhpboodnaaDoor.Lf
open Go
open Go.Proofs.YtcpjldhpboodnaaDoor.Dp (isType)

theorem type_ok {t : Bs} (h : isType t = true) : nameOk t ∧ t ≠ [] ∧ t ≠ [45] := by
  refine ⟨fun c hc => ?_, Dp.isType_ne h, fun e => ?_⟩
  · have := Dp.isType_in h c hc
    constructor
    · rintro rfl; exact absurd this (by decide)
    · rintro rfl; exact absurd this (by decide)
  · rw [e] at h
    exact absurd h (by decide)
theorem bits_of_mod : nameOk wTime ∧ nameOk wWho ∧ nameOk wDn ∧ nameOk wKind ∧ nameOk wRdn ∧ nameOk wDel ∧ nameOk wSup ∧ nameOk wAdd ∧ nameOk wDelete ∧ nameOk wReplace := by
  unfold nameOk wTime wWho wDn wKind wRdn wDel wSup wAdd wDelete wReplace
  decide
theorem opW_ok (k : Int) : nameOk (opW k) := by
  unfold opW
  have h := bits_of_mod
  split
  · exact h.2.2.2.2.2.2.2.1
  · split
    · exact h.2.2.2.2.2.2.2.2.1
    · exact h.2.2.2.2.2.2.2.2.2
theorem opOf_opW {k : Int} (h0 : 0 ≤ k) (h2 : k ≤ 2) : opOf (opW k) = some k := by
  have : k = 0 ∨ k = 1 ∨ k = 2 := by omega
  rcases this with rfl | rfl | rfl <;> decide
theorem kindOf_kindW {k : Int} (h0 : 0 ≤ k) (h3 : k ≤ 3) : kindOf (kindW k) = k := by
  have : k = 0 ∨ k = 1 ∨ k = 2 ∨ k = 3 := by omega
  rcases this with rfl | rfl | rfl | rfl <;> decide
/-! ### attributes -/
def attrP (l : List (Bs × List Bs)) : List (Bs × Bs) := l.flatMap fun a => a.2.map fun v => (a.1, v)
theorem attrsOk_mem : ∀ {l : List (Bs × List Bs)}, attrsOk l = true → ∀ a ∈ l, isType a.1 = true ∧ a.2 ≠ []
  | [], _, _, h => by cases h
  | [a], h, x, hx => by
    rw [List.mem_singleton.1 hx]
    unfold attrsOk at h
    simp only [Bool.and_eq_true, Bool.not_eq_true', List.isEmpty_eq_false_iff] at h
    exact h
  | a :: b :: r, h, x, hx => by
    unfold attrsOk at h
    simp only [Bool.and_eq_true, Bool.not_eq_true', List.isEmpty_eq_false_iff] at h
    rcases List.mem_cons.1 hx with rfl | hx
    · exact h.1.1
    · exact attrsOk_mem h.2 x hx
theorem pairs_attrs (r : Bs) : ∀ l : List (Bs × List Bs), (∀ a ∈ l, isType a.1 = true) → pairsOf (attrT l ++ r) = attrP l ++ pairsOf r
  | [], _ => rfl
  | a :: l, h => by
    have ih := pairs_attrs r l (fun x hx => h x (List.mem_cons_of_mem _ hx))
    show pairsOf ((a.2.flatMap (lineL a.1) ++ attrT l) ++ r) = (a.2.map (fun v => (a.1, v)) ++ attrP l) ++ pairsOf r
    rw [List.append_assoc, pairs_vals (type_ok (h a List.mem_cons_self)).1, ih, List.append_assoc]
theorem addV_new {acc : List (Bs × List Bs)} {n v : Bs} (h : ∀ a, acc.getLast? = some a → a.1 ≠ n) : addV acc n v = acc ++ [(n, [v])] := by
  unfold addV
  cases hl : acc.getLast? with
  | none => rfl
  | some a => exact if_neg (h a hl)
theorem addV_more (acc : List (Bs × List Bs)) (n v : Bs) (vs : List Bs) : addV (acc ++ [(n, vs)]) n v = acc ++ [(n, vs ++ [v])] := by
  unfold addV
  rw [List.getLast?_concat]
  dsimp only
  rw [if_pos rfl, List.dropLast_concat]
theorem addGo_vals {n : Bs} (hn : n ≠ []) (acc : List (Bs × List Bs)) (r : List (Bs × Bs)) : ∀ (vs us : List Bs), addGo (vs.map (fun v => (n, v)) ++ r) (acc ++ [(n, us)]) = addGo r (acc ++ [(n, us ++ vs)])
  | [], us => by simp
  | v :: vs, us => by
    rw [List.map_cons, List.cons_append]
    show (if n = [] then _ else addGo (vs.map (fun v => (n, v)) ++ r) (addV (acc ++ [(n, us)]) n v)) = _
    rw [if_neg hn, addV_more, addGo_vals hn acc r vs (us ++ [v]), List.append_assoc]
    rfl
theorem addGo_attrs (r : List (Bs × Bs)) : ∀ (l acc : List (Bs × List Bs)), attrsOk l = true → (∀ a b, acc.getLast? = some a → l.head? = some b → a.1 ≠ b.1) → addGo (attrP l ++ r) acc = addGo r (acc ++ l)
  | [], acc, _, _ => by simp [attrP]
  | a :: l, acc, h, hne => by
    obtain ⟨ht, hv⟩ := attrsOk_mem h a List.mem_cons_self
    have hn := (type_ok ht).2.1
    have hl : attrsOk l = true := by
      cases l with
      | nil => rfl
      | cons b l => unfold attrsOk at h; simp only [Bool.and_eq_true] at h; exact h.2
    have hab : ∀ b, l.head? = some b → a.1 ≠ b.1 := by
      intro b hb
      cases l with
      | nil => cases hb
      | cons c l =>
        injection hb with hb
        subst hb
        unfold attrsOk at h
        simp only [Bool.and_eq_true, Bool.not_eq_true', beq_eq_false_iff_ne] at h
        exact h.1.2
    obtain ⟨n, vs⟩ := a
    cases vs with
    | nil => exact absurd rfl hv
    | cons v vs =>
      show addGo (((v :: vs).map (fun v => (n, v)) ++ attrP l) ++ r) acc = _
      rw [List.append_assoc, List.map_cons, List.cons_append]
      show (if n = [] then _ else addGo (vs.map (fun v => (n, v)) ++ (attrP l ++ r)) (addV acc n v)) = _
      rw [if_neg hn, addV_new (fun b hb => hne b (n, v :: vs) hb rfl), addGo_vals hn acc _ vs [v], addGo_attrs r l _ hl, List.append_assoc]
      · rfl
      · intro x b hx hb
        rw [List.getLast?_concat] at hx
        injection hx with hx
        rw [← hx]
        exact hab b hb
/-! ### changes -/
def modP (l : List (Int × Bs × List Bs)) : List (Bs × Bs) := l.flatMap fun m => (opW m.1, m.2.1) :: (m.2.2.map (fun v => (m.2.1, v)) ++ [([45], [])])
theorem modsOk_mem {l : List (Int × Bs × List Bs)} (h : modsOk l = true) : ∀ m ∈ l, 0 ≤ m.1 ∧ m.1 ≤ 2 ∧ isType m.2.1 = true := by
  intro m hm
  unfold modsOk at h
  have := List.all_eq_true.1 h m hm
  simp only [Bool.and_eq_true, decide_eq_true_eq] at this
  exact ⟨this.1.1, this.1.2, this.2⟩
theorem pairs_mods (r : Bs) : ∀ l : List (Int × Bs × List Bs), (∀ m ∈ l, isType m.2.1 = true) → pairsOf (modT l ++ r) = modP l ++ pairsOf r
  | [], _ => rfl
  | m :: l, h => by
    have ih := pairs_mods r l (fun x hx => h x (List.mem_cons_of_mem _ hx))
    show pairsOf ((lineL (opW m.1) m.2.1 ++ m.2.2.flatMap (lineL m.2.1) ++ [45, 10] ++ modT l) ++ r) = ((opW m.1, m.2.1) :: (m.2.2.map (fun v => (m.2.1, v)) ++ [([45], [])]) ++ modP l) ++ pairsOf r
    rw [List.append_assoc, List.append_assoc, List.append_assoc, pairs_line (opW_ok m.1), pairs_vals (type_ok (h m List.mem_cons_self)).1]
    show _ :: (_ ++ pairsOf (45 :: 10 :: (modT l ++ r))) = _
    rw [pairs_dash, ih]
    simp
theorem valsOf_all {n : Bs} (hn : n ≠ [45]) (r : List (Bs × Bs)) : ∀ vs : List Bs, valsOf n (vs.map (fun v => (n, v)) ++ ([45], []) :: r) = (vs, ([45], []) :: r)
  | [] => by
    show (if ([45] : Bs) = n then _ else _) = _
    rw [if_neg (fun e => hn e.symm)]
  | v :: vs => by
    rw [List.map_cons, List.cons_append]
    show (if n = n then _ else _) = _
    rw [if_pos rfl, valsOf_all hn r vs]
theorem modsGo_all (r : List (Bs × Bs)) (hr : ∀ n v q, r = (n, v) :: q → opOf n = none) : ∀ (l : List (Int × Bs × List Bs)) (k : Nat), (∀ m ∈ l, 0 ≤ m.1 ∧ m.1 ≤ 2 ∧ isType m.2.1 = true) → l.length < k → modsGo k (modP l ++ r) = l
  | [], 0, _, h => absurd h (Nat.not_lt_zero _)
  | [], k + 1, _, _ => by
    show modsGo (k + 1) r = []
    cases r with
    | nil => rfl
    | cons x q => simp only [modsGo]; rw [hr x.1 x.2 q rfl]
  | m :: l, 0, _, h => absurd h (Nat.not_lt_zero _)
  | m :: l, k + 1, h, hk => by
    obtain ⟨h0, h2, ht⟩ := h m List.mem_cons_self
    have ih := modsGo_all r hr l k (fun x hx => h x (List.mem_cons_of_mem _ hx)) (by simp only [List.length_cons] at hk; omega)
    show modsGo (k + 1) (((opW m.1, m.2.1) :: (m.2.2.map (fun v => (m.2.1, v)) ++ [([45], [])]) ++ modP l) ++ r) = m :: l
    rw [List.append_assoc, List.cons_append, List.append_assoc]
    simp only [modsGo]
    rw [opOf_opW h0 h2]
    show (match (valsOf m.2.1 (m.2.2.map (fun v => (m.2.1, v)) ++ ([45], []) :: (modP l ++ r))).2 with
      | [] => []
      | (n, _) :: r2 => if n = [45] then (m.1, m.2.1, (valsOf m.2.1 (m.2.2.map (fun v => (m.2.1, v)) ++ ([45], []) :: (modP l ++ r))).1) :: modsGo k r2 else []) = _
    rw [valsOf_all (type_ok ht).2.2]
    show (if ([45] : Bs) = [45] then _ else _) = _
    rw [if_pos rfl, ih]
/-! ### whole records -/
def restP (c : Rc) : List (Bs × Bs) :=
  if c.kind = 0 then attrP c.attrs else if c.kind = 1 then [] else if c.kind = 2 then modP c.mods else (wRdn, c.rdn) :: (wDel, wBit c.del) :: (if c.has then [(wSup, c.sup)] else [])
def prs (c : Rc) : List (Bs × Bs) := (wTime, c.time) :: (wWho, c.who) :: (wDn, c.dn) :: (wKind, kindW c.kind) :: restP c
def tail2 : List (Bs × Bs) := [([], []), ([], [])]
structure Fit (c : Rc) : Prop where
  k0 : 0 ≤ c.kind
  k3 : c.kind ≤ 3
  at_ : c.kind ≠ 0 → c.attrs = []
  mo : c.kind ≠ 2 → c.mods = []
  sup : c.has = false → c.sup = []
  mv : c.kind ≠ 3 → c.rdn = [] ∧ c.del = false ∧ c.has = false
  at2 : attrsOk c.attrs = true
  mo2 : modsOk c.mods = true
theorem fit_of {c : Rc} (h : right c = true) : Fit c := by
  unfold right onlyOk at h
  simp only [Bool.and_eq_true, Bool.or_eq_false_iff, Bool.and_eq_false_imp, decide_eq_true_eq, bne_iff_ne, ne_eq, List.isEmpty_iff, Bool.not_eq_eq_eq_not, Bool.not_true, Bool.not_false] at h
  obtain ⟨⟨⟨⟨⟨h0, h3⟩, ⟨ha, hm⟩, hs⟩, hv⟩, h2⟩, h4⟩ := h
  refine ⟨h0, h3, fun k => ?_, fun k => ?_, fun k => ?_, fun k => ?_, h2, h4⟩
  · have := ha k; simpa using this
  · have := hm k; simpa using this
  · cases hsup : c.sup with
    | nil => rfl
    | cons x r => rw [hsup] at hs; have := hs rfl; rw [k] at this; cases this
  · have := hv k
    obtain ⟨⟨h1, h2⟩, h3⟩ := this
    exact ⟨by simpa using h1, h2, h3⟩
theorem pairs_text {c : Rc} (h : Fit c) : pairsOf (textL c) = prs c ++ tail2 := by
  have hb := bits_of_mod
  unfold textL headT
  simp only [List.append_assoc]
  rw [pairs_line hb.1, pairs_line hb.2.1, pairs_line hb.2.2.1, pairs_line hb.2.2.2.1]
  have hr : pairsOf (restT c ++ [10]) = restP c ++ tail2 := by
    unfold restT restP
    split
    · rw [pairs_attrs _ _ (fun a ha => (attrsOk_mem h.at2 a ha).1), pairs_end]; rfl
    · split
      · exact pairs_end
      · split
        · rw [pairs_mods _ _ (fun m hm => (modsOk_mem h.mo2 m hm).2.2), pairs_end]; rfl
        · unfold moveT
          rw [List.append_assoc, List.append_assoc, pairs_line hb.2.2.2.2.1, pairs_line hb.2.2.2.2.2.1]
          split
          · rw [pairs_line hb.2.2.2.2.2.2.1, pairs_end]; rfl
          · rw [List.nil_append, pairs_end]; rfl
  rw [hr]
  rfl
theorem nx_hit (n v : Bs) (r : List (Bs × Bs)) : nx n ((n, v) :: r) = (v, r) := by
  show (if n = n then _ else _) = _
  rw [if_pos rfl]
theorem modP_len (l : List (Int × Bs × List Bs)) : l.length ≤ (modP l).length := by
  induction l with
  | nil => exact Nat.le_refl _
  | cons m l ih =>
    show l.length + 1 ≤ ((opW m.1, m.2.1) :: (m.2.2.map (fun v => (m.2.1, v)) ++ [([45], [])]) ++ modP l).length
    simp only [List.length_append, List.length_cons]
    omega
theorem rec_back {c : Rc} (h : Fit c) : recL (prs c ++ tail2) = c := by
  unfold prs
  simp only [List.cons_append]
  unfold recL
  simp only [nx_hit]
  rw [kindOf_kindW h.k0 h.k3]
  obtain ⟨time, who, dn, kind, attrs, mods, rdn, sup, del, has⟩ := c
  obtain ⟨k0, k3, ha, hm, hs, hv, h2, h4⟩ := h
  dsimp only at *
  have hk : kind = 0 ∨ kind = 1 ∨ kind = 2 ∨ kind = 3 := by omega
  rcases hk with rfl | rfl | rfl | rfl
  · obtain ⟨rfl, rfl, rfl⟩ := hv (by decide)
    obtain rfl := hs rfl
    obtain rfl := hm (by decide)
    unfold restOf restP
    rw [if_pos rfl, if_pos rfl]
    have := addGo_attrs tail2 attrs [] h2 (fun a b h => by cases h)
    dsimp only
    rw [this]
    rfl
  · obtain ⟨rfl, rfl, rfl⟩ := hv (by decide)
    obtain rfl := hs rfl
    obtain rfl := hm (by decide)
    obtain rfl := ha (by decide)
    rfl
  · obtain ⟨rfl, rfl, rfl⟩ := hv (by decide)
    obtain rfl := hs rfl
    obtain rfl := ha (by decide)
    unfold restOf restP
    simp only [if_neg (show ¬ (2 : Int) = 0 by decide), if_neg (show ¬ (2 : Int) = 1 by decide), if_true]
    have := modsGo_all tail2 (by intro n v q e; injection e with e _; injection e with e _; rw [← e]; decide) mods ((modP mods ++ tail2).length + 1) (fun m hmm => modsOk_mem h4 m hmm) (by
      have := modP_len mods
      simp only [List.length_append]
      omega)
    rw [this]
    rfl
  · obtain rfl := ha (by decide)
    obtain rfl := hm (by decide)
    unfold restOf restP
    simp only [if_neg (show ¬ (3 : Int) = 0 by decide), if_neg (show ¬ (3 : Int) = 1 by decide), if_neg (show ¬ (3 : Int) = 2 by decide), List.cons_append, nx_hit]
    have hd : (wBit del == [49]) = del := by cases del <;> decide
    cases has with
    | true =>
      rw [hd]
      rfl
    | false =>
      obtain rfl := hs rfl
      rw [hd]
      rfl
/-! ### texts -/
theorem print_yes {c : Rc} {t : Bs} (h : printL c = (t, 0)) : right c = true ∧ t = textL c ∧ t.length ≤ 65536 := by
  unfold printL at h
  split at h
  · next hr =>
    split at h
    · injection h with _ h; cases h
    · next hz =>
      injection h with h _
      rw [← h]
      exact ⟨hr, rfl, by omega⟩
  · injection h with _ h; cases h
theorem back {c : Rc} {t : Bs} (h : printL c = (t, 0)) : recL (pairsOf t) = c := by
  obtain ⟨hr, ht, _⟩ := print_yes h
  rw [ht, pairs_text (fit_of hr), rec_back (fit_of hr)]
theorem parse_print {c : Rc} {t : Bs} (h : printL c = (t, 0)) : parseL t = (c, 0) := by
  unfold parseL
  rw [if_neg (by have := (print_yes h).2.2; omega), back h, if_pos h]
theorem print_parse {c : Rc} {t : Bs} (h : parseL t = (c, 0)) : printL c = (t, 0) := by
  unfold parseL at h
  split at h
  · injection h with _ h; cases h
  · split at h
    · next hp => injection h with h _; rw [← h]; exact hp
    · injection h with _ h; cases h
theorem parse_none {t : Bs} (h : ∀ c, printL c ≠ (t, 0)) (hz : t.length ≤ 65536) : parseL t = (Rc.zero, 110) := by
  unfold parseL
  rw [if_neg (by omega), if_neg (h _)]
theorem print_inj {a b : Rc} {t : Bs} (ha : printL a = (t, 0)) (hb : printL b = (t, 0)) : a = b := by rw [← back ha, ← back hb]
/-- whatever reads back what is written, and holds its answer against the text, reads as this does -/
theorem parse_any {t : Bs} (r : Rc) (h : ∀ c, printL c = (t, 0) → r = c) : parseL t = if 65536 < t.length then (Rc.zero, 2) else if printL r = (t, 0) then (r, 0) else (Rc.zero, 110) := by
  by_cases hz : 65536 < t.length
  · rw [if_pos hz]; unfold parseL; rw [if_pos hz]
  · rw [if_neg hz]
    by_cases hr : printL r = (t, 0)
    · rw [if_pos hr, parse_print hr]
    · rw [if_neg hr]
      exact parse_none (fun c hc => hr (by rw [h c hc]; exact hc)) (by omega)
end Go.Proofs.YtcpjldhpboodnaaDoor.Lf
