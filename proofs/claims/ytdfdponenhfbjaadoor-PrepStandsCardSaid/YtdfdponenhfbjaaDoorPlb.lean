/- More of chapter 3 in plain Lean: trimming bytes is trimming runes; blanks that are put in say nothing; folding what is prepared; no blanks at the ends and no two beside one another, as bytes. No program. Conditions: none. -/
import Derived.Test.YtdfdponenhfbjaaDoorPl
namespace Go.Proofs.YtdfdponenhfbjaaDoor.Pl
open Go Go.Lib Go.Proofs.YtdfdponenhfbjaaDoor.Tx

/-! ### bytes of a rune and the blank -/
theorem enc_32 : enc 32 = [32] := by rw [enc_one (by omega)]; rfl
theorem u8_ne32 (n : Nat) (h : n < 256) (h2 : n ≠ 32) : UInt8.ofNat n ≠ 32 := by
  intro h3
  have := u8nat n h
  rw [h3] at this
  exact h2 (by simpa using this.symm)
theorem enc_no32 {r : Nat} (hg : Good r) (h : r ≠ 32) : ∀ b ∈ enc r, b ≠ 32 := by
  intro b hb
  unfold Good at hg
  by_cases h1 : r ≤ 127
  · rw [enc_one h1] at hb
    simp only [List.mem_singleton] at hb
    subst hb
    exact u8_ne32 r (by omega) h
  · by_cases h2 : r ≤ 2047
    · rw [enc_two (by omega) h2] at hb
      simp only [List.mem_cons, List.not_mem_nil, or_false] at hb
      rcases hb with rfl | rfl <;> exact u8_ne32 _ (by omega) (by omega)
    · by_cases h3 : r ≤ 65535
      · rw [enc_three (by omega)] at hb
        simp only [List.mem_cons, List.not_mem_nil, or_false] at hb
        rcases hb with rfl | rfl | rfl <;> exact u8_ne32 _ (by omega) (by omega)
      · rw [enc_four (by omega) (by omega)] at hb
        simp only [List.mem_cons, List.not_mem_nil, or_false] at hb
        rcases hb with rfl | rfl | rfl | rfl <;> exact u8_ne32 _ (by omega) (by omega)
/-- bytes of a rune beyond ASCII are all beyond ASCII -/
theorem enc_high {r : Nat} (hg : Good r) (h : 128 ≤ r) : ∀ b ∈ enc r, 128 ≤ b.toNat := by
  intro b hb
  unfold Good at hg
  by_cases h2 : r ≤ 2047
  · rw [enc_two (by omega) h2] at hb
    simp only [List.mem_cons, List.not_mem_nil, or_false] at hb
    rcases hb with rfl | rfl <;> rw [u8nat _ (by omega)] <;> omega
  · by_cases h3 : r ≤ 65535
    · rw [enc_three (by omega)] at hb
      simp only [List.mem_cons, List.not_mem_nil, or_false] at hb
      rcases hb with rfl | rfl | rfl <;> rw [u8nat _ (by omega)] <;> omega
    · rw [enc_four (by omega) (by omega)] at hb
      simp only [List.mem_cons, List.not_mem_nil, or_false] at hb
      rcases hb with rfl | rfl | rfl | rfl <;> rw [u8nat _ (by omega)] <;> omega
theorem encs_cons (r : Nat) (t : List Nat) : encs (r :: t) = enc r ++ encs t := rfl
theorem encs_snoc (t : List Nat) (r : Nat) : encs (t ++ [r]) = encs t ++ enc r := by rw [encs_append]; simp [encs]

theorem dw_no (l t : List UInt8) (hne : l ≠ []) (h : ∀ b ∈ l, b ≠ 32) : (l ++ t).dropWhile (· == 32) = l ++ t := by
  cases l with
  | nil => exact absurd rfl hne
  | cons b s =>
    rw [List.cons_append, List.dropWhile_cons_of_neg]
    simpa using h b (by simp)
theorem trimLeft_encs : ∀ (q : List Nat), (∀ r ∈ q, Good r) → trimLeftB (encs q) 32 = encs (trimL q)
  | [], _ => rfl
  | r :: t, h => by
    unfold trimLeftB
    rw [encs_cons]
    by_cases hr : r = 32
    · subst hr
      rw [trimL_cons, enc_32, List.singleton_append, List.dropWhile_cons_of_pos (by rfl)]
      exact trimLeft_encs t (fun x hx => h x (by simp [hx]))
    · rw [trimL_id (by simpa using hr), encs_cons]
      exact dw_no _ _ (enc_ne r) (enc_no32 (h r (by simp)) hr)
theorem trimRight_encs (q : List Nat) : (∀ r ∈ q, Good r) → trimRightB (encs q) 32 = encs (trimR q) := by
  induction hn : q.length generalizing q with
  | zero =>
    have : q = [] := List.eq_nil_of_length_eq_zero hn
    subst this
    intro _
    rfl
  | succ n ih =>
    intro h
    rcases List.eq_nil_or_concat q with rfl | ⟨t, r, rfl⟩
    · cases hn
    · rw [List.concat_eq_append] at hn h ⊢
      have ht : t.length = n := by simpa using hn
      rw [encs_snoc]
      by_cases hr : r = 32
      · subst hr
        rw [trimR_snoc, enc_32, ← ih t ht (fun x hx => h x (by simp [hx]))]
        unfold trimRightB
        rw [List.reverse_append, List.reverse_singleton, List.singleton_append, List.dropWhile_cons_of_pos (by rfl)]
      · rw [trimR_id (by simpa using hr), encs_snoc]
        unfold trimRightB
        rw [List.reverse_append, dw_no _ _ (by simpa using enc_ne r) (by
          intro b hb
          exact enc_no32 (h r (by simp)) hr b (by simpa using hb))]
        rw [← List.reverse_append, List.reverse_reverse]
theorem trim_encs (q : List Nat) (h : ∀ r ∈ q, Good r) : trimB (encs q) 32 = encs (trimL (trimR q)) := by
  unfold trimB
  rw [trimRight_encs q h]
  refine trimLeft_encs _ (fun r hr => h r ?_)
  obtain ⟨a, ha⟩ := trimR_prefix q
  rw [ha]
  exact List.mem_append_left _ hr
/-- prep.Prepare by prep.mapped -/
theorem prep_mapped (f : Bool) (l : List UInt8) : prepL f l = (mappedL f l).map fun t => if trimB t 32 = [] ∧ l ≠ [] then [32] else trimB t 32 := by
  unfold prepL mappedL
  cases h : runes l with
  | none => rfl
  | some rs =>
    simp only [Option.bind_some]
    by_cases hb : rs.any bad = true
    · rw [if_pos hb, if_pos hb]; rfl
    · rw [if_neg hb, if_neg hb, Option.map_some]
      have hb' : rs.any bad = false := by simpa using hb
      have hg : ∀ r ∈ sgo [] (mapd f rs), Good r := by
        intro r hr
        rcases mem_sgo hr with hr | hr
        · cases hr
        · exact plain_good (mapd_plain hb' r hr).1
      rw [trim_encs _ hg]
      show some (if nf (mapd f rs) = [] ∧ l ≠ [] then [32] else encs (nf (mapd f rs))) = some (if encs (nf (mapd f rs)) = [] ∧ l ≠ [] then [32] else encs (nf (mapd f rs)))
      by_cases h0 : nf (mapd f rs) = [] ∧ l ≠ []
      · rw [if_pos h0, if_pos ⟨by rw [h0.1]; rfl, h0.2⟩]
      · rw [if_neg h0, if_neg (fun h => h0 ⟨encs_nil h.1, h.2⟩)]

/-! ### no two blank bytes -/
theorem bytes_nb : ∀ (q : List Nat), (∀ r ∈ q, Good r) → nb q → ∀ (a b : List UInt8), encs q = a ++ 32 :: 32 :: b → False := by
  intro q
  induction q with
  | nil => intro _ _ a b h; exact absurd h (by simp [encs])
  | cons r t ih =>
    intro hg hn a b h
    have hnt : nb t := nb_infix (p := [r]) (m := t) (s := []) (by simpa using hn)
    have hgt : ∀ x ∈ t, Good x := fun x hx => hg x (by simp [hx])
    rw [encs_cons] at h
    by_cases hr : r = 32
    · subst hr
      rw [enc_32] at h
      cases a with
      | nil =>
        have h2 : encs t = 32 :: b := by simpa using h
        cases t with
        | nil => exact absurd h2 (by simp [encs])
        | cons x s =>
          by_cases hx : x = 32
          · subst hx
            exact hn [] s rfl
          · rw [encs_cons] at h2
            have hne := enc_ne x
            cases hx2 : enc x with
            | nil => exact hne hx2
            | cons c u =>
              rw [hx2] at h2
              injection h2 with h3 _
              exact enc_no32 (hgt x (by simp)) hx c (by rw [hx2]; simp) h3
      | cons c u =>
        have h2 : encs t = u ++ 32 :: 32 :: b := by
          have h3 : (32 : UInt8) :: encs t = c :: (u ++ 32 :: 32 :: b) := by simpa using h
          injection h3
        exact ih hgt hnt u b h2
    · have hno := enc_no32 (hg r (by simp)) hr
      rcases List.append_eq_append_iff.1 h with ⟨p, h1, h2⟩ | ⟨p, h1, h2⟩
      · exact ih hgt hnt p b h2
      · cases p with
        | nil => exact ih hgt hnt [] b (by simpa using h2.symm)
        | cons c u =>
          have : c = 32 := by
            have h3 := h2
            simp only [List.cons_append, List.cons.injEq] at h3
            exact h3.1.symm
          exact hno c (by rw [h1]; simp) this
theorem bytes_head (q : List Nat) (hg : ∀ r ∈ q, Good r) (h : q.head? ≠ some 32) : (encs q).head? ≠ some 32 := by
  cases q with
  | nil => simp [encs]
  | cons x s =>
    have hx : x ≠ 32 := by simpa using h
    rw [encs_cons]
    cases hx2 : enc x with
    | nil => exact absurd hx2 (enc_ne x)
    | cons c u =>
      have := enc_no32 (hg x (by simp)) hx c (by rw [hx2]; simp)
      simpa using this
theorem bytes_last (q : List Nat) (hg : ∀ r ∈ q, Good r) (h : q.getLast? ≠ some 32) : (encs q).getLast? ≠ some 32 := by
  rcases List.eq_nil_or_concat q with rfl | ⟨t, x, rfl⟩
  · simp [encs]
  · rw [List.concat_eq_append] at hg h ⊢
    have hx : x ≠ 32 := by simpa using h
    rw [encs_snoc]
    rcases List.eq_nil_or_concat (enc x) with h2 | ⟨u, c, h2⟩
    · exact absurd h2 (enc_ne x)
    · have := enc_no32 (hg x (by simp)) hx c (by rw [h2]; simp)
      rw [h2]
      simpa using this
/-- P306: what is prepared has no blank at its ends, no two beside one another (but for one blank alone) -/
theorem prep_shape {f : Bool} {l a : List UInt8} (h : prepL f l = some a) (hne : a ≠ [32]) : a.head? ≠ some 32 ∧ a.getLast? ≠ some 32 ∧ ∀ p s, a ≠ p ++ 32 :: 32 :: s := by
  obtain ⟨rs, hr, hb, rfl⟩ := prep_some h
  split
  · rename_i hc
    rw [if_pos hc] at hne
    exact absurd rfl hne
  · have hg : ∀ r ∈ nf (mapd f rs), Good r := fun x hx => plain_good (mapd_plain hb x (nf_mem hx)).1
    exact ⟨bytes_head _ hg (nf_head _), bytes_last _ hg (nf_last _), fun p s he => bytes_nb _ hg (nf_nb _) p s he⟩

/-! ### folding what is prepared -/
theorem map_last (g : Nat → Nat) (hg : ∀ x, g x = 32 ↔ x = 32) (l : List Nat) : (l.map g).getLast? = some 32 ↔ l.getLast? = some 32 := by
  rw [List.getLast?_map]
  cases l.getLast? with
  | none => simp
  | some x => simpa using hg x
theorem map_head (g : Nat → Nat) (hg : ∀ x, g x = 32 ↔ x = 32) (l : List Nat) : (l.map g).head? = some 32 ↔ l.head? = some 32 := by
  rw [List.head?_map]
  cases l.head? with
  | none => simp
  | some x => simpa using hg x
theorem sgo_map (g : Nat → Nat) (hg : ∀ x, g x = 32 ↔ x = 32) (acc l : List Nat) : sgo (acc.map g) (l.map g) = (sgo acc l).map g := by
  induction l generalizing acc with
  | nil => rfl
  | cons r t ih =>
    simp only [List.map_cons, sgo]
    by_cases hc : r = 32 ∧ acc.getLast? = some 32
    · rw [if_pos hc, if_pos ⟨(hg r).2 hc.1, (map_last g hg acc).2 hc.2⟩]
      exact ih acc
    · rw [if_neg hc, if_neg (fun h => hc ⟨(hg r).1 h.1, (map_last g hg acc).1 h.2⟩), ← ih (acc ++ [r])]
      simp
theorem trimL_map (g : Nat → Nat) (hg : ∀ x, g x = 32 ↔ x = 32) (l : List Nat) : trimL (l.map g) = (trimL l).map g := by
  induction l with
  | nil => rfl
  | cons x t ih =>
    by_cases hx : x = 32
    · subst hx
      rw [List.map_cons, (hg 32).2 rfl, trimL_cons, trimL_cons, ih]
    · rw [trimL_id (l := x :: t) (by simpa using hx), trimL_id]
      intro h
      exact hx (by simpa using (map_head g hg (x :: t)).1 h)
theorem trimR_map (g : Nat → Nat) (hg : ∀ x, g x = 32 ↔ x = 32) (l : List Nat) : trimR (l.map g) = (trimR l).map g := by
  have h := trimL_map g hg l.reverse
  have e1 : trimR (l.map g) = (trimL (l.map g).reverse).reverse := rfl
  have e2 : trimR l = (trimL l.reverse).reverse := rfl
  rw [e1, e2, ← List.map_reverse, h, List.map_reverse]
theorem nf_map (g : Nat → Nat) (hg : ∀ x, g x = 32 ↔ x = 32) (l : List Nat) : nf (l.map g) = (nf l).map g := by
  unfold nf
  have := sgo_map g hg [] l
  rw [List.map_nil] at this
  rw [this, trimR_map g hg, trimL_map g hg]
theorem mapd_true (rs : List Nat) : mapd true rs = (mapd false rs).map (fold1 true) := by
  unfold mapd
  have : fold1 false = id := by funext x; rfl
  rw [this, List.map_id]
/-- P303: what is prepared, prepared with folding, is what folding prepares -/
theorem prep_fold {l a : List UInt8} (h : prepL false l = some a) : ∃ c, prepL true l = some c ∧ prepL true a = some c := by
  obtain ⟨rs, hr, hb, rfl⟩ := prep_some h
  have ht := prep_of (f := true) hr hb
  have e : nf (mapd true rs) = (nf (mapd false rs)).map (fold1 true) := by rw [mapd_true, nf_map _ (fold1_32 true)]
  refine ⟨_, ht, ?_⟩
  by_cases hc : nf (mapd false rs) = [] ∧ l ≠ []
  · rw [if_pos hc, prep_32]
    rw [e, hc.1, if_pos ⟨rfl, hc.2⟩]
  · rw [if_neg hc]
    have hq : ∀ x ∈ nf (mapd false rs), Plain x ∧ fold1 false x = x := fun x hx => mapd_plain hb x (nf_mem hx)
    have hm : mapd true (nf (mapd false rs)) = (nf (mapd false rs)).map (fold1 true) := by rw [mapd_true, mapd_id hq]
    rw [prep_of (runes_encs _ (fun r hr => plain_good (hq r hr).1)) (any_plain fun x hx => (hq x hx).1), hm, ← e, nf_nf]
    by_cases h0 : nf (mapd true rs) = []
    · have h00 : nf (mapd false rs) = [] := by
        rw [e] at h0
        simpa using h0
      have hl : ¬ l ≠ [] := fun hl => hc ⟨h00, hl⟩
      rw [if_neg (fun h => h.2 (by rw [h00]; rfl)), if_neg (fun h => hl h.2)]
    · rw [if_neg (fun h => h0 h.1), if_neg (fun h => h0 h.1)]
theorem prep_fold_none {l : List UInt8} : prepL false l = none ↔ prepL true l = none := by rw [prep_none, prep_none]

/-! ### blanks that are put in -/
/-- D is l with bytes of ASCII put in -/
inductive Ins : List UInt8 → List UInt8 → Prop
  | nil : Ins [] []
  | keep {l d : List UInt8} (b : UInt8) (h : Ins l d) : Ins (b :: l) (b :: d)
  | ins {l d : List UInt8} (c : UInt8) (hc : c.toNat < 128) (h : Ins l d) : Ins l (c :: d)
theorem ins_high : ∀ (p : List UInt8) {l d : List UInt8}, (∀ b ∈ p, 128 ≤ b.toNat) → Ins l (p ++ d) → ∃ l', l = p ++ l' ∧ Ins l' d
  | [], l, d, _, h => ⟨l, rfl, h⟩
  | b :: p, l, d, hp, h => by
    rw [List.cons_append] at h
    have hb := hp b (by simp)
    cases h with
    | keep _ h =>
      obtain ⟨l', rfl, h2⟩ := ins_high p (fun x hx => hp x (by simp [hx])) h
      exact ⟨l', rfl, h2⟩
    | ins _ hc _ => omega
theorem enc_low (b : UInt8) (h : b.toNat < 128) : enc b.toNat = [b] := by
  rw [enc_one (by omega)]
  simp
theorem ins_runes : ∀ (n : Nat) (l d : List UInt8) (qs : List Nat), d.length ≤ n → Ins l d → runes d = some qs → ∃ rs, runes l = some rs := by
  intro n
  induction n with
  | zero =>
    intro l d qs hn h hq
    have : d = [] := List.eq_nil_of_length_eq_zero (by omega)
    subst this
    cases h
    exact ⟨[], runes_nil⟩
  | succ n ih =>
    intro l d qs hn h hq
    cases h with
    | nil => exact ⟨[], runes_nil⟩
    | ins c hc h =>
      rename_i d'
      have e : c :: d' = enc c.toNat ++ d' := by rw [enc_low c hc]; rfl
      rw [e, runes_enc _ (.inl (by omega))] at hq
      obtain ⟨q2, hq2, _⟩ := Option.map_eq_some_iff.1 hq
      exact ih _ _ q2 (by simp at hn; omega) h hq2
    | keep b h =>
      rename_i l' d'
      by_cases hb : b.toNat < 128
      · have e : b :: d' = enc b.toNat ++ d' := by rw [enc_low b hb]; rfl
        rw [e, runes_enc _ (.inl (by omega))] at hq
        obtain ⟨q2, hq2, _⟩ := Option.map_eq_some_iff.1 hq
        obtain ⟨rs, hrs⟩ := ih _ _ q2 (by simp at hn; omega) h hq2
        have e2 : b :: l' = enc b.toNat ++ l' := by rw [enc_low b hb]; rfl
        exact ⟨b.toNat :: rs, by rw [e2, runes_enc _ (.inl (by omega)), hrs]; rfl⟩
      · have hne : b :: d' ≠ [] := by simp
        have hgood := good_of_runes hq
        have henc := encs_of_runes hq
        cases qs with
        | nil => exact absurd henc.symm (by simp [encs])
        | cons r q2 =>
          rw [encs_cons] at henc
          have hr : 128 ≤ r := by
            by_cases hr : r ≤ 127
            · rw [enc_one hr] at henc
              injection henc with h1 _
              rw [← h1, u8nat r (by omega)] at hb
              omega
            · omega
          have hall := enc_high (hgood r (by simp)) hr
          have h0 : Ins (b :: l') (enc r ++ encs q2) := by rw [henc]; exact .keep b h
          obtain ⟨l2, hl2, h2⟩ := ins_high (enc r) hall h0
          have hlen : (encs q2).length ≤ n := by
            have h3 := congrArg List.length henc
            have h4 := (enc_length r).1
            simp only [List.length_append, List.length_cons] at h3 hn
            omega
          obtain ⟨rs, hrs⟩ := ih _ _ q2 hlen h2 (runes_encs q2 (fun x hx => hgood x (by simp [hx])))
          exact ⟨r :: rs, by rw [hl2, runes_enc r (hgood r (by simp)), hrs]; rfl⟩

/-- each blank byte followed by a tabulator and a blank -/
def dbl (l : List UInt8) : List UInt8 := l.flatMap fun b => if b = 32 then [32, 9, 32] else [b]
def dblR (rs : List Nat) : List Nat := rs.flatMap fun r => if r = 32 then [32, 9, 32] else [r]
theorem dbl_no (l : List UInt8) (h : ∀ b ∈ l, b ≠ 32) : dbl l = l := by
  induction l with
  | nil => rfl
  | cons b t ih =>
    have hb := h b (by simp)
    have ih := ih (fun x hx => h x (by simp [hx]))
    unfold dbl at ih ⊢
    rw [List.flatMap_cons, ih, if_neg hb]
    rfl
theorem dbl_append (a b : List UInt8) : dbl (a ++ b) = dbl a ++ dbl b := by simp [dbl]
theorem dbl_encs : ∀ (rs : List Nat), (∀ r ∈ rs, Good r) → dbl (encs rs) = encs (dblR rs)
  | [], _ => rfl
  | r :: t, h => by
    have ih := dbl_encs t (fun x hx => h x (by simp [hx]))
    have e : dblR (r :: t) = (if r = 32 then [32, 9, 32] else [r]) ++ dblR t := rfl
    rw [encs_cons, dbl_append, ih, e, encs_append]
    congr 1
    by_cases hr : r = 32
    · subst hr
      rw [enc_32, if_pos rfl]
      rfl
    · rw [if_neg hr, dbl_no _ (enc_no32 (h r (by simp)) hr)]
      simp [encs]
theorem ins_dbl (l : List UInt8) : ∀ (t : List UInt8), (∀ b ∈ t, b.toNat < 128) → Ins l (dbl l ++ t) := by
  induction l with
  | nil =>
    intro t ht
    show Ins [] t
    induction t with
    | nil => exact .nil
    | cons c t ih => exact .ins c (ht c (by simp)) (ih (fun x hx => ht x (by simp [hx])))
  | cons b l ih =>
    intro t ht
    have e : dbl (b :: l) = (if b = 32 then [32, 9, 32] else [b]) ++ dbl l := rfl
    rw [e]
    by_cases hb : b = 32
    · subst hb
      rw [if_pos rfl]
      exact .keep 32 (.ins 9 (by decide) (.ins 32 (by decide) (ih t ht)))
    · rw [if_neg hb]
      exact .keep b (ih t ht)
theorem ins_head (p : List UInt8) {l d : List UInt8} (hp : ∀ b ∈ p, b.toNat < 128) (h : Ins l d) : Ins l (p ++ d) := by
  induction p with
  | nil => exact h
  | cons c p ih => exact .ins c (hp c (by simp)) (ih (fun x hx => hp x (by simp [hx])))

def ws (b : UInt8) : Prop := b = 32 ∨ b = 9 ∨ b = 10 ∨ b = 13
theorem ws_low {b : UInt8} (h : ws b) : b.toNat < 128 := by rcases h with rfl | rfl | rfl | rfl <;> decide
theorem ws_stay {b : UInt8} (h : ws b) : stay b.toNat = some 32 ∧ bad b.toNat = false := by rcases h with rfl | rfl | rfl | rfl <;> decide
theorem ws_encs : ∀ (p : List UInt8), (∀ b ∈ p, ws b) → encs (p.map (·.toNat)) = p
  | [], _ => rfl
  | b :: p, h => by
    rw [List.map_cons, encs_cons, enc_low b (ws_low (h b (by simp))), ws_encs p (fun x hx => h x (by simp [hx]))]
    rfl
theorem ws_mapd (f : Bool) : ∀ (p : List UInt8), (∀ b ∈ p, ws b) → mapd f (p.map (·.toNat)) = List.replicate p.length 32
  | [], _ => rfl
  | b :: p, h => by
    have ih := ws_mapd f p (fun x hx => h x (by simp [hx]))
    unfold mapd at ih ⊢
    rw [List.map_cons, List.filterMap_cons, (ws_stay (h b (by simp))).1]
    simp only [List.map_cons, List.length_cons, List.replicate_succ]
    rw [ih, (fold1_32 f 32).2 rfl]
theorem mapd_append (f : Bool) (a b : List Nat) : mapd f (a ++ b) = mapd f a ++ mapd f b := by simp [mapd]
theorem mapd_dbl (f : Bool) : ∀ rs : List Nat, ∀ acc, sgo acc (mapd f (dblR rs)) = sgo acc (mapd f rs)
  | [], _ => rfl
  | r :: t, acc => by
    have e : dblR (r :: t) = (if r = 32 then [32, 9, 32] else [r]) ++ dblR t := rfl
    have e2 : r :: t = [r] ++ t := rfl
    rw [e, mapd_append, sgo_append, mapd_dbl f t, e2, mapd_append f [r] t, sgo_append]
    congr 1
    by_cases hr : r = 32
    · subst hr
      rw [if_pos rfl]
      have h3 : mapd f [32, 9, 32] = [32, 32, 32] := by cases f <;> decide
      have h1 : mapd f [32] = [32] := by cases f <;> decide
      rw [h3, h1]
      by_cases hl : acc.getLast? = some 32
      · simp [sgo, hl]
      · simp [sgo, hl]
    · rw [if_neg hr]
theorem sgo_blanks (acc : List Nat) : ∀ n, sgo acc (List.replicate n 32) = acc ∨ sgo acc (List.replicate n 32) = acc ++ [32] := by
  intro n
  induction n with
  | zero => exact .inl rfl
  | succ n ih =>
    rw [List.replicate_succ', sgo_snoc]
    split
    · exact ih
    · rename_i hc
      rcases ih with h | h
      · rw [h]; exact .inr rfl
      · rw [h] at hc
        exact absurd ⟨rfl, by simp⟩ hc
theorem sgo_front {acc : List Nat} (l : List Nat) : acc ≠ [] → sgo (32 :: acc) l = 32 :: sgo acc l := by
  induction l generalizing acc with
  | nil => intro _; rfl
  | cons r t ih =>
    intro hne
    have hl : (32 :: acc).getLast? = acc.getLast? := by
      cases acc with
      | nil => exact absurd rfl hne
      | cons x s => simp
    simp only [sgo, hl]
    split
    · exact ih hne
    · rw [List.cons_append, ih (by simp)]
theorem trimLR_cons (m : List Nat) : trimL (trimR (32 :: m)) = trimL (trimR m) := by
  induction hn : m.length generalizing m with
  | zero =>
    have : m = [] := List.eq_nil_of_length_eq_zero hn
    subst this
    rfl
  | succ n ih =>
    rcases List.eq_nil_or_concat m with rfl | ⟨t, x, rfl⟩
    · cases hn
    · rw [List.concat_eq_append] at hn ⊢
      by_cases hx : x = 32
      · subst hx
        rw [← List.cons_append, trimR_snoc, trimR_snoc]
        exact ih t (by simpa using hn)
      · rw [← List.cons_append, trimR_id (l := 32 :: t ++ [x]) (by rw [List.getLast?_append]; simpa using hx), trimR_id (l := t ++ [x]) (by rw [List.getLast?_append]; simpa using hx), List.cons_append, trimL_cons]
theorem trim_front (l : List Nat) : trimL (trimR (sgo [32] l)) = trimL (trimR (sgo [] l)) := by
  cases l with
  | nil => rfl
  | cons r t =>
    by_cases hr : r = 32
    · subst hr
      simp [sgo]
    · have e1 : sgo [32] (r :: t) = sgo (32 :: [r]) t := by simp [sgo, hr]
      have e2 : sgo [] (r :: t) = sgo [r] t := by simp [sgo]
      rw [e1, e2, sgo_front t (by simp)]
      exact trimLR_cons _
theorem trim_comm (q : List Nat) : trimR (trimL q) = trimL (trimR q) := by
  induction q with
  | nil => rfl
  | cons y t ih =>
    by_cases hy : y = 32
    · subst hy
      rw [trimL_cons, ih, trimLR_cons]
    · rw [trimL_id (l := y :: t) (by simpa using hy), trimR_cons_ne hy, trimL_id (by simpa using hy)]
/-- where no two blanks stand beside one another one is all there is at an end -/
theorem trimL_one {q : List Nat} (h : nb q) : trimL q = if q.head? = some 32 then q.tail else q := by
  cases q with
  | nil => rfl
  | cons y t =>
    by_cases hy : y = 32
    · subst hy
      rw [trimL_cons, if_pos (by simp)]
      refine trimL_id ?_
      intro h2
      cases t with
      | nil => cases h2
      | cons z u =>
        have : z = 32 := by simpa using h2
        subst this
        exact h [] u rfl
    · rw [if_neg (by simpa using hy), trimL_id (by simpa using hy)]
theorem trimR_one {q : List Nat} (h : nb q) : trimR q = if q.getLast? = some 32 then q.dropLast else q := by
  rcases List.eq_nil_or_concat q with rfl | ⟨t, y, rfl⟩
  · rfl
  · rw [List.concat_eq_append] at h ⊢
    by_cases hy : y = 32
    · subst hy
      rw [trimR_snoc, if_pos (by simp), List.dropLast_concat]
      refine trimR_id ?_
      intro h2
      rcases List.eq_nil_or_concat t with rfl | ⟨u, z, rfl⟩
      · cases h2
      · rw [List.concat_eq_append] at h h2
        have : z = 32 := by simpa using h2
        subst this
        exact h u [] (by simp)
    · rw [if_neg (by simpa using hy), trimR_id (by simpa using hy)]
theorem nf_pad (a b : Nat) (l : List Nat) : nf (List.replicate a 32 ++ l ++ List.replicate b 32) = nf l := by
  unfold nf
  rw [sgo_append, sgo_append]
  have h1 : ∀ S, trimR (sgo S (List.replicate b 32)) = trimR S := by
    intro S
    rcases sgo_blanks S b with h | h
    · rw [h]
    · rw [h, trimR_snoc]
  rw [h1]
  rcases sgo_blanks [] a with h | h
  · rw [h]
  · rw [h]; exact trim_front l
/-- P306: whatever blanks stand at the ends or are doubled within -/
theorem prep_blanks (f : Bool) (l hd tl : List UInt8) (hne : l ≠ []) (hh : ∀ b ∈ hd, ws b) (ht : ∀ b ∈ tl, ws b) : prepL f (hd ++ dbl l ++ tl) = prepL f l := by
  have hins : Ins l (hd ++ (dbl l ++ tl)) := ins_head hd (fun b hb => ws_low (hh b hb)) (ins_dbl l tl (fun b hb => ws_low (ht b hb)))
  rw [← List.append_assoc] at hins
  cases hr : runes l with
  | none =>
    have h1 : prepL f l = none := prep_none.2 (by intro rs h; rw [hr] at h; cases h)
    rw [h1]
    refine prep_none.2 (fun qs hq => ?_)
    obtain ⟨rs, hrs⟩ := ins_runes _ l _ qs (Nat.le_refl _) hins hq
    rw [hr] at hrs
    cases hrs
  | some rs =>
    have hg := good_of_runes hr
    have hl := encs_of_runes hr
    have e : hd ++ dbl l ++ tl = encs (hd.map (·.toNat) ++ dblR rs ++ tl.map (·.toNat)) := by
      rw [encs_append, encs_append, ws_encs hd hh, ws_encs tl ht, ← dbl_encs rs hg, hl]
    have hgd : ∀ x ∈ dblR rs, Good x := by
      intro x hx
      obtain ⟨r, hr1, hx⟩ := List.mem_flatMap.1 hx
      split at hx
      · simp only [List.mem_cons, List.not_mem_nil, or_false] at hx
        rcases hx with rfl | rfl | rfl <;> decide
      · simp only [List.mem_singleton] at hx
        subst hx
        exact hg x hr1
    have hgw : ∀ p : List UInt8, (∀ b ∈ p, ws b) → ∀ x ∈ p.map (·.toNat), Good x := by
      intro p hp x hx
      obtain ⟨b, hb, rfl⟩ := List.mem_map.1 hx
      have := ws_low (hp b hb)
      exact .inl (by show b.toNat < 55296; omega)
    have hrun : runes (hd ++ dbl l ++ tl) = some (hd.map (·.toNat) ++ dblR rs ++ tl.map (·.toNat)) := by
      rw [e]
      refine runes_encs _ (fun x hx => ?_)
      rcases List.mem_append.1 hx with hx | hx
      · rcases List.mem_append.1 hx with hx | hx
        · exact hgw hd hh x hx
        · exact hgd x hx
      · exact hgw tl ht x hx
    have hbw : ∀ p : List UInt8, (∀ b ∈ p, ws b) → (p.map (·.toNat)).any bad = false := by
      intro p hp
      rw [List.any_eq_false]
      intro x hx
      obtain ⟨b, hb, rfl⟩ := List.mem_map.1 hx
      simp [(ws_stay (hp b hb)).2]
    have hbd : (dblR rs).any bad = rs.any bad := by
      clear hr hg hl e hgd hrun hins
      induction rs with
      | nil => rfl
      | cons r t ih =>
        have e : dblR (r :: t) = (if r = 32 then [32, 9, 32] else [r]) ++ dblR t := rfl
        rw [e, List.any_append, ih, List.any_cons]
        congr 1
        split
        · rename_i h
          subst h
          decide
        · simp
    have hnf : nf (mapd f (hd.map (·.toNat) ++ dblR rs ++ tl.map (·.toNat))) = nf (mapd f rs) := by
      rw [mapd_append, mapd_append, ws_mapd f hd hh, ws_mapd f tl ht, nf_pad]
      unfold nf
      rw [mapd_dbl]
    have hne2 : hd ++ dbl l ++ tl ≠ [] := by
      cases l with
      | nil => exact absurd rfl hne
      | cons b t =>
        intro h
        have h2 := (List.append_eq_nil_iff.1 (List.append_eq_nil_iff.1 h).1).2
        have e : dbl (b :: t) = (if b = 32 then [32, 9, 32] else [b]) ++ dbl t := rfl
        rw [e] at h2
        have h3 := (List.append_eq_nil_iff.1 h2).1
        split at h3 <;> cases h3
    unfold prepL
    rw [hrun, hr, Option.bind_some, Option.bind_some, List.any_append, List.any_append, hbw hd hh, hbw tl ht, hbd, hnf, Bool.false_or, Bool.or_false]
    by_cases h0 : nf (mapd f rs) = []
    · rw [if_pos (⟨h0, hne2⟩ : nf (mapd f rs) = [] ∧ hd ++ dbl l ++ tl ≠ []), if_pos (⟨h0, hne⟩ : nf (mapd f rs) = [] ∧ l ≠ [])]
    · rw [if_neg (fun h : nf (mapd f rs) = [] ∧ hd ++ dbl l ++ tl ≠ [] => h0 h.1), if_neg (fun h : nf (mapd f rs) = [] ∧ l ≠ [] => h0 h.1)]
end Go.Proofs.YtdfdponenhfbjaaDoor.Pl
