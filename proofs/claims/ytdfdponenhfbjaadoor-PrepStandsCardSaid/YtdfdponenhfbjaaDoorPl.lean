/- What package prep computes, in plain Lean over lists of runes, and the laws of chapter 3 on it. No program. Conditions: none. -/
import Derived.Test.YtdfdponenhfbjaaDoorTx
import Derived.Lib.TrimByte
namespace Go.Proofs.YtdfdponenhfbjaaDoor.Pl
open Go Go.Lib Go.Proofs.YtdfdponenhfbjaaDoor.Tx

def blankR (r : Int) : Bool := decide ((9 ≤ r ∧ r ≤ 13) ∨ r = 133 ∨ r = 160 ∨ r = 5760 ∨ (8192 ≤ r ∧ r ≤ 8202) ∨ r = 8232 ∨ r = 8233 ∨ r = 8239 ∨ r = 8287 ∨ r = 12288)
def goesR (r : Int) : Bool := decide ((0 ≤ r ∧ r < 32) ∨ (127 ≤ r ∧ r ≤ 159) ∨ r = 173 ∨ r = 847 ∨ r = 6150 ∨ (6155 ≤ r ∧ r ≤ 6158) ∨ (8203 ≤ r ∧ r ≤ 8207) ∨ (8234 ≤ r ∧ r ≤ 8238) ∨ (8288 ≤ r ∧ r ≤ 8303) ∨ (65024 ≤ r ∧ r ≤ 65039) ∨ r = 65279 ∨ (65529 ≤ r ∧ r ≤ 65532))
def badR (r : Int) : Bool := decide (r < 0 ∨ (55296 ≤ r ∧ r ≤ 63743) ∨ (65533 ≤ r ∧ r ≤ 65535) ∨ 983040 ≤ r)
def up32 (r : Int) : Prop := (65 ≤ r ∧ r ≤ 90) ∨ (192 ≤ r ∧ r ≤ 222 ∧ r ≠ 215) ∨ (913 ≤ r ∧ r ≤ 937 ∧ r ≠ 930) ∨ (1040 ≤ r ∧ r ≤ 1071)
instance (r : Int) : Decidable (up32 r) := inferInstanceAs (Decidable (_ ∨ _))
def even1 (r : Int) : Prop := ((256 ≤ r ∧ r ≤ 311) ∨ (330 ≤ r ∧ r ≤ 375)) ∧ r % 2 = 0
instance (r : Int) : Decidable (even1 r) := inferInstanceAs (Decidable (_ ∧ _))
def foldR (r : Int) : Int := if up32 r then r + 32 else if 1024 ≤ r ∧ r ≤ 1039 then r + 80 else if r = 7838 then 223 else if even1 r then r + 1 else r
/-- prep.Map -/
def mapR (r : Int) : Int × Bool × Bool := if blankR r = true then (32, true, false) else if goesR r = true then (0, false, false) else if badR r = true then (0, false, true) else (r, true, false)

def stay (r : Nat) : Option Nat := if blankR r = true then some 32 else if goesR r = true then none else some r
def bad (r : Nat) : Bool := !blankR r && !goesR r && badR r
def fold1 (f : Bool) (r : Nat) : Nat := if f = true then (foldR r).toNat else r
def mapd (f : Bool) (rs : List Nat) : List Nat := (rs.filterMap stay).map (fold1 f)
def sgo : List Nat → List Nat → List Nat
  | acc, [] => acc
  | acc, r :: t => if r = 32 ∧ acc.getLast? = some 32 then sgo acc t else sgo (acc ++ [r]) t
def trimL (l : List Nat) : List Nat := l.dropWhile (· == 32)
def trimR (l : List Nat) : List Nat := (l.reverse.dropWhile (· == 32)).reverse
def nf (l : List Nat) : List Nat := trimL (trimR (sgo [] l))
/-- prep.mapped; none: ErrText -/
def mappedL (f : Bool) (l : List UInt8) : Option (List UInt8) := (runes l).bind fun rs => if rs.any bad = true then none else some (encs (sgo [] (mapd f rs)))
/-- prep.Prepare -/
def prepL (f : Bool) (l : List UInt8) : Option (List UInt8) := (runes l).bind fun rs => if rs.any bad = true then none else some (if nf (mapd f rs) = [] ∧ l ≠ [] then [32] else encs (nf (mapd f rs)))

/-! ### the step -/
theorem sgo_append (acc a b : List Nat) : sgo acc (a ++ b) = sgo (sgo acc a) b := by
  induction a generalizing acc with
  | nil => rfl
  | cons r t ih =>
    simp only [List.cons_append, sgo]
    split
    · exact ih acc
    · exact ih (acc ++ [r])
theorem sgo_snoc (acc a : List Nat) (r : Nat) : sgo acc (a ++ [r]) = if r = 32 ∧ (sgo acc a).getLast? = some 32 then sgo acc a else sgo acc a ++ [r] := by
  rw [sgo_append]
  simp only [sgo]
theorem mapd_snoc (f : Bool) (a : List Nat) (r : Nat) : mapd f (a ++ [r]) = mapd f a ++ (match stay r with | none => [] | some x => [fold1 f x]) := by
  unfold mapd
  rw [List.filterMap_append, List.map_append]
  cases h : stay r <;> simp [h]

/-! ### no two blanks beside one another -/
def nb (l : List Nat) : Prop := ∀ a b : List Nat, l ≠ a ++ 32 :: 32 :: b
theorem nb_infix {p m s : List Nat} (h : nb (p ++ m ++ s)) : nb m := by
  intro a b hm
  subst hm
  exact h (p ++ a) (b ++ s) (by simp)
theorem nb_nil : nb [] := by intro a b h; simp at h
theorem nb_snoc {l : List Nat} {r : Nat} (h : nb l) (hr : ¬ (r = 32 ∧ l.getLast? = some 32)) : nb (l ++ [r]) := by
  intro a b he
  rcases List.eq_nil_or_concat b with rfl | ⟨b', c, rfl⟩
  · have e2 : l ++ [r] = (a ++ [32]) ++ [32] := by simpa using he
    obtain ⟨h1, h2⟩ := List.append_inj' e2 rfl
    simp only [List.cons.injEq, and_true] at h2
    exact hr ⟨h2, by rw [h1]; simp⟩
  · have e2 : l ++ [r] = (a ++ 32 :: 32 :: b') ++ [c] := by simpa using he
    obtain ⟨h1, _⟩ := List.append_inj' e2 rfl
    exact h a b' h1
theorem nb_sgo (acc l : List Nat) (h : nb acc) : nb (sgo acc l) := by
  induction l generalizing acc with
  | nil => exact h
  | cons r t ih =>
    simp only [sgo]
    split
    · exact ih acc h
    · rename_i hc
      exact ih _ (nb_snoc h hc)
theorem sgo_nb (acc l : List Nat) (h : nb (acc ++ l)) : sgo acc l = acc ++ l := by
  induction l generalizing acc with
  | nil => simp [sgo]
  | cons r t ih =>
    simp only [sgo]
    rw [if_neg, ih (acc ++ [r]) (by simpa using h)]
    · simp
    · rintro ⟨rfl, hl⟩
      obtain ⟨a, ha⟩ : ∃ a, acc = a ++ [32] := by
        rcases List.eq_nil_or_concat acc with rfl | ⟨a, c, rfl⟩
        · simp at hl
        · refine ⟨a, ?_⟩
          simp only [List.concat_eq_append, List.getLast?_append, List.getLast?_singleton] at hl
          have hc : c = 32 := by simpa using hl
          simp [hc]
      subst ha
      exact h a t (by simp)
theorem mem_sgo {acc l : List Nat} {x : Nat} (h : x ∈ sgo acc l) : x ∈ acc ∨ x ∈ l := by
  induction l generalizing acc with
  | nil => exact .inl h
  | cons r t ih =>
    simp only [sgo] at h
    split at h
    · rcases ih h with h | h
      · exact .inl h
      · exact .inr (by simp [h])
    · rcases ih h with h | h
      · rcases List.mem_append.1 h with h | h
        · exact .inl h
        · exact .inr (by simp at h; simp [h])
      · exact .inr (by simp [h])

/-! ### trimming -/
theorem dw_suffix (p : Nat → Bool) (l : List Nat) : ∃ a, l = a ++ l.dropWhile p := ⟨l.takeWhile p, (List.takeWhile_append_dropWhile).symm⟩
theorem trimL_suffix (l : List Nat) : ∃ a, l = a ++ trimL l := dw_suffix _ l
theorem trimR_prefix (l : List Nat) : ∃ a, l = trimR l ++ a := by
  obtain ⟨a, ha⟩ := dw_suffix (· == 32) l.reverse
  refine ⟨a.reverse, ?_⟩
  unfold trimR
  rw [← List.reverse_append, ← ha, List.reverse_reverse]
theorem trimL_head (l : List Nat) : (trimL l).head? ≠ some 32 := by
  unfold trimL
  intro h
  have := List.head?_dropWhile_not (p := (· == 32)) (l := l)
  rw [h] at this
  simp at this
theorem trimR_last (l : List Nat) : (trimR l).getLast? ≠ some 32 := by
  unfold trimR
  rw [List.getLast?_reverse]
  exact trimL_head l.reverse
theorem trimL_id {l : List Nat} (h : l.head? ≠ some 32) : trimL l = l := by
  cases l with
  | nil => rfl
  | cons x t =>
    unfold trimL
    rw [List.dropWhile_cons_of_neg]
    simpa using h
theorem trimR_id {l : List Nat} (h : l.getLast? ≠ some 32) : trimR l = l := by
  unfold trimR
  have : l.reverse.dropWhile (· == 32) = l.reverse := trimL_id (by rwa [List.head?_reverse])
  rw [this, List.reverse_reverse]
theorem trimL_cons (l : List Nat) : trimL (32 :: l) = trimL l := by
  unfold trimL
  rw [List.dropWhile_cons_of_pos (by rfl)]
theorem trimR_snoc (l : List Nat) : trimR (l ++ [32]) = trimR l := by
  unfold trimR
  rw [List.reverse_append, List.reverse_singleton, List.singleton_append, List.dropWhile_cons_of_pos (by rfl)]
theorem trimR_cons_ne {x : Nat} (hx : x ≠ 32) (l : List Nat) : trimR (x :: l) = x :: trimR l := by
  rcases List.eq_nil_or_concat l with rfl | ⟨a, c, rfl⟩
  · rw [trimR_id (by simpa using hx)]
    rfl
  · unfold trimR
    simp only [List.concat_eq_append, List.reverse_cons, List.reverse_append, List.reverse_nil, List.nil_append, List.cons_append]
    rw [← List.cons_append, List.dropWhile_append]
    split
    · rename_i he
      have he' : List.dropWhile (· == 32) (c :: a.reverse) = [] := by simpa using he
      rw [he']
      rw [List.dropWhile_cons_of_neg (by simpa using hx)]
      rfl
    · rw [List.reverse_append]
      rfl
theorem nf_head (l : List Nat) : (nf l).head? ≠ some 32 := trimL_head _
theorem nf_last (l : List Nat) : (nf l).getLast? ≠ some 32 := by
  obtain ⟨a, ha⟩ := trimL_suffix (trimR (sgo [] l))
  have h2 := trimR_last (sgo [] l)
  show (trimL _).getLast? ≠ _
  intro h
  apply h2
  rw [ha, List.getLast?_append, h]
  rfl
theorem nf_nb (l : List Nat) : nb (nf l) := by
  obtain ⟨a, ha⟩ := trimR_prefix (sgo [] l)
  obtain ⟨b, hb⟩ := trimL_suffix (trimR (sgo [] l))
  have h := nb_sgo [] l nb_nil
  rw [ha, hb] at h
  exact nb_infix h
theorem nf_mem {l : List Nat} {x : Nat} (h : x ∈ nf l) : x ∈ l := by
  obtain ⟨a, ha⟩ := trimR_prefix (sgo [] l)
  obtain ⟨b, hb⟩ := trimL_suffix (trimR (sgo [] l))
  have : x ∈ sgo [] l := by rw [ha, hb]; exact List.mem_append_left _ (List.mem_append_right _ h)
  rcases mem_sgo this with h | h
  · cases h
  · exact h
theorem nf_id {l : List Nat} (h1 : nb l) (h2 : l.head? ≠ some 32) (h3 : l.getLast? ≠ some 32) : nf l = l := by
  unfold nf
  rw [sgo_nb [] l (by simpa using h1), List.nil_append, trimR_id h3, trimL_id h2]
theorem nf_nf (l : List Nat) : nf (nf l) = nf l := nf_id (nf_nb l) (nf_head l) (nf_last l)

/-! ### what stays is stable -/
theorem up_facts (r : Int) : (foldR r = r + 32 ∧ up32 r) ∨ (foldR r = r + 80 ∧ 1024 ≤ r ∧ r ≤ 1039) ∨ (foldR r = 223 ∧ r = 7838) ∨ (foldR r = r + 1 ∧ even1 r) ∨ (foldR r = r ∧ ¬ up32 r ∧ ¬ (1024 ≤ r ∧ r ≤ 1039) ∧ r ≠ 7838 ∧ ¬ even1 r) := by
  unfold foldR
  split
  · rename_i h; exact .inl ⟨rfl, h⟩
  · split
    · rename_i h; exact .inr (.inl ⟨rfl, h.1, h.2⟩)
    · split
      · rename_i h; exact .inr (.inr (.inl ⟨rfl, h⟩))
      · split
        · rename_i h; exact .inr (.inr (.inr (.inl ⟨rfl, h⟩)))
        · rename_i h1 h2 h3 h4; exact .inr (.inr (.inr (.inr ⟨rfl, h1, h2, h3, h4⟩)))
theorem fold_fold (r : Int) : foldR (foldR r) = foldR r := by
  have h1 := up_facts r
  have h2 := up_facts (foldR r)
  unfold up32 even1 at h1 h2
  omega
theorem fold_nonneg {r : Int} (h : 0 ≤ r) : 0 ≤ foldR r := by
  have h1 := up_facts r
  unfold up32 even1 at h1
  omega
theorem fold_32 (r : Int) : foldR r = 32 ↔ r = 32 := by
  have h1 := up_facts r
  unfold up32 even1 at h1
  omega
theorem blank_iff (r : Int) : blankR r = true ↔ ((9 ≤ r ∧ r ≤ 13) ∨ r = 133 ∨ r = 160 ∨ r = 5760 ∨ (8192 ≤ r ∧ r ≤ 8202) ∨ r = 8232 ∨ r = 8233 ∨ r = 8239 ∨ r = 8287 ∨ r = 12288) := by unfold blankR; exact decide_eq_true_iff
theorem goes_iff (r : Int) : goesR r = true ↔ ((0 ≤ r ∧ r < 32) ∨ (127 ≤ r ∧ r ≤ 159) ∨ r = 173 ∨ r = 847 ∨ r = 6150 ∨ (6155 ≤ r ∧ r ≤ 6158) ∨ (8203 ≤ r ∧ r ≤ 8207) ∨ (8234 ≤ r ∧ r ≤ 8238) ∨ (8288 ≤ r ∧ r ≤ 8303) ∨ (65024 ≤ r ∧ r ≤ 65039) ∨ r = 65279 ∨ (65529 ≤ r ∧ r ≤ 65532)) := by unfold goesR; exact decide_eq_true_iff
theorem bad_iff (r : Int) : badR r = true ↔ (r < 0 ∨ (55296 ≤ r ∧ r ≤ 63743) ∨ (65533 ≤ r ∧ r ≤ 65535) ∨ 983040 ≤ r) := by unfold badR; exact decide_eq_true_iff
/-- a plain character: neither a blank's kin, nor one that goes, nor one that is not taken -/
def Plain (r : Int) : Prop := ¬ blankR r = true ∧ ¬ goesR r = true ∧ ¬ badR r = true
theorem plain_fold {r : Int} (h : Plain r) : Plain (foldR r) := by
  unfold Plain at h ⊢
  rw [blank_iff, goes_iff, bad_iff] at h ⊢
  have h1 := up_facts r
  unfold up32 even1 at h1
  omega
theorem plain_32 : Plain 32 := by unfold Plain; rw [blank_iff, goes_iff, bad_iff]; omega
theorem plain_stay {r : Nat} (h : Plain r) : stay r = some r := by unfold stay; rw [if_neg h.1, if_neg h.2.1]
theorem plain_bad {r : Nat} (h : Plain r) : bad r = false := by
  unfold bad
  simp [h.2.2]
theorem stay_plain {r x : Nat} (hb : bad r = false) (h : stay r = some x) : Plain x := by
  unfold stay at h
  split at h
  · injection h with h; subst h; exact plain_32
  · split at h
    · cases h
    · rename_i h1 h2
      injection h with h
      subst h
      refine ⟨h1, h2, ?_⟩
      intro h3
      unfold bad at hb
      simp [h1, h2, h3] at hb
theorem plain_good {r : Nat} (h : Plain r) : Good r := by
  unfold Plain at h
  rw [bad_iff] at h
  unfold Good
  omega
theorem fold1_plain {f : Bool} {r : Nat} (h : Plain r) : Plain (fold1 f r) := by
  unfold fold1
  split
  · have h2 := plain_fold h
    have h0 : (0 : Int) ≤ foldR r := fold_nonneg (by omega)
    rw [Int.toNat_of_nonneg h0]
    exact h2
  · exact h
theorem fold1_fold1 (f : Bool) (r : Nat) : fold1 f (fold1 f r) = fold1 f r := by
  unfold fold1
  split
  · have h0 : (0 : Int) ≤ foldR r := fold_nonneg (by omega)
    rw [Int.toNat_of_nonneg h0, fold_fold]
  · rfl
theorem fold1_32 (f : Bool) (r : Nat) : fold1 f r = 32 ↔ r = 32 := by
  unfold fold1
  split
  · have h0 : (0 : Int) ≤ foldR r := fold_nonneg (by omega)
    have := fold_32 r
    omega
  · exact Iff.rfl
theorem mapd_plain {f : Bool} {rs : List Nat} (hb : rs.any bad = false) : ∀ x ∈ mapd f rs, Plain x ∧ fold1 f x = x := by
  intro x hx
  unfold mapd at hx
  obtain ⟨y, hy, rfl⟩ := List.mem_map.1 hx
  obtain ⟨r, hr, hs⟩ := List.mem_filterMap.1 hy
  have hbr : bad r = false := by
    have := List.any_eq_false.1 hb r hr
    simpa using this
  exact ⟨fold1_plain (stay_plain hbr hs), fold1_fold1 f y⟩
theorem mapd_id {f : Bool} : ∀ {l : List Nat}, (∀ x ∈ l, Plain x ∧ fold1 f x = x) → mapd f l = l
  | [], _ => rfl
  | x :: t, h => by
    have hx := h x (by simp)
    have ih := mapd_id (f := f) (l := t) (fun y hy => h y (by simp [hy]))
    unfold mapd at ih ⊢
    rw [List.filterMap_cons, plain_stay hx.1, List.map_cons, hx.2, ih]
theorem any_plain {l : List Nat} (h : ∀ x ∈ l, Plain x) : l.any bad = false := by
  rw [List.any_eq_false]
  intro x hx
  simp [plain_bad (h x hx)]

/-! ### chapter 3's laws -/
theorem prep_none {f : Bool} {l : List UInt8} : prepL f l = none ↔ ∀ rs, runes l = some rs → rs.any bad = true := by
  unfold prepL
  cases h : runes l with
  | none => simp
  | some rs =>
    simp only [Option.bind_some]
    by_cases hb : rs.any bad = true
    · rw [if_pos hb]
      exact ⟨fun _ qs hq => by injection hq with hq; subst hq; exact hb, fun _ => rfl⟩
    · rw [if_neg hb]
      exact ⟨fun h => (by cases h), fun h => absurd (h rs rfl) hb⟩
theorem prep_some {f : Bool} {l a : List UInt8} (h : prepL f l = some a) : ∃ rs, runes l = some rs ∧ rs.any bad = false ∧ a = if nf (mapd f rs) = [] ∧ l ≠ [] then [32] else encs (nf (mapd f rs)) := by
  unfold prepL at h
  obtain ⟨rs, hr, h⟩ := Option.bind_eq_some_iff.1 h
  split at h
  · cases h
  · rename_i hb
    injection h with h
    exact ⟨rs, hr, by simpa using hb, h.symm⟩
theorem prep_of {f : Bool} {l : List UInt8} {rs : List Nat} (hr : runes l = some rs) (hb : rs.any bad = false) : prepL f l = some (if nf (mapd f rs) = [] ∧ l ≠ [] then [32] else encs (nf (mapd f rs))) := by
  unfold prepL
  rw [hr, Option.bind_some, if_neg (by simp [hb])]
theorem runes_32 : runes [32] = some [32] := by
  have := runes_encs [32] (by intro r hr; simp at hr; subst hr; exact plain_good plain_32)
  have e : encs [32] = [32] := by
    show enc 32 ++ [] = _
    rw [enc_one (by omega)]
    rfl
  rwa [e] at this
theorem prep_32 (f : Bool) : prepL f [32] = some [32] := by
  rw [prep_of runes_32 (by decide)]
  have : nf (mapd f [32]) = [] := by cases f <;> decide
  rw [if_pos ⟨this, by simp⟩]
/-- a list of stable runes in normal form is prepared to itself -/
theorem prep_stable {f : Bool} {q : List Nat} (h : ∀ x ∈ q, Plain x ∧ fold1 f x = x) (h1 : nb q) (h2 : q.head? ≠ some 32) (h3 : q.getLast? ≠ some 32) : prepL f (encs q) = some (encs q) := by
  rw [prep_of (runes_encs q (fun r hr => plain_good (h r hr).1)) (any_plain fun x hx => (h x hx).1), mapd_id h, nf_id h1 h2 h3]
  split
  · rename_i hc
    rw [hc.1] at hc
    exact absurd rfl hc.2
  · rfl
/-- P306: what is prepared is prepared -/
theorem prep_prep {f : Bool} {l a : List UInt8} (h : prepL f l = some a) : prepL f a = some a := by
  obtain ⟨rs, hr, hb, rfl⟩ := prep_some h
  split
  · exact prep_32 f
  · exact prep_stable (fun x hx => mapd_plain hb x (nf_mem hx)) (nf_nb _) (nf_head _) (nf_last _)
theorem prep_text {f : Bool} {l a : List UInt8} (h : prepL f l = some a) : validD a = true := by
  obtain ⟨rs, hr, hb, rfl⟩ := prep_some h
  rw [validD_runes]
  split
  · rw [runes_32]; rfl
  · rw [runes_encs _ (fun x hx => plain_good (mapd_plain hb x (nf_mem hx)).1)]; rfl
theorem prep_empty {f : Bool} {l a : List UInt8} (h : prepL f l = some a) : a = [] ↔ l = [] := by
  obtain ⟨rs, hr, hb, rfl⟩ := prep_some h
  constructor
  · intro he
    split at he
    · cases he
    · rename_i hc
      have := encs_nil he
      exact Classical.byContradiction fun hl => hc ⟨this, hl⟩
  · rintro rfl
    rw [runes_nil] at hr
    injection hr with hr
    subst hr
    rw [if_neg (fun hc => hc.2 rfl)]
    cases f <;> rfl
end Go.Proofs.YtdfdponenhfbjaaDoor.Pl
