/- Merged out of Dp Dq Dr Ds Dt Du (by wip/tools/merge.py). -/
import Derived.Lib.Strings
import Derived.Lib.DecodeN
import Derived.Lib.ValidLaws
import Derived.Lib.Split
import Derived.Lib.SlTrimSet
import Derived.Lib.Join
section
/- What package dn computes, in plain Lean over lists of bytes: reading and writing names. No program. Conditions: none. -/
namespace Go.Proofs.YtcpjldhpboodnaaDoor.Dp
open Go

abbrev Bs := List UInt8
abbrev Ava := Bs × Bs
def letterB (c : UInt8) : Bool := (decide (97 ≤ c.toNat) && decide (c.toNat ≤ 122)) || (decide (65 ≤ c.toNat) && decide (c.toNat ≤ 90))
def digitB (c : UInt8) : Bool := decide (48 ≤ c.toNat) && decide (c.toNat ≤ 57)
def inTypeB (c : UInt8) : Bool := letterB c || digitB c || c == 45 || c == 46
def splitDots : Bs → List Bs
  | [] => [[]]
  | c :: r => if c = 46 then [] :: splitDots r else match splitDots r with
    | [] => [[c]]
    | p :: ps => (c :: p) :: ps
def numOk (n : Bs) : Bool := !n.isEmpty && !(decide (1 < n.length) && n.headD 0 == 48) && n.all digitB
def isOid (s : Bs) : Bool := (splitDots s).all numOk && decide (1 < (splitDots s).length)
def isType : Bs → Bool
  | [] => false
  | c :: r => decide ((c :: r).length ≤ 64) && (if letterB c then (c :: r).all (fun c => inTypeB c && !(c == 46)) else isOid (c :: r))
def hv (c : UInt8) : Option Nat := if 48 ≤ c.toNat ∧ c.toNat ≤ 57 then some (c.toNat - 48) else if 97 ≤ c.toNat ∧ c.toNat ≤ 102 then some (c.toNat - 87) else if 65 ≤ c.toNat ∧ c.toNat ≤ 70 then some (c.toNat - 55) else none
def hexB (c : UInt8) : Bool := (hv c).isSome
def byte2 (c d : UInt8) : Option UInt8 := (hv c).bind fun a => (hv d).map fun b => UInt8.ofNat (16 * a + b)
def unhex : Bs → Option Bs
  | [] => some []
  | [_] => none
  | a :: b :: r => (byte2 a b).bind fun x => (unhex r).map (x :: ·)
def special (c : UInt8) : Bool := c == 34 || c == 43 || c == 44 || c == 59 || c == 60 || c == 62 || c == 92
def escapable (c : UInt8) : Bool := special c || c == 61 || c == 35 || c == 32
def blanks (l : Bs) : Bs := l.dropWhile (· == 32)
def typL (l : Bs) : Option (Bs × Bs) := if isType (l.takeWhile inTypeB) then some (l.takeWhile inTypeB, l.dropWhile inTypeB) else none
/-- behind the sign # -/
def hexL (l : Bs) : Option (Bs × Bs) := (unhex (l.takeWhile hexB)).bind fun b => if b = [] then none else some (b, l.dropWhile hexB)
/-- behind the backslash -/
def escL : Bs → Option (UInt8 × Bs)
  | [] => none
  | c :: r => if escapable c then some (c, r) else match r with
    | [] => none
    | d :: r' => (byte2 c d).map fun x => (x, r')
def valGo : Nat → Bs → Nat → Bs → Option (Bs × Bs)
  | _, acc, long, [] => some (acc.take long, [])
  | 0, acc, long, c :: r => some (acc.take long, c :: r)
  | n + 1, acc, long, c :: r =>
    if c = 44 ∨ c = 43 then some (acc.take long, c :: r)
    else if c = 92 then (match escL r with
      | none => none
      | some (b, r') => valGo n (acc ++ [b]) (acc.length + 1) r')
    else if c = 0 ∨ special c = true then none
    else valGo n (acc ++ [c]) (if c = 32 then long else acc.length + 1) r
theorem escL_len {r r' : Bs} {b : UInt8} (h : escL r = some (b, r')) : r'.length < r.length := by
  cases r with
  | nil => cases h
  | cons c r =>
    simp only [escL] at h
    split at h
    · injection h with h
      injection h with _ h
      subst h
      simp
    · cases r with
      | nil => cases h
      | cons d r2 =>
        obtain ⟨x, _, h⟩ := Option.map_eq_some_iff.1 h
        injection h with _ h
        subst h
        simp
        omega
theorem valGo_fuel : ∀ (n m : Nat) (acc : Bs) (long : Nat) (l : Bs), l.length ≤ n → l.length ≤ m → valGo n acc long l = valGo m acc long l
  | n, m, acc, long, [], _, _ => by cases n <;> cases m <;> rfl
  | 0, _, _, _, _ :: _, h, _ => by simp at h
  | _ + 1, 0, _, _, _ :: _, _, h => by simp at h
  | n + 1, m + 1, acc, long, c :: r, h1, h2 => by
    simp only [List.length_cons, Nat.add_le_add_iff_right] at h1 h2
    simp only [valGo]
    split
    · rfl
    · split
      · cases he : escL r with
        | none => rfl
        | some x =>
          have := escL_len (show escL r = some (x.1, x.2) from he)
          exact valGo_fuel n m _ _ _ (by omega) (by omega)
      · split
        · rfl
        · exact valGo_fuel n m _ _ _ h1 h2
def valF (acc : Bs) (long : Nat) (l : Bs) : Option (Bs × Bs) := valGo l.length acc long l
theorem valF_nil (acc : Bs) (long : Nat) : valF acc long [] = some (acc.take long, []) := rfl
theorem valF_cons (acc : Bs) (long : Nat) (c : UInt8) (r : Bs) : valF acc long (c :: r) =
    if c = 44 ∨ c = 43 then some (acc.take long, c :: r)
    else if c = 92 then (match escL r with
      | none => none
      | some (b, r') => valF (acc ++ [b]) (acc.length + 1) r')
    else if c = 0 ∨ special c = true then none
    else valF (acc ++ [c]) (if c = 32 then long else acc.length + 1) r := by
  show valGo (r.length + 1) acc long (c :: r) = _
  simp only [valGo]
  split
  · rfl
  · split
    · cases he : escL r with
      | none => rfl
      | some x =>
        have := escL_len (show escL r = some (x.1, x.2) from he)
        exact valGo_fuel _ _ _ _ _ (by omega) (Nat.le_refl _)
    · rfl
def valueL : Bs → Option (Bs × Bs)
  | [] => valF [] 0 []
  | c :: r => if c = 35 then hexL r else valF [] 0 (c :: r)
def pairL (l : Bs) : Option (Ava × Bs) :=
  (typL (blanks l)).bind fun x => match blanks x.2 with
    | [] => none
    | c :: r => if c = 61 then (valueL (blanks r)).map fun y => ((x.1, y.1), blanks y.2) else none
def partGo : Nat → List Ava → Bs → Option (List Ava × Bs)
  | _, acc, [] => some (acc, [])
  | 0, acc, c :: r => some (acc, c :: r)
  | n + 1, acc, c :: r => if c = 43 then (match pairL r with
    | none => none
    | some (a, r') => partGo n (acc ++ [a]) r') else some (acc, c :: r)
theorem dw_len (p : UInt8 → Bool) (l : Bs) : (l.dropWhile p).length ≤ l.length := (List.dropWhile_suffix p).length_le
theorem valGo_len : ∀ (n : Nat) (acc : Bs) (long : Nat) (l v r : Bs), valGo n acc long l = some (v, r) → r.length ≤ l.length
  | n, acc, long, [], v, r, h => by
    have : valGo n acc long [] = some (acc.take long, []) := by cases n <;> rfl
    rw [this] at h
    injection h with h
    injection h with _ h
    subst h
    exact Nat.le_refl _
  | 0, _, _, _ :: _, _, _, h => by
    injection h with h
    injection h with _ h
    subst h
    exact Nat.le_refl _
  | n + 1, acc, long, c :: l, v, r, h => by
    simp only [valGo] at h
    split at h
    · injection h with h
      injection h with _ h
      subst h
      exact Nat.le_refl _
    · split at h
      · cases he : escL l with
        | none => rw [he] at h; cases h
        | some x =>
          rw [he] at h
          have h1 := escL_len (show escL l = some (x.1, x.2) from he)
          have h2 := valGo_len n _ _ _ _ _ h
          simp only [List.length_cons]
          omega
      · split at h
        · cases h
        · have h2 := valGo_len n _ _ _ _ _ h
          simp only [List.length_cons]
          omega
theorem valueL_len {l v r : Bs} (h : valueL l = some (v, r)) : r.length ≤ l.length := by
  cases l with
  | nil => exact valGo_len _ _ _ _ _ _ h
  | cons c t =>
    simp only [valueL] at h
    split at h
    · unfold hexL at h
      obtain ⟨b, _, h⟩ := Option.bind_eq_some_iff.1 h
      split at h
      · cases h
      · injection h with h
        injection h with _ h
        subst h
        have := dw_len hexB t
        simp only [List.length_cons]
        omega
    · exact valGo_len _ _ _ _ _ _ h
theorem pairL_len {l r : Bs} {a : Ava} (h : pairL l = some (a, r)) : r.length < l.length := by
  unfold pairL at h
  obtain ⟨x, hx, h⟩ := Option.bind_eq_some_iff.1 h
  unfold typL at hx
  split at hx
  · injection hx with hx
    subst hx
    have h1 := dw_len (· == 32) l
    have h2 := dw_len inTypeB (blanks l)
    have h3 := dw_len (· == 32) ((blanks l).dropWhile inTypeB)
    unfold blanks at h1 h2 h3 h
    revert h h3
    generalize List.dropWhile (· == 32) (List.dropWhile inTypeB (List.dropWhile (· == 32) l)) = q
    cases q with
    | nil => intro h _; cases h
    | cons c t =>
      intro h h3
      simp only at h
      split at h
      · obtain ⟨y, hy, h⟩ := Option.map_eq_some_iff.1 h
        injection h with _ h
        subst h
        have h4 := dw_len (· == 32) t
        have h5 := valueL_len (show valueL _ = some (y.1, y.2) from hy)
        have h6 := dw_len (· == 32) y.2
        simp only [List.length_cons] at h3
        omega
      · cases h
  · cases hx
theorem partGo_fuel : ∀ (n m : Nat) (acc : List Ava) (l : Bs), l.length ≤ n → l.length ≤ m → partGo n acc l = partGo m acc l
  | n, m, acc, [], _, _ => by cases n <;> cases m <;> rfl
  | 0, _, _, _ :: _, h, _ => by simp at h
  | _ + 1, 0, _, _ :: _, _, h => by simp at h
  | n + 1, m + 1, acc, c :: r, h1, h2 => by
    simp only [List.length_cons, Nat.add_le_add_iff_right] at h1 h2
    simp only [partGo]
    split
    · cases he : pairL r with
      | none => rfl
      | some x =>
        have := pairL_len (show pairL r = some (x.1, x.2) from he)
        exact partGo_fuel n m _ _ (by omega) (by omega)
    · rfl
def partF (acc : List Ava) (l : Bs) : Option (List Ava × Bs) := partGo l.length acc l
theorem partF_nil (acc : List Ava) : partF acc [] = some (acc, []) := rfl
theorem partF_cons (acc : List Ava) (c : UInt8) (r : Bs) : partF acc (c :: r) = if c = 43 then (match pairL r with
    | none => none
    | some (a, r') => partF (acc ++ [a]) r') else some (acc, c :: r) := by
  show partGo (r.length + 1) acc (c :: r) = _
  simp only [partGo]
  split
  · cases he : pairL r with
    | none => rfl
    | some x =>
      have := pairL_len (show pairL r = some (x.1, x.2) from he)
      exact partGo_fuel _ _ _ _ (by omega) (Nat.le_refl _)
  · rfl
def partL (l : Bs) : Option (List Ava × Bs) := (pairL l).bind fun x => partF [x.1] x.2
theorem partGo_len : ∀ (n : Nat) (acc : List Ava) (l : Bs) (as : List Ava) (r : Bs), partGo n acc l = some (as, r) → r.length ≤ l.length
  | n, acc, [], as, r, h => by
    have : partGo n acc [] = some (acc, []) := by cases n <;> rfl
    rw [this] at h
    injection h with h
    injection h with _ h
    subst h
    exact Nat.le_refl _
  | 0, _, _ :: _, _, _, h => by
    injection h with h
    injection h with _ h
    subst h
    exact Nat.le_refl _
  | n + 1, acc, c :: l, as, r, h => by
    simp only [partGo] at h
    split at h
    · cases he : pairL l with
      | none => rw [he] at h; cases h
      | some x =>
        rw [he] at h
        have h1 := pairL_len (show pairL l = some (x.1, x.2) from he)
        have h2 := partGo_len n _ _ _ _ h
        simp only [List.length_cons]
        omega
    · injection h with h
      injection h with _ h
      subst h
      exact Nat.le_refl _
theorem partL_len {l r : Bs} {as : List Ava} (h : partL l = some (as, r)) : r.length < l.length := by
  unfold partL at h
  obtain ⟨x, hx, h⟩ := Option.bind_eq_some_iff.1 h
  have h1 := pairL_len (show pairL l = some (x.1, x.2) from hx)
  have h2 := partGo_len _ _ _ _ _ h
  omega
def nameGo : Nat → List (List Ava) → Bs → Option (List (List Ava) × Bs)
  | _, acc, [] => some (acc, [])
  | 0, acc, c :: r => some (acc, c :: r)
  | n + 1, acc, c :: r => if c = 44 then (match partL r with
    | none => none
    | some (a, r') => nameGo n (acc ++ [a]) r') else some (acc, c :: r)
theorem nameGo_fuel : ∀ (n m : Nat) (acc : List (List Ava)) (l : Bs), l.length ≤ n → l.length ≤ m → nameGo n acc l = nameGo m acc l
  | n, m, acc, [], _, _ => by cases n <;> cases m <;> rfl
  | 0, _, _, _ :: _, h, _ => by simp at h
  | _ + 1, 0, _, _ :: _, _, h => by simp at h
  | n + 1, m + 1, acc, c :: r, h1, h2 => by
    simp only [List.length_cons, Nat.add_le_add_iff_right] at h1 h2
    simp only [nameGo]
    split
    · cases he : partL r with
      | none => rfl
      | some x =>
        have := partL_len (show partL r = some (x.1, x.2) from he)
        exact nameGo_fuel n m _ _ (by omega) (by omega)
    · rfl
def nameF (acc : List (List Ava)) (l : Bs) : Option (List (List Ava) × Bs) := nameGo l.length acc l
theorem nameF_nil (acc : List (List Ava)) : nameF acc [] = some (acc, []) := rfl
theorem nameF_cons (acc : List (List Ava)) (c : UInt8) (r : Bs) : nameF acc (c :: r) = if c = 44 then (match partL r with
    | none => none
    | some (a, r') => nameF (acc ++ [a]) r') else some (acc, c :: r) := by
  show nameGo (r.length + 1) acc (c :: r) = _
  simp only [nameGo]
  split
  · cases he : partL r with
    | none => rfl
    | some x =>
      have := partL_len (show partL r = some (x.1, x.2) from he)
      exact nameGo_fuel _ _ _ _ (by omega) (Nat.le_refl _)
  · rfl
def nameL (s : Bs) : Option (List (List Ava)) :=
  if s = [] then some [] else (partL s).bind fun x => (nameF [x.1] x.2).bind fun y => if y.2 = [] then some y.1 else none
def tooLong (d : List (List Ava)) : Bool := decide (20 < d.length) || d.any fun r => decide (4 < r.length) || r.any fun a => decide (1024 < a.2.length)
/-- what Parse answers: the name, or the error's number -/
def parseL (s : Bs) : List (List Ava) × Nat :=
  if 65536 < s.length then ([], 2) else match nameL s with
    | none => ([], 30)
    | some d => if tooLong d then ([], 2) else (d, 0)
end Go.Proofs.YtcpjldhpboodnaaDoor.Dp
end
section
/- What package dn writes is read as it was, in plain Lean over lists of bytes. No program. Conditions: none. -/
namespace Go.Proofs.YtcpjldhpboodnaaDoor.Dp
open Go

def hexDigit (n : Nat) : UInt8 := if n < 10 then UInt8.ofNat (48 + n) else UInt8.ofNat (87 + n)
def hexW (v : Bs) : Bs := v.flatMap fun c => [hexDigit (c.toNat / 16), hexDigit (c.toNat % 16)]
def escW : Bool → Bs → Bs
  | _, [] => []
  | f, c :: r => (if c = 0 then [92, 48, 48] else if (special c || (f && (c == 35 || c == 32)) || (r.isEmpty && c == 32)) = true then [92, c] else [c]) ++ escW false r
def written (v : Bs) : Bs := if Lib.validD v = true then escW true v else 35 :: hexW v
def rep (n : Nat) : Bs := List.replicate n 32
def pairN (n : Nat) (a : Ava) : Bs := a.1 ++ (rep n ++ 61 :: (rep n ++ written a.2))
def joinN (n : Nat) (sep : UInt8) : List Bs → Bs
  | [] => []
  | [x] => x
  | x :: y :: r => x ++ (rep n ++ sep :: (rep n ++ joinN n sep (y :: r)))
def partN (n : Nat) (r : List Ava) : Bs := joinN n 43 (r.map (pairN n))
def nameN (n : Nat) (d : List (List Ava)) : Bs := joinN n 44 (d.map (partN n))
def wrong (d : List (List Ava)) : Bool := d.any fun r => r.isEmpty || r.any fun a => !isType a.1
/-- what Print answers: the text, the error's number -/
def printL (d : List (List Ava)) : Bs × Nat := if wrong d then ([], 30) else if tooLong d then ([], 2) else if 65536 < (nameN 0 d).length then ([], 2) else (nameN 0 d, 0)

/-- what may stand behind a pair -/
def EndP (l : Bs) : Prop := l = [] ∨ ∃ r, l = 44 :: r ∨ l = 43 :: r
theorem EndP.head {l : Bs} (h : EndP l) : ∀ c ∈ l.head?, c = 44 ∨ c = 43 := by
  rcases h with rfl | ⟨r, rfl | rfl⟩ <;> simp
theorem blanks_rep (n : Nat) (l : Bs) : blanks (rep n ++ l) = blanks l := by
  unfold blanks rep
  induction n with
  | zero => simp
  | succ k ih => rw [List.replicate_succ, List.cons_append, List.dropWhile_cons_of_pos (by decide), ih]
theorem blanks_id {l : Bs} (h : ∀ c ∈ l.head?, c ≠ 32) : blanks l = l := by
  unfold blanks
  cases l with
  | nil => rfl
  | cons c r =>
    have : c ≠ 32 := h c (by simp)
    rw [List.dropWhile_cons_of_neg (by simpa using this)]
theorem EndP.blanks {l : Bs} (h : EndP l) : blanks l = l := blanks_id (fun c hc => by rcases h.head c hc with rfl | rfl <;> decide)
theorem tw_app (p : UInt8 → Bool) (a b : Bs) (ha : ∀ c ∈ a, p c = true) (hb : ∀ c ∈ b.head?, p c = false) : (a ++ b).takeWhile p = a ∧ (a ++ b).dropWhile p = b := by
  induction a with
  | nil =>
    cases b with
    | nil => exact ⟨rfl, rfl⟩
    | cons c r =>
      have : p c = false := hb c (by simp)
      exact ⟨by rw [List.nil_append, List.takeWhile_cons_of_neg (by simp [this])], by rw [List.nil_append, List.dropWhile_cons_of_neg (by simp [this])]⟩
  | cons x t ih =>
    have hx := ha x (by simp)
    obtain ⟨h1, h2⟩ := ih (fun c hc => ha c (by simp [hc]))
    exact ⟨by rw [List.cons_append, List.takeWhile_cons_of_pos hx, h1], by rw [List.cons_append, List.dropWhile_cons_of_pos hx, h2]⟩
theorem rep_head (n : Nat) (l : Bs) : ∀ c ∈ (rep n ++ l).head?, c = 32 ∨ c ∈ l.head? := by
  intro c hc
  cases n with
  | zero => exact .inr (by simpa [rep] using hc)
  | succ k => left; simpa [rep, List.replicate_succ] using hc.symm

/-! ### types -/
theorem splitDots_mem : ∀ (s : Bs) (c : UInt8), c ∈ s → c = 46 ∨ ∃ p ∈ splitDots s, c ∈ p
  | x :: r, c, h => by
    simp only [splitDots]
    by_cases hx : x = 46
    · rw [if_pos hx]
      rcases List.mem_cons.1 h with rfl | h
      · exact .inl hx
      · rcases splitDots_mem r c h with h | ⟨p, hp, hc⟩
        · exact .inl h
        · exact .inr ⟨p, by simp [hp], hc⟩
    · rw [if_neg hx]
      cases hs : splitDots r with
      | nil =>
        rcases List.mem_cons.1 h with rfl | h
        · exact .inr ⟨[c], by simp, by simp⟩
        · rcases splitDots_mem r c h with h | ⟨p, hp, _⟩
          · exact .inl h
          · rw [hs] at hp; cases hp
      | cons q qs =>
        rcases List.mem_cons.1 h with rfl | h
        · exact .inr ⟨c :: q, by simp, by simp⟩
        · rcases splitDots_mem r c h with h | ⟨p, hp, hc⟩
          · exact .inl h
          · rw [hs] at hp
            rcases List.mem_cons.1 hp with rfl | hp
            · exact .inr ⟨x :: p, by simp, by simp [hc]⟩
            · exact .inr ⟨p, by simp [hp], hc⟩
theorem isType_in {t : Bs} (h : isType t = true) : ∀ c ∈ t, inTypeB c = true := by
  cases t with
  | nil => cases h
  | cons x r =>
    simp only [isType, Bool.and_eq_true] at h
    obtain ⟨_, h⟩ := h
    intro c hc
    split at h
    · have := List.all_eq_true.1 h c hc
      rw [Bool.and_eq_true] at this
      exact this.1
    · unfold isOid at h
      rw [Bool.and_eq_true] at h
      rcases splitDots_mem _ c hc with rfl | ⟨p, hp, hcp⟩
      · decide
      · have := List.all_eq_true.1 h.1 p hp
        unfold numOk at this
        rw [Bool.and_eq_true] at this
        have := List.all_eq_true.1 this.2 c hcp
        unfold inTypeB
        rw [this]
        simp
theorem isType_ne {t : Bs} (h : isType t = true) : t ≠ [] := by
  rintro rfl
  cases h
theorem inType_not (c : UInt8) (h : c = 32 ∨ c = 61 ∨ c = 44 ∨ c = 43) : inTypeB c = false := by rcases h with rfl | rfl | rfl | rfl <;> decide

/-! ### hexadecimal digits -/
theorem hv_digit : ∀ n : Nat, n < 16 → hv (hexDigit n) = some n := by decide
theorem unhex_hexW : ∀ v : Bs, unhex (hexW v) = some v
  | [] => rfl
  | c :: r => by
    have hc := UInt8.toNat_lt c
    have e : hexW (c :: r) = hexDigit (c.toNat / 16) :: hexDigit (c.toNat % 16) :: hexW r := rfl
    rw [e]
    simp only [unhex, byte2]
    rw [hv_digit _ (by omega), hv_digit _ (by omega), unhex_hexW r]
    have e2 : 16 * (c.toNat / 16) + c.toNat % 16 = c.toNat := by omega
    simp only [Option.bind_some, Option.map_some]
    rw [e2, UInt8.ofNat_toNat]
theorem hexW_hex (v : Bs) : ∀ c ∈ hexW v, hexB c = true := by
  intro c hc
  unfold hexW at hc
  obtain ⟨x, _, hx⟩ := List.mem_flatMap.1 hc
  have hl := UInt8.toNat_lt x
  unfold hexB
  rcases List.mem_cons.1 hx with rfl | hx
  · rw [hv_digit _ (by omega)]; rfl
  · rw [List.mem_singleton.1 hx, hv_digit _ (by omega)]; rfl
theorem hex_not (c : UInt8) (h : c = 32 ∨ c = 44 ∨ c = 43) : hexB c = false := by rcases h with rfl | rfl | rfl <;> decide

/-! ### values -/
theorem valF_end {p : Bs} {long : Nat} {l : Bs} (h : EndP l) : valF p long l = some (p.take long, l) := by
  rcases h with rfl | ⟨r, rfl | rfl⟩
  · rfl
  · rw [valF_cons, if_pos (by decide)]
  · rw [valF_cons, if_pos (by decide)]
theorem valF_blanks : ∀ (n : Nat) {p : Bs} {long : Nat} {l : Bs}, EndP l → long ≤ p.length → valF p long (rep n ++ l) = some (p.take long, l)
  | 0, p, long, l, h, _ => by rw [rep, List.replicate_zero, List.nil_append]; exact valF_end h
  | n + 1, p, long, l, h, hl => by
    have e : rep (n + 1) ++ l = 32 :: (rep n ++ l) := rfl
    rw [e, valF_cons, if_neg (by decide), if_neg (by decide), if_neg (by decide), if_pos rfl, valF_blanks n h (by simp; omega)]
    rw [List.take_append_of_le_length hl]
theorem esc_read (n : Nat) {rest : Bs} (hr : EndP rest) : ∀ (r : Bs) (f : Bool) (p : Bs) (long : Nat), long ≤ p.length →
    valF p long (escW f r ++ (rep n ++ rest)) = some (if r = [] then p.take long else p ++ r, rest)
  | [], f, p, long, hl => by
    rw [if_pos rfl, escW, List.nil_append]
    exact valF_blanks n hr hl
  | c :: r, f, p, long, hl => by
    rw [if_neg (by simp)]
    have key : ∀ long', long' ≤ (p ++ [c]).length → (r = [] → long' = (p ++ [c]).length) → valF (p ++ [c]) long' (escW false r ++ (rep n ++ rest)) = some (p ++ c :: r, rest) := by
      intro long' h1 h2
      rw [esc_read n hr r false (p ++ [c]) long' h1]
      by_cases e : r = []
      · rw [if_pos e, h2 e, List.take_length, e]
      · rw [if_neg e, List.append_assoc]; rfl
    rw [escW]
    by_cases h0 : c = 0
    · subst h0
      rw [if_pos rfl, List.append_assoc]
      show valF p long (92 :: ([48, 48] ++ (escW false r ++ (rep n ++ rest)))) = _
      rw [valF_cons, if_neg (by decide), if_pos rfl]
      show (match escL (48 :: 48 :: (escW false r ++ (rep n ++ rest))) with | none => none | some (b, r') => valF (p ++ [b]) (p.length + 1) r') = _
      have e : escL (48 :: 48 :: (escW false r ++ (rep n ++ rest))) = some (0, escW false r ++ (rep n ++ rest)) := by
        simp only [escL]
        rw [if_neg (by decide)]
        rfl
      rw [e]
      exact key _ (by simp) (fun _ => by simp)
    · rw [if_neg h0]
      by_cases hs : (special c || (f && (c == 35 || c == 32)) || (r.isEmpty && c == 32)) = true
      · rw [if_pos hs, List.append_assoc]
        show valF p long (92 :: (c :: (escW false r ++ (rep n ++ rest)))) = _
        rw [valF_cons, if_neg (by decide), if_pos rfl]
        have hesc : escapable c = true := by
          unfold escapable
          simp only [Bool.or_eq_true, Bool.and_eq_true] at hs ⊢
          rcases hs with (h | ⟨_, h | h⟩) | ⟨_, h⟩
          · exact .inl (.inl (.inl h))
          · exact .inl (.inr h)
          · exact .inr h
          · exact .inr h
        have e : escL (c :: (escW false r ++ (rep n ++ rest))) = some (c, escW false r ++ (rep n ++ rest)) := by
          simp only [escL]
          rw [if_pos hesc]
        rw [e]
        exact key _ (by simp) (fun _ => by simp)
      · rw [if_neg hs, List.append_assoc]
        show valF p long (c :: (escW false r ++ (rep n ++ rest))) = _
        simp only [Bool.or_eq_true, Bool.and_eq_true, not_or, not_and, Bool.not_eq_true] at hs
        obtain ⟨⟨hsp, _⟩, hlast⟩ := hs
        have hsp' : ¬ special c = true := by simp [hsp]
        rw [valF_cons, if_neg, if_neg, if_neg]
        · by_cases h32 : c = 32
          · subst h32
            rw [if_pos rfl]
            refine key _ (by simp; omega) (fun e => ?_)
            exfalso
            subst e
            exact absurd (hlast rfl) (by decide)
          · rw [if_neg h32]
            exact key _ (by simp) (fun _ => by simp)
        · rintro (h | h)
          · exact h0 h
          · exact hsp' h
        · rintro rfl
          exact hsp' (by decide)
        · rintro (rfl | rfl) <;> exact hsp' (by decide)

theorem escW_head (v : Bs) : ∀ c ∈ (escW true v).head?, c ≠ 32 ∧ c ≠ 35 := by
  cases v with
  | nil => simp [escW]
  | cons x r =>
    intro c hc
    rw [escW] at hc
    by_cases h0 : x = 0
    · rw [if_pos h0] at hc
      have : c = 92 := by simpa using hc.symm
      subst this
      decide
    · rw [if_neg h0] at hc
      by_cases hs : (special x || (true && (x == 35 || x == 32)) || (r.isEmpty && x == 32)) = true
      · rw [if_pos hs] at hc
        have : c = 92 := by simpa using hc.symm
        subst this
        decide
      · rw [if_neg hs] at hc
        have : c = x := by simpa using hc.symm
        subst this
        simp only [Bool.or_eq_true, Bool.and_eq_true, not_or, not_and, Bool.not_eq_true, Bool.true_and] at hs
        have h1 := hs.1.2.1
        have h2 := hs.1.2.2
        exact ⟨by simpa using h2, by simpa using h1⟩
theorem escW_ne {v : Bs} (h : v ≠ []) (f : Bool) : escW f v ≠ [] := by
  cases v with
  | nil => exact absurd rfl h
  | cons x r =>
    rw [escW]
    split
    · simp
    · split <;> simp

theorem value_read (k n : Nat) (v : Bs) {rest : Bs} (hr : EndP rest) : ∃ y, valueL (blanks (rep k ++ (written v ++ (rep n ++ rest)))) = some (v, y) ∧ blanks y = rest := by
  rw [blanks_rep]
  unfold written
  by_cases hv : Lib.validD v = true
  · rw [if_pos hv]
    by_cases hne : v = []
    · subst hne
      rw [show escW true [] = [] from rfl, List.nil_append, blanks_rep, hr.blanks]
      refine ⟨rest, ?_, hr.blanks⟩
      rcases hr with rfl | ⟨r, rfl | rfl⟩
      · rfl
      · simp only [valueL]
        rw [if_neg (by decide), valF_cons, if_pos (by decide)]
        rfl
      · simp only [valueL]
        rw [if_neg (by decide), valF_cons, if_pos (by decide)]
        rfl
    · have hnn := escW_ne hne true
      have hh := escW_head v
      have hrd := esc_read n hr v true [] 0 (Nat.le_refl _)
      rw [if_neg hne, List.nil_append] at hrd
      cases he : escW true v with
      | nil => exact absurd he hnn
      | cons c t =>
        rw [he] at hh hrd
        obtain ⟨h1, h2⟩ := hh c (by simp)
        refine ⟨rest, ?_, hr.blanks⟩
        rw [blanks_id (by intro x hx; have : x = c := by simpa using hx.symm
                          subst this; exact h1), List.cons_append]
        simp only [valueL]
        rw [if_neg h2]
        exact hrd
  · rw [if_neg hv]
    have hne : v ≠ [] := by
      rintro rfl
      exact hv (by decide)
    refine ⟨rep n ++ rest, ?_, by rw [blanks_rep, hr.blanks]⟩
    rw [List.cons_append, blanks_id (by intro x hx; have : x = 35 := by simpa using hx.symm
                                        subst this; decide)]
    show (if (35 : UInt8) = 35 then hexL (hexW v ++ (rep n ++ rest)) else valF [] 0 (35 :: (hexW v ++ (rep n ++ rest)))) = _
    rw [if_pos rfl]
    unfold hexL
    have htw := tw_app hexB (hexW v) (rep n ++ rest) (hexW_hex v) (by
      intro c hc
      rcases rep_head n rest c hc with h | h
      · exact hex_not c (.inl h)
      · exact hex_not c (.inr (hr.head c h)))
    rw [htw.1, htw.2, unhex_hexW]
    simp [hne]

/-! ### pairs, parts, names -/
theorem pair_read (m n k : Nat) (a : Ava) (ht : isType a.1 = true) {rest : Bs} (hr : EndP rest) : pairL (rep m ++ (pairN n a ++ (rep k ++ rest))) = some (a, rest) := by
  obtain ⟨t, v⟩ := a
  unfold pairL pairN
  simp only at ht ⊢
  rw [blanks_rep]
  have e : (t ++ (rep n ++ 61 :: (rep n ++ written v))) ++ (rep k ++ rest) = t ++ (rep n ++ 61 :: (rep n ++ (written v ++ (rep k ++ rest)))) := by simp [List.append_assoc]
  rw [e]
  have hin := isType_in ht
  have hhead : ∀ c ∈ (t ++ (rep n ++ 61 :: (rep n ++ (written v ++ (rep k ++ rest))))).head?, c ≠ 32 := by
    intro c hc
    cases t with
    | nil => exact absurd rfl (isType_ne ht)
    | cons x r =>
      have hx := hin x (by simp)
      have : c = x := by simpa using hc.symm
      subst this
      rintro rfl
      exact absurd hx (by decide)
  rw [blanks_id hhead]
  have htw := tw_app inTypeB t (rep n ++ 61 :: (rep n ++ (written v ++ (rep k ++ rest)))) hin (by
    intro c hc
    rcases rep_head n _ c hc with h | h
    · exact inType_not c (.inl h)
    · exact inType_not c (.inr (.inl (by simpa using h.symm))))
  unfold typL
  rw [htw.1, htw.2, if_pos ht]
  simp only [Option.bind_some]
  rw [blanks_rep, blanks_id (by intro c hc; have : c = 61 := by simpa using hc.symm
                                subst this; decide)]
  simp only [if_true]
  obtain ⟨y, hy, hb⟩ := value_read n k v hr
  rw [hy]
  simp [hb]
def EndN (l : Bs) : Prop := l = [] ∨ ∃ r, l = 44 :: r
theorem EndN.p {l : Bs} (h : EndN l) : EndP l := by
  rcases h with rfl | ⟨r, rfl⟩
  · exact .inl rfl
  · exact .inr ⟨r, .inl rfl⟩
theorem partF_end {acc : List Ava} {l : Bs} (h : EndN l) : partF acc l = some (acc, l) := by
  rcases h with rfl | ⟨r, rfl⟩
  · rfl
  · rw [partF_cons, if_neg (by decide)]
theorem part_more (n k : Nat) {rest : Bs} (hr : EndN rest) : ∀ (r : List Ava) (a : Ava) (m : Nat) , (∀ x ∈ a :: r, isType x.1 = true) →
    ∃ q, pairL (rep m ++ (partN n (a :: r) ++ (rep k ++ rest))) = some (a, q) ∧ ∀ acc, partF acc q = some (acc ++ r, rest)
  | [], a, m, h => ⟨rest, pair_read m n k a (h a (by simp)) hr.p, fun acc => by rw [partF_end hr, List.append_nil]⟩
  | b :: r, a, m, h => by
    obtain ⟨q, hq, hp⟩ := part_more n k hr r b n (fun x hx => h x (by simp [List.mem_cons.1 hx]))
    have e : partN n (a :: b :: r) ++ (rep k ++ rest) = pairN n a ++ (rep n ++ 43 :: (rep n ++ (partN n (b :: r) ++ (rep k ++ rest)))) := by
      show (pairN n a ++ (rep n ++ 43 :: (rep n ++ joinN n 43 ((b :: r).map (pairN n))))) ++ (rep k ++ rest) = _
      simp [List.append_assoc, partN]
    refine ⟨43 :: (rep n ++ (partN n (b :: r) ++ (rep k ++ rest))), ?_, fun acc => ?_⟩
    · rw [e]
      exact pair_read m n n a (h a (by simp)) (.inr ⟨_, .inr rfl⟩)
    · rw [partF_cons, if_pos rfl, hq]
      show partF (acc ++ [b]) q = _
      rw [hp, List.append_assoc]
      rfl
theorem part_read (m n k : Nat) {rest : Bs} (hr : EndN rest) (r : List Ava) (hne : r ≠ []) (h : ∀ x ∈ r, isType x.1 = true) : partL (rep m ++ (partN n r ++ (rep k ++ rest))) = some (r, rest) := by
  cases r with
  | nil => exact absurd rfl hne
  | cons a t =>
    obtain ⟨q, hq, hp⟩ := part_more n k hr t a m h
    unfold partL
    rw [hq]
    simp only [Option.bind_some]
    rw [hp]
    rfl
theorem name_more (n : Nat) : ∀ (d : List (List Ava)) (r : List Ava) (m : Nat), (∀ x ∈ r :: d, x ≠ [] ∧ ∀ y ∈ x, isType y.1 = true) →
    ∃ q, partL (rep m ++ nameN n (r :: d)) = some (r, q) ∧ ∀ acc, nameF acc q = some (acc ++ d, [])
  | [], r, m, h => ⟨[], by
      have := part_read m n 0 (.inl rfl) r (h r (by simp)).1 (h r (by simp)).2
      simpa [rep, nameN, joinN] using this, fun acc => by rw [nameF_nil, List.append_nil]⟩
  | s :: d, r, m, h => by
    obtain ⟨q, hq, hp⟩ := name_more n d s n (fun x hx => h x (by simp [List.mem_cons.1 hx]))
    have e : nameN n (r :: s :: d) = partN n r ++ (rep n ++ 44 :: (rep n ++ nameN n (s :: d))) := rfl
    refine ⟨44 :: (rep n ++ nameN n (s :: d)), ?_, fun acc => ?_⟩
    · rw [e]
      exact part_read m n n (.inr ⟨_, rfl⟩) r (h r (by simp)).1 (h r (by simp)).2
    · rw [nameF_cons, if_pos rfl, hq]
      show nameF (acc ++ [s]) q = _
      rw [hp, List.append_assoc]
      rfl
theorem wrong_no {d : List (List Ava)} (h : wrong d = false) : ∀ x ∈ d, x ≠ [] ∧ ∀ y ∈ x, isType y.1 = true := by
  intro x hx
  unfold wrong at h
  have := List.any_eq_false.1 h x hx
  simp only [Bool.or_eq_true, not_or, List.isEmpty_iff] at this
  refine ⟨this.1, fun y hy => ?_⟩
  have h2 := this.2
  rw [List.any_eq_true] at h2
  cases ht : isType y.1 with
  | true => rfl
  | false => exact absurd ⟨y, hy, by rw [ht]; rfl⟩ h2
theorem partN_ne (n : Nat) {r : List Ava} (hne : r ≠ []) (h : ∀ y ∈ r, isType y.1 = true) : partN n r ≠ [] := by
  cases r with
  | nil => exact absurd rfl hne
  | cons a t =>
    have ha := isType_ne (h a (by simp))
    cases t with
    | nil => intro e; simp [partN, joinN, pairN] at e
    | cons b t => intro e; exact ha (by
        have : pairN n a ++ (rep n ++ 43 :: (rep n ++ joinN n 43 ((b :: t).map (pairN n)))) = [] := e
        simp at this)
/-- a name written, with n blanks about its signs, is read -/
theorem name_read (n : Nat) {d : List (List Ava)} (h : wrong d = false) : nameL (nameN n d) = some d := by
  have hw := wrong_no h
  cases d with
  | nil => rfl
  | cons r d =>
    obtain ⟨q, hq, hp⟩ := name_more n d r 0 hw
    rw [show rep 0 = [] from rfl, List.nil_append] at hq
    have hne : nameN n (r :: d) ≠ [] := by
      intro e
      have hr := partN_ne n (hw r (by simp)).1 (hw r (by simp)).2
      cases d with
      | nil => exact hr e
      | cons s d =>
        have : partN n r ++ (rep n ++ 44 :: (rep n ++ joinN n 44 ((s :: d).map (partN n)))) = [] := e
        simp at this
    unfold nameL
    rw [if_neg hne, hq]
    simp only [Option.bind_some]
    rw [hp]
    simp

/-! ### what was read can be written -/
theorem pair_type {l q : Bs} {a : Ava} (h : pairL l = some (a, q)) : isType a.1 = true := by
  unfold pairL at h
  obtain ⟨x, hx, h⟩ := Option.bind_eq_some_iff.1 h
  unfold typL at hx
  split at hx
  · rename_i ht
    injection hx with hx
    subst hx
    simp only at h
    split at h
    · cases h
    · split at h
      · obtain ⟨y, _, h⟩ := Option.map_eq_some_iff.1 h
        injection h with h _
        subst h
        exact ht
      · cases h
  · cases hx
theorem partGo_types : ∀ (n : Nat) (acc : List Ava) (l : Bs) (as : List Ava) (r : Bs), partGo n acc l = some (as, r) → acc ≠ [] → (∀ x ∈ acc, isType x.1 = true) → as ≠ [] ∧ ∀ x ∈ as, isType x.1 = true
  | n, acc, [], as, r, h, h1, h2 => by
    have : partGo n acc [] = some (acc, []) := by cases n <;> rfl
    rw [this] at h
    injection h with h
    injection h with h _
    subst h
    exact ⟨h1, h2⟩
  | 0, acc, _ :: _, _, _, h, h1, h2 => by
    injection h with h
    injection h with h _
    subst h
    exact ⟨h1, h2⟩
  | n + 1, acc, c :: l, as, r, h, h1, h2 => by
    simp only [partGo] at h
    split at h
    · cases he : pairL l with
      | none => rw [he] at h; cases h
      | some x =>
        rw [he] at h
        refine partGo_types n _ _ _ _ h (by simp) (fun y hy => ?_)
        rcases List.mem_append.1 hy with hy | hy
        · exact h2 y hy
        · rw [List.mem_singleton.1 hy]
          exact pair_type (show pairL l = some (x.1, x.2) from he)
    · injection h with h
      injection h with h _
      subst h
      exact ⟨h1, h2⟩
theorem part_types {l q : Bs} {as : List Ava} (h : partL l = some (as, q)) : as ≠ [] ∧ ∀ x ∈ as, isType x.1 = true := by
  unfold partL at h
  obtain ⟨x, hx, h⟩ := Option.bind_eq_some_iff.1 h
  exact partGo_types _ _ _ _ _ h (by simp) (fun y hy => by rw [List.mem_singleton.1 hy]; exact pair_type (show pairL l = some (x.1, x.2) from hx))
theorem nameGo_types : ∀ (n : Nat) (acc : List (List Ava)) (l : Bs) (as : List (List Ava)) (r : Bs), nameGo n acc l = some (as, r) → (∀ x ∈ acc, x ≠ [] ∧ ∀ y ∈ x, isType y.1 = true) → ∀ x ∈ as, x ≠ [] ∧ ∀ y ∈ x, isType y.1 = true
  | n, acc, [], as, r, h, h1 => by
    have : nameGo n acc [] = some (acc, []) := by cases n <;> rfl
    rw [this] at h
    injection h with h
    injection h with h _
    subst h
    exact h1
  | 0, acc, _ :: _, _, _, h, h1 => by
    injection h with h
    injection h with h _
    subst h
    exact h1
  | n + 1, acc, c :: l, as, r, h, h1 => by
    simp only [nameGo] at h
    split at h
    · cases he : partL l with
      | none => rw [he] at h; cases h
      | some x =>
        rw [he] at h
        refine nameGo_types n _ _ _ _ h (fun y hy => ?_)
        rcases List.mem_append.1 hy with hy | hy
        · exact h1 y hy
        · rw [List.mem_singleton.1 hy]
          exact part_types (show partL l = some (x.1, x.2) from he)
    · injection h with h
      injection h with h _
      subst h
      exact h1
theorem name_right {s : Bs} {d : List (List Ava)} (h : nameL s = some d) : wrong d = false := by
  have key : ∀ x ∈ d, x ≠ [] ∧ ∀ y ∈ x, isType y.1 = true := by
    unfold nameL at h
    split at h
    · injection h with h
      subst h
      intro x hx
      cases hx
    · obtain ⟨x, hx, h⟩ := Option.bind_eq_some_iff.1 h
      obtain ⟨y, hy, h⟩ := Option.bind_eq_some_iff.1 h
      split at h
      · injection h with h
        subst h
        exact nameGo_types _ _ _ _ _ (show nameGo _ _ _ = some (y.1, y.2) from hy) (fun z hz => by rw [List.mem_singleton.1 hz]; exact part_types (show partL s = some (x.1, x.2) from hx))
      · cases h
  unfold wrong
  rw [List.any_eq_false]
  intro x hx
  obtain ⟨h1, h2⟩ := key x hx
  simp only [Bool.or_eq_true, not_or, List.isEmpty_iff]
  refine ⟨h1, ?_⟩
  rw [List.any_eq_true]
  rintro ⟨y, hy, h3⟩
  rw [h2 y hy] at h3
  cases h3
end Go.Proofs.YtcpjldhpboodnaaDoor.Dp
end
section
/- Escaped bytes and digits are read as the value; blanks about signs lengthen a name's text, in plain Lean. No program. Conditions: none. -/
namespace Go.Proofs.YtcpjldhpboodnaaDoor.Dp
open Go

def esc2 (v : Bs) : Bs := v.flatMap fun c => [92, hexDigit (c.toNat / 16), hexDigit (c.toNat % 16)]
theorem blanks_cons {c : UInt8} (h : c ≠ 32) (l : Bs) : blanks (c :: l) = c :: l := blanks_id (fun x hx => by
  have e : x = c := by simpa using hx.symm
  rw [e]
  exact h)
theorem digit_facts : ∀ n : Nat, n < 16 → escapable (hexDigit n) = false := by decide
theorem esc2_read : ∀ (v p : Bs) (long : Nat), long = p.length → valF p long (esc2 v) = some (p ++ v, [])
  | [], p, long, h => by
    show valF p long [] = _
    rw [valF_nil, h, List.take_length, List.append_nil]
  | c :: r, p, long, _ => by
    have hc := UInt8.toNat_lt c
    show valF p long (92 :: (hexDigit (c.toNat / 16) :: hexDigit (c.toNat % 16) :: esc2 r)) = _
    rw [valF_cons, if_neg (by decide), if_pos rfl]
    have e : escL (hexDigit (c.toNat / 16) :: hexDigit (c.toNat % 16) :: esc2 r) = some (c, esc2 r) := by
      simp only [escL]
      rw [if_neg (by rw [digit_facts _ (by omega)]; decide)]
      simp only [byte2]
      rw [hv_digit _ (by omega), hv_digit _ (by omega)]
      have e2 : 16 * (c.toNat / 16) + c.toNat % 16 = c.toNat := by omega
      simp only [Option.bind_some, Option.map_some]
      rw [e2, UInt8.ofNat_toNat]
    rw [e]
    show valF (p ++ [c]) (p.length + 1) (esc2 r) = _
    rw [esc2_read r (p ++ [c]) (p.length + 1) (by simp), List.append_assoc]
    rfl
theorem cn_pair (x : Bs) : pairL (99 :: 110 :: 61 :: x) = (valueL (blanks x)).map fun y => (([99, 110], y.1), blanks y.2) := by
  unfold pairL
  rw [blanks_cons (c := 99) (by decide)]
  have htw := tw_app inTypeB [99, 110] (61 :: x) (by decide) (fun c hc => by
    have e : c = 61 := by simpa using hc.symm
    rw [e]
    decide)
  unfold typL
  rw [show (99 :: 110 :: 61 :: x : Bs) = [99, 110] ++ 61 :: x from rfl, htw.1, htw.2, if_pos (by decide)]
  simp only [Option.bind_some]
  rw [blanks_cons (c := 61) (by decide)]
  simp only [if_true]
theorem one_name {s v : Bs} (hs : s ≠ []) (h : pairL s = some (([99, 110], v), [])) : nameL s = some [[([99, 110], v)]] := by
  unfold nameL partL
  rw [if_neg hs, h]
  simp only [Option.bind_some, partF_nil, nameF_nil, if_true]
theorem esc2_head (v : Bs) : ∀ c ∈ (esc2 v).head?, c = 92 := by
  cases v with
  | nil => simp [esc2]
  | cons x r => intro c hc; simpa [esc2] using hc.symm
theorem esc2_name (v : Bs) : nameL (99 :: 110 :: 61 :: esc2 v) = some [[([99, 110], v)]] := by
  apply one_name (by simp)
  rw [cn_pair, blanks_id (fun c hc => by rw [esc2_head v c hc]; decide)]
  have h := esc2_read v [] 0 rfl
  rw [List.nil_append] at h
  have e : valueL (esc2 v) = valF [] 0 (esc2 v) := by
    cases hv : esc2 v with
    | nil => rfl
    | cons c r =>
      have := esc2_head v c (by rw [hv]; simp)
      simp only [valueL]
      rw [if_neg (by rw [this]; decide)]
  rw [e, h]
  rfl
theorem hash_name (v : Bs) : nameL (99 :: 110 :: 61 :: 35 :: hexW v) = if v = [] then none else some [[([99, 110], v)]] := by
  have htw := tw_app hexB (hexW v) [] (hexW_hex v) (by simp)
  rw [List.append_nil] at htw
  have hp : pairL (99 :: 110 :: 61 :: 35 :: hexW v) = if v = [] then none else some (([99, 110], v), []) := by
    rw [cn_pair, blanks_cons (c := 35) (by decide)]
    show (if (35 : UInt8) = 35 then hexL (hexW v) else valF [] 0 (35 :: hexW v)).map _ = _
    rw [if_pos rfl]
    unfold hexL
    rw [htw.1, htw.2, unhex_hexW]
    by_cases hv : v = []
    · simp [hv]
    · simp [hv, blanks]
  by_cases hv : v = []
  · rw [if_pos hv] at hp ⊢
    unfold nameL partL
    rw [if_neg (by simp), hp]
    rfl
  · rw [if_neg hv] at hp ⊢
    exact one_name (by simp) hp

/-! ### lengths -/
theorem rep_len (n : Nat) : (rep n).length = n := by simp [rep]
theorem join_len {α : Type} (n : Nat) (sep : UInt8) (f g : α → Bs) : ∀ l : List α, (∀ x ∈ l, (f x).length ≤ (g x).length) → (joinN 0 sep (l.map f)).length ≤ (joinN n sep (l.map g)).length
  | [], _ => Nat.le_refl _
  | [x], h => h x (by simp)
  | x :: y :: r, h => by
    have h1 := h x (by simp)
    have h2 := join_len n sep f g (y :: r) (fun z hz => h z (by simp [List.mem_cons.1 hz]))
    show (f x ++ (rep 0 ++ sep :: (rep 0 ++ joinN 0 sep ((y :: r).map f)))).length ≤ (g x ++ (rep n ++ sep :: (rep n ++ joinN n sep ((y :: r).map g)))).length
    simp only [List.length_append, List.length_cons, rep_len] at h1 h2 ⊢
    omega
theorem join_up {α : Type} (n k : Nat) (sep : UInt8) (f g : α → Bs) : ∀ l : List α, (∀ x ∈ l, (g x).length ≤ (f x).length + k) → (joinN n sep (l.map g)).length ≤ (joinN 0 sep (l.map f)).length + (k + 2 * n) * l.length
  | [], _ => Nat.le_refl _
  | [x], h => by
    have h1 := h x (by simp)
    show (g x).length ≤ (f x).length + (k + 2 * n) * 1
    omega
  | x :: y :: r, h => by
    have h1 := h x (by simp)
    have h2 := join_up n k sep f g (y :: r) (fun z hz => h z (by simp [List.mem_cons.1 hz]))
    show (g x ++ (rep n ++ sep :: (rep n ++ joinN n sep ((y :: r).map g)))).length ≤ (f x ++ (rep 0 ++ sep :: (rep 0 ++ joinN 0 sep ((y :: r).map f)))).length + (k + 2 * n) * (r.length + 1 + 1)
    have e : (k + 2 * n) * (r.length + 1 + 1) = (k + 2 * n) * (r.length + 1) + (k + 2 * n) := by rw [Nat.mul_add (k + 2 * n) (r.length + 1) 1, Nat.mul_one]
    have h3 : (y :: r).length = r.length + 1 := rfl
    rw [h3] at h2
    rw [e]
    simp only [List.length_append, List.length_cons, rep_len] at h1 h2 ⊢
    omega
theorem pairN_len (n : Nat) (a : Ava) : (pairN n a).length = (pairN 0 a).length + 2 * n := by
  unfold pairN
  simp only [List.length_append, List.length_cons, rep_len]
  omega
theorem nameN_le (n : Nat) (d : List (List Ava)) : (nameN 0 d).length ≤ (nameN n d).length :=
  join_len n 44 _ _ d (fun r _ => join_len n 43 _ _ r (fun a _ => by rw [pairN_len n a]; omega))
theorem nameN_up {n : Nat} (hn : n ≤ 3) {d : List (List Ava)} (h : tooLong d = false) : (nameN n d).length ≤ (nameN 0 d).length + 1080 := by
  unfold tooLong at h
  rw [Bool.or_eq_false_iff, decide_eq_false_iff_not] at h
  have h1 := join_up n 48 44 (partN 0) (partN n) d (fun r hr => by
    have h2 := List.any_eq_false.1 h.2 r hr
    simp only [Bool.or_eq_true, not_or, decide_eq_true_eq] at h2
    have h3 := join_up n (2 * n) 43 (pairN 0) (pairN n) r (fun a _ => by rw [pairN_len n a]; exact Nat.le_refl _)
    have h4 : (2 * n + 2 * n) * r.length ≤ 12 * 4 := Nat.mul_le_mul (by omega) (by omega)
    unfold partN
    omega)
  have h5 : (48 + 2 * n) * d.length ≤ 54 * 20 := Nat.mul_le_mul (by omega) (by omega)
  unfold nameN
  omega
end Go.Proofs.YtcpjldhpboodnaaDoor.Dp
end
section
/- The library's cut at dots and its trim of digits are the plain ones, in plain Lean. No program. Conditions: none. -/
namespace Go.Proofs.YtcpjldhpboodnaaDoor.Dp
open Go Go.Lib

theorem dots_none : ∀ {l : Bs}, (∀ c ∈ l, c ≠ 46) → splitDots l = [l]
  | [], _ => rfl
  | c :: r, h => by
    simp only [splitDots]
    rw [if_neg (h c (by simp)), dots_none (fun x hx => h x (by simp [hx]))]
theorem dots_at : ∀ (i : Nat) {l : Bs}, l[i]? = some 46 → (∀ j c, j < i → l[j]? = some c → c ≠ 46) → splitDots l = l.take i :: splitDots (l.drop (i + 1))
  | i, [], h, _ => by simp at h
  | 0, c :: r, h, _ => by
    have : c = 46 := by simpa using h
    subst this
    simp only [splitDots, if_true]
    rfl
  | i + 1, c :: r, h, hb => by
    have hc : c ≠ 46 := hb 0 c (by omega) rfl
    have ih := dots_at i (l := r) (by simpa using h) (fun j x hj hx => hb (j + 1) x (by omega) (by simpa using hx))
    simp only [splitDots]
    rw [if_neg hc, ih]
    rfl
theorem occ_dot (l : Bs) (i : Nat) : occAt l [46] i = (l[i]? == some 46) := by
  unfold occAt
  cases h : l.drop i with
  | nil =>
    have : l[i]? = none := by
      rw [List.getElem?_eq_none_iff]
      exact List.drop_eq_nil_iff.1 h
    rw [this]
    rfl
  | cons c r =>
    have hi : i < l.length := by
      rcases Nat.lt_or_ge i l.length with h1 | h1
      · exact h1
      · rw [List.drop_eq_nil_of_le h1] at h; cases h
    rw [List.drop_eq_getElem_cons hi] at h
    injection h with h _
    rw [List.getElem?_eq_getElem hi, h]
    show ((46 : UInt8) == c && ([] : Bs).isPrefixOf r) = _
    simp [Bool.beq_comm]
theorem dots_split : ∀ (n : Nat) (l : Bs), l.length < n → splitK [46] 0 (countFrom [46] n l) l = splitDots l
  | 0, _, h => by omega
  | n + 1, l, h => by
    rcases index_spec l [46] with ⟨hn, hno⟩ | ⟨i, hi, hile, hocc, hnone⟩
    · have e : countFrom [46] (n + 1) l = 0 := by
        simp only [countFrom]
        rw [hn]
        rfl
      rw [e, dots_none]
      · rfl
      · rintro c hc rfl
        obtain ⟨j, hj, hjc⟩ := List.mem_iff_getElem.1 hc
        have := hno j (by omega)
        rw [occ_dot, List.getElem?_eq_getElem hj, hjc] at this
        cases this
    · rw [occ_dot] at hocc
      have hocc : l[i]? = some 46 := by simpa using hocc
      have hil : i < l.length := (List.getElem?_eq_some_iff.1 hocc).1
      have e : countFrom [46] (n + 1) l = countFrom [46] n (l.drop (i + 1)) + 1 := by
        simp only [countFrom]
        rw [hi]
        have : ((i : Int) == -1) = false := by
          rw [beq_eq_false_iff_ne]
          omega
        simp [this]
        omega
      rw [e, dots_at i hocc (fun j c hj hc hcc => by
        have := hnone j hj
        rw [occ_dot, hc, hcc] at this
        cases this)]
      rw [splitK, if_neg (by rw [hi]; simp), hi, Int.toNat_natCast, Nat.add_zero]
      show l.take i :: splitK [46] 0 _ (l.drop (i + 1)) = _
      rw [dots_split n (l.drop (i + 1)) (by rw [List.length_drop]; omega)]
theorem split_dots (l : Bs) : split l [46] = splitDots l := dots_split _ l (Nat.lt_succ_self _)

/-! ### trimming digits -/
def digits10 : Bs := [48, 49, 50, 51, 52, 53, 54, 55, 56, 57]
theorem digit_contains (c : UInt8) : digits10.contains c = digitB c := by
  have h : ∀ n : Fin 256, digits10.contains (UInt8.ofNat n.val) = digitB (UInt8.ofNat n.val) := by decide +kernel
  have := h ⟨c.toNat, UInt8.toNat_lt c⟩
  rwa [UInt8.ofNat_toNat] at this
theorem dw_all (p : UInt8 → Bool) : ∀ l : Bs, (l.dropWhile p).isEmpty = l.all p
  | [] => rfl
  | c :: r => by
    rw [List.dropWhile_cons, List.all_cons]
    cases h : p c with
    | true => simp only [if_true, Bool.true_and]; exact dw_all p r
    | false => simp
theorem trim_digits (l : Bs) : (trimS l digits10).isEmpty = l.all digitB := by
  have hp : (fun c => digits10.contains c) = digitB := funext digit_contains
  unfold trimS trimLeftS trimRightS
  rw [hp, dw_all]
  cases h : l.all digitB with
  | true =>
    rw [List.all_eq_true] at h ⊢
    intro c hc
    rw [List.mem_reverse] at hc
    exact h c (List.mem_reverse.1 ((List.dropWhile_suffix digitB).mem hc))
  | false =>
    rw [List.all_eq_false] at h ⊢
    obtain ⟨c, hc, hd⟩ := h
    cases hdw : l.reverse.dropWhile digitB with
    | nil =>
      exfalso
      have h2 := dw_all digitB l.reverse
      rw [hdw] at h2
      have h3 := List.all_eq_true.1 h2.symm c (List.mem_reverse.2 hc)
      exact hd h3
    | cons x t =>
      refine ⟨x, by simp, ?_⟩
      intro hx
      have := List.head?_dropWhile_not digitB l.reverse
      rw [hdw] at this
      simp [hx] at this
end Go.Proofs.YtcpjldhpboodnaaDoor.Dp
end
section
/- How many parts and pairs a name's text can have, in plain Lean. No program. Conditions: none. -/
namespace Go.Proofs.YtcpjldhpboodnaaDoor.Dp
open Go

theorem partGo_cnt : ∀ (n : Nat) (acc : List Ava) (l : Bs) (xs : List Ava) (r : Bs), partGo n acc l = some (xs, r) → xs.length + r.length ≤ acc.length + l.length
  | n, acc, [], xs, r, h => by
    have : partGo n acc [] = some (acc, []) := by cases n <;> rfl
    rw [this] at h
    injection h with h
    injection h with h1 h2
    subst h1 h2
    exact Nat.le_refl _
  | 0, acc, c :: l, xs, r, h => by
    injection h with h
    injection h with h1 h2
    subst h1 h2
    exact Nat.le_refl _
  | n + 1, acc, c :: l, xs, r, h => by
    simp only [partGo] at h
    split at h
    · cases he : pairL l with
      | none => rw [he] at h; cases h
      | some x =>
        rw [he] at h
        have h1 := pairL_len (show pairL l = some (x.1, x.2) from he)
        have h2 := partGo_cnt n _ _ _ _ h
        simp only [List.length_cons, List.length_append, List.length_nil] at h2 ⊢
        omega
    · injection h with h
      injection h with h1 h2
      subst h1 h2
      exact Nat.le_refl _
theorem partL_cnt {l r : Bs} {xs : List Ava} (h : partL l = some (xs, r)) : xs.length + r.length ≤ l.length := by
  unfold partL at h
  obtain ⟨x, hx, h⟩ := Option.bind_eq_some_iff.1 h
  have h1 := pairL_len (show pairL l = some (x.1, x.2) from hx)
  have h2 := partGo_cnt _ _ _ _ _ h
  simp only [List.length_cons, List.length_nil] at h2
  omega
theorem nameGo_cnt : ∀ (n : Nat) (acc : List (List Ava)) (l : Bs) (d : List (List Ava)) (r : Bs), nameGo n acc l = some (d, r) → d.length + r.length ≤ acc.length + l.length ∧ ∀ p ∈ d, p ∈ acc ∨ p.length ≤ l.length
  | n, acc, [], d, r, h => by
    have : nameGo n acc [] = some (acc, []) := by cases n <;> rfl
    rw [this] at h
    injection h with h
    injection h with h1 h2
    subst h1 h2
    exact ⟨Nat.le_refl _, fun p hp => .inl hp⟩
  | 0, acc, c :: l, d, r, h => by
    injection h with h
    injection h with h1 h2
    subst h1 h2
    exact ⟨Nat.le_refl _, fun p hp => .inl hp⟩
  | n + 1, acc, c :: l, d, r, h => by
    simp only [nameGo] at h
    split at h
    · cases he : partL l with
      | none => rw [he] at h; cases h
      | some x =>
        rw [he] at h
        have h0 := partL_len (show partL l = some (x.1, x.2) from he)
        have h1 := partL_cnt (show partL l = some (x.1, x.2) from he)
        have h2 := nameGo_cnt n _ _ _ _ h
        simp only [List.length_cons, List.length_append, List.length_nil] at h2 ⊢
        refine ⟨by omega, fun p hp => ?_⟩
        rcases h2.2 p hp with h3 | h3
        · rcases List.mem_append.1 h3 with h3 | h3
          · exact .inl h3
          · rw [List.mem_singleton.1 h3]
            exact .inr (by omega)
        · exact .inr (by omega)
    · injection h with h
      injection h with h1 h2
      subst h1 h2
      exact ⟨Nat.le_refl _, fun p hp => .inl hp⟩
theorem nameL_cnt {s : Bs} {d : List (List Ava)} (h : nameL s = some d) : d.length ≤ s.length ∧ ∀ p ∈ d, p.length ≤ s.length := by
  unfold nameL at h
  split at h
  · injection h with h
    subst h
    exact ⟨Nat.zero_le _, fun p hp => by cases hp⟩
  · obtain ⟨x, hx, h⟩ := Option.bind_eq_some_iff.1 h
    obtain ⟨y, hy, h⟩ := Option.bind_eq_some_iff.1 h
    split at h
    · injection h with h
      subst h
      have h0 := partL_len (show partL s = some (x.1, x.2) from hx)
      have h1 := partL_cnt (show partL s = some (x.1, x.2) from hx)
      have h2 := nameGo_cnt _ _ _ _ _ (show nameGo _ _ _ = some (y.1, y.2) from hy)
      simp only [List.length_cons, List.length_nil] at h2
      refine ⟨by omega, fun p hp => ?_⟩
      rcases h2.2 p hp with h3 | h3
      · rw [List.mem_singleton.1 h3]
        omega
      · omega
    · cases h
end Go.Proofs.YtcpjldhpboodnaaDoor.Dp
end
section
/- How long a name's text can be, in plain Lean. No program. Conditions: none. -/
namespace Go.Proofs.YtcpjldhpboodnaaDoor.Dp
open Go

theorem escW_len : ∀ (f : Bool) (l : Bs), (escW f l).length ≤ 3 * l.length
  | _, [] => Nat.le_refl _
  | f, c :: r => by
    have h := escW_len false r
    simp only [escW, List.length_append, List.length_cons]
    split
    · simp only [List.length_cons, List.length_nil]; omega
    · split
      · simp only [List.length_cons, List.length_nil]; omega
      · simp only [List.length_cons, List.length_nil]; omega
theorem hexW_le (l : Bs) : (hexW l).length = 2 * l.length := by
  unfold hexW
  induction l with
  | nil => rfl
  | cons c r ih => rw [List.flatMap_cons, List.length_append, ih]; simp; omega
theorem written_len (v : Bs) : (written v).length ≤ 3 * v.length + 1 := by
  unfold written
  split
  · have := escW_len true v
    omega
  · have := hexW_le v
    simp only [List.length_cons]
    omega
theorem joinN_len (s : UInt8) (M : Nat) : ∀ l : List Bs, (∀ x ∈ l, x.length ≤ M) → (joinN 0 s l).length ≤ l.length * (M + 1)
  | [], _ => Nat.zero_le _
  | [x], h => by
    have := h x (by simp)
    show x.length ≤ 1 * (M + 1)
    omega
  | x :: y :: r, h => by
    have h1 := h x (by simp)
    have h2 := joinN_len s M (y :: r) (fun z hz => h z (by simp [List.mem_cons.1 hz]))
    show (x ++ (rep 0 ++ s :: (rep 0 ++ joinN 0 s (y :: r)))).length ≤ (r.length + 1 + 1) * (M + 1)
    have h3 : (y :: r).length = r.length + 1 := rfl
    rw [h3] at h2
    have e : (r.length + 1 + 1) * (M + 1) = (r.length + 1) * (M + 1) + (M + 1) := Nat.succ_mul _ _
    rw [e]
    simp only [List.length_append, List.length_cons, rep_len] at h2 ⊢
    omega
theorem join_joinN (s : UInt8) : ∀ l : List Bs, Lib.join l [s] = joinN 0 s l
  | [] => rfl
  | [x] => by rw [Lib.join_one]; rfl
  | x :: y :: r => by
    have h := join_joinN s (y :: r)
    rw [Lib.join_cons]
    rw [Lib.join_cons] at h
    show _ = x ++ (rep 0 ++ s :: (rep 0 ++ joinN 0 s (y :: r)))
    rw [← h]
    rfl
theorem tooLong_no {d : List (List Ava)} (h : tooLong d = false) : d.length ≤ 20 ∧ ∀ r ∈ d, r.length ≤ 4 ∧ ∀ a ∈ r, a.2.length ≤ 1024 := by
  unfold tooLong at h
  rw [Bool.or_eq_false_iff, decide_eq_false_iff_not] at h
  refine ⟨by omega, fun r hr => ?_⟩
  have h2 := List.any_eq_false.1 h.2 r hr
  rw [Bool.or_eq_true, not_or, decide_eq_true_eq] at h2
  refine ⟨by omega, fun a ha => ?_⟩
  have h3 := h2.2
  rw [List.any_eq_true] at h3
  rcases Nat.lt_or_ge 1024 a.2.length with h4 | h4
  · exact absurd ⟨a, ha, decide_eq_true h4⟩ h3
  · exact h4
theorem isType_len {t : Bs} (h : isType t = true) : t.length ≤ 64 := by
  cases t with
  | nil => simp
  | cons c r =>
    simp only [isType, Bool.and_eq_true, decide_eq_true_eq] at h
    exact h.1
end Go.Proofs.YtcpjldhpboodnaaDoor.Dp
end
