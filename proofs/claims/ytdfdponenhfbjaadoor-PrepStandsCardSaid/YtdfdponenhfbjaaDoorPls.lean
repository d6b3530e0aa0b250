/- Pieces that stand in a text in their order are found by what prep.Holds computes, in plain Lean. No program. Conditions: none. -/
import Derived.Test.YtdfdponenhfbjaaDoorPlh
namespace Go.Proofs.YtdfdponenhfbjaaDoor.Pl
open Go Go.Lib

/-- the pieces ps stand in s one behind the other, from place a on, the last ending at b or before -/
def Stands (s : List UInt8) : Nat → List (List UInt8) → Nat → Prop
  | a, [], b => a ≤ b
  | a, p :: ps, b => ∃ k, a ≤ k ∧ p <+: s.drop k ∧ Stands s (k + p.length) ps b
theorem Stands.le {s : List UInt8} : ∀ {ps : List (List UInt8)} {a b : Nat}, Stands s a ps b → a ≤ b
  | [], _, _, h => h
  | p :: ps, a, b, h => by
    obtain ⟨k, h1, _, h3⟩ := h
    have := Stands.le h3
    omega
theorem Stands.snoc {s p : List UInt8} {b k : Nat} (hk : b ≤ k) (hp : p <+: s.drop k) : ∀ {ps : List (List UInt8)} {a : Nat}, Stands s a ps b → Stands s a (ps ++ [p]) (k + p.length)
  | [], a, h => ⟨k, Nat.le_trans h hk, hp, Nat.le_refl _⟩
  | q :: ps, a, h => by
    obtain ⟨j, h1, h2, h3⟩ := h
    exact ⟨j, h1, h2, Stands.snoc hk hp h3⟩
theorem Stands.take {s : List UInt8} {b n : Nat} (hn : b ≤ n) : ∀ {ps : List (List UInt8)} {a : Nat}, Stands s a ps b → Stands (s.take n) a ps b
  | [], _, h => h
  | p :: ps, a, h => by
    obtain ⟨k, h1, h2, h3⟩ := h
    have hle := Stands.le h3
    refine ⟨k, h1, ?_, Stands.take hn h3⟩
    rw [List.drop_take]
    rw [List.prefix_take_iff]
    exact ⟨h2, by omega⟩
theorem Stands.found : ∀ (ps : List (List UInt8)) (s : List UInt8) (a b c : Nat), Stands s a ps b → c ≤ a → holdsMid (s.drop c) ps = true
  | [], _, _, _, _, _, _ => rfl
  | p :: ps, s, a, b, c, h, hca => by
    obtain ⟨k, h1, hp, h3⟩ := h
    have hd : s.drop k = (s.drop c).drop (k - c) := by rw [List.drop_drop]; congr 1; omega
    rw [hd] at hp
    rcases index_spec (s.drop c) p with ⟨hn, hno⟩ | ⟨i, hi, hile, hocc, hnone⟩
    · exfalso
      by_cases hks : k - c ≤ (s.drop c).length
      · have := hno (k - c) hks
        unfold occAt at this
        rw [List.isPrefixOf_iff_prefix.2 hp] at this
        cases this
      · have he : (s.drop c).drop (k - c) = [] := List.drop_eq_nil_of_le (by omega)
        rw [he] at hp
        have hpn : p = [] := by simpa using hp
        subst hpn
        rw [show index (s.drop c) [] = 0 from by cases (s.drop c) <;> rfl] at hn
        cases hn
    · have hik : i ≤ k - c := by
        by_cases hks : k - c ≤ (s.drop c).length
        · rcases Nat.lt_or_ge (k - c) i with hlt | hge
          · have := hnone (k - c) hlt
            unfold occAt at this
            rw [List.isPrefixOf_iff_prefix.2 hp] at this
            cases this
          · exact hge
        · omega
      simp only [holdsMid]
      rw [hi, if_neg (by omega), Int.toNat_natCast, List.drop_drop]
      exact Stands.found ps s (k + p.length) b (c + (i + p.length)) h3 (by omega)

/-- a list of pieces with no first one, and the rest of the text as the last -/
theorem stands_holds {s : List UInt8} {mid : List (List UInt8)} {a : Nat} (h : Stands s 0 mid a) (ha : a ≤ s.length) : holdsL s ([] :: (mid ++ [s.drop a])) = true := by
  rw [holds_at, if_pos (by cases s <;> rfl), if_pos (by rw [List.length_nil, List.drop_zero]; exact List.isSuffixOf_iff_suffix.2 (List.drop_suffix a s)), List.length_nil, List.drop_zero, List.length_drop]
  have e : s.length - 0 - (s.length - a) = a := by omega
  rw [e]
  have := Stands.found mid (s.take a) 0 a 0 (Stands.take (Nat.le_refl a) h) (Nat.le_refl 0)
  rwa [List.drop_zero] at this
/-- the same with no last one -/
theorem stands_holds_open {s : List UInt8} {mid : List (List UInt8)} {a : Nat} (h : Stands s 0 mid a) : holdsL s ([] :: (mid ++ [[]])) = true := by
  rw [holds_at, if_pos (by cases s <;> rfl), if_pos (List.isSuffixOf_iff_suffix.2 (List.nil_suffix)), List.length_nil, List.drop_zero]
  have e : s.length - 0 - 0 = s.length := by omega
  rw [e, List.take_length]
  have := Stands.found mid s 0 a 0 h (Nat.le_refl 0)
  rwa [List.drop_zero] at this
theorem twice_holds (s : List UInt8) : holdsL s (s :: ([] ++ [s])) = s.isEmpty := by
  rw [holds_at, if_pos (List.isPrefixOf_iff_prefix.2 (List.prefix_refl s)), List.drop_length]
  cases s with
  | nil => rfl
  | cons a t =>
    have e : (a :: t).isSuffixOf [] = false := by
      cases h : (a :: t).isSuffixOf [] with
      | false => rfl
      | true =>
        have := (List.isSuffixOf_iff_suffix.1 h).length_le
        simp at this
    rw [e]
    rfl
theorem longer_holds (s : List UInt8) : holdsL s ((s ++ [120]) :: ([] ++ [[]])) = false := by
  rw [holds_at]
  cases h : (s ++ [120]).isPrefixOf s with
  | false => rfl
  | true =>
    have := (List.isPrefixOf_iff_prefix.1 h).length_le
    simp at this
    omega
end Go.Proofs.YtdfdponenhfbjaaDoor.Pl
