/- What prep.Holds computes, in plain Lean over lists of bytes. No program. Conditions: none. -/
import Derived.Lib.IndexMore
import Derived.Lib.Strings
namespace Go.Proofs.YtdfdponenhfbjaaDoor.Pl
open Go Go.Lib

def holdsMid : List UInt8 → List (List UInt8) → Bool
  | _, [] => true
  | s, p :: ps => if index s p < 0 then false else holdsMid (s.drop ((index s p).toNat + p.length)) ps
def holdsL (s : List UInt8) (ps : List (List UInt8)) : Bool :=
  if ps.length < 2 then false
  else if (ps.headD []).isPrefixOf s then
    (if (ps.getLastD []).isSuffixOf (s.drop (ps.headD []).length) then holdsMid ((s.drop (ps.headD []).length).take (s.length - (ps.headD []).length - (ps.getLastD []).length)) ps.tail.dropLast else false)
  else false
theorem holds_few {s : List UInt8} {ps : List (List UInt8)} (h : ps.length < 2) : holdsL s ps = false := by unfold holdsL; rw [if_pos h]
theorem holds_at (s a z : List UInt8) (mid : List (List UInt8)) : holdsL s (a :: (mid ++ [z])) = if a.isPrefixOf s then (if z.isSuffixOf (s.drop a.length) then holdsMid ((s.drop a.length).take (s.length - a.length - z.length)) mid else false) else false := by
  unfold holdsL
  rw [if_neg (by simp)]
  have h1 : (a :: (mid ++ [z])).headD [] = a := rfl
  have h2 : (a :: (mid ++ [z])).getLastD [] = z := by
    rw [← List.cons_append, List.getLastD_eq_getLast?, List.getLast?_append]
    rfl
  have h3 : (a :: (mid ++ [z])).tail.dropLast = mid := by simp
  rw [h1, h2, h3]
/-- pieces that stand at places behind one another are found -/
theorem holdsMid_found : ∀ (ps : List (List UInt8)) (s : List UInt8) (at' : List Nat), at'.length = ps.length →
    (∀ (i : Nat) (p : List UInt8), ps[i]? = some p → ∃ k, at'[i]? = some k ∧ p <+: s.drop k ∧ (∀ j q, j < i → ps[j]? = some q → ∃ m, at'[j]? = some m ∧ m + q.length ≤ k)) → holdsMid s ps = true := by
  intro ps
  induction ps with
  | nil => intro s at' _ _; rfl
  | cons p ps ih =>
    intro s at' hl h
    cases at' with
    | nil => simp at hl
    | cons k0 ks =>
      obtain ⟨k, hk, hp, _⟩ := h 0 p rfl
      have hk0 : k = k0 := by simpa using hk.symm
      subst hk0
      rcases index_spec s p with ⟨hn, hno⟩ | ⟨i, hi, hile, hocc, hnone⟩
      · exfalso
        by_cases hks : k ≤ s.length
        · have := hno k hks
          unfold occAt at this
          rw [List.isPrefixOf_iff_prefix.2 hp] at this
          cases this
        · have he : s.drop k = [] := List.drop_eq_nil_of_le (by omega)
          rw [he] at hp
          have hpn : p = [] := by simpa using hp
          subst hpn
          rw [show index s [] = 0 from by cases s <;> rfl] at hn
          cases hn
      · have hik : i ≤ k ∨ s.length < k := by
          by_cases hks : k ≤ s.length
          · left
            rcases Nat.lt_or_ge k i with hlt | hge
            · have := hnone k hlt
              unfold occAt at this
              rw [List.isPrefixOf_iff_prefix.2 hp] at this
              cases this
            · exact hge
          · exact .inr (by omega)
        simp only [holdsMid]
        rw [hi, if_neg (by omega), Int.toNat_natCast]
        have hik2 : i ≤ k := by
          rcases hik with h1 | h1 <;> omega
        refine ih (s.drop (i + p.length)) (ks.map (· - (i + p.length))) (by simpa using hl) ?_
        intro j q hq
        obtain ⟨m, hm, hqm, hbef⟩ := h (j + 1) q (by simpa using hq)
        have hkm : k + p.length ≤ m := by
          obtain ⟨m0, hm0, hle⟩ := hbef 0 p (by omega) rfl
          have : m0 = k := by simpa using hm0.symm
          omega
        refine ⟨m - (i + p.length), ?_, ?_, ?_⟩
        · have hm' : ks[j]? = some m := by simpa using hm
          rw [List.getElem?_map, hm']
          rfl
        · rw [List.drop_drop, show i + p.length + (m - (i + p.length)) = m by omega]
          exact hqm
        · intro j2 q2 hj2 hq2
          obtain ⟨m2, hm2, hle2⟩ := hbef (j2 + 1) q2 (by omega) (by simpa using hq2)
          obtain ⟨m3, hm3, _, hbef3⟩ := h (j2 + 1) q2 (by simpa using hq2)
          have he3 : m3 = m2 := by rw [hm2] at hm3; injection hm3 with hm3; exact hm3.symm
          subst he3
          have hkm2 : k + p.length ≤ m3 := by
            obtain ⟨m0, hm0, hle⟩ := hbef3 0 p (by omega) rfl
            have : m0 = k := by simpa using hm0.symm
            omega
          refine ⟨m3 - (i + p.length), ?_, by omega⟩
          have hm' : ks[j2]? = some m3 := by simpa using hm2
          rw [List.getElem?_map, hm']
          rfl
end Go.Proofs.YtdfdponenhfbjaaDoor.Pl
