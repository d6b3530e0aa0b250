/- Strings as lists of bytes: what later texts stand on. Conditions: none. -/
import Derived.Test.YtcpjldhpboodnaaDoorPFnx1
import Derived.Test.YtcpjldhpboodnaaDoorBa
import Derived.BigCall
import Derived.Lib.Hide
import Derived.StillTailTactics
import Derived.WalkLawsBesides
namespace Go.Proofs.YtcpjldhpboodnaaDoor.Rd
open Go Go.RowKit Go.Lib Go.Proofs.YtcpjldhpboodnaaDoor.PFn Go.Proofs.YtcpjldhpboodnaaDoorW.PrintWords
abbrev Bs := List UInt8
def bl (s : ByteArray) : Bs := s.data.toList
theorem bl_size (s : ByteArray) : (bl s).length = s.size := Array.length_toList
/-- from i on the text reads l -/
def Lr (s : ByteArray) (i : Nat) (l : Bs) : Prop := (bl s).drop i = l ∧ i ≤ s.size
theorem Lr.nil {s : ByteArray} {i : Nat} (h : Lr s i []) : i = s.size := by
  have := List.drop_eq_nil_iff.1 h.1
  rw [bl_size] at this
  have := h.2
  omega
theorem Lr.lt {s : ByteArray} {i : Nat} {c : UInt8} {r : Bs} (h : Lr s i (c :: r)) : i < s.size := by
  rcases Nat.lt_or_ge i s.size with h1 | h1
  · exact h1
  · have := h.1
    rw [List.drop_eq_nil_of_le (by rw [bl_size]; exact h1)] at this
    cases this
theorem Lr.at_ {s : ByteArray} {i : Nat} {c : UInt8} {r : Bs} (h : Lr s i (c :: r)) : s[i]'h.lt = c := by
  have hl : i < (bl s).length := by rw [bl_size]; exact h.lt
  have h1 := h.1
  rw [List.drop_eq_getElem_cons hl] at h1
  injection h1
theorem Lr.next {s : ByteArray} {i : Nat} {c : UInt8} {r : Bs} (h : Lr s i (c :: r)) : Lr s (i + 1) r := by
  have hl : i < (bl s).length := by rw [bl_size]; exact h.lt
  have h1 := h.1
  rw [List.drop_eq_getElem_cons hl] at h1
  injection h1 with _ h1
  exact ⟨h1, h.lt⟩
end Go.Proofs.YtcpjldhpboodnaaDoor.Rd
