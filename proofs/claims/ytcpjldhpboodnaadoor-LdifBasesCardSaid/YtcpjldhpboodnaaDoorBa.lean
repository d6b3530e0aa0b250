/- Base 64 in plain Lean over lists of bytes: written, read, and read back. No program. Conditions: none. -/
import Derived.Lib.Bytealg
import Derived.Lib.TrimByte
namespace Go.Proofs.YtcpjldhpboodnaaDoor.Lf
open Go

abbrev Bs := List UInt8
def digs : Bs := [65, 66, 67, 68, 69, 70, 71, 72, 73, 74, 75, 76, 77, 78, 79, 80, 81, 82, 83, 84, 85, 86, 87, 88, 89, 90, 97, 98, 99, 100, 101, 102, 103, 104, 105, 106, 107, 108, 109, 110, 111, 112, 113, 114, 115, 116, 117, 118, 119, 120, 121, 122, 48, 49, 50, 51, 52, 53, 54, 55, 56, 57, 43, 47]
/-- a digit's byte -/
def dg (n : Nat) : UInt8 := digs.getD n 0
/-- a byte's digit: -1: it is none -/
def ud (c : UInt8) : Int := Lib.indexByte digs c
theorem dg_all : ∀ n : Fin 64, ud (dg n.val) = (n.val : Int) ∧ dg n.val ≠ 61 ∧ dg n.val ≠ 10 ∧ dg n.val ≠ 0 := by decide +kernel
theorem ud_dg {n : Nat} (h : n < 64) : ud (dg n) = (n : Int) := (dg_all ⟨n, h⟩).1
theorem dg_61 {n : Nat} (h : n < 64) : dg n ≠ 61 := (dg_all ⟨n, h⟩).2.1
theorem dg_10 {n : Nat} (h : n < 64) : dg n ≠ 10 := (dg_all ⟨n, h⟩).2.2.1
theorem ud_all : ∀ c : Fin 256, -1 ≤ ud (UInt8.ofNat c.val) ∧ ud (UInt8.ofNat c.val) < 64 := by decide +kernel
theorem ud_lt (c : UInt8) : -1 ≤ ud c ∧ ud c < 64 := by
  have := ud_all ⟨c.toNat, c.toNat_lt⟩
  rw [show UInt8.ofNat (⟨c.toNat, c.toNat_lt⟩ : Fin 256).val = c from UInt8.ofNat_toNat] at this
  exact this
theorem ud_61 : ud 61 = -1 := by decide +kernel
/-- the four digits of three bytes, as numbers -/
def g0 (a : UInt8) : Nat := a.toNat / 4
def g1 (a b : UInt8) : Nat := a.toNat % 4 * 16 + b.toNat / 16
def g2 (b c : UInt8) : Nat := b.toNat % 16 * 4 + c.toNat / 64
def g3 (c : UInt8) : Nat := c.toNat % 64
theorem g0_lt (a : UInt8) : g0 a < 64 := by unfold g0; have := a.toNat_lt; omega
theorem g1_lt (a b : UInt8) : g1 a b < 64 := by unfold g1; have := b.toNat_lt; omega
theorem g2_lt (b c : UInt8) : g2 b c < 64 := by unfold g2; have := c.toNat_lt; omega
theorem g3_lt (c : UInt8) : g3 c < 64 := by unfold g3; omega
/-- the text of some bytes in base 64, without the signs = -/
def b64t : Bs → Bs
  | [] => []
  | [a] => [dg (g0 a), dg (g1 a 0)]
  | [a, b] => [dg (g0 a), dg (g1 a b), dg (g2 b 0)]
  | a :: b :: c :: r => dg (g0 a) :: dg (g1 a b) :: dg (g2 b c) :: dg (g3 c) :: b64t r
def b64 : Bs → Bs
  | [] => []
  | [a] => [dg (g0 a), dg (g1 a 0), 61, 61]
  | [a, b] => [dg (g0 a), dg (g1 a b), dg (g2 b 0), 61]
  | a :: b :: c :: r => dg (g0 a) :: dg (g1 a b) :: dg (g2 b c) :: dg (g3 c) :: b64 r
theorem b64_len : ∀ b : Bs, (b64 b).length = (b.length + 2) / 3 * 4
  | [] => rfl
  | [_] => by simp [b64]
  | [_, _] => by simp [b64]
  | a :: b :: c :: r => by
    simp only [b64, List.length_cons, b64_len r]
    omega
theorem b64_pad : ∀ b : Bs, ∃ n, b64 b = b64t b ++ List.replicate n 61
  | [] => ⟨0, rfl⟩
  | [_] => ⟨2, rfl⟩
  | [_, _] => ⟨1, rfl⟩
  | a :: b :: c :: r => by
    obtain ⟨n, h⟩ := b64_pad r
    exact ⟨n, by simp only [b64, b64t, h]; rfl⟩
theorem b64t_mem : ∀ (b : Bs) (c : UInt8), c ∈ b64t b → c ≠ 61 ∧ c ≠ 10
  | [], c, h => by cases h
  | [x], c, h => by
    simp only [b64t, List.mem_cons, List.not_mem_nil, or_false] at h
    rcases h with rfl | rfl
    · exact ⟨dg_61 (g0_lt x), dg_10 (g0_lt x)⟩
    · exact ⟨dg_61 (g1_lt x 0), dg_10 (g1_lt x 0)⟩
  | [x, y], c, h => by
    simp only [b64t, List.mem_cons, List.not_mem_nil, or_false] at h
    rcases h with rfl | rfl | rfl
    · exact ⟨dg_61 (g0_lt x), dg_10 (g0_lt x)⟩
    · exact ⟨dg_61 (g1_lt x y), dg_10 (g1_lt x y)⟩
    · exact ⟨dg_61 (g2_lt y 0), dg_10 (g2_lt y 0)⟩
  | x :: y :: z :: r, c, h => by
    simp only [b64t, List.mem_cons] at h
    rcases h with rfl | rfl | rfl | rfl | h
    · exact ⟨dg_61 (g0_lt x), dg_10 (g0_lt x)⟩
    · exact ⟨dg_61 (g1_lt x y), dg_10 (g1_lt x y)⟩
    · exact ⟨dg_61 (g2_lt y z), dg_10 (g2_lt y z)⟩
    · exact ⟨dg_61 (g3_lt z), dg_10 (g3_lt z)⟩
    · exact b64t_mem r c h
theorem b64_mem (b : Bs) (c : UInt8) (h : c ∈ b64 b) : c ≠ 10 := by
  obtain ⟨n, hn⟩ := b64_pad b
  rw [hn] at h
  rcases List.mem_append.1 h with h | h
  · exact (b64t_mem b c h).2
  · rw [List.eq_of_mem_replicate h]; decide
theorem dw_rep : ∀ n, (List.replicate n (61 : UInt8)).dropWhile (· == 61) = []
  | 0 => rfl
  | n + 1 => by rw [List.replicate_succ, List.dropWhile_cons, if_pos (by decide)]; exact dw_rep n
theorem trim_pad (l : Bs) (n : Nat) (h : ∀ c ∈ l, c ≠ 61) : Lib.trimRightB (l ++ List.replicate n 61) 61 = l := by
  unfold Lib.trimRightB
  rw [List.reverse_append, List.reverse_replicate, List.dropWhile_append]
  rw [dw_rep n]
  simp only [List.isEmpty_nil, if_true]
  have h2 : l.reverse.dropWhile (· == 61) = l.reverse := by
    cases hl : l.reverse with
    | nil => rfl
    | cons x r =>
      have hx : x ∈ l := by rw [← List.mem_reverse, hl]; exact List.mem_cons_self
      rw [List.dropWhile_cons, if_neg (by simp [h x hx])]
  rw [h2, List.reverse_reverse]
theorem b64_trim (b : Bs) : Lib.trimRightB (b64 b) 61 = b64t b := by
  obtain ⟨n, hn⟩ := b64_pad b
  rw [hn]
  exact trim_pad _ _ fun c hc => (b64t_mem b c hc).1
/-- the reader's rounds: the number so far, how many bits of it are left, the bytes -/
def decGo : Bs → Nat → Nat → Bs → Option Bs
  | [], _, _, out => some out
  | c :: r, x, bits, out => if ud c < 0 then none else if 2 ≤ bits then decGo r ((x * 64 + (ud c).toNat) % 2 ^ (bits - 2)) (bits - 2) (out ++ [UInt8.ofNat ((x * 64 + (ud c).toNat) / 2 ^ (bits - 2))]) else decGo r (x * 64 + (ud c).toNat) (bits + 6) out
theorem dec_skip {n : Nat} (h : n < 64) (r : Bs) (x : Nat) (out : Bs) : decGo (dg n :: r) x 0 out = decGo r (x * 64 + n) 6 out := by
  simp only [decGo]
  rw [ud_dg h, if_neg (by omega), if_neg (by omega), Int.toNat_natCast]
theorem dec_put {n : Nat} (h : n < 64) (r : Bs) (x bits : Nat) (hb : 2 ≤ bits) (out : Bs) : decGo (dg n :: r) x bits out = decGo r ((x * 64 + n) % 2 ^ (bits - 2)) (bits - 2) (out ++ [UInt8.ofNat ((x * 64 + n) / 2 ^ (bits - 2))]) := by
  simp only [decGo]
  rw [ud_dg h, if_neg (by omega), if_pos hb, Int.toNat_natCast]
theorem byte_of {a : UInt8} {n : Nat} (h : n = a.toNat) : UInt8.ofNat n = a := by
  rw [h]
  exact UInt8.ofNat_toNat
theorem dec_back : ∀ (b out : Bs), decGo (b64t b) 0 0 out = some (out ++ b)
  | [], out => by simp [b64t, decGo]
  | [a], out => by
    have ha := a.toNat_lt
    simp only [b64t]
    rw [dec_skip (g0_lt a), dec_put (g1_lt a 0) _ _ _ (by decide), byte_of (a := a) (by unfold g0 g1; simp; omega)]
    rfl
  | [a, b], out => by
    have ha := a.toNat_lt
    have hb := b.toNat_lt
    simp only [b64t]
    rw [dec_skip (g0_lt a), dec_put (g1_lt a b) _ _ _ (by decide), byte_of (a := a) (by unfold g0 g1; simp; omega)]
    rw [dec_put (g2_lt b 0) _ _ _ (by decide), byte_of (a := b) (by unfold g0 g1 g2; simp; omega)]
    simp [decGo]
  | a :: b :: c :: r, out => by
    have ha := a.toNat_lt
    have hb := b.toNat_lt
    have hc := c.toNat_lt
    simp only [b64t]
    rw [dec_skip (g0_lt a), dec_put (g1_lt a b) _ _ _ (by decide), byte_of (a := a) (by unfold g0 g1; simp; omega)]
    rw [dec_put (g2_lt b c) _ _ _ (by decide), byte_of (a := b) (by unfold g0 g1 g2; simp; omega)]
    rw [dec_put (g3_lt c) _ _ _ (by decide), byte_of (a := c) (by unfold g0 g1 g2 g3; simp; omega)]
    have hz : ((((0 * 64 + g0 a) * 64 + g1 a b) % 2 ^ (6 - 2) * 64 + g2 b c) % 2 ^ (6 - 2 - 2) * 64 + g3 c) % 2 ^ (6 - 2 - 2 - 2) = 0 := by
      simp [Nat.mod_one]
    rw [hz, dec_back r]
    simp
/-- what is read: nothing, where the bytes' text is another -/
def unb64 (s : Bs) : Option Bs := (decGo (Lib.trimRightB s 61) 0 0 []).bind fun b => if b64 b = s then some b else none
theorem unb64_back (b : Bs) : unb64 (b64 b) = some b := by
  unfold unb64
  rw [b64_trim, dec_back]
  simp
theorem unb64_iff {s b : Bs} : unb64 s = some b ↔ b64 b = s := by
  refine ⟨fun h => ?_, fun h => by rw [← h]; exact unb64_back b⟩
  obtain ⟨x, hx, h⟩ := Option.bind_eq_some_iff.1 h
  split at h
  · next he => injection h with h; rw [← h]; exact he
  · cases h
theorem b64_inj {a b : Bs} (h : b64 a = b64 b) : a = b := by
  have := unb64_back a
  rw [h, unb64_back] at this
  injection this with this
  exact this.symm
theorem unb64_none {s : Bs} (h : ∀ b, b64 b ≠ s) : unb64 s = none := by
  cases hu : unb64 s with
  | none => rfl
  | some b => exact absurd (unb64_iff.1 hu) (h b)
/-- whatever is read by another rule, if it reads what is written, and its answer is held against the text -/
theorem unb64_any {s b : Bs} (h : ∀ x, b64 x = s → b = x) : unb64 s = if b64 b = s then some b else none := by
  by_cases hb : b64 b = s
  · rw [if_pos hb, unb64_iff.2 hb]
  · rw [if_neg hb]
    exact unb64_none fun x hx => hb (by rw [h x hx]; exact hx)
end Go.Proofs.YtcpjldhpboodnaaDoor.Lf
