/- Package ldif's Base64 as printed computes the plain base 64. Conditions: a text of at most 2^46 bytes. -/
import Derived.Test.YtcpjldhpboodnaaDoorBe
namespace Go.Proofs.YtcpjldhpboodnaaDoor.Lf
open Go Go.RowKit Go.Lib Go.Proofs.YtcpjldhpboodnaaDoor.PFn Go.Proofs.YtcpjldhpboodnaaDoorW.PrintWords Go.Proofs.YtcpjldhpboodnaaDoor.Rd

theorem wraps_i64 (n : Int) (h₀ : 0 ≤ n) (h₁ : n < 2 ^ 63) : IntKind.i64.wrap n = n := by rw [IntKind.wrap_i64]; omega
theorem or_256 {x y : Nat} (hx : x < 16777216) (hy : y < 256) : Go.bits .or .i64 ((x : Int) * 256) (y : Int) = ((x * 256 + y : Nat) : Int) := by
  rw [bits_join .i64 63 (by decide) wraps_i64 8 _ _ (by omega) (by omega) (by omega) (by omega) (by omega) (by omega)]
  omega
theorem and_63 {x : Nat} (hx : x < 4294967296) : Go.bits .and .i64 (x : Int) 63 = ((x % 64 : Nat) : Int) := by
  have := bits_mask .i64 63 (by decide) wraps_i64 6 (by decide) (x : Int) (by omega) (by omega)
  rw [show ((2 : Int) ^ 6 - 1) = 63 from rfl] at this
  rw [this]
  omega
theorem shr_nat {x n : Nat} (hn : n < 64) : shr .i64 (x : Int) (n : Int) = ((x / 2 ^ n : Nat) : Int) := by
  unfold shr
  rw [Int.toNat_natCast, Nat.min_eq_left (show n ≤ IntKind.i64.bits from by show n ≤ 64; omega)]
  simp
def DG : ByteArray := ⟨#[65, 66, 67, 68, 69, 70, 71, 72, 73, 74, 75, 76, 77, 78, 79, 80, 81, 82, 83, 84, 85, 86, 87, 88, 89, 90, 97, 98, 99, 100, 101, 102, 103, 104, 105, 106, 107, 108, 109, 110, 111, 112, 113, 114, 115, 116, 117, 118, 119, 120, 121, 122, 48, 49, 50, 51, 52, 53, 54, 55, 56, 57, 43, 47]⟩
theorem DG_all : ∀ n : Fin 64, bt DG (n.val : Int) = ((dg n.val).toNat : Int) := by decide +kernel
theorem DG_at {n : Nat} (h : n < 64) : bt DG (n : Int) = ((dg n).toNat : Int) := DG_all ⟨n, h⟩
def nb (l : Bs) : List Int := l.map fun b => (b.toNat : Int)
theorem nb_snoc (l : Bs) (c : UInt8) : nb l ++ [(c.toNat : Int)] = nb (l ++ [c]) := by simp [nb]
theorem strOf_nb (l : Bs) : strOfNums (nb l) = ⟨l.toArray⟩ := by
  unfold strOfNums nb
  rw [List.map_map]
  congr 2
  conv => rhs; rw [← List.map_id l]
  apply List.map_congr_left
  intro c _
  simp
theorem nb_len (l : Bs) : (nb l).length = l.length := by simp [nb]
theorem wrap64_in {x : Int} (h0 : -9223372036854775808 ≤ x) (h1 : x < 9223372036854775808) : wrap64 x = x := by unfold wrap64; omega
def Fits (n : Nat) : Prop := n < 140737488355328
theorem Fits.le {a b : Nat} (h : Fits a) (hb : b ≤ a) : Fits b := Nat.lt_of_le_of_lt hb h
theorem lt_16 {x y : Nat} (hx : x < 256) (hy : y < 256) : (0 * 256 + x) * 256 + y < 65536 := by
  have := Nat.mul_le_mul_right 256 (show 0 * 256 + x ≤ 255 by omega)
  exact Nat.lt_of_le_of_lt (Nat.add_le_add this (show y ≤ 255 by omega)) (by decide)
theorem l1_in {k : Nat} {x0 : ByteArray} {x3 : List Int} {x i : Nat} (hi : i < 3) (hs : i < x0.size) (hx : x < 65536) :
    ldif_Base64.l1 (k + 1) x0 x3 (x : Int) (i : Int) = ldif_Base64.l1 k x0 x3 ((x * 256 + (x0[i]'hs).toNat : Nat) : Int) ((i + 1 : Nat) : Int) := by
  have hb := bt_range x0 (i : Int)
  have hbt : bt x0 (i : Int) = ((x0[i]'hs).toNat : Int) := by unfold bt; rw [dif_pos (by rw [Int.toNat_natCast]; exact hs)]; rfl
  have hlt := (x0[i]'hs).toNat_lt
  simp only [ldif_Base64.l1]
  rw [if_pos (by omega), if_pos (by omega), if_pos (by omega), hbt, wrap64_in (by omega) (by omega), wrap64_in (by omega) (by omega), or_256 (by omega) hlt, wrap64_in (by omega) (by omega)]
  rfl
theorem l1_out {k : Nat} {x0 : ByteArray} {x3 : List Int} {x i : Nat} (hi : i < 3) (hs : ¬ i < x0.size) (hx : x < 65536) :
    ldif_Base64.l1 (k + 1) x0 x3 (x : Int) (i : Int) = ldif_Base64.l1 k x0 x3 ((x * 256 : Nat) : Int) ((i + 1 : Nat) : Int) := by
  simp only [ldif_Base64.l1]
  rw [if_pos (by omega), if_neg (by omega), wrap64_in (by omega) (by omega), wrap64_in (by omega) (by omega)]
  rfl
theorem l1_end {k : Nat} {x0 : ByteArray} {x3 : List Int} {x : Int} : ldif_Base64.l1 (k + 1) x0 x3 x ((3 : Nat) : Int) = ldif_Base64.l2 k x0 x3 x ((0 : Nat) : Int) := by
  simp only [ldif_Base64.l1]
  rw [if_neg (by omega)]
  rfl
theorem l2_pad {k : Nat} {x0 : ByteArray} {acc : Bs} {x : Int} {i : Nat} (hi : i < 4) (hs : x0.size < i) (hl : Fits acc.length) :
    ldif_Base64.l2 (k + 1) x0 (nb acc) x (i : Int) = ldif_Base64.l2 k x0 (nb (acc ++ [61])) x ((i + 1 : Nat) : Int) := by
  simp only [ldif_Base64.l2]
  rw [if_pos (by omega), if_pos (by omega), if_pos (by rw [nb_len]; exact hl), wrap64_in (by omega) (by omega), ← nb_snoc]
  rfl
theorem l2_dig {k : Nat} {x0 : ByteArray} {acc : Bs} {x i d : Nat} (q : Nat) (hq : 2 ^ (18 - 6 * i) = q) (hi : i < 4) (hs : ¬ x0.size < i) (hl : Fits acc.length) (hx : x < 16777216) (hd : d = x / q % 64) :
    ldif_Base64.l2 (k + 1) x0 (nb acc) (x : Int) (i : Int) = ldif_Base64.l2 k x0 (nb (acc ++ [dg d])) (x : Int) ((i + 1 : Nat) : Int) := by
  have hw : wrap64 (18 - wrap64 (6 * (i : Int))) = ((18 - 6 * i : Nat) : Int) := by
    rw [wrap64_in (x := 6 * (i : Int)) (by omega) (by omega), wrap64_in (by omega) (by omega)]
    omega
  subst hq
  have hq : x / 2 ^ (18 - 6 * i) < 4294967296 := Nat.lt_of_le_of_lt (Nat.div_le_self _ _) (by omega)
  have ha : Go.bits .and .i64 (shr .i64 (x : Int) (wrap64 (18 - wrap64 (6 * (i : Int))))) 63 = (d : Int) := by
    rw [hw, shr_nat (by omega), and_63 hq, hd]
  have hd64 : d < 64 := by rw [hd]; exact Nat.mod_lt _ (by decide)
  simp only [ldif_Base64.l2]
  rw [ha, if_pos (by omega), if_neg (by omega), if_pos (by rw [hw]; omega), if_pos (by omega), if_pos (by omega), if_pos (by rw [nb_len]; exact hl), wrap64_in (x := (i : Int) + 1) (by omega) (by omega)]
  show ldif_Base64.l2 k x0 (nb acc ++ [bt DG (d : Int)]) (x : Int) ((i : Int) + 1) = _
  rw [DG_at hd64, nb_snoc]
  rfl
theorem l2_end {k : Nat} {x0 : ByteArray} {x3 : List Int} {x : Int} : ldif_Base64.l2 (k + 1) x0 x3 x ((4 : Nat) : Int) = ldif_Base64.l0 k (x0.extract (min 3 x0.size) x0.size) x3 := by
  simp only [ldif_Base64.l2]
  have hm : mn 3 (x0.size : Int) = ((min 3 x0.size : Nat) : Int) := by unfold mn; omega
  rw [if_neg (by omega), hm, if_pos (by omega), if_pos (by omega), Int.toNat_natCast]
theorem bl_drop (x0 : ByteArray) (n : Nat) : bl (x0.extract n x0.size) = (bl x0).drop n := by
  unfold bl
  rw [ByteArray.data_extract, Array.toList_extract, List.extract_eq_take_drop]
  rw [List.take_of_length_le]
  rw [List.length_drop, Array.length_toList]
  exact Nat.le_refl _
theorem l0_end {k : Nat} {x0 : ByteArray} {x3 : List Int} (h : bl x0 = []) : ldif_Base64.l0 (k + 1) x0 x3 = some (strOfNums x3) := by
  simp only [ldif_Base64.l0]
  rw [if_pos (by rw [Lib.toList_data]; exact h)]
theorem l0_go {k : Nat} {x0 : ByteArray} {x3 : List Int} (h : bl x0 ≠ []) : ldif_Base64.l0 (k + 1) x0 x3 = ldif_Base64.l1 k x0 x3 ((0 : Nat) : Int) ((0 : Nat) : Int) := by
  simp only [ldif_Base64.l0]
  rw [if_neg (by rw [Lib.toList_data]; exact h)]
  rfl
theorem at_bl {x0 : ByteArray} {l r : Bs} {c : UInt8} (h : bl x0 = l ++ c :: r) (hs : l.length < x0.size) : x0[l.length]'hs = c := by
  have h1 : (bl x0)[l.length]? = some c := by rw [h]; simp
  have h2 : (bl x0)[l.length]? = some (x0[l.length]'hs) := by
    rw [List.getElem?_eq_getElem (by rw [bl_size]; exact hs)]
    rfl
  rw [h2] at h1
  injection h1
theorem l0_b64 : ∀ (n : Nat) (x0 : ByteArray) (acc : Bs) (k : Nat), (bl x0).length ≤ n → Fits (acc.length + 4 * n + 4) → 10 * n + 1 ≤ k → ldif_Base64.l0 k x0 (nb acc) = some ⟨(acc ++ b64 (bl x0)).toArray⟩
  | 0, x0, acc, k, hn, hz, hk => by
    obtain ⟨k, rfl⟩ : ∃ m, k = m + 1 := ⟨k - 1, by omega⟩
    have hb : bl x0 = [] := List.eq_nil_of_length_eq_zero (by omega)
    rw [l0_end hb, hb]
    rw [strOf_nb]
    simp [b64]
  | n + 1, x0, acc, k, hn, hz, hk => by
    have hsz := bl_size x0
    match hb : bl x0 with
    | [] =>
      obtain ⟨k, rfl⟩ : ∃ m, k = m + 1 := ⟨k - 1, by omega⟩
      rw [l0_end hb]
      rw [strOf_nb]
      simp [b64]
    | [a] =>
      rw [hb] at hsz
      have hs1 : x0.size = 1 := hsz.symm
      obtain ⟨k, rfl⟩ : ∃ m, k = m + 10 := ⟨k - 10, by omega⟩
      have ha := at_bl (x0 := x0) (l := []) (r := []) hb (by simp [hs1])
      have hal := a.toNat_lt
      have e1 : 0 * 256 + a.toNat < 65536 := by omega
      have e2 : (0 * 256 + a.toNat) * 256 < 65536 := Nat.lt_of_le_of_lt (Nat.le_add_right _ 0) (lt_16 (y := 0) hal (by decide))
      rw [l0_go (by rw [hb]; simp), l1_in (i := 0) (x := 0) (by decide) (by rw [hs1]; decide) (by decide)]
      rw [show x0[0]'(by rw [hs1]; decide) = a from ha]
      rw [l1_out (i := 0 + 1) (x := 0 * 256 + a.toNat) (by decide) (by rw [hs1]; decide) e1,
        l1_out (i := 0 + 1 + 1) (x := (0 * 256 + a.toNat) * 256) (by decide) (by rw [hs1]; decide) e2, l1_end]
      obtain ⟨X, hX⟩ : ∃ X, (0 * 256 + a.toNat) * 256 * 256 = X := ⟨_, rfl⟩
      rw [hX]
      rw [l2_dig (d := g0 a) 262144 rfl (by decide) (by omega) (hz.le (by omega)) (by omega) (by unfold g0; omega), l2_dig (d := g1 a 0) 4096 rfl (by decide) (by omega) (hz.le (by simp; omega)) (by omega) (by unfold g1; simp; omega),
        l2_pad (by decide) (by omega) (hz.le (by simp; omega)), l2_pad (by decide) (by omega) (hz.le (by simp; omega)), l2_end]
      rw [l0_b64 n _ _ _ (by rw [bl_drop _ _, hb, hs1]; simp) (hz.le (by simp; omega)) (by omega), bl_drop _ _, hb, hs1]
      simp [b64]
    | [a, b] =>
      rw [hb] at hsz
      have hs1 : x0.size = 2 := hsz.symm
      obtain ⟨k, rfl⟩ : ∃ m, k = m + 10 := ⟨k - 10, by omega⟩
      have ha := at_bl (x0 := x0) (l := []) (r := [b]) hb (by simp [hs1])
      have hb1 := at_bl (x0 := x0) (l := [a]) (r := []) hb (by simp [hs1])
      have hal := a.toNat_lt
      have hbl := b.toNat_lt
      have e1 : 0 * 256 + a.toNat < 65536 := by omega
      have e2 : (0 * 256 + a.toNat) * 256 + b.toNat < 65536 := lt_16 hal hbl
      rw [l0_go (by rw [hb]; simp), l1_in (i := 0) (x := 0) (by decide) (by rw [hs1]; decide) (by decide)]
      rw [show x0[0]'(by rw [hs1]; decide) = a from ha]
      rw [l1_in (i := 0 + 1) (x := 0 * 256 + a.toNat) (by decide) (by rw [hs1]; decide) e1]
      rw [show x0[0 + 1]'(by rw [hs1]; decide) = b from hb1]
      rw [l1_out (i := 0 + 1 + 1) (x := (0 * 256 + a.toNat) * 256 + b.toNat) (by decide) (by rw [hs1]; decide) e2, l1_end]
      obtain ⟨X, hX⟩ : ∃ X, ((0 * 256 + a.toNat) * 256 + b.toNat) * 256 = X := ⟨_, rfl⟩
      rw [hX]
      rw [l2_dig (d := g0 a) 262144 rfl (by decide) (by omega) (hz.le (by omega)) (by omega) (by unfold g0; omega), l2_dig (d := g1 a b) 4096 rfl (by decide) (by omega) (hz.le (by simp; omega)) (by omega) (by unfold g1; omega),
        l2_dig (d := g2 b 0) 64 rfl (by decide) (by omega) (hz.le (by simp; omega)) (by omega) (by unfold g2; simp; omega), l2_pad (by decide) (by omega) (hz.le (by simp; omega)), l2_end]
      rw [l0_b64 n _ _ _ (by rw [bl_drop _ _, hb, hs1]; simp) (hz.le (by simp; omega)) (by omega), bl_drop _ _, hb, hs1]
      simp [b64]
    | a :: b :: c :: r =>
      rw [hb] at hsz hn
      simp only [List.length_cons] at hsz hn
      obtain ⟨k, rfl⟩ : ∃ m, k = m + 10 := ⟨k - 10, by omega⟩
      have ha := at_bl (x0 := x0) (l := []) (r := b :: c :: r) hb (by simp; omega)
      have hb1 := at_bl (x0 := x0) (l := [a]) (r := c :: r) hb (by simp; omega)
      have hc1 := at_bl (x0 := x0) (l := [a, b]) (r := r) hb (by simp; omega)
      have hal := a.toNat_lt
      have hbl := b.toNat_lt
      have hcl := c.toNat_lt
      have e1 : 0 * 256 + a.toNat < 65536 := by omega
      have e2 : (0 * 256 + a.toNat) * 256 + b.toNat < 65536 := lt_16 hal hbl
      have s0 : 0 < x0.size := by omega
      have s1 : 0 + 1 < x0.size := by omega
      have s2 : 0 + 1 + 1 < x0.size := by omega
      rw [l0_go (by rw [hb]; simp), l1_in (i := 0) (x := 0) (by decide) s0 (by decide)]
      rw [show x0[0]'s0 = a from ha]
      rw [l1_in (i := 0 + 1) (x := 0 * 256 + a.toNat) (by decide) s1 e1]
      rw [show x0[0 + 1]'s1 = b from hb1]
      rw [l1_in (i := 0 + 1 + 1) (x := (0 * 256 + a.toNat) * 256 + b.toNat) (by decide) s2 e2]
      rw [show x0[0 + 1 + 1]'s2 = c from hc1]
      rw [l1_end]
      obtain ⟨X, hX⟩ : ∃ X, ((0 * 256 + a.toNat) * 256 + b.toNat) * 256 + c.toNat = X := ⟨_, rfl⟩
      rw [hX]
      rw [l2_dig (d := g0 a) 262144 rfl (by decide) (by omega) (hz.le (by omega)) (by omega) (by unfold g0; omega), l2_dig (d := g1 a b) 4096 rfl (by decide) (by omega) (hz.le (by simp; omega)) (by omega) (by unfold g1; omega),
        l2_dig (d := g2 b c) 64 rfl (by decide) (by omega) (hz.le (by simp; omega)) (by omega) (by unfold g2; omega), l2_dig (d := g3 c) 1 rfl (by decide) (by omega) (hz.le (by simp; omega)) (by omega) (by unfold g3; omega), l2_end]
      rw [l0_b64 n _ _ _ (by rw [bl_drop _ _, hb, show min 3 x0.size = 3 by omega]; simp; omega) (hz.le (by simp; omega)) (by omega), bl_drop _ _, hb, show min 3 x0.size = 3 by omega]
      simp [b64]
theorem base64_c (s : ByteArray) (w : World) (hz : s.size ≤ 35000000000000) : Calls Tryd.prog 17 #[.string s] w fun e w' => e = .returned (.string ⟨(b64 (bl s)).toArray⟩) ∧ Below w.heap.size w w' :=
  ldif_Base64.calls (10 * s.size + 1) s _ w (by
    unfold ldif_Base64.f
    have := l0_b64 s.size s [] (10 * s.size + 1) (by rw [bl_size]; exact Nat.le_refl _) (by unfold Fits; simp; omega) (Nat.le_refl _)
    exact this)
end Go.Proofs.YtcpjldhpboodnaaDoor.Lf
