/- The reference's Unbase64, as printed, reads what the plain reader reads. Conditions: sizes as told. -/
import Derived.Test.YtcpjldhpboodnaaDoorBo
namespace Go.Proofs.YtcpjldhpboodnaaDoor.Lf
open Go Go.RowKit Go.Lib Go.Proofs.YtcpjldhpboodnaaDoor.PFn Go.Proofs.YtcpjldhpboodnaaDoorW.PrintWords Go.Proofs.YtcpjldhpboodnaaDoor.Rd

theorem dig_all : ∀ c : Fin 256, chanceryref18_digit.f 65 (c.val : Int) = some (ud (UInt8.ofNat c.val)) := by decide +kernel
theorem digit_f (c : UInt8) {k : Nat} (hk : 65 ≤ k) : chanceryref18_digit.f k (c.toNat : Int) = some (ud c) := by
  have h := dig_all ⟨c.toNat, c.toNat_lt⟩
  rw [show UInt8.ofNat (⟨c.toNat, c.toNat_lt⟩ : Fin 256).val = c from UInt8.ofNat_toNat] at h
  exact at_rounds (g := fun k => chanceryref18_digit.f k (c.toNat : Int)) (fun k => chanceryref18_digit.mono _ k) hk h
def dz (c : UInt8) : Nat := (ud c).toNat
theorem dz_lt (c : UInt8) : dz c < 64 := by have := ud_lt c; unfold dz; omega
def nx3 (c : UInt8) (j n : Nat) : Nat := if ud c < 0 then (if 2 ≤ j then (if n = 3 then j - 1 else n) else n) else n
def grp (c0 c1 c2 c3 : UInt8) : Bs := [UInt8.ofNat ((((dz c0 * 64 + dz c1) * 64 + dz c2) * 64 + dz c3) / 65536), UInt8.ofNat ((((dz c0 * 64 + dz c1) * 64 + dz c2) * 64 + dz c3) / 256 % 256), UInt8.ofNat ((((dz c0 * 64 + dz c1) * 64 + dz c2) * 64 + dz c3) % 256)].take (nx3 c3 3 (nx3 c2 2 3))
def decR : Bs → Bs
  | c0 :: c1 :: c2 :: c3 :: r => grp c0 c1 c2 c3 ++ decR r
  | _ => []
theorem dz_dg {n : Nat} (h : n < 64) : dz (dg n) = n := by unfold dz; rw [ud_dg h, Int.toNat_natCast]
theorem dz_61 : dz 61 = 0 := by decide +kernel
theorem nx3_dg {n j m : Nat} (h : n < 64) : nx3 (dg n) j m = m := by unfold nx3; rw [ud_dg h, if_neg (by omega)]
theorem nx3_61a : nx3 61 2 3 = 1 := by decide +kernel
theorem nx3_61b : nx3 61 3 1 = 1 := by decide +kernel
theorem nx3_61c : nx3 61 3 3 = 2 := by decide +kernel
theorem decR_back : ∀ b : Bs, decR (b64 b) = b
  | [] => rfl
  | [a] => by
    have ha := a.toNat_lt
    simp only [b64, decR, grp]
    rw [nx3_61a, nx3_61b, dz_dg (g0_lt a), dz_dg (g1_lt a 0), dz_61]
    rw [byte_of (a := a) (by unfold g0 g1; simp; omega)]
    rfl
  | [a, b] => by
    have ha := a.toNat_lt
    have hb := b.toNat_lt
    simp only [b64, decR, grp]
    rw [nx3_dg (g2_lt b 0), nx3_61c, dz_dg (g0_lt a), dz_dg (g1_lt a b), dz_dg (g2_lt b 0), dz_61]
    rw [byte_of (a := a) (by unfold g0 g1 g2; simp; omega), byte_of (a := b) (by unfold g0 g1 g2; simp; omega)]
    rfl
  | a :: b :: c :: r => by
    have ha := a.toNat_lt
    have hb := b.toNat_lt
    have hc := c.toNat_lt
    simp only [b64, decR, grp]
    rw [nx3_dg (g2_lt b c), nx3_dg (g3_lt c), dz_dg (g0_lt a), dz_dg (g1_lt a b), dz_dg (g2_lt b c), dz_dg (g3_lt c)]
    rw [byte_of (a := a) (by unfold g0 g1 g2 g3; omega), byte_of (a := b) (by unfold g0 g1 g2 g3; omega), byte_of (a := c) (by unfold g0 g1 g2 g3; omega), decR_back r]
    rfl
theorem ul1 {k : Nat} {x0 : ByteArray} {x4 : List Int} {i v n j : Nat} {c : UInt8} (hj : j < 4) (hz : x0.size < 4611686018427387904) (hs : i + j < x0.size) (hc : x0[i + j]'hs = c) (hv : v < 1048576) (hk : 65 ≤ k) :
    chanceryref18_Unbase64.l1 (k + 1) x0 x4 (i : Int) (v : Int) (n : Int) (j : Int) = chanceryref18_Unbase64.l1 k x0 x4 (i : Int) ((v * 64 + dz c : Nat) : Int) ((nx3 c j n : Nat) : Int) ((j + 1 : Nat) : Int) := by
  have hb1 : bt x0 (wrap64 ((i : Int) + (j : Int))) = (c.toNat : Int) := by
    rcases bt_at2 hs with h | h
    · rw [h, hc]
    · omega
  have hw : wrap64 ((i : Int) + (j : Int)) = ((i + j : Nat) : Int) := by rw [wrap64_in (by omega) (by omega)]; omega
  have hu := ud_lt c
  have hd := dz_lt c
  simp only [chanceryref18_Unbase64.l1]
  rw [if_pos (by omega), if_pos (by rw [hw]; omega), if_pos (by rw [hw]; omega), hb1, digit_f c hk, Option.bind_some, wrap64_in (x := (v : Int) * 64) (by omega) (by omega), wrap64_in (x := (j : Int) + 1) (by omega) (by omega)]
  unfold nx3
  by_cases hneg : ud c < 0
  · have hdz : dz c = 0 := by unfold dz; omega
    rw [if_pos hneg, if_pos hneg, hdz, wrap64_in (x := (v : Int) * 64 + 0) (by omega) (by omega)]
    by_cases h2 : 2 ≤ j
    · rw [if_pos (show (j : Int) ≥ 2 by omega), if_pos h2]
      by_cases h3 : n = 3
      · rw [if_pos (show (n : Int) = 3 by omega), if_pos h3, wrap64_in (by omega) (by omega)]
        rw [show (j : Int) - 1 = ((j - 1 : Nat) : Int) by omega]
        rfl
      · rw [if_neg (show ¬ (n : Int) = 3 by omega), if_neg h3]
        rfl
    · rw [if_neg (show ¬ (j : Int) ≥ 2 by omega), if_neg h2]
      rfl
  · have hdz : ud c = (dz c : Int) := by unfold dz; omega
    rw [if_neg hneg, if_neg hneg, hdz, wrap64_in (by omega) (by omega)]
    rfl
theorem nx3_le {c : UInt8} {j n : Nat} (hj : j < 4) (hn : n ≤ 3) : nx3 c j n ≤ 3 := by
  unfold nx3
  split
  · split
    · split <;> omega
    · exact hn
  · exact hn
theorem nb3 (v : Nat) (hv : v < 16777216) : ([(wrap64 (Int.tdiv (v : Int) 65536)) % 256, (Int.tmod (wrap64 (Int.tdiv (v : Int) 256)) 256) % 256, (Int.tmod (v : Int) 256) % 256] : List Int) = nb [UInt8.ofNat (v / 65536), UInt8.ofNat (v / 256 % 256), UInt8.ofNat (v % 256)] := by
  have h1 : wrap64 (Int.tdiv (v : Int) 65536) = ((v / 65536 : Nat) : Int) := td (q := 65536) hv
  have h2 : wrap64 (Int.tdiv (v : Int) 256) = ((v / 256 : Nat) : Int) := td (q := 256) hv
  have m2 : Int.tmod ((v / 256 : Nat) : Int) 256 = ((v / 256 % 256 : Nat) : Int) := tm (v := v / 256) (q := 256)
  have m4 : Int.tmod (v : Int) 256 = ((v % 256 : Nat) : Int) := tm (v := v) (q := 256)
  have hb : ∀ n : Nat, n < 256 → ((UInt8.ofNat n).toNat : Int) = (n : Int) := fun n hn => by rw [UInt8.toNat_ofNat', Nat.mod_eq_of_lt (show n < 2 ^ 8 from hn)]
  rw [h1, h2, m2, m4]
  unfold nb
  simp only [List.map_cons, List.map_nil]
  rw [hb _ (by omega), hb _ (by omega), hb _ (by omega)]
  congr 1
  · omega
  · congr 1
    · omega
    · congr 1
      omega
theorem ul1_end {k : Nat} {x0 : ByteArray} {acc : Bs} {i v n : Nat} (hv : v < 16777216) (hn : n ≤ 3) (hl : Fits (acc.length + 4)) (hi : i < 4611686018427387904) :
    chanceryref18_Unbase64.l1 (k + 1) x0 (nb acc) (i : Int) (v : Int) (n : Int) ((4 : Nat) : Int) = chanceryref18_Unbase64.l0 k x0 (nb (acc ++ [UInt8.ofNat (v / 65536), UInt8.ofNat (v / 256 % 256), UInt8.ofNat (v % 256)].take n)) ((i + 4 : Nat) : Int) := by
  simp only [chanceryref18_Unbase64.l1]
  rw [if_neg (by omega), nb3 v hv, Option.bind_some, if_pos (by omega), if_pos (by rw [nb_len]; simp; omega), Option.bind_some, Int.toNat_natCast, if_pos (by
    have h : (List.take n (nb [UInt8.ofNat (v / 65536), UInt8.ofNat (v / 256 % 256), UInt8.ofNat (v % 256)])).length ≤ 3 := by
      rw [List.length_take, nb_len]; simp; omega
    rw [nb_len]
    exact hl.le (by omega)), wrap64_in (by omega) (by omega)]
  unfold nb
  rw [List.map_append, List.map_take]
  rfl
theorem ul0_go {k : Nat} {x0 : ByteArray} {x4 : List Int} {i : Nat} (hi : i < 4611686018427387904) (h : i + 4 ≤ x0.size) : chanceryref18_Unbase64.l0 (k + 1) x0 x4 (i : Int) = chanceryref18_Unbase64.l1 k x0 x4 (i : Int) ((0 : Nat) : Int) ((3 : Nat) : Int) ((0 : Nat) : Int) := by
  simp only [chanceryref18_Unbase64.l0]
  rw [if_pos (by rw [wrap64_in (by omega) (by omega)]; omega)]
  rfl
def ubN (s b : Bs) : ByteArray × Int := if b64 b = s then (⟨b.toArray⟩, 0) else (⟨#[]⟩, 110)
theorem ul0_end {k : Nat} {x0 : ByteArray} {acc : Bs} {i : Nat} (hi : i < 4611686018427387904) (h : ¬ i + 4 ≤ x0.size) (hk : 10 * acc.length + 1 ≤ k) (ha : acc.length < 1000000000000) : chanceryref18_Unbase64.l0 (k + 1) x0 (nb acc) (i : Int) = some (ubN (bl x0) acc) := by
  simp only [chanceryref18_Unbase64.l0]
  rw [if_neg (by rw [wrap64_in (by omega) (by omega)]; omega), strOf_nb]
  have hsz : (⟨acc.toArray⟩ : ByteArray).size = acc.length := by show acc.toArray.size = _; simp
  rw [rb64_f ⟨acc.toArray⟩ (by rw [hsz]; exact ha) (by rw [hsz]; exact hk), Option.bind_some, Lib.toList_data, Lib.toList_data]
  show (if b64 acc = bl x0 then _ else _) = _
  unfold ubN
  split <;> rfl
theorem grp_len (c0 c1 c2 c3 : UInt8) : (grp c0 c1 c2 c3).length ≤ 3 := by
  unfold grp
  rw [List.length_take]
  simp
  omega
theorem v24 {a b c d : Nat} (ha : a < 64) (hb : b < 64) (hc : c < 64) (hd : d < 64) : ((a * 64 + b) * 64 + c) * 64 + d < 16777216 := by omega
theorem v18 {a b c : Nat} (ha : a < 64) (hb : b < 64) (hc : c < 64) : (a * 64 + b) * 64 + c < 1048576 := by omega
theorem v12 {a b : Nat} (ha : a < 64) (hb : b < 64) : a * 64 + b < 1048576 := by omega
theorem v06 {a : Nat} (ha : a < 64) : 0 * 64 + a = a ∧ a < 1048576 := by omega
theorem rub (x0 : ByteArray) (hz : x0.size < 100000000000) : ∀ (m : Bs) (i : Nat) (acc : Bs) (k : Nat), Lr x0 i m → Fits (acc.length + m.length + 4) → acc.length + m.length < 1000000000000 → 40 * m.length + 10 * acc.length + 100 ≤ k →
    chanceryref18_Unbase64.l0 k x0 (nb acc) (i : Int) = some (ubN (bl x0) (acc ++ decR m))
  | c0 :: c1 :: c2 :: c3 :: r, i, acc, k, hm, hl, ha, hk => by
    obtain ⟨k, rfl⟩ : ∃ q, k = q + 6 := ⟨k - 6, by omega⟩
    have hlen := hm.len2
    simp only [List.length_cons] at hlen hl ha hk
    obtain ⟨s0, e0⟩ := lr_next (l := []) (j := 0) hm rfl
    obtain ⟨s1, e1⟩ := lr_next (l := [c0]) (j := 0 + 1) hm rfl
    obtain ⟨s2, e2⟩ := lr_next (l := [c0, c1]) (j := 0 + 1 + 1) hm rfl
    obtain ⟨s3, e3⟩ := lr_next (l := [c0, c1, c2]) (j := 0 + 1 + 1 + 1) hm rfl
    have d0 := dz_lt c0
    have d1 := dz_lt c1
    have d2 := dz_lt c2
    have d3 := dz_lt c3
    have n0 : nx3 c0 0 3 = 3 := by unfold nx3; split <;> rfl
    have n1 : nx3 c1 (0 + 1) 3 = 3 := by unfold nx3; split <;> rfl
    have n2 := nx3_le (c := c2) (j := 2) (n := 3) (by decide) (by decide)
    have n3 := nx3_le (c := c3) (j := 3) (n := nx3 c2 2 3) (by decide) n2
    have hgl := grp_len c0 c1 c2 c3
    rw [ul0_go (by omega) (by omega), ul1 (j := 0) (v := 0) (n := 3) (by decide) (by omega) s0 e0 (by decide) (by omega), n0, (v06 d0).1,
      ul1 (j := 0 + 1) (v := dz c0) (n := 3) (by decide) (by omega) s1 e1 (v06 d0).2 (by omega), n1,
      ul1 (j := 0 + 1 + 1) (v := dz c0 * 64 + dz c1) (n := 3) (by decide) (by omega) s2 e2 (v12 d0 d1) (by omega),
      ul1 (j := 0 + 1 + 1 + 1) (v := (dz c0 * 64 + dz c1) * 64 + dz c2) (n := nx3 c2 (0 + 1 + 1) 3) (by decide) (by omega) s3 e3 (v18 d0 d1 d2) (by omega)]
    rw [show ((0 + 1 + 1 + 1 + 1 : Nat) : Int) = ((4 : Nat) : Int) from rfl, ul1_end (v24 d0 d1 d2 d3) n3 (hl.le (by omega)) (by omega)]
    have hm4 : Lr x0 (i + 4) r := hm.next.next.next.next
    rw [show acc ++ List.take (nx3 c3 (0 + 1 + 1 + 1) (nx3 c2 (0 + 1 + 1) 3)) [UInt8.ofNat ((((dz c0 * 64 + dz c1) * 64 + dz c2) * 64 + dz c3) / 65536), UInt8.ofNat ((((dz c0 * 64 + dz c1) * 64 + dz c2) * 64 + dz c3) / 256 % 256), UInt8.ofNat ((((dz c0 * 64 + dz c1) * 64 + dz c2) * 64 + dz c3) % 256)] = acc ++ grp c0 c1 c2 c3 from rfl]
    rw [rub x0 hz r (i + 4) (acc ++ grp c0 c1 c2 c3) k hm4 (hl.le (by rw [List.length_append]; omega)) (by rw [List.length_append]; omega) (by rw [List.length_append]; omega)]
    rw [List.append_assoc]
    rfl
  | [], i, acc, k, hm, hl, ha, hk => by
    obtain ⟨k, rfl⟩ : ∃ q, k = q + 1 := ⟨k - 1, by omega⟩
    have hlen := hm.len2
    simp only [List.length_nil] at hlen ha hk
    rw [ul0_end (by omega) (by omega) (by omega) (by omega), show decR [] = [] from rfl, List.append_nil]
  | [c], i, acc, k, hm, hl, ha, hk => by
    obtain ⟨k, rfl⟩ : ∃ q, k = q + 1 := ⟨k - 1, by omega⟩
    have hlen := hm.len2
    simp only [List.length_nil, List.length_cons] at hlen ha hk
    rw [ul0_end (by omega) (by omega) (by omega) (by omega), show decR [c] = [] from rfl, List.append_nil]
  | [c, d], i, acc, k, hm, hl, ha, hk => by
    obtain ⟨k, rfl⟩ : ∃ q, k = q + 1 := ⟨k - 1, by omega⟩
    have hlen := hm.len2
    simp only [List.length_nil, List.length_cons] at hlen ha hk
    rw [ul0_end (by omega) (by omega) (by omega) (by omega), show decR [c, d] = [] from rfl, List.append_nil]
  | [c, d, e], i, acc, k, hm, hl, ha, hk => by
    obtain ⟨k, rfl⟩ : ∃ q, k = q + 1 := ⟨k - 1, by omega⟩
    have hlen := hm.len2
    simp only [List.length_nil, List.length_cons] at hlen ha hk
    rw [ul0_end (by omega) (by omega) (by omega) (by omega), show decR [c, d, e] = [] from rfl, List.append_nil]
/-- what Unbase64 answers, as two -/
def ub2 (r : Option Bs) : ByteArray × Int := match r with
  | none => (⟨#[]⟩, 110)
  | some b => (⟨b.toArray⟩, 0)
theorem ubN_any (s : Bs) : ubN s (decR s) = ub2 (unb64 s) := by
  rw [unb64_any (b := decR s) (fun x hx => by rw [← hx, decR_back])]
  unfold ubN
  split <;> rfl
theorem refUnbase_c (s : ByteArray) (w : World) (hz : s.size < 100000000000) : Calls Tryd.prog 16 #[.string s] w fun e w' => e = .returned (.tuple #[.string (ub2 (unb64 (bl s))).1, .int .i64 (ub2 (unb64 (bl s))).2]) ∧ Below w.heap.size w w' :=
  chanceryref18_Unbase64.calls (40 * s.size + 100) s _ _ w (by
    have h := rub s hz (bl s) 0 [] (40 * s.size + 100) ⟨rfl, Nat.zero_le _⟩ (by unfold Fits; rw [bl_size]; simp; omega) (by rw [bl_size]; simp; omega) (by rw [bl_size]; simp)
    rw [List.nil_append, ubN_any] at h
    exact h)
end Go.Proofs.YtcpjldhpboodnaaDoor.Lf
