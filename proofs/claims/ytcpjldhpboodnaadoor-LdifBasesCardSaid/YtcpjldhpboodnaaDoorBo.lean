/- The reference's Base64 and Unbase64, as printed, compute the plain base 64. Conditions: sizes as told. -/
import Derived.Test.YtcpjldhpboodnaaDoorBf
import Derived.Test.YtcpjldhpboodnaaDoorPFnx2
namespace Go.Proofs.YtcpjldhpboodnaaDoor.Lf
open Go Go.RowKit Go.Lib Go.Proofs.YtcpjldhpboodnaaDoor.PFn Go.Proofs.YtcpjldhpboodnaaDoorW.PrintWords Go.Proofs.YtcpjldhpboodnaaDoor.Rd

/-! ### Base64 -/
theorem bt_at2 {x0 : ByteArray} {i j : Nat} (h : i + j < x0.size) : bt x0 (wrap64 ((i : Int) + (j : Int))) = ((x0[i + j]'h).toNat : Int) ∨ 4611686018427387904 ≤ i + j := by
  by_cases hb : i + j < 4611686018427387904
  · left
    rw [wrap64_in (by omega) (by omega), show (i : Int) + (j : Int) = ((i + j : Nat) : Int) from by omega]
    unfold bt
    rw [dif_pos (by rw [Int.toNat_natCast]; exact h)]
    rfl
  · right; omega
theorem rl1_in {k : Nat} {x0 : ByteArray} {x3 : List Int} {i v n j : Nat} (hj : j < 3) (hz : x0.size < 4611686018427387904) (hs : i + j < x0.size) (hv : v < 65536) (hn : n < 3) :
    chanceryref18_Base64.l1 (k + 1) x0 x3 (i : Int) (v : Int) (n : Int) (j : Int) = chanceryref18_Base64.l1 k x0 x3 (i : Int) ((v * 256 + (x0[i + j]'hs).toNat : Nat) : Int) ((n + 1 : Nat) : Int) ((j + 1 : Nat) : Int) := by
  have hb := bt_at2 hs
  have hlt := (x0[i + j]'hs).toNat_lt
  have hb1 : bt x0 (wrap64 ((i : Int) + (j : Int))) = ((x0[i + j]'hs).toNat : Int) := by
    rcases hb with h | h
    · exact h
    · omega
  have hw : wrap64 ((i : Int) + (j : Int)) = ((i + j : Nat) : Int) := by rw [wrap64_in (by omega) (by omega)]; omega
  simp only [chanceryref18_Base64.l1]
  rw [if_pos (by omega), if_pos (by rw [hw]; omega), if_pos (by rw [hw]; omega), hb1, wrap64_in (x := (v : Int) * 256) (by omega) (by omega), wrap64_in (x := (((x0[i + j]'hs).toNat : Nat) : Int)) (by omega) (by omega),
    wrap64_in (x := (n : Int) + 1) (by omega) (by omega), wrap64_in (x := (j : Int) + 1) (by omega) (by omega), wrap64_in (by omega) (by omega)]
  congr 1
theorem rl1_out {k : Nat} {x0 : ByteArray} {x3 : List Int} {i v j : Nat} {n : Int} (hj : j < 3) (hz : i < 4611686018427387904) (hs : ¬ i + j < x0.size) (hv : v < 65536) :
    chanceryref18_Base64.l1 (k + 1) x0 x3 (i : Int) (v : Int) n (j : Int) = chanceryref18_Base64.l1 k x0 x3 (i : Int) ((v * 256 : Nat) : Int) n ((j + 1 : Nat) : Int) := by
  have hw : wrap64 ((i : Int) + (j : Int)) = ((i + j : Nat) : Int) := by rw [wrap64_in (by omega) (by omega)]; omega
  simp only [chanceryref18_Base64.l1]
  rw [if_pos (by omega), if_neg (by rw [hw]; omega), wrap64_in (x := (v : Int) * 256) (by omega) (by omega), wrap64_in (x := (j : Int) + 1) (by omega) (by omega)]
  rfl
theorem td {v q : Nat} (hv : v < 16777216) : wrap64 (Int.tdiv (v : Int) (q : Int)) = ((v / q : Nat) : Int) := by
  have h : Int.tdiv (v : Int) (q : Int) = ((v / q : Nat) : Int) := by rw [Int.tdiv_eq_ediv_of_nonneg (by omega)]; simp
  have hd := Nat.div_le_self v q
  rw [h]
  generalize v / q = d at *
  rw [wrap64_in (by omega) (by omega)]
theorem tm {v q : Nat} : Int.tmod (v : Int) (q : Int) = ((v % q : Nat) : Int) := by
  rw [Int.tmod_eq_emod_of_nonneg (by omega)]; simp
theorem rl1_end {k : Nat} {x0 : ByteArray} {x3 : List Int} {i v n : Nat} (hv : v < 16777216) (hn : n ≤ 3) :
    chanceryref18_Base64.l1 (k + 1) x0 x3 (i : Int) (v : Int) (n : Int) ((3 : Nat) : Int) = chanceryref18_Base64.l2 k x0 x3 (i : Int) (nb [dg (v / 262144), dg (v / 4096 % 64), dg (v / 64 % 64), dg (v % 64)]) ((n + 1 : Nat) : Int) := by
  have h1 : wrap64 (Int.tdiv (v : Int) 262144) = ((v / 262144 : Nat) : Int) := td (q := 262144) hv
  have h2 : wrap64 (Int.tdiv (v : Int) 4096) = ((v / 4096 : Nat) : Int) := td (q := 4096) hv
  have h3 : wrap64 (Int.tdiv (v : Int) 64) = ((v / 64 : Nat) : Int) := td (q := 64) hv
  have m2 : Int.tmod ((v / 4096 : Nat) : Int) 64 = ((v / 4096 % 64 : Nat) : Int) := tm (v := v / 4096) (q := 64)
  have m3 : Int.tmod ((v / 64 : Nat) : Int) 64 = ((v / 64 % 64 : Nat) : Int) := tm (v := v / 64) (q := 64)
  have m4 : Int.tmod (v : Int) 64 = ((v % 64 : Nat) : Int) := tm (v := v) (q := 64)
  have d1 : v / 262144 < 64 := by omega
  have d2 : v / 4096 % 64 < 64 := by omega
  have d3 : v / 64 % 64 < 64 := by omega
  have d4 : v % 64 < 64 := by omega
  have e1 := DG_at d1
  have e2 := DG_at d2
  have e3 := DG_at d3
  have e4 := DG_at d4
  unfold DG at e1 e2 e3 e4
  simp only [chanceryref18_Base64.l1]
  rw [if_neg (by omega), h1, h2, h3, m2, m3, m4, if_pos (by omega), if_pos (by omega), if_pos (by omega), if_pos (by omega), if_pos (by omega), if_pos (by omega), if_pos (by omega), if_pos (by omega),
    e1, e2, e3, e4, wrap64_in (by omega) (by omega)]
  rfl
theorem rl2_set {k : Nat} {x0 : ByteArray} {x3 q : List Int} {i : Int} {j : Nat} (hj : j < 4) (hq : q.length = 4) :
    chanceryref18_Base64.l2 (k + 1) x0 x3 i q (j : Int) = chanceryref18_Base64.l2 k x0 x3 i (q.set j 61) ((j + 1 : Nat) : Int) := by
  simp only [chanceryref18_Base64.l2]
  rw [if_pos (by omega), if_pos (by omega), if_pos (by omega), wrap64_in (by omega) (by omega), Int.toNat_natCast]
  rfl
theorem rl2_end {k : Nat} {x0 : ByteArray} {acc q : Bs} {i : Nat} (hq : q.length = 4) (hl : Fits (acc.length + 4)) (hi : i < 4611686018427387904) :
    chanceryref18_Base64.l2 (k + 1) x0 (nb acc) (i : Int) (nb q) ((4 : Nat) : Int) = chanceryref18_Base64.l0 k x0 (nb (acc ++ q)) ((i + 3 : Nat) : Int) := by
  simp only [chanceryref18_Base64.l2]
  rw [if_neg (by omega), if_pos (by rw [nb_len, nb_len, hq]; exact hl), wrap64_in (by omega) (by omega)]
  unfold nb
  rw [List.map_append]
  rfl
theorem rl0_end {k : Nat} {x0 : ByteArray} {acc : Bs} {i : Nat} (h : x0.size ≤ i) : chanceryref18_Base64.l0 (k + 1) x0 (nb acc) (i : Int) = some ⟨acc.toArray⟩ := by
  simp only [chanceryref18_Base64.l0]
  rw [if_neg (by omega), strOf_nb]
theorem rl0_go {k : Nat} {x0 : ByteArray} {x3 : List Int} {i : Nat} (h : i < x0.size) : chanceryref18_Base64.l0 (k + 1) x0 x3 (i : Int) = chanceryref18_Base64.l1 k x0 x3 (i : Int) ((0 : Nat) : Int) ((0 : Nat) : Int) ((0 : Nat) : Int) := by
  simp only [chanceryref18_Base64.l0]
  rw [if_pos (by omega)]
  rfl
theorem lr_next {s : ByteArray} {i j : Nat} {l : Bs} {c : UInt8} {r : Bs} (h : Lr s i (l ++ c :: r)) (hj : l.length = j) : ∃ hs : i + j < s.size, s[i + j]'hs = c := by
  have h1 : (bl s)[i + j]? = some c := by
    have := h.1
    rw [← List.getElem?_drop, this, ← hj]
    simp
  have hs : i + j < s.size := by
    rcases Nat.lt_or_ge (i + j) s.size with h2 | h2
    · exact h2
    · rw [List.getElem?_eq_none (by rw [bl_size]; exact h2)] at h1; cases h1
  refine ⟨hs, ?_⟩
  rw [List.getElem?_eq_getElem (by rw [bl_size]; exact hs)] at h1
  injection h1
theorem _root_.Go.Proofs.YtcpjldhpboodnaaDoor.Rd.Lr.len2 {s : ByteArray} {i : Nat} {l : Bs} (h : Lr s i l) : i + l.length = s.size := by
  have := h.1
  have h2 := h.2
  rw [← this, List.length_drop, bl_size]
  omega
theorem _root_.Go.Proofs.YtcpjldhpboodnaaDoor.Rd.Lr.skip3 {s : ByteArray} {i : Nat} {a b c : UInt8} {r : Bs} (h : Lr s i (a :: b :: c :: r)) : Lr s (i + 3) r := h.next.next.next
theorem lt_8 {x : Nat} (hx : x < 256) : 0 * 256 + x < 65536 := by omega
theorem rb64 (x0 : ByteArray) (hz : x0.size < 1000000000000) : ∀ (n i : Nat) (m acc : Bs) (k : Nat), m.length ≤ n → Lr x0 i m → Fits (acc.length + 4 * n + 4) → 10 * n + 1 ≤ k → chanceryref18_Base64.l0 k x0 (nb acc) (i : Int) = some ⟨(acc ++ b64 m).toArray⟩
  | n, i, [], acc, k, _, hm, hl, hk => by
    obtain ⟨k, rfl⟩ : ∃ q, k = q + 1 := ⟨k - 1, by omega⟩
    rw [rl0_end (by have := hm.nil; omega)]
    simp [b64]
  | 0, i, _ :: _, _, _, h, _, _, _ => by simp at h
  | n + 1, i, [a], acc, k, hn, hm, hl, hk => by
    obtain ⟨k, rfl⟩ : ∃ q, k = q + 10 := ⟨k - 10, by omega⟩
    have hlen := hm.len2
    simp at hlen
    obtain ⟨s0, ha⟩ := lr_next (l := []) (j := 0) hm rfl
    have hal := a.toNat_lt
    have e1 : 0 * 256 + a.toNat < 65536 := lt_8 hal
    have e2 : (0 * 256 + a.toNat) * 256 < 65536 := Nat.lt_of_le_of_lt (Nat.le_add_right _ 0) (lt_16 (y := 0) hal (by decide))
    rw [rl0_go (by omega), rl1_in (j := 0) (v := 0) (n := 0) (by decide) (by omega) s0 (by decide) (by decide), ha, rl1_out (j := 0 + 1) (v := 0 * 256 + a.toNat) (by decide) (by omega) (by omega) e1,
      rl1_out (j := 0 + 1 + 1) (v := (0 * 256 + a.toNat) * 256) (by decide) (by omega) (by omega) e2]
    obtain ⟨X, hX⟩ : ∃ X, (0 * 256 + a.toNat) * 256 * 256 = X := ⟨_, rfl⟩
    rw [hX, rl1_end (by omega) (by decide), rl2_set (j := 0 + 1 + 1) (by decide) rfl, rl2_set (j := 0 + 1 + 1 + 1) (by decide) rfl]
    rw [show ((nb [dg (X / 262144), dg (X / 4096 % 64), dg (X / 64 % 64), dg (X % 64)]).set (0 + 1 + 1) 61).set (0 + 1 + 1 + 1) 61 = nb [dg (X / 262144), dg (X / 4096 % 64), 61, 61] from rfl]
    rw [rl2_end rfl (hl.le (by omega)) (by omega), rl0_end (by omega)]
    rw [show X / 262144 = g0 a from by unfold g0; omega, show X / 4096 % 64 = g1 a 0 from by unfold g1; simp; omega]
    rfl
  | n + 1, i, [a, b], acc, k, hn, hm, hl, hk => by
    obtain ⟨k, rfl⟩ : ∃ q, k = q + 10 := ⟨k - 10, by omega⟩
    have hlen := hm.len2
    simp at hlen
    obtain ⟨s0, ha⟩ := lr_next (l := []) (j := 0) hm rfl
    obtain ⟨s1, hb⟩ := lr_next (l := [a]) (j := 0 + 1) hm rfl
    have hal := a.toNat_lt
    have hbl := b.toNat_lt
    have e1 : 0 * 256 + a.toNat < 65536 := lt_8 hal
    have e2 : (0 * 256 + a.toNat) * 256 + b.toNat < 65536 := lt_16 hal hbl
    rw [rl0_go (by omega), rl1_in (j := 0) (v := 0) (n := 0) (by decide) (by omega) s0 (by decide) (by decide), ha, rl1_in (j := 0 + 1) (v := 0 * 256 + a.toNat) (n := 0 + 1) (by decide) (by omega) s1 e1 (by decide), hb,
      rl1_out (j := 0 + 1 + 1) (v := (0 * 256 + a.toNat) * 256 + b.toNat) (by decide) (by omega) (by omega) e2]
    obtain ⟨X, hX⟩ : ∃ X, ((0 * 256 + a.toNat) * 256 + b.toNat) * 256 = X := ⟨_, rfl⟩
    rw [hX, rl1_end (by omega) (by decide), rl2_set (j := 0 + 1 + 1 + 1) (by decide) rfl]
    rw [show (nb [dg (X / 262144), dg (X / 4096 % 64), dg (X / 64 % 64), dg (X % 64)]).set (0 + 1 + 1 + 1) 61 = nb [dg (X / 262144), dg (X / 4096 % 64), dg (X / 64 % 64), 61] from rfl]
    rw [rl2_end rfl (hl.le (by omega)) (by omega), rl0_end (by omega)]
    rw [show X / 262144 = g0 a from by unfold g0; omega, show X / 4096 % 64 = g1 a b from by unfold g1; omega, show X / 64 % 64 = g2 b 0 from by unfold g2; simp; omega]
    rfl
  | n + 1, i, a :: b :: c :: r, acc, k, hn, hm, hl, hk => by
    obtain ⟨k, rfl⟩ : ∃ q, k = q + 6 := ⟨k - 6, by omega⟩
    have hlen := hm.len2
    simp only [List.length_cons] at hlen hn
    obtain ⟨s0, ha⟩ := lr_next (l := []) (j := 0) hm rfl
    obtain ⟨s1, hb⟩ := lr_next (l := [a]) (j := 0 + 1) hm rfl
    obtain ⟨s2, hc⟩ := lr_next (l := [a, b]) (j := 0 + 1 + 1) hm rfl
    have hal := a.toNat_lt
    have hbl := b.toNat_lt
    have hcl := c.toNat_lt
    have e1 : 0 * 256 + a.toNat < 65536 := lt_8 hal
    have e2 : (0 * 256 + a.toNat) * 256 + b.toNat < 65536 := lt_16 hal hbl
    rw [rl0_go (by omega), rl1_in (j := 0) (v := 0) (n := 0) (by decide) (by omega) s0 (by decide) (by decide), ha, rl1_in (j := 0 + 1) (v := 0 * 256 + a.toNat) (n := 0 + 1) (by decide) (by omega) s1 e1 (by decide), hb,
      rl1_in (j := 0 + 1 + 1) (v := (0 * 256 + a.toNat) * 256 + b.toNat) (n := 0 + 1 + 1) (by decide) (by omega) s2 e2 (by decide), hc]
    obtain ⟨X, hX⟩ : ∃ X, ((0 * 256 + a.toNat) * 256 + b.toNat) * 256 + c.toNat = X := ⟨_, rfl⟩
    rw [hX, rl1_end (by omega) (by decide)]
    rw [show ((0 + 1 + 1 + 1 + 1 : Nat) : Int) = ((4 : Nat) : Int) from rfl, rl2_end rfl (hl.le (by omega)) (by omega)]
    rw [rb64 x0 hz n (i + 3) r _ k (by omega) hm.skip3 (hl.le (by simp; omega)) (by omega)]
    rw [show X / 262144 = g0 a from by unfold g0; omega, show X / 4096 % 64 = g1 a b from by unfold g1; omega, show X / 64 % 64 = g2 b c from by unfold g2; omega, show X % 64 = g3 c from by unfold g3; omega]
    simp [b64]
theorem rb64_f (s : ByteArray) (hz : s.size < 1000000000000) {k : Nat} (hk : 10 * s.size + 1 ≤ k) : chanceryref18_Base64.f k s = some ⟨(b64 (bl s)).toArray⟩ := by
  unfold chanceryref18_Base64.f
  exact rb64 s hz s.size 0 (bl s) [] k (by rw [bl_size]; exact Nat.le_refl _) ⟨rfl, Nat.zero_le _⟩ (by unfold Fits; simp; omega) hk
theorem refBase64_c (s : ByteArray) (w : World) (hz : s.size < 1000000000000) : Calls Tryd.prog 18 #[.string s] w fun e w' => e = .returned (.string ⟨(b64 (bl s)).toArray⟩) ∧ Below w.heap.size w w' :=
  chanceryref18_Base64.calls (10 * s.size + 1) s _ w (rb64_f s hz (Nat.le_refl _))
end Go.Proofs.YtcpjldhpboodnaaDoor.Lf
