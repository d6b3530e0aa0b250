/- The printed functions of the document's own answer (chanceryref1, chanceryref3) come to the plain ones: characters in bytes, texts, their mapped and folded runes. Plain Lean over the printed functions. Conditions: lengths below 2^44. -/
import Derived.Test.YtdfdponenhfbjaaDoorFna
import Derived.Test.YtdfdponenhfbjaaDoorPlb
namespace Go.Proofs.YtdfdponenhfbjaaDoor.Fn
open Go Go.RowKit Go.Lib Go.Proofs.YtdfdponenhfbjaaDoor.PFn Go.Proofs.YtdfdponenhfbjaaDoor.Pl Go.Proofs.YtdfdponenhfbjaaDoor.Tx Go.Proofs.YtdfdponenhfbjaaDoorW.PrintWords

/-! ### within -/
def pairs (r : Int) : List Int → Bool
  | a :: b :: t => (decide (a ≤ r) && decide (r ≤ b)) || pairs r t
  | _ => false
theorem rd_at (p t : List Int) (x : Int) : rd (p ++ x :: t) (p.length : Int) = x := by
  unfold rd
  simp [List.getD_eq_getElem?_getD]
theorem rd_at1 (p t : List Int) (x y : Int) : rd (p ++ x :: y :: t) ((p.length : Int) + 1) = y := by
  unfold rd
  have : ((p.length : Int) + 1).toNat = p.length + 1 := by omega
  rw [this]
  simp [List.getD_eq_getElem?_getD]
theorem within_l (r : Int) : ∀ (n : Nat) (p t : List Int) (k : Nat), t.length ≤ n → p.length + t.length < 1000000 → n < k → chanceryref3_within.l0 k r (p ++ t) p.length = some (pairs r t) := by
  intro n
  induction n using Nat.strongRecOn with
  | ind n ih =>
    intro p t k hn hl hk
    obtain ⟨k, rfl⟩ : ∃ m, k = m + 1 := ⟨k - 1, by omega⟩
    simp only [chanceryref3_within.l0]
    have hlen : ((p ++ t).length : Int) = (p.length : Int) + (t.length : Int) := by simp
    rw [i64_in _ (by omega), i64_in _ (by omega), hlen]
    match t, hn, hl, hlen with
    | [], _, _, _ =>
      rw [if_neg (by simp; omega)]
      rfl
    | [a], _, _, _ =>
      rw [if_neg (by simp)]
      rfl
    | a :: b :: t, hn, hl, _ =>
      simp only [List.length_cons] at hn hl
      rw [if_pos (by simp only [List.length_cons]; omega), if_pos (by omega), if_pos (by simp only [List.length_cons]; omega), rd_at, rd_at1]
      have e : p ++ a :: b :: t = (p ++ [a, b]) ++ t := by simp
      have hrec : chanceryref3_within.l0 k r (p ++ a :: b :: t) ((p.length : Int) + 2) = some (pairs r t) := by
        have := ih (n - 2) (by omega) (p ++ [a, b]) t k (by omega) (by simp; omega) (by omega)
        rw [e]
        have e2 : (((p ++ [a, b]).length : Nat) : Int) = (p.length : Int) + 2 := by simp
        rw [e2] at this
        exact this
      by_cases h1 : a ≤ r
      · rw [if_pos h1, if_pos (by omega)]
        by_cases h2 : r ≤ b
        · rw [if_pos h2]
          simp [pairs, h1, h2]
        · rw [if_neg h2, hrec]
          simp [pairs, h2]
      · rw [if_neg h1, hrec]
        simp [pairs, h1]
theorem within_f (r : Int) (l : List Int) (k : Nat) (hl : l.length < 1000000) (hk : l.length < k) : chanceryref3_within.f k r l = some (pairs r l) :=
  within_l r l.length [] l k (Nat.le_refl _) (by simpa using hl) hk

/-- the document's Map -/
def mapD (r : Int) : Int × Int := if blankR r = true then (32, 0) else if goesR r = true then (0, 1) else if badR r = true then (0, 2) else (r, 0)
theorem mapD_f (r : Int) (k : Nat) (hk : 30 ≤ k) : chanceryref3_Map.f k r = some (mapD r) := by
  have b1 := blank_iff r
  have b2 := goes_iff r
  have b3 := bad_iff r
  unfold chanceryref3_Map.f mapD
  rw [within_f _ _ k (by decide) (by simp; omega), within_f _ _ k (by decide) (by simp; omega), within_f _ _ k (by decide) (by simp; omega)]
  simp only [Option.bind_some]
  have e1 : pairs r [9, 13, 133, 133, 160, 160, 5760, 5760, 8192, 8202, 8232, 8233, 8239, 8239, 8287, 8287, 12288, 12288] = blankR r := by
    rw [Bool.eq_iff_iff, b1]
    simp only [pairs, Bool.or_eq_true, Bool.and_eq_true, decide_eq_true_eq, Bool.false_eq_true, or_false]
    omega
  have e2 : pairs r [0, 31, 127, 159, 173, 173, 847, 847, 6150, 6150, 6155, 6158, 8203, 8207, 8234, 8238, 8288, 8303, 65024, 65039, 65279, 65279, 65529, 65532] = goesR r := by
    rw [Bool.eq_iff_iff, b2]
    simp only [pairs, Bool.or_eq_true, Bool.and_eq_true, decide_eq_true_eq, Bool.false_eq_true, or_false]
    omega
  have e3 : (pairs r [55296, 63743, 65533, 65535] = true) ↔ ((55296 ≤ r ∧ r ≤ 63743) ∨ (65533 ≤ r ∧ r ≤ 65535)) := by
    simp only [pairs, Bool.or_eq_true, Bool.and_eq_true, decide_eq_true_eq, Bool.false_eq_true, or_false]
  rw [e1, e2]
  by_cases h1 : blankR r = true
  · rw [if_pos h1, if_pos h1]
  · rw [if_neg h1, if_neg h1]
    by_cases h2 : goesR r = true
    · rw [if_pos h2, if_pos h2]
    · rw [if_neg h2, if_neg h2]
      by_cases h3 : badR r = true
      · rw [if_pos h3]
        have h3' := b3.1 h3
        by_cases h4 : r < 0
        · rw [if_pos h4]
        · by_cases h5 : 983040 ≤ r
          · rw [if_neg h4, if_pos h5]
          · rw [if_neg h4, if_neg h5, if_pos (e3.2 (by omega))]
      · have h3' : ¬ (r < 0 ∨ (55296 ≤ r ∧ r ≤ 63743) ∨ (65533 ≤ r ∧ r ≤ 65535) ∨ 983040 ≤ r) := fun h => h3 (b3.2 h)
        rw [if_neg h3, if_neg (by omega), if_neg (by omega), if_neg (fun h => by have := e3.1 h; omega)]
theorem foldD_f (r : Int) (k : Nat) (hk : 30 ≤ k) (hlo : -2147483648 ≤ r) (hhi : r ≤ 2147483647) : chanceryref3_Fold.f k r = some (foldR r) := by
  unfold chanceryref3_Fold.f
  rw [within_f _ _ k (by decide) (by simp; omega), within_f _ _ k (by decide) (by simp; omega), within_f _ _ k (by decide) (by simp; omega)]
  simp only [Option.bind_some]
  have e1 : (pairs r [65, 90, 192, 214, 216, 222, 913, 929, 931, 937, 1040, 1071] = true) ↔ up32 r := by
    unfold up32
    simp only [pairs, Bool.or_eq_true, Bool.and_eq_true, decide_eq_true_eq, Bool.false_eq_true, or_false]
    omega
  have e2 : (pairs r [1024, 1039] = true) ↔ (1024 ≤ r ∧ r ≤ 1039) := by
    simp only [pairs, Bool.or_eq_true, Bool.and_eq_true, decide_eq_true_eq, Bool.false_eq_true, or_false]
  have e3 : (pairs r [256, 311, 330, 375] = true) ↔ ((256 ≤ r ∧ r ≤ 311) ∨ (330 ≤ r ∧ r ≤ 375)) := by
    simp only [pairs, Bool.or_eq_true, Bool.and_eq_true, decide_eq_true_eq, Bool.false_eq_true, or_false]
  by_cases h1 : up32 r
  · rw [if_pos (e1.2 h1), fold_up h1, i32_in _ (by unfold up32 at h1; omega)]
  · rw [if_neg (fun h => h1 (e1.1 h))]
    by_cases h2 : 1024 ≤ r ∧ r ≤ 1039
    · rw [if_pos (e2.2 h2), fold_up80 h2, i32_in _ (by omega)]
    · rw [if_neg (fun h => h2 (e2.1 h))]
      by_cases h3 : r = 7838
      · subst h3
        rw [if_pos rfl, fold_ss]
      · rw [if_neg h3]
        by_cases h4 : (256 ≤ r ∧ r ≤ 311) ∨ (330 ≤ r ∧ r ≤ 375)
        · rw [if_pos (e3.2 h4), Int.tmod_eq_emod_of_nonneg (by omega)]
          by_cases h5 : r % 2 = 0
          · rw [if_pos h5, fold_even ⟨h4, h5⟩, i32_in _ (by omega)]
          · rw [if_neg h5, fold_same h1 h2 h3 (fun h => h5 h.2)]
        · rw [if_neg (fun h => h4 (e3.1 h)), fold_same h1 h2 h3 (fun h => h4 h.1)]

/-! ### a character in bytes -/
theorem bt_get (s : ByteArray) (i : Nat) (h : i < s.size) : bt s (i : Int) = ((s.get! i).toNat : Int) := by
  unfold bt
  rw [dif_pos (by simpa using h)]
  congr 1
  congr 1
  show s[i] = _
  have e : s.get! i = s.data[i]! := rfl
  rw [e, getElem!_pos s.data i (by simpa using h)]
  rfl
/-! the model's decode, a class of lead bytes at a time -/
theorem dec1 {m b0 b1 b2 b3 : Nat} (h : b0 < 128) : decodeN m b0 b1 b2 b3 = (b0, 1) := by unfold decodeN; rw [if_pos h]
theorem dec2 {m b0 b1 b2 b3 : Nat} (h : 194 ≤ b0 ∧ b0 ≤ 223) : decodeN m b0 b1 b2 b3 = if 1 < m ∧ b1 / 64 = 2 then (b0 % 32 * 64 + b1 % 64, 2) else (65533, 1) := by
  unfold decodeN
  rw [if_neg (by omega)]
  by_cases c : 1 < m ∧ b1 / 64 = 2
  · rw [if_pos ⟨by omega, c⟩, if_pos c, if_pos (by omega)]
  · rw [if_neg (fun x => c x.2), if_neg c, if_neg (by omega), if_neg (by omega)]
theorem dec3 {m b0 b1 b2 b3 : Nat} (h : 224 ≤ b0 ∧ b0 ≤ 239) : decodeN m b0 b1 b2 b3 = if 2 < m ∧ b1 / 64 = 2 ∧ b2 / 64 = 2 then (if b0 % 16 * 4096 + b1 % 64 * 64 + b2 % 64 ≥ 2048 ∧ (b0 % 16 * 4096 + b1 % 64 * 64 + b2 % 64 < 55296 ∨ (57344 ≤ b0 % 16 * 4096 + b1 % 64 * 64 + b2 % 64 ∧ b0 % 16 * 4096 + b1 % 64 * 64 + b2 % 64 ≤ 1114111)) then (b0 % 16 * 4096 + b1 % 64 * 64 + b2 % 64, 3) else (65533, 1)) else (65533, 1) := by
  unfold decodeN
  rw [if_neg (by omega), if_neg (by omega)]
  by_cases c : 2 < m ∧ b1 / 64 = 2 ∧ b2 / 64 = 2
  · rw [if_pos ⟨by omega, ⟨by omega, c.2.1⟩, c.1, c.2.2⟩, if_pos c]
  · rw [if_neg (fun x => c ⟨x.2.2.1, x.2.1.2, x.2.2.2⟩), if_neg c, if_neg (by omega)]
theorem dec4 {m b0 b1 b2 b3 : Nat} (h : 240 ≤ b0 ∧ b0 ≤ 244) : decodeN m b0 b1 b2 b3 = if 3 < m ∧ b1 / 64 = 2 ∧ b2 / 64 = 2 ∧ b3 / 64 = 2 then (if b0 % 8 * 262144 + b1 % 64 * 4096 + b2 % 64 * 64 + b3 % 64 ≥ 65536 ∧ (b0 % 8 * 262144 + b1 % 64 * 4096 + b2 % 64 * 64 + b3 % 64 < 55296 ∨ (57344 ≤ b0 % 8 * 262144 + b1 % 64 * 4096 + b2 % 64 * 64 + b3 % 64 ∧ b0 % 8 * 262144 + b1 % 64 * 4096 + b2 % 64 * 64 + b3 % 64 ≤ 1114111)) then (b0 % 8 * 262144 + b1 % 64 * 4096 + b2 % 64 * 64 + b3 % 64, 4) else (65533, 1)) else (65533, 1) := by
  unfold decodeN
  rw [if_neg (by omega), if_neg (by omega), if_neg (by omega)]
  by_cases c : 3 < m ∧ b1 / 64 = 2 ∧ b2 / 64 = 2 ∧ b3 / 64 = 2
  · rw [if_pos ⟨by omega, ⟨by omega, c.2.1⟩, ⟨by omega, c.2.2.1⟩, c.1, c.2.2.2⟩, if_pos c]
  · rw [if_neg (fun x => c ⟨x.2.2.2.1, x.2.1.2, x.2.2.1.2, x.2.2.2.2⟩), if_neg c]
theorem decBad {m b0 b1 b2 b3 : Nat} (h : (128 ≤ b0 ∧ b0 < 194) ∨ (245 ≤ b0 ∧ b0 < 256)) : decodeN m b0 b1 b2 b3 = (65533, 1) := decodeN_bad m b0 b1 b2 b3 h

/-! the loop of the document's Rune -/
theorem rune_fin (s : ByteArray) (k : Nat) (x1 v low m : Int) (h0 : 0 ≤ v) (h1 : v ≤ 2147483647) :
    chanceryref1_Rune.l0 (k + 1) s x1 m v low m = some (if v < low ∨ v > 1114111 ∨ (55296 ≤ v ∧ v ≤ 57343) then (65533, 1) else (v, m)) := by
  simp only [chanceryref1_Rune.l0]
  rw [if_neg (by omega), i32_in v (by omega)]
  by_cases a : v < low
  · rw [if_pos a, if_pos (.inl a)]
  · rw [if_neg a]
    by_cases b : v > 1114111
    · rw [if_pos b, if_pos (.inr (.inl b))]
    · rw [if_neg b]
      by_cases c : v ≥ 55296
      · rw [if_pos c]
        by_cases d : v ≤ 57343
        · rw [if_pos d, if_pos (.inr (.inr ⟨c, d⟩))]
        · rw [if_neg d, if_neg (by omega)]
      · rw [if_neg c, if_neg (by omega)]
theorem rune_step (s : ByteArray) (k : Nat) (x1 v low m j : Int) (b : Nat) (hx : 0 ≤ x1 ∧ x1 ≤ 17592186044416) (h0 : 0 ≤ j) (h1 : j < m) (h2 : m ≤ 4) (h3 : x1 + j < s.size) (h4 : wrap64 (bt s (x1 + j)) = (b : Int)) (h5 : b < 256) (h6 : 0 ≤ v) (h7 : v ≤ 1000000) :
    chanceryref1_Rune.l0 (k + 1) s x1 m v low j = if b / 64 = 2 then chanceryref1_Rune.l0 k s x1 m (v * 64 + b - 128) low (j + 1) else some (65533, 1) := by
  simp only [chanceryref1_Rune.l0]
  rw [if_pos h1, i64_in (x1 + j) (by omega), if_pos (by omega), if_pos h3, h4]
  by_cases c : b / 64 = 2
  · rw [if_neg (by omega), if_neg (by omega), if_pos c, i64_in (v * 64) (by omega), i64_in (v * 64 + b) (by omega), i64_in (v * 64 + b - 128) (by omega), i64_in (j + 1) (by omega)]
  · rw [if_neg c]
    by_cases c2 : (b : Int) < 128
    · rw [if_pos c2]
    · rw [if_neg c2, if_pos (by omega)]
/-- the three ways on behind the lead byte -/
theorem rune_two (s : ByteArray) (k i n b0 b1 b2 b3 : Nat) (hn : s.size = n) (hi : i < n) (hs : n ≤ 17592186044416) (l1 : b1 < 256) (w1 : Aside0 (i + 1 < n → wrap64 (bt s ((i : Int) + 1)) = (b1 : Int))) (h : 194 ≤ b0 ∧ b0 ≤ 223) :
    chanceryref1_Rune.j3 (k + 5) s (i : Int) 2 ((b0 : Int) - 192) 128 = some (((decodeN (n - i) b0 b1 b2 b3).1 : Int), ((decodeN (n - i) b0 b1 b2 b3).2 : Int)) := by
  simp only [chanceryref1_Rune.j3]
  rw [i64_in ((i : Int) + 2) (by omega), dec2 h, hn]
  by_cases c : (i : Int) + 2 > (n : Int)
  · rw [if_pos c, if_neg (by omega)]
    rfl
  · rw [if_neg c, rune_step s (k + 3) i _ _ _ 1 b1 (by omega) (by omega) (by omega) (by omega) (by omega) (w1.out (by omega)) l1 (by omega) (by omega)]
    by_cases d1 : b1 / 64 = 2
    · rw [if_pos d1, show (1 : Int) + 1 = 2 from rfl, rune_fin s (k + 2) _ _ _ _ (by omega) (by omega), if_pos (⟨by omega, d1⟩ : 1 < n - i ∧ b1 / 64 = 2), if_neg (by omega)]
      have ev : ((b0 : Int) - 192) * 64 + b1 - 128 = ((b0 % 32 * 64 + b1 % 64 : Nat) : Int) := by omega
      rw [ev]
      rfl
    · rw [if_neg d1, if_neg (fun x => d1 x.2)]
      rfl
theorem rune_three (s : ByteArray) (k i n b0 b1 b2 b3 : Nat) (hn : s.size = n) (hi : i < n) (hs : n ≤ 17592186044416) (l1 : b1 < 256) (l2 : b2 < 256) (w1 : Aside0 (i + 1 < n → wrap64 (bt s ((i : Int) + 1)) = (b1 : Int))) (w2 : Aside0 (i + 2 < n → wrap64 (bt s ((i : Int) + 2)) = (b2 : Int))) (h : 224 ≤ b0 ∧ b0 ≤ 239) :
    chanceryref1_Rune.j3 (k + 5) s (i : Int) 3 ((b0 : Int) - 224) 2048 = some (((decodeN (n - i) b0 b1 b2 b3).1 : Int), ((decodeN (n - i) b0 b1 b2 b3).2 : Int)) := by
  simp only [chanceryref1_Rune.j3]
  rw [i64_in ((i : Int) + 3) (by omega), dec3 h, hn]
  by_cases c : (i : Int) + 3 > (n : Int)
  · rw [if_pos c, if_neg (by omega)]
    rfl
  · rw [if_neg c, rune_step s (k + 3) i _ _ _ 1 b1 (by omega) (by omega) (by omega) (by omega) (by omega) (w1.out (by omega)) l1 (by omega) (by omega)]
    by_cases d1 : b1 / 64 = 2
    · rw [if_pos d1, show (1 : Int) + 1 = 2 from rfl, rune_step s (k + 2) i _ _ _ 2 b2 (by omega) (by omega) (by omega) (by omega) (by omega) (w2.out (by omega)) l2 (by omega) (by omega)]
      by_cases d2 : b2 / 64 = 2
      · rw [if_pos d2, show (2 : Int) + 1 = 3 from rfl, rune_fin s (k + 1) _ _ _ _ (by omega) (by omega), if_pos (⟨by omega, d1, d2⟩ : 2 < n - i ∧ b1 / 64 = 2 ∧ b2 / 64 = 2)]
        have ev : ((((b0 : Int) - 224) * 64 + b1 - 128) * 64 + b2 - 128) = ((b0 % 16 * 4096 + b1 % 64 * 64 + b2 % 64 : Nat) : Int) := by omega
        rw [ev]
        generalize b0 % 16 * 4096 + b1 % 64 * 64 + b2 % 64 = v
        clear ev w1 w2
        by_cases e : v ≥ 2048 ∧ (v < 55296 ∨ (57344 ≤ v ∧ v ≤ 1114111))
        · rw [if_pos e, if_neg (by omega)]
          rfl
        · rw [if_neg e, if_pos (by omega)]
          rfl
      · rw [if_neg d2, if_neg (fun x => d2 x.2.2)]
        rfl
    · rw [if_neg d1, if_neg (fun x => d1 x.2.1)]
      rfl
theorem rune_four (s : ByteArray) (k i n b0 b1 b2 b3 : Nat) (hn : s.size = n) (hi : i < n) (hs : n ≤ 17592186044416) (l1 : b1 < 256) (l2 : b2 < 256) (l3 : b3 < 256) (w1 : Aside0 (i + 1 < n → wrap64 (bt s ((i : Int) + 1)) = (b1 : Int))) (w2 : Aside0 (i + 2 < n → wrap64 (bt s ((i : Int) + 2)) = (b2 : Int))) (w3 : Aside0 (i + 3 < n → wrap64 (bt s ((i : Int) + 3)) = (b3 : Int))) (h : 240 ≤ b0 ∧ b0 ≤ 244) :
    chanceryref1_Rune.j3 (k + 5) s (i : Int) 4 ((b0 : Int) - 240) 65536 = some (((decodeN (n - i) b0 b1 b2 b3).1 : Int), ((decodeN (n - i) b0 b1 b2 b3).2 : Int)) := by
  simp only [chanceryref1_Rune.j3]
  rw [i64_in ((i : Int) + 4) (by omega), dec4 h, hn]
  by_cases c : (i : Int) + 4 > (n : Int)
  · rw [if_pos c, if_neg (by omega)]
    rfl
  · rw [if_neg c, rune_step s (k + 3) i _ _ _ 1 b1 (by omega) (by omega) (by omega) (by omega) (by omega) (w1.out (by omega)) l1 (by omega) (by omega)]
    by_cases d1 : b1 / 64 = 2
    · rw [if_pos d1, show (1 : Int) + 1 = 2 from rfl, rune_step s (k + 2) i _ _ _ 2 b2 (by omega) (by omega) (by omega) (by omega) (by omega) (w2.out (by omega)) l2 (by omega) (by omega)]
      by_cases d2 : b2 / 64 = 2
      · rw [if_pos d2, show (2 : Int) + 1 = 3 from rfl, rune_step s (k + 1) i _ _ _ 3 b3 (by omega) (by omega) (by omega) (by omega) (by omega) (w3.out (by omega)) l3 (by omega) (by omega)]
        by_cases d3 : b3 / 64 = 2
        · rw [if_pos d3, show (3 : Int) + 1 = 4 from rfl, rune_fin s k _ _ _ _ (by omega) (by omega), if_pos (⟨by omega, d1, d2, d3⟩ : 3 < n - i ∧ b1 / 64 = 2 ∧ b2 / 64 = 2 ∧ b3 / 64 = 2)]
          have ev : (((((b0 : Int) - 240) * 64 + b1 - 128) * 64 + b2 - 128) * 64 + b3 - 128) = ((b0 % 8 * 262144 + b1 % 64 * 4096 + b2 % 64 * 64 + b3 % 64 : Nat) : Int) := by omega
          rw [ev]
          generalize b0 % 8 * 262144 + b1 % 64 * 4096 + b2 % 64 * 64 + b3 % 64 = v
          clear ev w1 w2 w3
          by_cases e : v ≥ 65536 ∧ (v < 55296 ∨ (57344 ≤ v ∧ v ≤ 1114111))
          · rw [if_pos e, if_neg (by omega)]
            rfl
          · rw [if_neg e, if_pos (by omega)]
            rfl
        · rw [if_neg d3, if_neg (fun x => d3 x.2.2.2)]
          rfl
      · rw [if_neg d2, if_neg (fun x => d2 x.2.2.1)]
        rfl
    · rw [if_neg d1, if_neg (fun x => d1 x.2.1)]
      rfl
/-- the document's Rune is the model's decode -/
theorem rune_f (s : ByteArray) (i : Nat) (hi : i < s.size) (hs : s.size ≤ 17592186044416) (k : Nat) (hk : 12 ≤ k) :
    chanceryref1_Rune.f k s (i : Int) = some (((Utf8.decode s i).1 : Int), ((Utf8.decode s i).2 : Int)) := by
  obtain ⟨k, rfl⟩ : ∃ m, k = m + 12 := ⟨k - 12, by omega⟩
  rw [decode_at]
  have g0 := bt_get s i hi
  have l0 : (s.get! i).toNat < 256 := (s.get! i).toNat_lt
  have l1 : (s.get! (i + 1)).toNat < 256 := (s.get! (i + 1)).toNat_lt
  have l2 : (s.get! (i + 2)).toNat < 256 := (s.get! (i + 2)).toNat_lt
  have l3 : (s.get! (i + 3)).toNat < 256 := (s.get! (i + 3)).toNat_lt
  have w1 : Aside0 (i + 1 < s.size → wrap64 (bt s ((i : Int) + 1)) = ((s.get! (i + 1)).toNat : Int)) := ⟨fun h => by
    have e := bt_get s (i + 1) h
    have : ((i + 1 : Nat) : Int) = (i : Int) + 1 := by omega
    rw [this] at e
    rw [e]
    exact i64_in _ (by omega)⟩
  have w2 : Aside0 (i + 2 < s.size → wrap64 (bt s ((i : Int) + 2)) = ((s.get! (i + 2)).toNat : Int)) := ⟨fun h => by
    have e := bt_get s (i + 2) h
    have : ((i + 2 : Nat) : Int) = (i : Int) + 2 := by omega
    rw [this] at e
    rw [e]
    exact i64_in _ (by omega)⟩
  have w3 : Aside0 (i + 3 < s.size → wrap64 (bt s ((i : Int) + 3)) = ((s.get! (i + 3)).toNat : Int)) := ⟨fun h => by
    have e := bt_get s (i + 3) h
    have : ((i + 3 : Nat) : Int) = (i : Int) + 3 := by omega
    rw [this] at e
    rw [e]
    exact i64_in _ (by omega)⟩
  have w0 : wrap64 (bt s (i : Int)) = ((s.get! i).toNat : Int) := by rw [g0]; exact i64_in _ (by omega)
  clear g0
  generalize (s.get! i).toNat = b0 at *
  generalize (s.get! (i + 1)).toNat = b1 at *
  generalize (s.get! (i + 2)).toNat = b2 at *
  generalize (s.get! (i + 3)).toNat = b3 at *
  unfold chanceryref1_Rune.f
  rw [if_neg (by omega)]
  have hd : decide ((i : Int) ≥ (s.size : Int)) = false := decide_eq_false (by omega)
  rw [hd]
  simp only [chanceryref1_Rune.j0]
  rw [if_neg (by simp), if_pos (by omega), if_pos (by omega), w0]
  by_cases a0 : b0 < 128
  · rw [if_pos (by omega), dec1 a0, i32_in _ (by omega)]
    rfl
  · rw [if_neg (by omega)]
    by_cases a1 : 194 ≤ b0 ∧ b0 ≤ 223
    · rw [if_pos (by omega), decide_eq_true (by omega)]
      simp only [chanceryref1_Rune.j1, if_true]
      rw [i64_in ((b0 : Int) - 192) (by omega)]
      exact rune_two s (k + 5) i s.size b0 b1 b2 b3 rfl hi hs l1 w1 a1
    · have hj1 : (if (b0 : Int) ≥ 194 then chanceryref1_Rune.j1 (k + 11) s (i : Int) (b0 : Int) (decide ((b0 : Int) ≤ 223)) else chanceryref1_Rune.j1 (k + 11) s (i : Int) (b0 : Int) false) = chanceryref1_Rune.j1 (k + 11) s (i : Int) (b0 : Int) false := by
        split
        · rw [decide_eq_false (by omega)]
        · rfl
      rw [hj1]
      simp only [chanceryref1_Rune.j1]
      rw [if_neg (by simp)]
      by_cases a2 : 224 ≤ b0 ∧ b0 ≤ 239
      · rw [if_pos (by omega), decide_eq_true (by omega)]
        simp only [chanceryref1_Rune.j2, if_true]
        rw [i64_in ((b0 : Int) - 224) (by omega)]
        exact rune_three s (k + 4) i s.size b0 b1 b2 b3 rfl hi hs l1 l2 w1 w2 a2
      · have hj2 : (if (b0 : Int) ≥ 224 then chanceryref1_Rune.j2 (k + 10) s (i : Int) (b0 : Int) (decide ((b0 : Int) ≤ 239)) else chanceryref1_Rune.j2 (k + 10) s (i : Int) (b0 : Int) false) = chanceryref1_Rune.j2 (k + 10) s (i : Int) (b0 : Int) false := by
          split
          · rw [decide_eq_false (by omega)]
          · rfl
        rw [hj2]
        simp only [chanceryref1_Rune.j2]
        rw [if_neg (by simp)]
        by_cases a3 : 240 ≤ b0 ∧ b0 ≤ 244
        · rw [if_pos (by omega), if_pos (by omega), i64_in ((b0 : Int) - 240) (by omega)]
          exact rune_four s (k + 4) i s.size b0 b1 b2 b3 rfl hi hs l1 l2 l3 w1 w2 w3 a3
        · rw [decBad (by omega)]
          by_cases a4 : (b0 : Int) ≥ 240
          · rw [if_pos a4, if_neg (by omega)]
            rfl
          · rw [if_neg a4]
            rfl
end Go.Proofs.YtdfdponenhfbjaaDoor.Fn
