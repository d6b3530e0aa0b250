/- The printed functions of the document's own answer (chanceryref1.Text, PutRune; chanceryref3.Mapped, Single, left, right, text) come to the plain ones. Plain Lean over the printed functions. Conditions: lengths below 2^44. -/
import Derived.Test.YtdfdponenhfbjaaDoorFnb
namespace Go.Proofs.YtdfdponenhfbjaaDoor.Fn
open Go Go.RowKit Go.Lib Go.Proofs.YtdfdponenhfbjaaDoor.PFn Go.Proofs.YtdfdponenhfbjaaDoor.Pl Go.Proofs.YtdfdponenhfbjaaDoor.Tx Go.Proofs.YtdfdponenhfbjaaDoorW.PrintWords

def ints (q : List Nat) : List Int := q.map fun x : Nat => (x : Int)
theorem ints_length (q : List Nat) : (ints q).length = q.length := by simp [ints]
theorem ints_append (a b : List Nat) : ints (a ++ b) = ints a ++ ints b := by simp [ints]

theorem dec_at (s : ByteArray) (i : Nat) : Utf8.decode s i = decodeL (s.data.toList.drop i) := (decodeL_drop s i).symm
theorem size_list (s : ByteArray) : s.size = s.data.toList.length := (data_length s).symm
theorem good_f (s : ByteArray) (i : Nat) (hi : i < s.size) (hs : s.size ≤ 17592186044416) (k : Nat) (hk : 12 ≤ k) :
    chanceryref1_Good.f k s (i : Int) = some (!decide ((decodeL (s.data.toList.drop i)).1 = 65533 ∧ (decodeL (s.data.toList.drop i)).2 = 1)) := by
  unfold chanceryref1_Good.f
  rw [rune_f s i hi hs k hk, dec_at]
  have hw := decodeL_width (s.data.toList.drop i)
  simp only [Option.bind_some]
  generalize (decodeL (s.data.toList.drop i)).1 = r at *
  generalize (decodeL (s.data.toList.drop i)).2 = m at *
  by_cases h1 : (m : Int) > 1
  · rw [if_pos h1]
    congr 1
    have : ¬ (r = 65533 ∧ m = 1) := by omega
    simp [this]
  · rw [if_neg h1, if_pos (by omega)]
    congr 1
    have h2 : m = 1 := by omega
    by_cases h3 : r = 65533
    · subst h3; subst h2; rfl
    · have h4 : ((r : Int) != 65533) = true := by rw [bne_iff_ne]; omega
      rw [h4]
      simp [h3]
theorem drop_ne (s : ByteArray) (i : Nat) (hi : i < s.size) : s.data.toList.drop i ≠ [] := by
  intro h
  have := congrArg List.length h
  rw [List.length_drop, ← size_list] at this
  simp at this
  omega
theorem drop_nil (s : ByteArray) (i : Nat) (hi : s.size ≤ i) : s.data.toList.drop i = [] := List.drop_eq_nil_of_le (by rw [← size_list]; exact hi)
theorem text_l (s : ByteArray) (hs : s.size ≤ 17592186044416) : ∀ (d i k : Nat), s.size - i ≤ d → i ≤ s.size → d + 13 ≤ k → chanceryref1_Text.l0 k s (i : Int) = some (validD (s.data.toList.drop i)) := by
  intro d
  induction d with
  | zero =>
    intro i k hd hi hk
    obtain ⟨k, rfl⟩ : ∃ m, k = m + 1 := ⟨k - 1, by omega⟩
    simp only [chanceryref1_Text.l0]
    rw [if_neg (by omega), drop_nil s i (by omega)]
    rfl
  | succ d ih =>
    intro i k hd hi hk
    obtain ⟨k, rfl⟩ : ∃ m, k = m + 1 := ⟨k - 1, by omega⟩
    simp only [chanceryref1_Text.l0]
    by_cases hlt : i < s.size
    · have hw := decodeL_width (s.data.toList.drop i)
      have hle := decodeL_le _ (drop_ne s i hlt)
      rw [List.length_drop, ← size_list] at hle
      rw [if_pos (by omega), good_f s i hlt hs k (by omega), rune_f s i hlt hs k (by omega), dec_at, validD_step _ (drop_ne s i hlt)]
      simp only [Option.bind_some]
      by_cases hb : (decodeL (s.data.toList.drop i)).1 = 65533 ∧ (decodeL (s.data.toList.drop i)).2 = 1
      · rw [if_pos hb, if_neg (by simp [hb])]
      · rw [if_neg hb, if_pos (by rw [decide_eq_false hb]; rfl), i64_in _ (by omega), List.drop_drop]
        have e : ((i : Int) + ((decodeL (s.data.toList.drop i)).2 : Int)) = ((i + (decodeL (s.data.toList.drop i)).2 : Nat) : Int) := by omega
        rw [e]
        exact ih _ k (by omega) (by omega) (by omega)
    · rw [if_neg (by omega), drop_nil s i (by omega)]
      rfl
theorem text_f (s : ByteArray) (hs : s.size ≤ 17592186044416) (k : Nat) (hk : s.size + 13 ≤ k) : chanceryref1_Text.f k s = some (validD s.data.toList) := by
  have := text_l s hs s.size 0 k (by omega) (by omega) hk
  simpa [chanceryref1_Text.f] using this

/-! ### Mapped -/
theorem mapD_nat (r : Nat) : mapD (r : Int) = if bad r = true then ((0 : Int), (2 : Int)) else match stay r with | none => ((0 : Int), (1 : Int)) | some x => ((x : Int), (0 : Int)) := by
  unfold mapD bad stay
  by_cases h1 : blankR r = true
  · simp [h1]
  · by_cases h2 : goesR r = true
    · simp [h1, h2]
    · by_cases h3 : badR r = true
      · simp [h1, h2, h3]
      · simp [h1, h2, h3]
theorem stay_le {r x : Nat} (h : stay r = some x) : x ≤ r ∨ x = 32 := by
  unfold stay at h
  split at h
  · injection h with h; exact .inr h.symm
  · split at h
    · cases h
    · injection h with h; exact .inl (by omega)
theorem fold1_int (x : Nat) : foldR (x : Int) = ((fold1 true x : Nat) : Int) := by
  unfold fold1
  rw [if_pos rfl, Int.toNat_of_nonneg (fold_nonneg (by omega))]
theorem fold1_false (x : Nat) : fold1 false x = x := rfl
theorem mapped_l (s : ByteArray) (f : Bool) (hs : s.size ≤ 17592186044416) : ∀ (d i k : Nat) (acc : List Nat) (rest : List Nat), s.size - i ≤ d → i ≤ s.size → d + 31 ≤ k → acc.length ≤ i → runes (s.data.toList.drop i) = some rest →
    chanceryref3_Mapped.l0 k s f (ints acc) (i : Int) = some (if rest.any bad = true then ([], false) else (ints (acc ++ mapd f rest), true)) := by
  intro d
  induction d with
  | zero =>
    intro i k acc rest hd hi hk ha hr
    obtain ⟨k, rfl⟩ : ∃ m, k = m + 1 := ⟨k - 1, by omega⟩
    simp only [chanceryref3_Mapped.l0]
    rw [drop_nil s i (by omega), runes_nil] at hr
    injection hr with hr
    subst hr
    rw [if_neg (by omega)]
    simp [mapd]
  | succ d ih =>
    intro i k acc rest hd hi hk ha hr
    obtain ⟨k, rfl⟩ : ∃ m, k = m + 1 := ⟨k - 1, by omega⟩
    simp only [chanceryref3_Mapped.l0]
    by_cases hlt : i < s.size
    · have hw := decodeL_width (s.data.toList.drop i)
      have hle := decodeL_le _ (drop_ne s i hlt)
      have hrl := decodeL_rune (s.data.toList.drop i)
      rw [List.length_drop, ← size_list] at hle
      rw [runes_step _ (drop_ne s i hlt)] at hr
      rw [if_pos (by omega), rune_f s i hlt hs k (by omega), dec_at]
      by_cases hb : (decodeL (s.data.toList.drop i)).1 = 65533 ∧ (decodeL (s.data.toList.drop i)).2 = 1
      · rw [if_pos hb] at hr; cases hr
      · rw [if_neg hb, List.drop_drop] at hr
        simp only [Option.bind_some]
        rw [i64_in _ (by omega)]
        have e : ((i : Int) + ((decodeL (s.data.toList.drop i)).2 : Int)) = ((i + (decodeL (s.data.toList.drop i)).2 : Nat) : Int) := by omega
        rw [e]
        generalize (decodeL (s.data.toList.drop i)).1 = r at *
        generalize (decodeL (s.data.toList.drop i)).2 = m at *
        obtain ⟨qs, hq, rfl⟩ := Option.map_eq_some_iff.1 hr
        rw [mapD_f _ k (by omega), mapD_nat]
        simp only [Option.bind_some]
        by_cases hbad : bad r = true
        · rw [if_pos hbad]
          simp [hbad]
        · have hbf : bad r = false := by simpa using hbad
          rw [if_neg hbad]
          have hany : (r :: qs).any bad = qs.any bad := by simp [hbf]
          rw [hany]
          cases hst : stay r with
          | none =>
            simp only
            rw [if_neg (by omega), if_pos trivial, ih (i + m) k acc qs (by omega) (by omega) (by omega) (by omega) hq]
            have : mapd f (r :: qs) = mapd f qs := by simp [mapd, hst]
            rw [this]
          | some x =>
            have hx := stay_le hst
            have hm : mapd f (r :: qs) = fold1 f x :: mapd f qs := by simp [mapd, hst]
            simp only
            rw [if_neg (by omega), if_neg (by omega), hm]
            have hlen : (ints acc).length < 35184372088832 := by rw [ints_length]; omega
            have happ : ∀ y : Nat, ints acc ++ [(y : Int)] = ints (acc ++ [y]) := by intro y; rw [ints_append]; rfl
            have hcons : acc ++ fold1 f x :: mapd f qs = acc ++ [fold1 f x] ++ mapd f qs := by simp
            rw [hcons]
            cases f with
            | true =>
              rw [if_pos rfl, foldD_f _ k (by omega) (by omega) (by omega)]
              simp only [Option.bind_some]
              rw [if_pos hlen, fold1_int, happ]
              exact ih (i + m) k (acc ++ [fold1 true x]) qs (by omega) (by omega) (by omega) (by simp; omega) hq
            | false =>
              rw [if_neg (by simp), if_pos hlen, fold1_false, happ]
              exact ih (i + m) k (acc ++ [x]) qs (by omega) (by omega) (by omega) (by simp; omega) hq
    · rw [drop_nil s i (by omega), runes_nil] at hr
      injection hr with hr
      subst hr
      rw [if_neg (by omega)]
      simp [mapd]
theorem mapped_f (s : ByteArray) (f : Bool) (hs : s.size ≤ 17592186044416) (k : Nat) (hk : s.size + 31 ≤ k) :
    chanceryref3_Mapped.f k s f = some (match runes s.data.toList with | none => ([], false) | some rs => if rs.any bad = true then ([], false) else (ints (mapd f rs), true)) := by
  unfold chanceryref3_Mapped.f
  rw [text_f s hs k (by omega), validD_runes]
  simp only [Option.bind_some]
  cases h : runes s.data.toList with
  | none => rfl
  | some rs =>
    simp only [Option.isSome_some, if_true]
    have := mapped_l s f hs s.size 0 k [] rs (by omega) (by omega) (by omega) (by simp) (by simpa using h)
    simpa [ints] using this

/-! ### Single -/
theorem rd_ints (q : List Nat) (i : Nat) (h : i < q.length) : rd (ints q) (i : Int) = ((q[i]'h : Nat) : Int) := by
  unfold rd ints
  simp [List.getD_eq_getElem?_getD, h]
theorem rd_last (q : List Nat) (h : q ≠ []) : rd (ints q) (((ints q).length : Int) - 1) = ((q.getLast h : Nat) : Int) := by
  have hp : 0 < q.length := List.length_pos_iff.2 h
  have e : (((ints q).length : Int) - 1) = ((q.length - 1 : Nat) : Int) := by rw [ints_length]; omega
  rw [e, rd_ints q (q.length - 1) (by omega), List.getLast_eq_getElem]
theorem single_l (q : List Nat) (hq : q.length ≤ 17592186044416) : ∀ (rest done acc : List Nat) (k : Nat), q = done ++ rest → acc.length ≤ done.length → rest.length < k →
    chanceryref3_Single.l0 k (ints q) (ints acc) (done.length : Int) = some (ints (sgo acc rest)) := by
  intro rest
  induction rest with
  | nil =>
    intro done acc k hq2 ha hk
    obtain ⟨k, rfl⟩ : ∃ m, k = m + 1 := ⟨k - 1, by omega⟩
    simp only [chanceryref3_Single.l0]
    rw [if_neg (by rw [ints_length, hq2]; simp)]
    rfl
  | cons r t ih =>
    intro done acc k hq2 ha hk
    simp only [List.length_cons] at hk
    obtain ⟨k, rfl⟩ : ∃ m, k = m + 1 := ⟨k - 1, by omega⟩
    have hl : q.length = done.length + (t.length + 1) := by rw [hq2]; simp
    have hrd : rd (ints q) (done.length : Int) = (r : Int) := by
      rw [rd_ints q done.length (by omega)]
      simp [hq2]
    simp only [chanceryref3_Single.l0]
    rw [if_pos (by rw [ints_length]; omega), if_pos (by omega), hrd, i64_in _ (by omega)]
    have e : ((done.length : Int) + 1) = (((done ++ [r]).length : Nat) : Int) := by simp
    have happ : ints acc ++ [(r : Int)] = ints (acc ++ [r]) := by rw [ints_append]; rfl
    rw [e, happ]
    have hadd : chanceryref3_Single.l0 k (ints q) (ints (acc ++ [r])) ((done ++ [r]).length : Int) = some (ints (sgo (acc ++ [r]) t)) := ih (done ++ [r]) (acc ++ [r]) k (by simp [hq2]) (by simp; omega) (by omega)
    have hskip : chanceryref3_Single.l0 k (ints q) (ints acc) ((done ++ [r]).length : Int) = some (ints (sgo acc t)) := ih (done ++ [r]) acc k (by simp [hq2]) (by simp; omega) (by omega)
    have hlen : (ints acc).length < 35184372088832 := by rw [ints_length]; omega
    simp only [sgo]
    by_cases hr : r = 32
    · subst hr
      rw [if_pos (show ((32 : Nat) : Int) = 32 from rfl)]
      cases hacc : acc with
      | nil =>
        subst hacc
        rw [if_pos (show ((ints []).length : Int) = 0 from rfl), if_pos (by simp [ints]), hadd, if_neg (by simp)]
      | cons x u =>
        have hne : acc ≠ [] := by rw [hacc]; simp
        have hp : 0 < acc.length := List.length_pos_iff.2 hne
        rw [← hacc]
        have hil : ((ints acc).length : Int) = (acc.length : Int) := by rw [ints_length]
        rw [if_neg (by rw [hil]; omega), i64_in (((ints acc).length : Int) - 1) (by rw [hil]; omega), if_pos (by rw [hil]; omega), if_pos (by omega), rd_last acc hne]
        by_cases h32 : acc.getLast hne = 32
        · rw [if_pos (by rw [h32]; rfl), hskip, if_pos ⟨rfl, by rw [List.getLast?_eq_some_getLast hne, h32]⟩]
        · rw [if_neg (by omega), if_pos hlen, hadd, if_neg]
          rintro ⟨_, h⟩
          rw [List.getLast?_eq_some_getLast hne] at h
          injection h with h
          exact h32 h
    · rw [if_neg (by omega), if_pos hlen, hadd, if_neg (fun h => hr h.1)]
theorem single_f (q : List Nat) (hq : q.length ≤ 17592186044416) (k : Nat) (hk : q.length < k) : chanceryref3_Single.f k (ints q) = some (ints (sgo [] q)) :=
  single_l q hq q [] [] k rfl (by simp) hk

/-! ### left, right -/
theorem left_f (q : List Nat) (hq : q.length ≤ 17592186044416) : chanceryref3_left.f (ints q) = some (ints (if q.head? = some 32 then q.tail else q)) := by
  unfold chanceryref3_left.f
  cases q with
  | nil => rfl
  | cons x t =>
    have hrd : rd (ints (x :: t)) 0 = (x : Int) := rfl
    rw [if_pos (by simp [ints]), if_pos (by simp [ints]), hrd]
    by_cases hx : x = 32
    · subst hx
      rw [if_pos (show ((32 : Nat) : Int) = 32 from rfl), if_pos (by simp [ints]; omega), if_pos (by simp)]
      rfl
    · rw [if_neg (by omega), if_neg (by simpa using hx)]
theorem right_f (q : List Nat) (hq : q.length ≤ 17592186044416) : chanceryref3_right.f (ints q) = some (ints (if q.getLast? = some 32 then q.dropLast else q)) := by
  unfold chanceryref3_right.f
  have hil : ((ints q).length : Int) = (q.length : Int) := by rw [ints_length]
  by_cases hne : q = []
  · subst hne
    rfl
  · have hp : 0 < q.length := List.length_pos_iff.2 hne
    have hw : wrap64 (((ints q).length : Int) - 1) = ((ints q).length : Int) - 1 := i64_in _ (by rw [hil]; omega)
    rw [hw, if_pos (by omega), if_pos (by omega), if_pos (by omega), rd_last q hne, List.getLast?_eq_some_getLast hne]
    by_cases h32 : q.getLast hne = 32
    · rw [if_pos (by rw [h32]; rfl), if_pos (by omega), if_pos (by rw [h32])]
      congr 1
      have e : (((ints q).length : Int) - 1).toNat = q.length - 1 := by rw [hil]; omega
      rw [e, List.dropLast_eq_take]
      unfold ints
      rw [List.map_take]
    · rw [if_neg (by omega), if_neg (by simpa using h32)]

/-! ### text -/
theorem tdiv_nat (a b : Nat) : Int.tdiv (a : Int) (b : Int) = ((a / b : Nat) : Int) := rfl
theorem tmod_nat (a b : Nat) : Int.tmod (a : Int) (b : Int) = ((a % b : Nat) : Int) := rfl
theorem putRune_f (r : Nat) (hg : Tx.Good r) (k : Nat) (hk : 1 ≤ k) : chanceryref1_PutRune.f k (r : Int) = some (⟨(enc r).toArray⟩, 0) := by
  obtain ⟨k, rfl⟩ : ∃ m, k = m + 1 := ⟨k - 1, by omega⟩
  unfold Tx.Good at hg
  have hj : chanceryref1_PutRune.f (k + 1) (r : Int) = chanceryref1_PutRune.j0 (k + 1) (r : Int) false := by
    unfold chanceryref1_PutRune.f
    rw [i64_in (r : Int) (by omega), if_neg (by omega), if_neg (by omega)]
    split
    · rw [decide_eq_false (by omega)]
    · rfl
  rw [hj]
  simp only [chanceryref1_PutRune.j0]
  rw [if_neg (by simp)]
  have t64 : Int.tdiv (r : Int) 64 = ((r / 64 : Nat) : Int) := tdiv_nat r 64
  have t4096 : Int.tdiv (r : Int) 4096 = ((r / 4096 : Nat) : Int) := tdiv_nat r 4096
  have t262144 : Int.tdiv (r : Int) 262144 = ((r / 262144 : Nat) : Int) := tdiv_nat r 262144
  have m64 : Int.tmod (r : Int) 64 = ((r % 64 : Nat) : Int) := tmod_nat r 64
  have m64b : Int.tmod ((r / 64 : Nat) : Int) 64 = ((r / 64 % 64 : Nat) : Int) := tmod_nat (r / 64) 64
  have m64c : Int.tmod ((r / 4096 : Nat) : Int) 64 = ((r / 4096 % 64 : Nat) : Int) := tmod_nat (r / 4096) 64
  have num : ∀ (a : Int) (b : Nat), a = (b : Int) → b < 256 → UInt8.ofNat (a % 256).toNat = UInt8.ofNat b := by
    intro a b h1 h2
    subst h1
    congr 1
    omega
  by_cases h1 : (r : Int) < 128
  · rw [if_pos h1, enc_one (by omega)]
    simp only [strOfNums, List.map_cons, List.map_nil]
    rw [num _ r rfl (by omega)]
  · rw [if_neg h1]
    by_cases h2 : (r : Int) < 2048
    · rw [if_pos h2, enc_two (by omega) (by omega), t64, m64, i64_in ((r / 64 : Nat) : Int) (by omega), i64_in (192 + ((r / 64 : Nat) : Int)) (by omega), i64_in (128 + ((r % 64 : Nat) : Int)) (by omega)]
      simp only [strOfNums, List.map_cons, List.map_nil]
      rw [num _ (192 + r / 64) (by omega) (by omega), num _ (128 + r % 64) (by omega) (by omega)]
    · rw [if_neg h2]
      by_cases h3 : (r : Int) < 65536
      · rw [if_pos h3, enc_three (by omega), t64, m64, t4096, i64_in ((r / 64 : Nat) : Int) (by omega), i64_in ((r / 4096 : Nat) : Int) (by omega), m64b, i64_in (224 + ((r / 4096 : Nat) : Int)) (by omega), i64_in (128 + ((r / 64 % 64 : Nat) : Int)) (by omega), i64_in (128 + ((r % 64 : Nat) : Int)) (by omega)]
        simp only [strOfNums, List.map_cons, List.map_nil]
        rw [num _ (224 + r / 4096) (by omega) (by omega), num _ (128 + r / 64 % 64) (by omega) (by omega), num _ (128 + r % 64) (by omega) (by omega)]
      · rw [if_neg h3, enc_four (by omega) (by omega), t64, m64, t4096, t262144, i64_in ((r / 64 : Nat) : Int) (by omega), i64_in ((r / 4096 : Nat) : Int) (by omega), i64_in ((r / 262144 : Nat) : Int) (by omega), m64b, m64c, i64_in (240 + ((r / 262144 : Nat) : Int)) (by omega), i64_in (128 + ((r / 4096 % 64 : Nat) : Int)) (by omega), i64_in (128 + ((r / 64 % 64 : Nat) : Int)) (by omega), i64_in (128 + ((r % 64 : Nat) : Int)) (by omega)]
        simp only [strOfNums, List.map_cons, List.map_nil]
        rw [num _ (240 + r / 262144) (by omega) (by omega), num _ (128 + r / 4096 % 64) (by omega) (by omega), num _ (128 + r / 64 % 64) (by omega) (by omega), num _ (128 + r % 64) (by omega) (by omega)]
def nbytes (l : List UInt8) : List Int := l.map fun b => (b.toNat : Int)
theorem str_nbytes (l : List UInt8) : strOfNums (nbytes l) = ⟨l.toArray⟩ := by
  unfold strOfNums nbytes
  congr 1
  rw [List.map_map]
  have : ((fun n : Int => UInt8.ofNat n.toNat) ∘ fun b : UInt8 => (b.toNat : Int)) = id := by
    funext b
    simp
  rw [this, List.map_id]
theorem txt_l (q : List Nat) (hq : q.length ≤ 17592186044416) (hg : ∀ r ∈ q, Tx.Good r) : ∀ (rest done : List Nat) (k : Nat), q = done ++ rest → rest.length + 1 < k →
    chanceryref3_text.l0 k (ints q) (nbytes (Tx.encs done)) (done.length : Int) = some ⟨(Tx.encs q).toArray⟩ := by
  intro rest
  induction rest with
  | nil =>
    intro done k hq2 hk
    obtain ⟨k, rfl⟩ : ∃ m, k = m + 1 := ⟨k - 1, by omega⟩
    simp only [chanceryref3_text.l0]
    rw [if_neg (by rw [ints_length, hq2]; simp), str_nbytes, hq2, List.append_nil]
  | cons r t ih =>
    intro done k hq2 hk
    simp only [List.length_cons] at hk
    obtain ⟨k, rfl⟩ : ∃ m, k = m + 1 := ⟨k - 1, by omega⟩
    have hl : q.length = done.length + (t.length + 1) := by rw [hq2]; simp
    have hrd : rd (ints q) (done.length : Int) = (r : Int) := by
      rw [rd_ints q done.length (by omega)]
      simp [hq2]
    have hgr : Tx.Good r := hg r (by rw [hq2]; simp)
    simp only [chanceryref3_text.l0]
    rw [if_pos (by rw [ints_length]; omega), if_pos (by omega), hrd, putRune_f r hgr k (by omega), i64_in _ (by omega)]
    simp only [Option.bind_some]
    have hsz : (⟨(enc r).toArray⟩ : ByteArray).size = (enc r).length := by rw [size_list]
    have hen := (enc_length r).2
    have hed : ∀ d : List Nat, (Tx.encs d).length ≤ 4 * d.length := by
      intro d
      induction d with
      | nil => simp [Tx.encs]
      | cons y u ihu =>
        rw [encs_cons, List.length_append, List.length_cons]
        have := (enc_length y).2
        omega
    have := hed done
    rw [if_pos (by rw [hsz]; simp only [nbytes, List.length_map]; omega)]
    have e : ((done.length : Int) + 1) = (((done ++ [r]).length : Nat) : Int) := by simp
    have e2 : nbytes (Tx.encs done) ++ bytesOf ⟨(enc r).toArray⟩ = nbytes (Tx.encs (done ++ [r])) := by
      rw [encs_snoc]
      simp [nbytes, bytesOf]
    rw [e, e2]
    exact ih (done ++ [r]) k (by simp [hq2]) (by omega)
theorem txt_f (q : List Nat) (hq : q.length ≤ 17592186044416) (hg : ∀ r ∈ q, Tx.Good r) (k : Nat) (hk : q.length + 1 < k) : chanceryref3_text.f k (ints q) = some ⟨(Tx.encs q).toArray⟩ := by
  have := txt_l q hq hg q [] k rfl hk
  simpa [chanceryref3_text.f, nbytes, Tx.encs] using this
end Go.Proofs.YtdfdponenhfbjaaDoor.Fn
