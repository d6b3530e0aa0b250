/- Texts as lists of runes: a text (well-formed bytes) is the encoding of exactly one list of valid runes. Plain Lean, no program. Conditions: none. -/
import Derived.Lib.ValidLaws
import Derived.Lib.MapLaws
import Derived.Lib.RuneBytes
namespace Go.Proofs.YtdfdponenhfbjaaDoor.Tx
open Go Go.Lib

/-- the bytes of a rune -/
def enc (r : Nat) : List UInt8 := encodeRune (r : Int)
def encs (rs : List Nat) : List UInt8 := rs.flatMap enc
/-- a rune that can be written -/
def Good (r : Nat) : Prop := r < 55296 ∨ (57344 ≤ r ∧ r ≤ 1114111)
instance (r : Nat) : Decidable (Good r) := inferInstanceAs (Decidable (_ ∨ _))

def runesGo : Nat → List UInt8 → Option (List Nat)
  | 0, _ => some []
  | n + 1, l => if l = [] then some [] else if (decodeL l).1 = 65533 ∧ (decodeL l).2 = 1 then none else (runesGo n (l.drop (decodeL l).2)).map ((decodeL l).1 :: ·)
/-- the runes of a text; none: it is no text -/
def runes (l : List UInt8) : Option (List Nat) := runesGo l.length l

theorem runesGo_nil : ∀ n, runesGo n [] = some []
  | 0 => rfl
  | _ + 1 => by simp [runesGo]
theorem runesGo_fuel : ∀ (n m : Nat) (l : List UInt8), l.length ≤ n → l.length ≤ m → runesGo n l = runesGo m l
  | 0, m, l, hn, _ => by
    have : l = [] := List.eq_nil_of_length_eq_zero (by omega)
    subst this
    rw [runesGo_nil, runesGo_nil]
  | n + 1, 0, l, _, hm => by
    have : l = [] := List.eq_nil_of_length_eq_zero (by omega)
    subst this
    rw [runesGo_nil, runesGo_nil]
  | n + 1, m + 1, l, hn, hm => by
    unfold runesGo
    by_cases hne : l = []
    · simp [hne]
    · have hw := decodeL_width l
      have hl : 0 < l.length := List.length_pos_iff.2 hne
      rw [if_neg hne, if_neg hne, runesGo_fuel n m (l.drop (decodeL l).2) (by rw [List.length_drop]; omega) (by rw [List.length_drop]; omega)]
theorem runes_nil : runes [] = some [] := rfl
theorem runes_step (l : List UInt8) (hne : l ≠ []) : runes l = if (decodeL l).1 = 65533 ∧ (decodeL l).2 = 1 then none else (runes (l.drop (decodeL l).2)).map ((decodeL l).1 :: ·) := by
  have hl : 0 < l.length := List.length_pos_iff.2 hne
  have hw := decodeL_width l
  obtain ⟨n, hn⟩ : ∃ n, l.length = n + 1 := ⟨l.length - 1, by omega⟩
  unfold runes
  rw [hn]
  show (if l = [] then some [] else _) = _
  rw [if_neg hne, runesGo_fuel n (l.drop (decodeL l).2).length _ (by rw [List.length_drop]; omega) (Nat.le_refl _)]

theorem valid_runes : ∀ (n : Nat) (l : List UInt8), l.length ≤ n → validD l = (runes l).isSome := by
  intro n
  induction n with
  | zero =>
    intro l hl
    have : l = [] := List.eq_nil_of_length_eq_zero (by omega)
    subst this
    rfl
  | succ n ih =>
    intro l hl
    by_cases hne : l = []
    · subst hne; rfl
    · have hw := decodeL_width l
      have hp : 0 < l.length := List.length_pos_iff.2 hne
      rw [validD_step l hne, runes_step l hne]
      by_cases hb : (decodeL l).1 = 65533 ∧ (decodeL l).2 = 1
      · rw [if_pos hb, if_pos hb]; rfl
      · rw [if_neg hb, if_neg hb, ih _ (by rw [List.length_drop]; omega)]
        cases runes (l.drop (decodeL l).2) <;> rfl
theorem validD_runes (l : List UInt8) : validD l = (runes l).isSome := valid_runes l.length l (Nat.le_refl _)

set_option maxRecDepth 100000 in
set_option maxHeartbeats 4000000 in
theorem decodeN_good (n b0 b1 b2 b3 : Nat) (h0 : b0 < 256) : Good (decodeN n b0 b1 b2 b3).1 := by
  unfold decodeN Good
  repeat' split
  all_goals (simp only; omega)
theorem decodeL_good (l : List UInt8) : Good (decodeL l).1 := by rw [decodeL_N]; exact decodeN_good _ _ _ _ _ (UInt8.toNat_lt _)

theorem enc_length (r : Nat) : 1 ≤ (enc r).length ∧ (enc r).length ≤ 4 := by
  have := runeCells_le (r : Int)
  rw [runeCells_length] at this
  exact this
theorem enc_ne (r : Nat) : enc r ≠ [] := by
  have := enc_length r
  intro h
  rw [h] at this
  simp at this

theorem u8nat (n : Nat) (h : n < 256) : (UInt8.ofNat n).toNat = n := by
  simp; omega

theorem enc_one {r : Nat} (h : r ≤ 127) : enc r = [UInt8.ofNat r] := by
  unfold enc encodeRune
  rw [encodeRuneZ_one (by omega) (by omega)]
  simp [Nat.toUInt8]
theorem enc_two {r : Nat} (h0 : 128 ≤ r) (h1 : r ≤ 2047) : enc r = [UInt8.ofNat (192 + r / 64), UInt8.ofNat (128 + r % 64)] := by
  unfold enc encodeRune
  rw [encodeRuneZ_two (by omega) (by omega)]
  have e1 : (192 + (r : Int) / 64).toNat = 192 + r / 64 := by omega
  have e2 : (128 + (r : Int) % 64).toNat = 128 + r % 64 := by omega
  simp only [List.map_cons, List.map_nil, e1, e2, Nat.toUInt8]
theorem enc_three {r : Nat} (h0 : (2048 ≤ r ∧ r < 55296) ∨ (57344 ≤ r ∧ r ≤ 65535)) : enc r = [UInt8.ofNat (224 + r / 4096), UInt8.ofNat (128 + r / 64 % 64), UInt8.ofNat (128 + r % 64)] := by
  unfold enc encodeRune
  rw [encodeRuneZ_three (by omega)]
  have e1 : (224 + (r : Int) / 4096).toNat = 224 + r / 4096 := by omega
  have e2 : (128 + (r : Int) / 64 % 64).toNat = 128 + r / 64 % 64 := by omega
  have e3 : (128 + (r : Int) % 64).toNat = 128 + r % 64 := by omega
  simp only [List.map_cons, List.map_nil, e1, e2, e3, Nat.toUInt8]
theorem enc_four {r : Nat} (h0 : 65536 ≤ r) (h1 : r ≤ 1114111) : enc r = [UInt8.ofNat (240 + r / 262144), UInt8.ofNat (128 + r / 4096 % 64), UInt8.ofNat (128 + r / 64 % 64), UInt8.ofNat (128 + r % 64)] := by
  unfold enc encodeRune
  rw [encodeRuneZ_four (by omega) (by omega)]
  have e1 : (240 + (r : Int) / 262144).toNat = 240 + r / 262144 := by omega
  have e2 : (128 + (r : Int) / 4096 % 64).toNat = 128 + r / 4096 % 64 := by omega
  have e3 : (128 + (r : Int) / 64 % 64).toNat = 128 + r / 64 % 64 := by omega
  have e4 : (128 + (r : Int) % 64).toNat = 128 + r % 64 := by omega
  simp only [List.map_cons, List.map_nil, e1, e2, e3, e4, Nat.toUInt8]

/-- what is written is read -/
theorem decode_enc (r : Nat) (h : Good r) (t : List UInt8) : decodeL (enc r ++ t) = (r, (enc r).length) := by
  unfold Good at h
  rw [decodeL_N]
  by_cases h1 : r ≤ 127
  · rw [enc_one h1]
    simp only [List.cons_append, List.nil_append, List.getD_cons_zero, u8nat r (by omega), List.length_cons, List.length_nil]
    unfold decodeN
    rw [if_pos (by omega)]
  · by_cases h2 : r ≤ 2047
    · rw [enc_two (by omega) h2]
      simp only [List.cons_append, List.nil_append, List.getD_cons_zero, List.getD_cons_succ, u8nat (192 + r / 64) (by omega), u8nat (128 + r % 64) (by omega), List.length_cons, List.length_nil]
      unfold decodeN
      rw [if_neg (by omega), if_pos (by omega), if_pos (by omega)]
      refine Prod.ext ?_ rfl
      show _ = r
      omega
    · by_cases h3 : r ≤ 65535
      · rw [enc_three (by omega)]
        simp only [List.cons_append, List.nil_append, List.getD_cons_zero, List.getD_cons_succ, u8nat (224 + r / 4096) (by omega), u8nat (128 + r / 64 % 64) (by omega), u8nat (128 + r % 64) (by omega), List.length_cons, List.length_nil]
        unfold decodeN
        rw [if_neg (by omega), if_neg (by omega), if_pos (by omega), if_pos (by omega)]
        refine Prod.ext ?_ rfl
        show _ = r
        omega
      · rw [enc_four (by omega) (by omega)]
        simp only [List.cons_append, List.nil_append, List.getD_cons_zero, List.getD_cons_succ, u8nat (240 + r / 262144) (by omega), u8nat (128 + r / 4096 % 64) (by omega), u8nat (128 + r / 64 % 64) (by omega), u8nat (128 + r % 64) (by omega), List.length_cons, List.length_nil]
        unfold decodeN
        rw [if_neg (by omega), if_neg (by omega), if_neg (by omega), if_pos (by omega), if_pos (by omega)]
        refine Prod.ext ?_ rfl
        show _ = r
        omega

theorem enc_wide (r : Nat) (h : Good r) : ¬ (r = 65533 ∧ (enc r).length = 1) := by
  rintro ⟨rfl, hl⟩
  rw [enc_three (by omega)] at hl
  simp at hl
theorem runes_enc (r : Nat) (h : Good r) (t : List UInt8) : runes (enc r ++ t) = (runes t).map (r :: ·) := by
  have hne : enc r ++ t ≠ [] := by simp [enc_ne]
  rw [runes_step _ hne, decode_enc r h t, if_neg (enc_wide r h)]
  simp
theorem runes_encs : ∀ (rs : List Nat), (∀ r ∈ rs, Good r) → runes (encs rs) = some rs
  | [], _ => rfl
  | r :: rs, h => by
    have e : encs (r :: rs) = enc r ++ encs rs := rfl
    rw [e, runes_enc r (h r (by simp)), runes_encs rs (fun x hx => h x (by simp [hx]))]
    rfl
theorem runes_append : ∀ (rs : List Nat), (∀ r ∈ rs, Good r) → ∀ t, runes (encs rs ++ t) = (runes t).map (rs ++ ·)
  | [], _, t => by cases h : runes t <;> simp [encs, h]
  | r :: rs, h, t => by
    have e : encs (r :: rs) ++ t = enc r ++ (encs rs ++ t) := by simp [encs]
    rw [e, runes_enc r (h r (by simp)), runes_append rs (fun x hx => h x (by simp [hx])) t]
    cases runes t <;> simp
/-- a text is what its runes are written as -/
theorem encs_runes : ∀ (n : Nat) (l : List UInt8) (rs : List Nat), l.length ≤ n → runes l = some rs → encs rs = l ∧ ∀ r ∈ rs, Good r := by
  intro n
  induction n with
  | zero =>
    intro l rs hl h
    have : l = [] := List.eq_nil_of_length_eq_zero (by omega)
    subst this
    rw [runes_nil] at h
    injection h with h
    subst h
    exact ⟨rfl, by simp⟩
  | succ n ih =>
    intro l rs hl h
    by_cases hne : l = []
    · subst hne
      rw [runes_nil] at h
      injection h with h
      subst h
      exact ⟨rfl, by simp⟩
    · have hw := decodeL_width l
      have hp : 0 < l.length := List.length_pos_iff.2 hne
      rw [runes_step l hne] at h
      by_cases hb : (decodeL l).1 = 65533 ∧ (decodeL l).2 = 1
      · rw [if_pos hb] at h; cases h
      · rw [if_neg hb] at h
        obtain ⟨qs, hq, rfl⟩ := Option.map_eq_some_iff.1 h
        obtain ⟨h1, h2⟩ := ih _ qs (by rw [List.length_drop]; omega) hq
        refine ⟨?_, ?_⟩
        · have e : encs ((decodeL l).1 :: qs) = enc (decodeL l).1 ++ encs qs := rfl
          rw [e, h1]
          unfold enc
          rw [encode_decode l hne hb, List.take_append_drop]
        · intro r hr
          rcases List.mem_cons.1 hr with rfl | hr
          · exact decodeL_good l
          · exact h2 r hr
theorem encs_of_runes {l : List UInt8} {rs : List Nat} (h : runes l = some rs) : encs rs = l := (encs_runes l.length l rs (Nat.le_refl _) h).1
theorem good_of_runes {l : List UInt8} {rs : List Nat} (h : runes l = some rs) : ∀ r ∈ rs, Good r := (encs_runes l.length l rs (Nat.le_refl _) h).2
theorem encs_append (a b : List Nat) : encs (a ++ b) = encs a ++ encs b := by simp [encs]
theorem encs_nil {rs : List Nat} (h : encs rs = []) : rs = [] := by
  cases rs with
  | nil => rfl
  | cons r rs =>
    have e : encs (r :: rs) = enc r ++ encs rs := rfl
    rw [e] at h
    exact absurd (List.append_eq_nil_iff.1 h).1 (enc_ne r)
end Go.Proofs.YtdfdponenhfbjaaDoor.Tx
