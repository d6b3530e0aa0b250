/- The reference's IsType answers the plain function; its digits and special signs too. Conditions: a text of at most 140737488351232 bytes. -/
import Derived.Test.YtneclgjjnnldpaaDoorLbl
namespace Go.Proofs.YtneclgjjnnldpaaDoor.Dp
def okQ (q : Bs) : Bool := !q.isEmpty && !(decide (1 < q.length) && q.headD 0 == 48)
def numG : Bs → Bs → Nat → Bool
  | q, [], p => okQ q && decide (0 < p)
  | q, c :: r, p => if digitB c = true then numG (q ++ [c]) r p else if c = 46 then okQ q && numG [] r (p + 1) else false
theorem okQ_num {q : Bs} (h : ∀ c ∈ q, digitB c = true) : numOk q = okQ q := by
  unfold numOk okQ
  rw [List.all_eq_true.2 h, Bool.and_true]
theorem split_ne : ∀ l : Bs, ∃ h t, splitDots l = h :: t
  | [] => ⟨[], [], rfl⟩
  | c :: r => by
    obtain ⟨h, t, e⟩ := split_ne r
    by_cases hc : c = 46
    · exact ⟨[], splitDots r, by simp only [splitDots]; rw [if_pos hc]⟩
    · exact ⟨c :: h, t, by simp only [splitDots]; rw [if_neg hc, e]⟩
theorem numG_split : ∀ (l q : Bs) (p : Nat) (h : Bs) (t : List Bs), splitDots l = h :: t → (∀ c ∈ q, digitB c = true) → numG q l p = (numOk (q ++ h) && t.all numOk && decide (0 < p + t.length))
  | [], q, p, h, t, e, hq => by
    have e2 : ([[]] : List Bs) = h :: t := e
    injection e2 with e3 e4
    subst e3 e4
    rw [List.append_nil, okQ_num hq]
    simp [numG]
  | c :: r, q, p, h, t, e, hq => by
    obtain ⟨h2, t2, e2⟩ := split_ne r
    simp only [splitDots] at e
    simp only [numG]
    by_cases hc : c = 46
    · rw [if_pos hc] at e
      injection e with e3 e4
      subst e3
      have hd : digitB c = false := by rw [hc]; decide
      rw [hd, if_neg (by decide), if_pos hc, numG_split r [] (p + 1) h2 t2 e2 (by simp), List.append_nil, okQ_num hq, ← e4, e2]
      simp only [List.nil_append, List.all_cons, List.length_cons]
      rw [show decide (0 < p + 1 + t2.length) = decide (0 < p + (t2.length + 1)) from by rw [decide_eq_decide]; omega]
      simp only [Bool.and_assoc]
    · rw [if_neg hc, e2] at e
      injection e with e3 e4
      subst e3 e4
      cases hd : digitB c with
      | true =>
        rw [if_pos rfl, numG_split r (q ++ [c]) p h2 t2 e2 (fun x hx => by
          rcases List.mem_append.1 hx with hx | hx
          · exact hq x hx
          · rw [List.mem_singleton.1 hx]; exact hd)]
        rw [List.append_assoc]
        rfl
      | false =>
        rw [if_neg (by decide), if_neg hc]
        have : numOk (q ++ c :: h2) = false := by
          unfold numOk
          rw [show (q ++ c :: h2).all digitB = false from List.all_eq_false.2 ⟨c, by simp, by rw [hd]; decide⟩, Bool.and_false]
        rw [this]
        rfl
theorem numG_oid (s : Bs) : numG [] s 0 = isOid s := by
  obtain ⟨h, t, e⟩ := split_ne s
  rw [numG_split s [] 0 h t e (by simp)]
  unfold isOid
  rw [e]
  simp only [List.nil_append, List.all_cons, List.length_cons]
  rw [show decide (0 < 0 + t.length) = decide (1 < t.length + 1) from by rw [decide_eq_decide]; omega]
end Go.Proofs.YtneclgjjnnldpaaDoor.Dp
namespace Go.Proofs.YtneclgjjnnldpaaDoor.Rd
open Go Go.RowKit Go.Lib Go.Proofs.YtneclgjjnnldpaaDoor.PFn Go.Proofs.YtneclgjjnnldpaaDoor.Dp Go.Proofs.YtneclgjjnnldpaaDoorW.PrintWords Go.Proofs.YtneclgjjnnldpaaDoor.Rk

theorem bt_nat {s : ByteArray} {i : Nat} (h : i < s.size) : bt s (i : Int) = (((bl s)[i]'(by rw [bl_size]; exact h)).toNat : Int) := by
  unfold bt
  rw [Int.toNat_natCast, dif_pos h]
  rfl
def seg (s : ByteArray) (f i : Nat) : Bs := ((bl s).drop f).take (i - f)
theorem seg_nil (s : ByteArray) (i : Nat) : seg s i i = [] := by simp [seg]
theorem seg_len {s : ByteArray} {f i : Nat} (hi : i ≤ s.size) : (seg s f i).length = i - f := by
  unfold seg
  rw [List.length_take, List.length_drop, bl_size]
  omega
theorem seg_snoc {s : ByteArray} {f i : Nat} (h : f ≤ i) (hi : i < s.size) : seg s f (i + 1) = seg s f i ++ [(bl s)[i]'(by rw [bl_size]; exact hi)] := by
  unfold seg
  have hl : i - f < ((bl s).drop f).length := by rw [List.length_drop, bl_size]; omega
  rw [show i + 1 - f = i - f + 1 from by omega, List.take_succ_eq_append_getElem hl, List.getElem_drop]
  congr 3
  omega
theorem seg_head {s : ByteArray} {f i : Nat} (h : f < i) (hi : i ≤ s.size) : (seg s f i).headD 0 = (bl s)[f]'(by rw [bl_size]; omega) := by
  unfold seg
  rw [List.drop_eq_getElem_cons (by rw [bl_size]; omega), show i - f = (i - f - 1) + 1 from by omega, List.take_succ_cons]
  rfl
theorem okQ_seg {s : ByteArray} {f i : Nat} (h : f ≤ i) (hi : i ≤ s.size) : okQ (seg s f i) = (decide (f < i) && !(decide (f + 1 < i) && (bt s (f : Int) == 48))) := by
  by_cases e : f < i
  · have hne : (seg s f i).isEmpty = false := by
      cases hs : seg s f i with
      | nil => have := seg_len (s := s) (f := f) hi; rw [hs] at this; simp at this; omega
      | cons _ _ => rfl
    unfold okQ
    rw [hne, seg_len hi, seg_head e hi, decide_eq_true e, bt_nat (by omega)]
    have h48 : ((bl s)[f]'(by rw [bl_size]; omega) == (48 : UInt8)) = ((((bl s)[f]'(by rw [bl_size]; omega)).toNat : Int) == 48) := by
      generalize (bl s)[f]'_ = c
      by_cases hc : c = 48
      · subst hc; rfl
      · have : ¬ (c.toNat : Int) = 48 := fun h => hc (UInt8.toNat_inj.1 (by show c.toNat = 48; omega))
        rw [beq_false_of_ne this]
        simpa using hc
    rw [h48, show decide (1 < i - f) = decide (f + 1 < i) from by rw [decide_eq_decide]; omega]
    rfl
  · have : f = i := by omega
    subst this
    rw [seg_nil, decide_eq_false e]
    rfl
theorem j1_ends {s : ByteArray} (hs : s.size ≤ 140737488351232) {f i : Nat} (h : f ≤ i) (hi : i ≤ s.size) (k : Nat) (p : Int) :
    chanceryref4_Numbers.j1 (k + 2) s p (f : Int) (i : Int) false = if okQ (seg s f i) = true then (if i < s.size then (if bt s (i : Int) = 46 then chanceryref4_Numbers.l0 k s (wrap64 (p + 1)) (wrap64 ((i : Int) + 1)) (wrap64 ((i : Int) + 1)) else some false) else chanceryref4_Numbers.l0 k s p (wrap64 ((i : Int) + 1)) (wrap64 ((i : Int) + 1))) else some false := by
  simp only [chanceryref4_Numbers.j1, chanceryref4_Numbers.j2]
  rw [if_neg (by decide), okQ_seg h hi]
  by_cases e : f = i
  · rw [if_pos (by omega), if_pos trivial, decide_eq_false (by omega)]
    rfl
  · have e1 : wrap64 ((f : Int) + 1) = (f : Int) + 1 := by unfold wrap64; omega
    rw [if_neg (by omega), if_pos (by omega), if_pos (by omega), decide_eq_true (show f < i by omega), Bool.true_and, e1]
    by_cases h48 : bt s (f : Int) = 48
    · rw [if_pos h48, h48]
      by_cases h1 : f + 1 < i
      · rw [if_pos (show (i : Int) > (f : Int) + 1 by omega), if_pos trivial, decide_eq_true h1]
        rfl
      · rw [if_neg (show ¬ (i : Int) > (f : Int) + 1 by omega), decide_eq_false h1, Bool.false_and, if_pos (show (!false) = true from rfl)]
        by_cases hz : i < s.size
        · rw [if_pos (show (i : Int) < (s.size : Int) by omega), if_pos (by omega), if_pos hz]
          by_cases hd : bt s (i : Int) = 46
          · rw [hd, if_pos rfl, if_neg (by decide), if_pos (by omega)]
          · rw [if_neg hd, if_pos (by simpa using hd)]
        · rw [if_neg (show ¬ (i : Int) < (s.size : Int) by omega), if_neg hz, if_neg (by decide), if_neg (by omega)]
    · rw [if_neg h48, beq_false_of_ne h48, Bool.and_false, if_pos (show (!false) = true from rfl)]
      by_cases hz : i < s.size
      · rw [if_pos (show (i : Int) < (s.size : Int) by omega), if_pos (by omega), if_pos hz]
        by_cases hd : bt s (i : Int) = 46
        · rw [hd, if_pos rfl, if_neg (by decide), if_pos (by omega)]
        · rw [if_neg hd, if_pos (by simpa using hd)]
      · rw [if_neg (show ¬ (i : Int) < (s.size : Int) by omega), if_neg hz, if_neg (by decide), if_neg (by omega)]
theorem refDig_f (c : UInt8) : chanceryref4_digit.f (c.toNat : Int) = some (digitB c) := by
  have h : ∀ n : Fin 256, chanceryref4_digit.f ((UInt8.ofNat n.val).toNat : Int) = some (digitB (UInt8.ofNat n.val)) := by decide +kernel
  have := h ⟨c.toNat, UInt8.toNat_lt c⟩
  rwa [UInt8.ofNat_toNat] at this
theorem refLet_f (c : UInt8) : chanceryref4_letter.f (c.toNat : Int) = some (letterB c) := by
  have h : ∀ n : Fin 256, chanceryref4_letter.f ((UInt8.ofNat n.val).toNat : Int) = some (letterB (UInt8.ofNat n.val)) := by decide +kernel
  have := h ⟨c.toNat, UInt8.toNat_lt c⟩
  rwa [UInt8.ofNat_toNat] at this
theorem refSp_f (c : UInt8) : chanceryref4_special.f 20 (c.toNat : Int) = some (Dp.special c) := by
  have h : ∀ n : Fin 256, chanceryref4_special.f 20 ((UInt8.ofNat n.val).toNat : Int) = some (Dp.special (UInt8.ofNat n.val)) := by decide +kernel
  have := h ⟨c.toNat, UInt8.toNat_lt c⟩
  rwa [UInt8.ofNat_toNat] at this
theorem numbers_s (s : ByteArray) (k : Nat) (p f i : Nat) (hi : i ≤ s.size) : chanceryref4_Numbers.l0 (k + 1) s (p : Int) (f : Int) (i : Int) = if (i : Int) < (s.size : Int) then ((chanceryref4_digit.f (bt s (i : Int))).bind fun t101 => (chanceryref4_Numbers.j1 k s (p : Int) (f : Int) (i : Int) t101)) else (chanceryref4_Numbers.j1 k s (p : Int) (f : Int) (i : Int) false) := by
  simp only [chanceryref4_Numbers.l0]
  rw [if_pos (by omega)]
  split
  · rw [if_pos (by omega)]
  · rfl
theorem numbers_l (s : ByteArray) (hs : s.size ≤ 140737488351232) : ∀ (n k f i p : Nat), s.size - i = n → f ≤ i → i ≤ s.size → p ≤ i → 3 * n + 6 < k → chanceryref4_Numbers.l0 k s (p : Int) (f : Int) (i : Int) = some (numG (seg s f i) ((bl s).drop i) p) := by
  intro n
  induction n with
  | zero =>
    intro k f i p hn hf hi hp hk
    obtain ⟨k', rfl⟩ : ∃ k', k = k' + 4 := ⟨k - 4, by omega⟩
    have e1 : wrap64 ((i : Int) + 1) = ((i + 1 : Nat) : Int) := by unfold wrap64; omega
    have hz : ¬ i < s.size := by omega
    rw [numbers_s s (k' + 3) p f i hi, if_neg (by omega), j1_ends hs hf hi (k' + 1), if_neg hz, e1]
    have hdr : (bl s).drop i = [] := List.drop_eq_nil_of_le (by rw [bl_size]; omega)
    rw [hdr]
    simp only [numG]
    cases okQ (seg s f i) with
    | false => rfl
    | true =>
      rw [if_pos rfl, Bool.true_and]
      simp only [chanceryref4_Numbers.l0]
      rw [if_neg (by omega)]
      congr 1
      rw [decide_eq_decide]
      omega
  | succ n IH =>
    intro k f i p hn hf hi hp hk
    obtain ⟨k', rfl⟩ : ∃ k', k = k' + 4 := ⟨k - 4, by omega⟩
    have e1 : wrap64 ((i : Int) + 1) = ((i + 1 : Nat) : Int) := by unfold wrap64; omega
    have e2 : wrap64 ((p : Int) + 1) = ((p + 1 : Nat) : Int) := by unfold wrap64; omega
    have hz : i < s.size := by omega
    rw [numbers_s s (k' + 3) p f i hi, if_pos (by omega), bt_nat hz, refDig_f]
    have hdr : (bl s).drop i = (bl s)[i]'(by rw [bl_size]; exact hz) :: (bl s).drop (i + 1) := List.drop_eq_getElem_cons (by rw [bl_size]; exact hz)
    have hb := bt_nat hz
    have hsn := seg_snoc hf hz
    rw [hdr]
    generalize (bl s)[i]'_ = c at *
    simp only [Option.bind_some, numG]
    cases hd : digitB c with
    | true =>
      rw [if_pos rfl, ← hsn]
      simp only [chanceryref4_Numbers.j1]
      rw [if_pos trivial, e1]
      exact IH _ f (i + 1) p (by omega) (by omega) (by omega) (by omega) (by omega)
    | false =>
      rw [if_neg (by decide), j1_ends hs hf hi (k' + 1), if_pos hz, hb, e1, e2]
      by_cases h46 : c = 46
      · have ih := IH (k' + 1) (i + 1) (i + 1) (p + 1) (by omega) (by omega) (by omega) (by omega) (by omega)
        rw [seg_nil] at ih
        rw [if_pos h46, if_pos (show (c.toNat : Int) = 46 by rw [h46]; rfl), ih]
        cases okQ (seg s f i) <;> rfl
      · have h46' : ¬ (c.toNat : Int) = 46 := fun h => h46 (UInt8.toNat_inj.1 (by show c.toNat = 46; omega))
        rw [if_neg h46, if_neg h46']
        cases okQ (seg s f i) <;> rfl
theorem isTypeR_l (s : ByteArray) (hs : s.size ≤ 140737488351232) : ∀ (n k i : Nat), s.size - i = n → i ≤ s.size → n < k → chanceryref4_IsType.l0 k s (i : Int) = some (((bl s).drop i).all okT)
  | 0, k + 1, i, hn, hi, _ => by
    simp only [chanceryref4_IsType.l0]
    rw [if_neg (by omega), List.drop_eq_nil_of_le (by rw [bl_size]; omega)]
    rfl
  | n + 1, k + 1, i, hn, hi, hk => by
    have hz : i < s.size := by omega
    have ih := isTypeR_l s hs n k (i + 1) (by omega) (by omega) (by omega)
    have e1 : wrap64 ((i : Int) + 1) = ((i + 1 : Nat) : Int) := by unfold wrap64; omega
    have hdr : (bl s).drop i = (bl s)[i]'(by rw [bl_size]; exact hz) :: (bl s).drop (i + 1) := List.drop_eq_getElem_cons (by rw [bl_size]; exact hz)
    simp only [chanceryref4_IsType.l0]
    rw [if_pos (by omega), if_pos (by omega), bt_nat hz, refLet_f, refDig_f, hdr, e1, ih]
    generalize (bl s)[i]'_ = c
    rw [List.all_cons]
    have hkey : okT c = (letterB c || digitB c || ((c.toNat : Int) == 45)) := by
      have h : ∀ n : Fin 256, okT (UInt8.ofNat n.val) = (letterB (UInt8.ofNat n.val) || digitB (UInt8.ofNat n.val) || (((UInt8.ofNat n.val).toNat : Int) == 45)) := by decide +kernel
      have := h ⟨c.toNat, UInt8.toNat_lt c⟩
      rwa [UInt8.ofNat_toNat] at this
    rw [hkey]
    simp only [Option.bind_some]
    cases letterB c with
    | true => rfl
    | false =>
      cases digitB c with
      | true => rfl
      | false =>
        by_cases h45 : (c.toNat : Int) = 45
        · rw [if_neg (by decide), if_neg (by decide), if_pos h45, h45]
          rfl
        · rw [if_neg (by decide), if_neg (by decide), if_neg h45, beq_false_of_ne h45]
          rfl
theorem refType_f (s : ByteArray) (hs : s.size ≤ 140737488351232) : ∃ k, chanceryref4_IsType.f k s = some (isType (bl s)) := by
  refine ⟨3 * s.size + 20, ?_⟩
  obtain ⟨k, hk⟩ : ∃ k, 3 * s.size + 20 = k + 1 := ⟨_, rfl⟩
  have hkk : 3 * s.size + 18 < k := by omega
  rw [hk]
  unfold chanceryref4_IsType.f
  simp only [chanceryref4_IsType.j0]
  cases hb : bl s with
  | nil =>
    have : s.size = 0 := by rw [← bl_size, hb]; rfl
    rw [if_pos (by omega), if_pos trivial]
    rfl
  | cons c r =>
    have hz : s.size = r.length + 1 := by rw [← bl_size, hb]; rfl
    have h0 : bt s 0 = (c.toNat : Int) := by
      have := bt_nat (s := s) (i := 0) (by omega)
      rw [show ((0 : Nat) : Int) = 0 from rfl] at this
      rw [this]
      congr 2
      simp [hb]
    rw [if_neg (by omega), isType_cons]
    by_cases h64 : s.size ≤ 64
    · rw [if_neg (by simp; omega), if_pos (by omega), h0, refLet_f, decide_eq_true (show r.length + 1 ≤ 64 by omega), Bool.true_and]
      simp only [Option.bind_some]
      cases hl : letterB c with
      | true =>
        have := isTypeR_l s hs s.size k 0 (by omega) (by omega) (by omega)
        rw [show ((0 : Nat) : Int) = 0 from rfl, List.drop_zero, hb] at this
        rw [if_pos rfl, this]
        rfl
      | false =>
        have := numbers_l s hs s.size k 0 0 0 (by omega) (by omega) (by omega) (by omega) (by omega)
        rw [show ((0 : Nat) : Int) = 0 from rfl, List.drop_zero, hb, seg_nil, numG_oid] at this
        unfold chanceryref4_Numbers.f
        rw [if_neg (by decide), this]
        rfl
    · rw [if_pos (by simp; omega), decide_eq_false (by omega)]
      rfl
theorem refType_c (s : ByteArray) (w : World) (hs : s.size ≤ 140737488351232) : Calls Tryd.prog 20 #[.string s] w fun e w' => e = .returned (.bool (isType (bl s))) ∧ ∃ m, w' = w.drewN m := by
  obtain ⟨k, hk⟩ := refType_f s hs
  exact (chanceryref4_IsType.calls k s _ w hk).mono fun e w' ⟨he, hd⟩ => ⟨he, hd.out⟩
end Go.Proofs.YtneclgjjnnldpaaDoor.Rd
