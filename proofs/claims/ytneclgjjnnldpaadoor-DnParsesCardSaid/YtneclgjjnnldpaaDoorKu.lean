/- The reference's Unhex, and its desk: is, blanks. Conditions: a text of at most 10^6 bytes. -/
import Derived.Test.YtneclgjjnnldpaaDoorKt
namespace Go.Proofs.YtneclgjjnnldpaaDoor.Rd
open Go Go.RowKit Go.Lib Go.Proofs.YtneclgjjnnldpaaDoor.PFn Go.Proofs.YtneclgjjnnldpaaDoor.Dp Go.Proofs.YtneclgjjnnldpaaDoorW.PrintWords Go.Proofs.YtneclgjjnnldpaaDoor.Rk

theorem byte_sum {x y : Nat} (hx : x < 16) (hy : y < 16) : 16 * (x : Int) + (y : Int) = ((UInt8.ofNat (16 * x + y)).toNat : Int) := by
  have h : ∀ i j : Fin 16, 16 * (i.val : Int) + (j.val : Int) = ((UInt8.ofNat (16 * i.val + j.val)).toNat : Int) := by decide +kernel
  exact h ⟨x, hx⟩ ⟨y, hy⟩
theorem quiet_rdig (x : UInt8) {w : World} {n : Nat} : Calls Tryd.prog 64 #[.int .u8 (x.toNat : Int)] (w.drewN n) fun e w'' => e = .returned (.int .i64 (dv x)) ∧ ∃ m, w'' = w.drewN m :=
  Calls.quiet_of ((chanceryref1_Digit.calls 9 (x.toNat : Int) (dv x) _ (refDigit_f x)).mono fun e w' ⟨he, hd⟩ => ⟨he, by obtain ⟨⟨m, hm⟩⟩ := hd; exact ⟨m, hm⟩⟩)
set_option maxHeartbeats 1000000 in
set_option maxRecDepth 10000 in
theorem refUnhex_c (s : ByteArray) (w : World) (hs : s.size ≤ 1000000) : Calls Tryd.prog 65 #[.string s] w fun e w' => e = .returned (uhAns (unhex (bl s))) ∧ Below w.heap.size w w' := by
  by_cases hev : s.size % 2 = 0
  · have hev' : ((s.size : Int)).tmod 2 = 0 := by rw [Int.tmod_eq_emod_of_nonneg (by omega)]; omega
    obtain ⟨ANS, hA⟩ : ∃ b, unhex (bl s) = b := ⟨_, rfl⟩
    rw [hA]
    have HA := Aside0.mk hA
    clear hA
    obtain ⟨i0, hi, hz0, hz1, hz2⟩ := info_parts byte_info
    go_enter Tryd.func65, Tryd.ntmps65
    go_wp2_with (refine wpList_make_own _ rfl _ _ 64 rfl w.heap.size 5 i0 (.int .u8 0) 1 Tryd.underlying64 hi hz0 hz1 .i64 .i64 ((s.size : Int) / 2) (s.size / 2) rfl rfl (by omega) (by rw [hz2]; omega) (by simp only [maxLen]; omega) (Nat.le_refl _) ?_; intro w1 HO1 hg1)
    have hb1 : Below w.heap.size w w1 := (Below.refl _ _).grown hg1 (Nat.le_refl _) (fun k hk => by cases hk)
    go_loopw [4, 5, 6, 7] (fun v4 v5 _ _ wr => UhRel s ANS w v4 v5 wr) (fun _ v5 _ _ _ => s.size - (RowKit.intOf v5).toNat)
    case atStart => exact ⟨[], 0, bl s, rfl, ⟨List.drop_zero, Nat.zero_le _⟩, by rw [bl_size]; exact hev, Nat.le_refl _, by rw [HA.out]; simp, HO1, hb1⟩
    case round =>
      obtain ⟨acc, i, m, rfl, hm, hmev, hacc, hans, hown, hbel⟩ := hrel
      have HO := Aside0.mk hown
      have HANS := Aside0.mk hans
      clear hown hans
      cases m with
      | nil =>
        have hie := hm.nil
        have hge : ¬ (i : Int) < (s.size : Int) := by omega
        have HIE := Aside0.mk hie
        clear hie
        obtain ⟨A4, c4, rfl⟩ : ∃ A c, u4 = .slice A acc.length c := own_slice HO.out
        have hstr1 := own_eB HO.out
        go_wp2
        go_ret2
        refine ⟨?_, hbel⟩
        rw [← HANS.out]
        simp [unhex, uhAns]
      | cons a m =>
        cases m with
        | nil => exact absurd hmev (by simp)
        | cons b r =>
          have ha := hm.lt
          have hb := hm.next.lt
          have hxa : ((s[i]'ha).toNat : Int) = (a.toNat : Int) := by rw [hm.at_]
          have hxb : ((s[i + 1]'hb).toNat : Int) = (b.toNat : Int) := by rw [hm.next.at_]
          have hi1 : (i : Int) < (s.size : Int) := by omega
          have hi2 : (i : Int) + 1 < (s.size : Int) := by omega
          have hsum : IntKind.i64.wrap ((i : Int) + 1) = (i : Int) + 1 := IntWalk.i64_in _ (by omega)
          cases hA : hv a with
          | none =>
            have hda : dv a = -1 := by unfold dv; rw [hA]
            have hf : ANS = none := by rw [← HANS.out]; simp [unhex, byte2, hA]
            subst hf
            have cA : ∀ W n, Calls Tryd.prog 64 #[.int .u8 (a.toNat : Int)] (World.drewN W n) fun e w'' => e = .returned (.int .i64 (-1)) ∧ ∃ m, w'' = W.drewN m := fun W n => by have := @quiet_rdig a W n; rw [hda] at this; exact this
            have cB : ∀ W n, Calls Tryd.prog 64 #[.int .u8 (b.toNat : Int)] (World.drewN W n) fun e w'' => e = .returned (.int .i64 (dv b)) ∧ ∃ m, w'' = W.drewN m := fun W n => @quiet_rdig b W n
            clear hda hA
            go_wp2
            go_quiet (first | (go_at_call 64; first | (with_reducible exact cA _ _) | (with_reducible exact cB _ _)))
            go_wp2
            go_ret2
            exact ⟨rfl, pw_below_drewN hbel _⟩
          | some x =>
            have hda : dv a = x := by unfold dv; rw [hA]
            have hx := hv_lt hA
            have cA : ∀ W n, Calls Tryd.prog 64 #[.int .u8 (a.toNat : Int)] (World.drewN W n) fun e w'' => e = .returned (.int .i64 (x : Int)) ∧ ∃ m, w'' = W.drewN m := fun W n => by have := @quiet_rdig a W n; rw [hda] at this; exact this
            have hx2 : (x : Int) < 16 := by omega
            cases hB : hv b with
            | none =>
              have hdb : dv b = -1 := by unfold dv; rw [hB]
              have hf : ANS = none := by rw [← HANS.out]; simp [unhex, byte2, hA, hB]
              subst hf
              have cB : ∀ W n, Calls Tryd.prog 64 #[.int .u8 (b.toNat : Int)] (World.drewN W n) fun e w'' => e = .returned (.int .i64 (-1)) ∧ ∃ m, w'' = W.drewN m := fun W n => by have := @quiet_rdig b W n; rw [hdb] at this; exact this
              clear hda hdb hA hB
              go_wp2
              go_quiet (first | (go_at_call 64; first | (with_reducible exact cA _ _) | (with_reducible exact cB _ _)))
              go_wp2
              go_ret2
              exact ⟨rfl, pw_below_drewN hbel _⟩
            | some y =>
              have hdb : dv b = y := by unfold dv; rw [hB]
              have hy := hv_lt hB
              have hbyte := byte_sum hx hy
              have hans2 : (unhex r).map ((acc ++ [UInt8.ofNat (16 * x + y)]) ++ ·) = ANS := by
                rw [← HANS.out]
                simp only [unhex, byte2, hA, hB, Option.bind_some, Option.map_some, Option.map_map]
                congr 1
                funext q
                simp
              generalize UInt8.ofNat (16 * x + y) = z at *
              have HANS2 := Aside0.mk hans2
              have cB : ∀ W n, Calls Tryd.prog 64 #[.int .u8 (b.toNat : Int)] (World.drewN W n) fun e w'' => e = .returned (.int .i64 (y : Int)) ∧ ∃ m, w'' = W.drewN m := fun W n => by have := @quiet_rdig b W n; rw [hdb] at this; exact this
              clear hda hdb hA hB hans2
              have hy2 : (y : Int) < 16 := by omega
              go_wp2
              go_quiet (first | (go_at_call 64; first | (with_reducible exact cA _ _) | (with_reducible exact cB _ _)))
              go_wp2_with (at_builtin; refine print_append_of (w0 := w) eB w.heap.size rfl _ _ 64 5 (.int .u8 0) 1 rfl Tryd.underlying64 byte_info rfl (by omega) _ acc z rfl rfl rfl (own_drewN HO.out _) (pw_below_drewN hbel _) hbel.size (by simp; omega) ?_; intro v1 w2 HO2 HB2 _ _)
              have hsz := hm.next.next.2
              exact ⟨⟨acc ++ [z], i + 2, r, by go_num, hm.next.next, by simp only [List.length_cons] at hmev; omega, by simp; omega, HANS2.out, HO2, HB2⟩, by simp [RowKit.intOf]; omega⟩
  · have hn : unhex (bl s) = none := by
      cases h : unhex (bl s) with
      | none => rfl
      | some b =>
        have := unhex_even _ _ h
        rw [bl_size] at this
        exact absurd this hev
    rw [hn]
    have hev' : ¬ ((s.size : Int)).tmod 2 = 0 := by rw [Int.tmod_eq_emod_of_nonneg (by omega)]; omega
    go_enter Tryd.func65, Tryd.ntmps65
    go_wp2
    go_ret2
    exact ⟨rfl, Below.refl _ _⟩
/-! ### the desk -/
def Sd (w0 w w' : World) (g : Nat) (s : ByteArray) (i : Nat) : Prop := IsS78 w0 w' g s (i : Int) ∧ Below w0.heap.size w0 w' ∧ KeepBut w w' g none
theorem Sd.drewN {w0 w w' : World} {g i : Nat} {s : ByteArray} (h : Sd w0 w w' g s i) (m : Nat) : Sd w0 w (w'.drewN m) g s i := ⟨h.1.drewN m, pw_below_drewN h.2.1 m, keep_drewN h.2.2 m⟩
/-- the desk's block -/
def Bd (w : World) (g : Nat) (s : ByteArray) (i : Nat) : Prop := w.heap[g]? = some (.cells #[.string s, .int .i64 (i : Int)] 78 (0, 0))
theorem Bd.drewN {w : World} {g i : Nat} {s : ByteArray} (h : Bd w g s i) (m : Nat) : Bd (w.drewN m) g s i := h
theorem Sd.self {w0 w : World} {g i : Nat} {s : ByteArray} {w' : World} (h : Sd w0 w w' g s i) : Sd w0 w' w' g s i := ⟨h.1, h.2.1, KeepBut.refl _ _ _⟩
theorem Sd.bk {w0 w w' : World} {g i : Nat} {s : ByteArray} (h : Sd w0 w w' g s i) : Bd w' g s i := h.1.1
theorem Sd.trans {w0 w w1 w2 : World} {g i j : Nat} {s : ByteArray} (h : Sd w0 w w1 g s i) (k : Sd w0 w1 w2 g s j) : Sd w0 w w2 g s j := ⟨k.1, k.2.1, h.2.2.trans k.2.2 (.inl rfl)⟩
theorem Sd.set {w0 w w1 : World} {g i : Nat} {s : ByteArray} (h : Sd w0 w w1 g s i) (j : Nat) : Sd w0 w (w1.setCell ⟨g, 1, none⟩ (.int .i64 (j : Int))) g s j := ⟨h.1.set_1 _, below_set h.2.1 h.1.ge, h.2.2.set_ _ _⟩
theorem Sd.below {w0 w w1 w2 : World} {g i : Nat} {s : ByteArray} (h : Sd w0 w w1 g s i) (hb : Below w1.heap.size w1 w2) : Sd w0 w w2 g s i := ⟨h.1.below hb, below_then h.2.1 h.2.1.size hb, h.2.2.trans (KeepBut.of_below hb g none) (.inl rfl)⟩
/-- how far the desk has to go -/
def md (s : ByteArray) (g : Nat) (w : World) : Nat := s.size + 1 - (RowKit.intOf ((w.cell? ⟨g, 1, none⟩).getD undef)).toNat
theorem md_eq {w : World} {g i : Nat} {s : ByteArray} (h : Bd w g s i) : md s g w = s.size + 1 - i := by
  unfold md
  rw [cellS78_1 h]
  rfl

theorem Bd.drew {w : World} {g i : Nat} {s : ByteArray} (h : Bd w g s i) : Bd w.drew g s i := h
theorem isD_f {s : ByteArray} {i : Nat} {l : Bs} (hl : Lr s i l) (c : UInt8) : chanceryref4_desk_is.f s (i : Int) (c.toNat : Int) = some (l.head? == some c, s, (i : Int)) := by
  unfold chanceryref4_desk_is.f
  cases l with
  | nil =>
    have := hl.nil
    rw [if_neg (by omega)]
    rfl
  | cons x r =>
    have hi := hl.lt
    rw [if_pos (by omega), if_pos (by omega), bt_nat hi]
    have hx : (bl s)[i]'(by rw [bl_size]; exact hi) = x := hl.at_
    rw [hx]
    have hR : ((x :: r).head? == some c) = ((x.toNat : Int) == (c.toNat : Int)) := by
      by_cases e : x = c
      · subst e; simp
      · have : ¬ (x.toNat : Int) = (c.toNat : Int) := fun h => e (UInt8.toNat_inj.1 (by omega))
        rw [beq_false_of_ne this]
        simp [e]
    rw [hR]
theorem isD_c {w0 w : World} {g i : Nat} {s : ByteArray} {l : Bs} (h : Sd w0 w w g s i) (hl : Lr s i l) (c : UInt8) : Calls Tryd.prog 53 #[.pointer (some ⟨g, 0, none⟩), .int .u8 (c.toNat : Int)] w fun e w' => e = .returned (.bool (l.head? == some c)) ∧ Sd w0 w w' g s i :=
  chanceryref4_desk_is.calls g s (i : Int) (c.toNat : Int) _ s (i : Int) w0 w h.1 h.2.1 (isD_f hl c)
theorem blanksD_l (s : ByteArray) (hs : s.size ≤ 140737488351232) : ∀ (n k i : Nat) (l : Bs), s.size - i = n → n < k → Lr s i l → ∃ j : Nat, chanceryref4_desk_blanks.l0 k s (i : Int) = some (s, (j : Int)) ∧ Lr s j (blanks l)
  | n, k + 1, i, [], hn, hk, hl => by
    have := hl.nil
    refine ⟨i, ?_, hl⟩
    simp only [chanceryref4_desk_blanks.l0]
    rw [if_neg (by omega)]
  | 0, k + 1, i, x :: r, hn, hk, hl => by
    have := hl.lt
    omega
  | n + 1, k + 1, i, x :: r, hn, hk, hl => by
    have hi := hl.lt
    have hx : (bl s)[i]'(by rw [bl_size]; exact hi) = x := hl.at_
    have e1 : wrap64 ((i : Int) + 1) = ((i + 1 : Nat) : Int) := by unfold wrap64; omega
    simp only [chanceryref4_desk_blanks.l0]
    rw [if_pos (by omega), if_pos (by omega), bt_nat hi, hx, blanks_step, e1]
    by_cases h32 : x = 32
    · rw [if_pos (by rw [h32]; rfl), if_pos h32]
      exact blanksD_l s hs n k (i + 1) r (by omega) (by omega) hl.next
    · rw [if_neg (fun h => h32 (UInt8.toNat_inj.1 (by show x.toNat = 32; omega))), if_neg h32]
      exact ⟨i, rfl, hl⟩
  | _, 0, _, _, _, hk, _ => absurd hk (Nat.not_lt_zero _)
theorem blanksD_c {w0 w : World} {g i : Nat} {s : ByteArray} {l : Bs} (h : Sd w0 w w g s i) (hl : Lr s i l) (hs : s.size ≤ 1000000) : Calls Tryd.prog 63 #[.pointer (some ⟨g, 0, none⟩)] w fun e w' => e = .returned (.tuple #[]) ∧ ∃ j, Sd w0 w w' g s j ∧ Lr s j (blanks l) := by
  obtain ⟨j, hj, hlj⟩ := blanksD_l s (by omega) _ (s.size - i + 1) i l rfl (by omega) hl
  exact (chanceryref4_desk_blanks.calls (s.size - i + 1) g s (i : Int) s (j : Int) w0 w h.1 h.2.1 hj).mono fun e w' ⟨he, hd⟩ => ⟨he, j, hd, hlj⟩
/-! ### fits -/
theorem fitsR_l (xs : List (List S39)) (r : List S39) (i : Nat) (hi : i < xs.length) (hr : xs[i] = r) (hz : r.length ≤ 140737488351232) : ∀ (n k j : Nat), r.length - j = n → j ≤ r.length → n < k →
    chanceryref4_fits.l1 k xs (i : Int) (j : Int) = if (r.drop j).any (fun a => decide (1024 < (bl a.f1).length)) = true then some false else chanceryref4_fits.l0 (k - n - 1) xs (wrap64 ((i : Int) + 1))
  | 0, k + 1, j, hn, hj, _ => by
    simp only [chanceryref4_fits.l1]
    rw [if_pos (by omega), if_pos (by omega), rdL_at hi, hr, if_neg (by omega), List.drop_eq_nil_of_le (by omega)]
    rfl
  | n + 1, k + 1, j, hn, hj, hk => by
    have hlt : j < r.length := by omega
    have ih := fitsR_l xs r i hi hr hz n k (j + 1) (by omega) (by omega) (by omega)
    simp only [chanceryref4_fits.l1]
    rw [if_pos (by omega), if_pos (by omega), rdL_at hi, hr, if_pos (by omega), if_pos (by omega), rdT_at hlt, wrap_up hlt hz, ih, List.drop_eq_getElem_cons hlt, List.any_cons, bl_size]
    by_cases h : 1024 < (r[j].f1).size
    · rw [if_pos (by omega), decide_eq_true h]
      rfl
    · rw [if_neg (by omega), decide_eq_false h, Bool.false_or, show k + 1 - (n + 1) - 1 = k - n - 1 from by omega]
  | _, 0, _, _, _, hk => absurd hk (Nat.not_lt_zero _)
def badR (r : List S39) : Bool := decide (4 < r.length) || r.any fun a => decide (1024 < (bl a.f1).length)
theorem fitsD_l (xs : List (List S39)) (hz : xs.length ≤ 140737488351232) : ∀ (n k i : Nat), xs.length - i = n → i ≤ xs.length → 10 * n < k → chanceryref4_fits.l0 k xs (i : Int) = some (!(xs.drop i).any badR)
  | 0, k + 1, i, hn, hi, _ => by
    simp only [chanceryref4_fits.l0]
    rw [if_neg (by omega), List.drop_eq_nil_of_le (by omega)]
    rfl
  | n + 1, k + 1, i, hn, hi, hk => by
    have hlt : i < xs.length := by omega
    simp only [chanceryref4_fits.l0]
    rw [if_pos (by omega), if_pos (by omega), rdL_at hlt, List.drop_eq_getElem_cons hlt, List.any_cons]
    obtain ⟨r, hr⟩ : ∃ r, xs[i] = r := ⟨_, rfl⟩
    rw [hr]
    by_cases h4 : 4 < r.length
    · rw [if_pos (by omega)]
      unfold badR
      rw [decide_eq_true h4]
      rfl
    · have hR := fitsR_l xs r i hlt hr (by omega) r.length k 0 (by omega) (by omega) (by omega)
      rw [show ((0 : Nat) : Int) = 0 from rfl, List.drop_zero] at hR
      rw [if_neg (by omega), hR, wrap_up hlt hz, fitsD_l xs hz n (k - r.length - 1) (i + 1) (by omega) (by omega) (by omega)]
      unfold badR
      rw [decide_eq_false h4, Bool.false_or]
      cases r.any (fun a => decide (1024 < (bl a.f1).length)) <;> rfl
  | _, 0, _, _, _, hk => absurd hk (Nat.not_lt_zero _)
theorem fits_f (xs : List (List S39)) : ∃ k, chanceryref4_fits.f k xs = some (!tooLong (dP xs)) := by
  refine ⟨10 * xs.length + 1, ?_⟩
  have hb : tooLong (dP xs) = (decide (20 < xs.length) || xs.any badR) := by
    unfold tooLong
    rw [dP_len]
    congr 1
    unfold dP
    rw [List.any_map]
    congr 1
    funext r
    show (decide (4 < (rP r).length) || (rP r).any fun a => decide (1024 < a.2.length)) = _
    rw [rP_len]
    unfold rP badR
    rw [List.any_map]
    rfl
  rw [hb]
  unfold chanceryref4_fits.f
  by_cases h : 20 < xs.length
  · rw [if_pos (by omega), decide_eq_true h]
    rfl
  · rw [if_neg (by omega), decide_eq_false h, Bool.false_or]
    have := fitsD_l xs (by omega) xs.length (10 * xs.length + 1) 0 (by omega) (by omega) (by omega)
    rw [show ((0 : Nat) : Int) = 0 from rfl, List.drop_zero] at this
    exact this
theorem fits_c (A : Option Addr) (c : Nat) (xs : List (List S39)) (w : World) (h : kR.C w A xs.length xs) (hc : xs.length ≤ c) : Calls Tryd.prog 30 #[.slice A xs.length c] w fun e w' => e = .returned (.bool (!tooLong (dP xs))) ∧ Below w.heap.size w w' := by
  obtain ⟨k, hk⟩ := fits_f xs
  exact (chanceryref4_fits.calls k A c xs _ w h hc hk).mono fun e w' ⟨he, hd⟩ => ⟨he, hd.below⟩
end Go.Proofs.YtneclgjjnnldpaaDoor.Rd
