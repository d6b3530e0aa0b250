/- The walk of the document's Prepare (chanceryref3): it answers the plain function. Conditions: strings of at most 2^44 bytes. -/
import Derived.Test.YtdfdponenhfbjaaDoorWkp
namespace Go.Proofs.YtdfdponenhfbjaaDoor.Wk
open Go Go.RowKit Go.Lib Go.Proofs.YtdfdponenhfbjaaDoor.PFn Go.Proofs.YtdfdponenhfbjaaDoor.Pl Go.Proofs.YtdfdponenhfbjaaDoor.Tx Go.Proofs.YtdfdponenhfbjaaDoor.Fn Go.Proofs.YtdfdponenhfbjaaDoorW.PrintWords

theorem rune_info : (Tryd.prog.info? 21).map (fun i => (i.zero, i.size, i.bytes)) = some (some (.int .i32 0), 1, 4) := by kernel_rfl
/-- a slice of runes that reads as q -/
def RS (w : World) (v : Value) (q : List Nat) : Prop := ∃ A c, v = .slice A (ints q).length c ∧ (ints q).length ≤ c ∧ (Kd.int .i32).C w A (ints q).length (ints q)
theorem RS.below {w w1 : World} {v : Value} {q : List Nat} (h : RS w v q) (hb : Below w.heap.size w w1) : RS w1 v q := by
  obtain ⟨A, c, h1, h2, h3⟩ := h
  exact ⟨A, c, h1, h2, Kd.C_below h3 hb⟩

theorem left_c (q : List Nat) (v : Value) (w : World) (hq : q.length ≤ 17592186044416) (h : RS w v q) :
    Calls Tryd.prog 26 #[v] w fun e w' => (∃ v', e = .returned v' ∧ RS w' v' (if q.head? = some 32 then q.tail else q)) ∧ w = w' := by
  obtain ⟨A, c, rfl, hc, hC⟩ := h
  obtain ⟨i0, hi, hz0, hz1, hz2⟩ := info_parts rune_info
  cases q with
  | nil =>
    go_enter Tryd.func26, Tryd.ntmps26
    go_wp2
    go_ret
    exact ⟨⟨_, rfl, A, c, rfl, hc, hC⟩, rfl⟩
  | cons x t =>
    have hil : (ints (x :: t)).length = t.length + 1 := by simp [ints]
    obtain ⟨ad, rfl, hcell⟩ := Kd.at_int hC 0 (by omega) (by omega)
    have hrd : rd (ints (x :: t)) 0 = (x : Int) := rfl
    rw [hrd, show ((0 : Int)).toNat = 0 from rfl, Addr.add_zero'] at hcell
    by_cases hx : x = 32
    · subst hx
      have HC := Aside0.mk hC
      have hcut := cut_from (P := Tryd.prog) 41 21 .i64 Tryd.underlying41 hi 1 hz1 (some ad) (ints (32 :: t)).length c 1 (by omega) (by omega)
      have hdrop := Aside0.mk (Kd.C_drop (m := 1) hC (by omega) hc)
      have hif : (if (32 :: t).head? = some 32 then (32 :: t).tail else 32 :: t) = t := by rw [if_pos (by simp)]; rfl
      rw [hif]
      have hd1 : (ints (32 :: t)).drop 1 = ints t := rfl
      rw [hd1] at hdrop
      rw [hil] at hcut
      have Hil := Aside0.mk hil
      obtain ⟨A1, hA1⟩ : ∃ A1, A1 = (if c = 1 then (some ad) else (some ad : Option Addr).map (·.add (1 * (Kd.int .i32).sz))) := ⟨_, rfl⟩
      rw [← hA1] at hdrop
      have hcut' : ∀ W : World, (Instr.slice 41 (.slice (some ad) (t.length + 1) c) (some (.int .i64 1)) none none).run Tryd.prog W = .ok (.slice A1 t.length (c - 1)) W := by
        intro W
        rw [hcut W, hA1]
        rfl
      rw [hil] at hc ⊢
      have HA1 := Aside0.mk hA1
      clear hA1 hcut hC hil hif hd1 hrd
      have hp : (0 : Int) < (t.length : Int) + 1 := by omega
      go_enter Tryd.func26, Tryd.ntmps26
      go_wp2
      go_ret
      exact ⟨⟨_, rfl, A1, c - 1, by rw [ints_length]; rfl, by rw [ints_length]; omega, hdrop.out⟩, rfl⟩
    · have hx32 : ((x : Int) == 32) = false := by rw [beq_eq_false_iff_ne]; omega
      have hif : (if (x :: t).head? = some 32 then (x :: t).tail else x :: t) = x :: t := by rw [if_neg (by simpa using hx)]
      rw [hif]
      have HC := Aside0.mk hC
      have Hil := Aside0.mk hil
      rw [hil] at hc ⊢
      clear hC hil hif hrd
      have hp : (0 : Int) < (t.length : Int) + 1 := by omega
      go_enter Tryd.func26, Tryd.ntmps26
      go_wp2
      go_ret
      exact ⟨⟨_, rfl, some ad, c, by rw [Hil.out]; rfl, by rw [Hil.out]; exact hc, HC.out⟩, rfl⟩

theorem right_c (q : List Nat) (v : Value) (w : World) (hq : q.length ≤ 17592186044416) (h : RS w v q) :
    Calls Tryd.prog 25 #[v] w fun e w' => (∃ v', e = .returned v' ∧ RS w' v' (if q.getLast? = some 32 then q.dropLast else q)) ∧ w = w' := by
  obtain ⟨A, c, rfl, hc, hC⟩ := h
  obtain ⟨i0, hi, hz0, hz1, hz2⟩ := info_parts rune_info
  rcases List.eq_nil_or_concat q with rfl | ⟨t, x, rfl⟩
  · go_enter Tryd.func25, Tryd.ntmps25
    go_wp2
    go_ret
    exact ⟨⟨_, rfl, A, c, rfl, hc, hC⟩, rfl⟩
  · rw [List.concat_eq_append] at hq hc hC ⊢
    have hil : (ints (t ++ [x])).length = t.length + 1 := by simp [ints]
    have htl : t.length ≤ 17592186044416 := by simp at hq; omega
    obtain ⟨ad, rfl, hcell⟩ := Kd.at_int hC (t.length : Int) (by omega) (by omega)
    have hrd : rd (ints (t ++ [x])) (t.length : Int) = (x : Int) := by
      rw [rd_ints _ _ (by simp)]
      simp
    rw [hrd, Int.toNat_natCast] at hcell
    by_cases hx : x = 32
    · subst hx
      have htake := Aside0.mk (Kd.C_take (m := t.length) hC (by omega))
      have hcut := cut_to (P := Tryd.prog) 41 21 .i64 Tryd.underlying41 hi (some ad) (t.length + 1) c (t.length : Int) (by omega) (by omega) (by omega)
      rw [Int.toNat_natCast] at hcut
      have hif : (if (t ++ [32]).getLast? = some 32 then (t ++ [32]).dropLast else t ++ [32]) = t := by rw [if_pos (by simp), List.dropLast_concat]
      rw [hif]
      have hd1 : (ints (t ++ [32])).take t.length = ints t := by simp [ints]
      rw [hd1] at htake
      rw [hil] at hc ⊢
      have Hlen := Aside0.mk (ints_length t)
      clear hC hil hif hd1 hrd hq
      generalize hm : t.length = m at *
      clear hm
      have hp : (0 : Int) < (m : Int) + 1 := by omega
      go_enter Tryd.func25, Tryd.ntmps25
      go_wp2
      go_ret
      exact ⟨⟨_, rfl, some ad, c, by rw [Hlen.out]; rfl, by rw [Hlen.out]; omega, htake.out⟩, rfl⟩
    · have hx32 : ((x : Int) == 32) = false := by rw [beq_eq_false_iff_ne]; omega
      have hif : (if (t ++ [x]).getLast? = some 32 then (t ++ [x]).dropLast else t ++ [x]) = t ++ [x] := by rw [if_neg (by simpa using hx)]
      rw [hif]
      have HC := Aside0.mk hC
      have Hil := Aside0.mk hil
      rw [hil] at hc ⊢
      clear hC hil hif hrd hq
      generalize hm : t.length = m at *
      clear hm
      have hp : (0 : Int) < (m : Int) + 1 := by omega
      go_enter Tryd.func25, Tryd.ntmps25
      go_wp2
      go_ret
      exact ⟨⟨_, rfl, some ad, c, by rw [Hil.out]; rfl, by rw [Hil.out]; exact hc, HC.out⟩, rfl⟩

/-- the document's Prepare -/
theorem single_c (q : List Nat) (v : Value) (w : World) (hq : q.length ≤ 17592186044416) (h : RS w v q) :
    Calls Tryd.prog 27 #[v] w fun e w' => (∃ v', e = .returned v' ∧ RS w' v' (sgo [] q)) ∧ Below w.heap.size w w' := by
  obtain ⟨A, c, rfl, hc, hC⟩ := h
  exact (chanceryref3_Single.calls (q.length + 1) A c (ints q) (ints (sgo [] q)) w hC hc (single_f q hq _ (by omega))).mono fun e w' ⟨v', he, hR, hb⟩ => by
    obtain ⟨A', c', h1, h2, h3⟩ := Kd.R_reads hR
    exact ⟨⟨v', he, A', c', h1, h2, h3⟩, hb⟩
theorem txt_c (q : List Nat) (v : Value) (w : World) (hq : q.length ≤ 17592186044416) (hg : ∀ r ∈ q, Tx.Good r) (h : RS w v q) :
    Calls Tryd.prog 28 #[v] w fun e w' => e = .returned (.string ⟨(Tx.encs q).toArray⟩) ∧ Below w.heap.size w w' := by
  obtain ⟨A, c, rfl, hc, hC⟩ := h
  exact chanceryref3_text.calls (q.length + 2) A c (ints q) _ w hC hc (txt_f q hq hg _ (by omega))
theorem refMapped_bad (s : ByteArray) (f : Bool) (w : World) (hs : s.size ≤ 17592186044416) (h : prepL f s.data.toList = none) :
    Calls Tryd.prog 24 #[.string s, .bool f] w fun e w' => (∃ v, e = .returned (.tuple #[v, .bool false])) ∧ Below w.heap.size w w' := by
  refine (chanceryref3_Mapped.calls (s.size + 31) s f [] false w ?_).mono fun e w' ⟨v, he, _, hb⟩ => ⟨⟨v, he⟩, hb⟩
  rw [mapped_f s f hs _ (Nat.le_refl _)]
  rw [prep_none] at h
  cases hr : runes s.data.toList with
  | none => rfl
  | some rs =>
    simp only
    rw [if_pos (h rs hr)]
theorem refMapped_good (s : ByteArray) (f : Bool) (w : World) (hs : s.size ≤ 17592186044416) (rs : List Nat) (hr : runes s.data.toList = some rs) (hb : rs.any bad = false) :
    Calls Tryd.prog 24 #[.string s, .bool f] w fun e w' => (∃ v, e = .returned (.tuple #[v, .bool true]) ∧ RS w' v (mapd f rs)) ∧ Below w.heap.size w w' := by
  refine (chanceryref3_Mapped.calls (s.size + 31) s f (ints (mapd f rs)) true w ?_).mono fun e w' ⟨v, he, hR, hb⟩ => ?_
  · rw [mapped_f s f hs _ (Nat.le_refl _), hr]
    simp only
    rw [if_neg (by simp [hb])]
  · obtain ⟨A', c', h1, h2, h3⟩ := Kd.R_reads hR
    exact ⟨⟨v, he, A', c', h1, h2, h3⟩, hb⟩
theorem nf_ref (q : List Nat) : (if (if (sgo [] q).head? = some 32 then (sgo [] q).tail else sgo [] q).getLast? = some 32 then (if (sgo [] q).head? = some 32 then (sgo [] q).tail else sgo [] q).dropLast else (if (sgo [] q).head? = some 32 then (sgo [] q).tail else sgo [] q)) = nf q := by
  have h := nb_sgo [] q nb_nil
  have hl : nb (trimL (sgo [] q)) := by
    obtain ⟨a, ha⟩ := trimL_suffix (sgo [] q)
    rw [ha] at h
    exact nb_infix (s := []) (by simpa using h)
  rw [← trimL_one h, ← trimR_one hl, trim_comm]
  rfl
theorem RS.empty {w : World} {v : Value} (h : RS w v []) : ∃ A c, v = .slice A 0 c := by
  obtain ⟨A, c, h1, _⟩ := h
  exact ⟨A, c, h1⟩
theorem RS.some_ {w : World} {v : Value} {q : List Nat} (h : RS w v q) (hne : q ≠ []) : ∃ A n c, v = .slice A (n + 1) c ∧ n < q.length := by
  obtain ⟨A, c, h1, _⟩ := h
  have := List.length_pos_iff.2 hne
  exact ⟨A, q.length - 1, c, by rw [h1, ints_length]; congr 1; omega, by omega⟩

set_option maxHeartbeats 2000000 in
theorem refPrepare_c (s : ByteArray) (f : Bool) (w : World) (hs : s.size ≤ 17592186044416) :
    Calls Tryd.prog 15 #[.string s, .bool f] w fun e w' => e = .returned (resT (prepL f s.data.toList)) ∧ Below w.heap.size w w' := by
  cases hp : prepL f s.data.toList with
  | none =>
    have cM := refMapped_bad s f w hs hp
    clear hp
    go_enter Tryd.func15, Tryd.ntmps15
    go_wp2_with (go_at_call 24; refine cM.mono ?_; rintro e w1 ⟨⟨v1, rfl⟩, hb⟩)
    go_ret2
    exact ⟨rfl, hb⟩
  | some t =>
    obtain ⟨rs, hr, hb, ht⟩ := prep_some hp
    have hrl := runes_length hr
    rw [← size_list] at hrl
    have hml := mapd_length f rs
    have cM := refMapped_good s f w hs rs hr hb
    have hgood : ∀ r ∈ nf (mapd f rs), Tx.Good r := fun r hr => plain_good (mapd_plain hb r (nf_mem hr)).1
    have hsl := sgo_length [] (mapd f rs)
    simp only [List.length_nil, Nat.zero_add] at hsl
    have hnl : (nf (mapd f rs)).length ≤ 17592186044416 := by
      obtain ⟨a, ha⟩ := trimR_prefix (sgo [] (mapd f rs))
      obtain ⟨b, hb⟩ := trimL_suffix (trimR (sgo [] (mapd f rs)))
      have h1 := congrArg List.length ha
      have h2 := congrArg List.length hb
      rw [List.length_append] at h1 h2
      unfold nf
      omega
    have hleft : (if (sgo [] (mapd f rs)).head? = some 32 then (sgo [] (mapd f rs)).tail else sgo [] (mapd f rs)).length ≤ 17592186044416 := by
      split
      · rw [List.length_tail]; omega
      · omega
    have hnf := nf_ref (mapd f rs)
    have cS := fun v W => single_c (mapd f rs) v W (by omega)
    have cL := fun v W => left_c (sgo [] (mapd f rs)) v W (by omega)
    have cR := fun v W => right_c _ v W hleft
    rw [hnf] at cR
    have cX := fun v W => txt_c (nf (mapd f rs)) v W hnl hgood
    generalize (if (sgo [] (mapd f rs)).head? = some 32 then (sgo [] (mapd f rs)).tail else sgo [] (mapd f rs)) = L at *
    generalize sgo [] (mapd f rs) = S at *
    generalize nf (mapd f rs) = N at *
    generalize mapd f rs = M at *
    clear hp hr hb hrl hml hgood hsl hleft hnf
    by_cases hN : N = []
    · subst hN
      by_cases hl : s.data.toList = []
      · have htt : t = [] := by rw [ht, if_neg (fun h => h.2 hl)]; rfl
        subst htt
        have hz : s.size = 0 := by rw [size_list, hl]; rfl
        have hzz : ¬ ((0 : Int) < (s.size : Int)) := by omega
        clear ht hl hs hnl
        go_enter Tryd.func15, Tryd.ntmps15
        go_wp2_with (first | (go_at_call 24; refine cM.mono ?_; rintro e w1 ⟨⟨v1, rfl, r1⟩, hb1⟩; clear cM) | (go_at_call 27; refine (cS _ _ r1).mono ?_; rintro e w2 ⟨⟨v2, rfl, r2⟩, hb2⟩; clear cS) | (go_at_call 26; refine (cL _ _ r2).mono ?_; rintro e w3 ⟨⟨v3, rfl, r3⟩, rfl⟩; clear cL) | (go_at_call 25; refine (cR _ _ r3).mono ?_; rintro e w4 ⟨⟨v4, rfl, r4⟩, rfl⟩; clear cR; obtain ⟨A4, c4, rfl⟩ := r4.empty) | (go_at_call 28; refine (cX _ _ r4).mono ?_; rintro e w5 ⟨rfl, hb5⟩))
        go_ret2
        exact ⟨rfl, below_seq (below_seq hb1 hb2) hb5⟩
      · have htt : t = [32] := by rw [ht, if_pos ⟨rfl, hl⟩]
        subst htt
        have hz : 0 < s.size := by rw [size_list]; exact List.length_pos_iff.2 hl
        have hzz : (0 : Int) < (s.size : Int) := by omega
        clear ht hl hnl hz
        go_enter Tryd.func15, Tryd.ntmps15
        go_wp2_with (first | (go_at_call 24; refine cM.mono ?_; rintro e w1 ⟨⟨v1, rfl, r1⟩, hb1⟩; clear cM) | (go_at_call 27; refine (cS _ _ r1).mono ?_; rintro e w2 ⟨⟨v2, rfl, r2⟩, hb2⟩; clear cS) | (go_at_call 26; refine (cL _ _ r2).mono ?_; rintro e w3 ⟨⟨v3, rfl, r3⟩, rfl⟩; clear cL) | (go_at_call 25; refine (cR _ _ r3).mono ?_; rintro e w4 ⟨⟨v4, rfl, r4⟩, rfl⟩; clear cR; obtain ⟨A4, c4, rfl⟩ := r4.empty) | (go_at_call 28; refine (cX _ _ r4).mono ?_; rintro e w5 ⟨rfl, hb5⟩))
        go_ret2
        exact ⟨rfl, below_seq hb1 hb2⟩
    · have htt : t = Tx.encs N := by rw [ht, if_neg (fun h => hN h.1)]
      subst htt
      clear ht
      go_enter Tryd.func15, Tryd.ntmps15
      go_wp2_with (first | (go_at_call 24; refine cM.mono ?_; rintro e w1 ⟨⟨v1, rfl, r1⟩, hb1⟩; clear cM) | (go_at_call 27; refine (cS _ _ r1).mono ?_; rintro e w2 ⟨⟨v2, rfl, r2⟩, hb2⟩; clear cS) | (go_at_call 26; refine (cL _ _ r2).mono ?_; rintro e w3 ⟨⟨v3, rfl, r3⟩, rfl⟩; clear cL) | (go_at_call 25; refine (cR _ _ r3).mono ?_; rintro e w4 ⟨⟨v4, rfl, r4⟩, rfl⟩; clear cR; obtain ⟨A4, n4, c4, rfl, hn4⟩ := r4.some_ hN) | (go_at_call 28; refine (cX _ _ r4).mono ?_; rintro e w5 ⟨rfl, hb5⟩))
      go_ret2
      exact ⟨rfl, below_seq (below_seq hb1 hb2) hb5⟩
end Go.Proofs.YtdfdponenhfbjaaDoor.Wk
