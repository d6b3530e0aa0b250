/- The walk of prep.Holds: it answers the plain function. Conditions: a text of at most 10^6 bytes, at most 10^6 pieces; bytealg's MaxLen holds a number. -/
import Derived.Test.YtdfdponenhfbjaaDoorWk
import Derived.Test.YtdfdponenhfbjaaDoorPlh
namespace Go.Proofs.YtdfdponenhfbjaaDoor.Wk
open Go Go.RowKit Go.Lib Go.Proofs.YtdfdponenhfbjaaDoor.PFn Go.Proofs.YtdfdponenhfbjaaDoor.Pl Go.Proofs.YtdfdponenhfbjaaDoor.Fn Go.Proofs.YtdfdponenhfbjaaDoorW.PrintWords

def bl (s : ByteArray) : List UInt8 := s.data.toList
theorem bl_size (s : ByteArray) : (bl s).length = s.size := (size_list s).symm
theorem pre_take (a b : List UInt8) : a.isPrefixOf b = (decide (a.length ≤ b.length) && (b.take a.length == a)) := by
  rw [Lib.hasPrefix_of_take]
  rfl
theorem suf_drop (a b : List UInt8) : a.isSuffixOf b = (decide (a.length ≤ b.length) && (b.drop (b.length - a.length) == a)) := by
  rw [Lib.hasSuffix_of_drop]
  rfl
theorem cutPrefix_f (a b : ByteArray) : strings_CutPrefix.f a b = some (if (bl b).isPrefixOf (bl a) = true then (a.extract b.size a.size, true) else (a, false)) := by
  have hp : (bl b).isPrefixOf (bl a) = (decide (b.size ≤ a.size) && ((a.extract 0 b.size).toList == b.toList)) := (Lib.hasPrefix_raw a b).symm
  rw [hp]
  unfold strings_CutPrefix.f stringslite_CutPrefix.f stringslite_HasPrefix.f
  by_cases h : b.size ≤ a.size
  · rw [if_pos (show (a.size : Int) ≥ (b.size : Int) by omega), if_pos (by omega), if_pos (by omega)]
    simp only [Option.bind_some, Int.toNat_natCast]
    rw [decide_eq_true h, Bool.true_and]
    split
    · rw [if_pos (by omega), if_pos (by omega)]
      rfl
    · rfl
  · rw [if_neg (by omega), decide_eq_false h]
    simp
theorem cutSuffix_f (a b : ByteArray) (ha : a.size ≤ 17592186044416) : strings_CutSuffix.f a b = some (if (bl b).isSuffixOf (bl a) = true then (a.extract 0 (a.size - b.size), true) else (a, false)) := by
  have hp : (bl b).isSuffixOf (bl a) = (decide (b.size ≤ a.size) && ((a.extract (a.size - b.size) a.size).toList == b.toList)) := (Lib.hasSuffix_raw a b).symm
  rw [hp]
  unfold strings_CutSuffix.f stringslite_CutSuffix.f stringslite_HasSuffix.f
  by_cases h : b.size ≤ a.size
  · have hw : wrap64 ((a.size : Int) - (b.size : Int)) = ((a.size - b.size : Nat) : Int) := by rw [i64_in _ (by omega)]; omega
    rw [if_pos (show (a.size : Int) ≥ (b.size : Int) by omega), hw, if_pos (by omega), if_pos (by omega)]
    simp only [Option.bind_some, Int.toNat_natCast]
    rw [decide_eq_true h, Bool.true_and]
    split
    · rw [if_pos (by omega), if_pos (by omega)]
      rfl
    · rfl
  · rw [if_neg (by omega), decide_eq_false h]
    simp
theorem cutPrefix_yes (a b : ByteArray) (h : (bl b).isPrefixOf (bl a) = true) (w : World) : Calls Tryd.prog 30 #[.string a, .string b] w fun e w' => e = .returned (.tuple #[.string (a.extract b.size a.size), .bool true]) ∧ Drawn0 w w' :=
  strings_CutPrefix.calls a b _ true w (by rw [cutPrefix_f, if_pos h])
theorem cutPrefix_no (a b : ByteArray) (h : (bl b).isPrefixOf (bl a) = false) (w : World) : Calls Tryd.prog 30 #[.string a, .string b] w fun e w' => e = .returned (.tuple #[.string a, .bool false]) ∧ Drawn0 w w' :=
  strings_CutPrefix.calls a b _ false w (by rw [cutPrefix_f, if_neg (by simp [h])])
theorem cutSuffix_yes (a b : ByteArray) (ha : a.size ≤ 17592186044416) (h : (bl b).isSuffixOf (bl a) = true) (w : World) : Calls Tryd.prog 31 #[.string a, .string b] w fun e w' => e = .returned (.tuple #[.string (a.extract 0 (a.size - b.size)), .bool true]) ∧ Drawn0 w w' :=
  strings_CutSuffix.calls a b _ true w (by rw [cutSuffix_f a b ha, if_pos h])
theorem cutSuffix_no (a b : ByteArray) (ha : a.size ≤ 17592186044416) (h : (bl b).isSuffixOf (bl a) = false) (w : World) : Calls Tryd.prog 31 #[.string a, .string b] w fun e w' => e = .returned (.tuple #[.string a, .bool false]) ∧ Drawn0 w w' :=
  strings_CutSuffix.calls a b _ false w (by rw [cutSuffix_f a b ha, if_neg (by simp [h])])
theorem index_c (a b : ByteArray) (ha : a.size ≤ 1000000) (w : World) (hE : Env w) : Calls Tryd.prog 32 #[.string a, .string b] w fun e w' => e = .returned (.int .i64 (Lib.index (bl a) (bl b))) ∧ w = w' := by
  obtain ⟨m, hm⟩ := hE.2
  exact (Any.strings_Index Tryd.lays143 a b m w (by omega) hm).mono fun e w' ⟨he, hw⟩ => ⟨he, hw.symm⟩

theorem str_info : (Tryd.prog.info? 9).map (fun i => (i.zero, i.size, i.bytes)) = some (some (.string ByteArray.empty), 1, 16) := by kernel_rfl
theorem addr_succ (ad : Addr) (n : Nat) : ad.add (n + 1) = ⟨ad.block, ad.off + (n + 1), none⟩ := by
  unfold Addr.add
  rw [if_neg (by omega)]
/-- the state of Holds' loop: what is left of the text, how many of the middle pieces are found; the answer is still the same -/
def HRel (s : ByteArray) (mid : List ByteArray) (ans : Bool) (w0 : World) (v6 v42 : Value) (wr : World) : Prop :=
  ∃ (t : ByteArray) (i : Nat), v6 = .string t ∧ v42 = .int .i64 (i : Int) ∧ i ≤ mid.length ∧ t.size ≤ s.size ∧ holdsMid (bl t) ((mid.drop i).map bl) = ans ∧ Drawn0 w0 wr
theorem rdOf_at (xs : List ByteArray) (i : Nat) (h : i < xs.length) : rdOf ByteArray.empty xs (i : Int) = xs[i] := by
  unfold rdOf
  simp [List.getD_eq_getElem?_getD, h]
theorem mid_step (mid : List ByteArray) (i : Nat) (h : i < mid.length) (t : ByteArray) : holdsMid (bl t) ((mid.drop i).map bl) = if Lib.index (bl t) (bl mid[i]) < 0 then false else holdsMid ((bl t).drop ((Lib.index (bl t) (bl mid[i])).toNat + (bl mid[i]).length)) ((mid.drop (i + 1)).map bl) := by
  rw [List.drop_eq_getElem_cons h, List.map_cons]
  rfl
theorem drawn_trans {a b c : World} (h : Drawn0 a b) (k : Drawn0 b c) : Drawn0 a c := by
  obtain ⟨⟨n, rfl⟩⟩ := h
  obtain ⟨⟨m, rfl⟩⟩ := k
  exact ⟨⟨n + m, World.drewN_drewN ..⟩⟩
theorem drawn_C {α : Type} {d : Kd α} {w w' : World} {A : Option Addr} {n : Nat} {xs : List α} (h : d.C w A n xs) (hd : Drawn0 w w') : d.C w' A n xs := Kd.C_below h hd.below
theorem Env.drawn {w w' : World} (h : Env w) (hd : Drawn0 w w') : Env w' := h.below hd.below

set_option maxHeartbeats 4000000 in
/-- the loop of Holds behind the two ends -/
theorem holds_c (s a z : ByteArray) (mid : List ByteArray) (A : Option Addr) (c : Nat) (w : World) (hs : s.size ≤ 1000000) (hm : mid.length ≤ 1000000) (hE : Env w)
    (hC : Kd.string.C w A (mid.length + 2) (a :: (mid ++ [z]))) (hc : mid.length + 2 ≤ c) :
    Calls Tryd.prog 17 #[.string s, .slice A (mid.length + 2) c] w fun e w' => e = .returned (.bool (holdsL (bl s) (bl a :: (mid.map bl ++ [bl z])))) ∧ Drawn0 w w' := by
  obtain ⟨i0, hi, hz0, hz1, hz2⟩ := info_parts str_info
  rw [holds_at]
  obtain ⟨ad, rfl, hca⟩ := Kd.at_string hC 0 (by omega) (by omega)
  have hra : rdOf ByteArray.empty (a :: (mid ++ [z])) 0 = a := rfl
  rw [hra, show ((0 : Int)).toNat = 0 from rfl, Addr.add_zero'] at hca
  obtain ⟨ad2, had2, hcz⟩ := Kd.at_string hC ((mid.length + 1 : Nat) : Int) (by omega) (by omega)
  obtain rfl : ad = ad2 := by injection had2
  clear had2
  have hrz : rdOf ByteArray.empty (a :: (mid ++ [z])) ((mid.length + 1 : Nat) : Int) = z := by
    rw [rdOf_at _ _ (by simp)]
    simp
  rw [hrz, Int.toNat_natCast, addr_succ] at hcz
  clear hra hrz
  by_cases h1 : (bl a).isPrefixOf (bl s) = true
  · rw [if_pos h1]
    have cP := fun W => cutPrefix_yes s a h1 W
    have hsz1 : (s.extract a.size s.size).size = s.size - a.size := Lib.ext_size s a.size
    have hbl1 : bl (s.extract a.size s.size) = (bl s).drop (bl a).length := by rw [bl_size]; exact Lib.ext_list s a.size
    rw [← hbl1]
    generalize hr1 : s.extract a.size s.size = r at *
    clear hr1 hbl1 h1
    have hrs : r.size ≤ 1000000 := by omega
    have hlen : ¬ ((mid.length : Int) + 2 < 2) := by omega
    by_cases h2 : (bl z).isSuffixOf (bl r) = true
    · rw [if_pos h2]
      have cS := fun W => cutSuffix_yes r z (by omega) h2 W
      have hzr : z.size ≤ r.size := by
        have := h2
        rw [suf_drop, Bool.and_eq_true, decide_eq_true_iff, bl_size, bl_size] at this
        exact this.1
      have hbl2 : bl (r.extract 0 (r.size - z.size)) = (bl r).take (s.size - a.size - z.size) := by
        unfold bl
        rw [Lib.extract_data, List.drop_zero, Nat.sub_zero, hsz1]
      have hsz2 : (r.extract 0 (r.size - z.size)).size ≤ s.size := by
        rw [size_list, Lib.extract_data]
        have := List.length_take_le (r.size - z.size - 0) (r.data.toList.drop 0)
        omega
      have hans : holdsMid ((bl r).take ((bl s).length - (bl a).length - (bl z).length)) (mid.map bl) = holdsMid (bl (r.extract 0 (r.size - z.size))) (mid.map bl) := by
        rw [bl_size, bl_size, bl_size, hbl2]
      rw [hans]
      clear hans hbl2 h2 hzr hsz1 hrs
      generalize r.extract 0 (r.size - z.size) = q at *
      obtain ⟨ANS, hANS⟩ : ∃ b, holdsMid (bl q) (mid.map bl) = b := ⟨_, rfl⟩
      rw [hANS]
      have HANS := Aside0.mk hANS
      clear hANS
      have hcut := cut_mid (P := Tryd.prog) 37 9 .i64 .i64 Tryd.underlying37 hi 1 hz1 (some ad) (mid.length + 2) c 1 ((mid.length : Int) + 2 - 1) (by omega) (by omega) (by omega) hc
      have hA1 : (if c = (1 : Int).toNat then (some ad) else (some ad : Option Addr).map (·.add ((1 : Int).toNat * 1))) = some (ad.add 1) := by
        rw [if_neg (by have : (1 : Int).toNat = 1 := rfl
                       omega)]
        rfl
      have hn1 : ((mid.length : Int) + 2 - 1).toNat - (1 : Int).toNat = mid.length := by
        have : (1 : Int).toNat = 1 := rfl
        omega
      obtain ⟨ad1, had1⟩ : ∃ x, x = ad.add 1 := ⟨_, rfl⟩
      rw [hA1, hn1, ← had1] at hcut
      have hmcell : Aside0 (∀ i (h : i < mid.length), w.cell? (ad1.add i) = some (.string mid[i])) := ⟨fun i h => by
        obtain ⟨ad2, had2, hcc⟩ := Kd.at_string hC ((i + 1 : Nat) : Int) (by omega) (by omega)
        obtain rfl : ad = ad2 := by injection had2
        rw [rdOf_at _ _ (by simp; omega), Int.toNat_natCast] at hcc
        have ha : ad1.add i = ad.add (i + 1) := by
          rw [had1]
          unfold Addr.add
          by_cases h2 : i = 0 <;> simp [h2]
          omega
        rw [ha, hcc]
        congr 2
        simp [List.getElem_append_left h]⟩
      have HC := Aside0.mk hC
      clear hC hA1 hn1 had1
      have hm0 := Aside0.mk hm
      go_enter Tryd.func17, Tryd.ntmps17
      go_wp2_with (first | (go_at_call 30; refine (cP _).mono ?_; rintro e w1 ⟨rfl, hd1⟩; have hcz1 := drawn_cell hd1 hcz) | (go_at_call 31; refine (cS _).mono ?_; rintro e w2 ⟨rfl, hd2⟩))
      go_loopw [6, 42] (fun v6 v42 wr => HRel s mid ANS w v6 v42 wr) (fun _ v42 _ => mid.length - (RowKit.intOf v42).toNat)
      case atStart => exact ⟨q, 0, rfl, rfl, by omega, hsz2, by rw [List.drop_zero]; exact HANS.out, drawn_trans hd1 hd2⟩
      case round =>
        obtain ⟨t, i, rfl, rfl, hil, hts, hans, hdr⟩ := hrel
        have Hans := Aside0.mk hans
        clear hans
        by_cases hlt : i < mid.length
        · have hst := Aside0.mk (mid_step mid i hlt t)
          have hci : wr.cell? (ad1.add i) = some (.string mid[i]) := drawn_cell hdr (hmcell.out i hlt)
          have hspec := Lib.index_ge (bl t) (bl mid[i])
          have hroom := Lib.index_room (bl t) (bl mid[i])
          rw [bl_size, bl_size] at hroom
          have cI := fun W (hW : Env W) => index_c t mid[i] (by omega) W hW
          have hEr := hE.drawn hdr
          have hms : (mid[i] : ByteArray).size = (bl mid[i]).length := (bl_size _).symm
          obtain ⟨p, hp⟩ : ∃ p, mid[i] = p := ⟨_, rfl⟩
          rw [hp] at hci hspec hroom cI hst hms
          have Hp := Aside0.mk hp
          clear hp
          have hidx : Aside0 (Lib.index (bl t) (bl p) = Lib.index (bl t) (bl p)) := ⟨rfl⟩
          generalize hk : Lib.index (bl t) (bl p) = k at *
          have Hk := Aside0.mk hk
          clear hk hidx
          by_cases hneg : k < 0
          · have hf : ANS = false := by
              rw [← Hans.out, hst.out, if_pos hneg]
            subst hf
            go_wp2_with (go_at_call 32; refine (cI _ hEr).mono ?_; rintro e w3 ⟨rfl, rfl⟩)
            go_ret
            exact ⟨rfl, hdr⟩
          · have hk0 : 0 ≤ k := by omega
            have hroom := hroom hk0
            obtain ⟨j, rfl⟩ := Int.eq_ofNat_of_zero_le hk0
            have hsz : ∀ x, x = j + p.size → (t.extract x t.size).size ≤ s.size := fun x _ => by rw [Lib.ext_size]; omega
            have hbl : Aside0 (bl (t.extract (j + p.size) t.size) = (bl t).drop (j + p.size)) := ⟨Lib.ext_list t (j + p.size)⟩
            go_wp2_with (go_at_call 32; refine (cI _ hEr).mono ?_; rintro e w3 ⟨rfl, rfl⟩)
            go_roundw
            case rel =>
              refine ⟨t.extract (j + p.size) t.size, i + 1, rfl, by go_num, by omega, hsz _ rfl, ?_, hdr⟩
              rw [hbl.out, ← Hans.out, hst.out, if_neg (by omega), Int.toNat_natCast, bl_size]
            case measure => simp [RowKit.intOf]; omega
        · have hte : mid.drop i = [] := List.drop_eq_nil_of_le (by omega)
          have htrue : ANS = true := by
            rw [← Hans.out, hte]
            rfl
          subst htrue
          clear hte
          go_wp2
          go_ret
          exact ⟨rfl, hdr⟩
    · have h2' : (bl z).isSuffixOf (bl r) = false := eq_false_of_ne_true h2
      rw [if_neg h2]
      have cS := fun W => cutSuffix_no r z (by omega) h2' W
      generalize mid.length = n at *
      have HC := Aside0.mk hC
      clear hC h2 h2' hsz1
      go_enter Tryd.func17, Tryd.ntmps17
      go_wp2_with (first | (go_at_call 30; refine (cP _).mono ?_; rintro e w1 ⟨rfl, hd1⟩; have hcz1 := drawn_cell hd1 hcz) | (go_at_call 31; refine (cS _).mono ?_; rintro e w2 ⟨rfl, hd2⟩))
      go_ret
      exact ⟨rfl, drawn_trans hd1 hd2⟩
  · have h1' : (bl a).isPrefixOf (bl s) = false := eq_false_of_ne_true h1
    rw [if_neg h1]
    have cP := fun W => cutPrefix_no s a h1' W
    have hlen : ¬ ((mid.length : Int) + 2 < 2) := by omega
    generalize mid.length = n at *
    have HC := Aside0.mk hC
    clear hC h1 h1'
    go_enter Tryd.func17, Tryd.ntmps17
    go_wp2_with (go_at_call 30; refine (cP _).mono ?_; rintro e w1 ⟨rfl, hd1⟩)
    go_ret
    exact ⟨rfl, hd1⟩
end Go.Proofs.YtdfdponenhfbjaaDoor.Wk
