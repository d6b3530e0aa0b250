/- The walk of chapter 3's law PrepBlanks: it returns true. Conditions: the tables of unicode/utf8 as they are laid. -/
import Derived.Test.YtdfdponenhfbjaaDoorWkt
import Derived.Laws.DeepStrings4
namespace Go.Proofs.YtdfdponenhfbjaaDoor.Wk
open Go Go.RowKit Go.Lib Go.Proofs.YtdfdponenhfbjaaDoor.PFn Go.Proofs.YtdfdponenhfbjaaDoor.Pl Go.Proofs.YtdfdponenhfbjaaDoor.Tx Go.Proofs.YtdfdponenhfbjaaDoor.Fn Go.Proofs.YtdfdponenhfbjaaDoorW.PrintWords

theorem bl_append (a b : ByteArray) : bl (a ++ b) = bl a ++ bl b := by
  unfold bl
  rw [ByteArray.data_append, Array.toList_append]
theorem append_size (a b : ByteArray) : (a ++ b).size = a.size + b.size := by
  rw [← bl_size, bl_append, List.length_append, bl_size, bl_size]
theorem bl_arr (l : List UInt8) : bl ⟨l.toArray⟩ = l := rfl
theorem getS (s : ByteArray) (k : Nat) (h : k < s.size) : (((s)[k]'h).toNat : Int) = (byteAt (bl s) k : Int) := by
  obtain ⟨⟨l⟩⟩ := s
  exact getB l k h
theorem byteAt_get {q : List UInt8} {k : Nat} (h : k < q.length) : byteAt q k = (q[k]).toNat := by
  unfold byteAt
  rw [List.getD_eq_getElem?_getD, List.getElem?_eq_getElem h, Option.getD_some]
theorem byteAt_eq {q : List UInt8} {k : Nat} (h : k < q.length) {n : Nat} (e : byteAt q k = n) : q[k] = UInt8.ofNat n := by
  rw [byteAt_get h] at e
  rw [← e]
  exact (UInt8.ofNat_toNat).symm
theorem one_byte (s : ByteArray) (k : Nat) (h : k < s.size) : bl (s.extract k (k + 1)) = [(bl s)[k]'(by rw [bl_size]; exact h)] := by
  have hl : k < (bl s).length := by rw [bl_size]; exact h
  show (s.extract k (k + 1)).data.toList = _
  rw [Lib.extract_data, show k + 1 - k = 1 from by omega]
  show ((bl s).drop k).take 1 = _
  rw [List.drop_eq_getElem_cons hl, List.take_succ_cons, List.take_zero]
theorem dbl_snoc {l : List UInt8} {k : Nat} (h : k < l.length) : dbl (l.take (k + 1)) = dbl (l.take k) ++ (if l[k] = 32 then [32, 9, 32] else [l[k]]) := by
  rw [List.take_succ_eq_append_getElem h, dbl_append]
  congr 1
  unfold dbl
  rw [List.flatMap_cons, List.flatMap_nil, List.append_nil]
def WsTo (q : List UInt8) (k : Nat) : Prop := ∀ j (h : j < q.length), j < k → ws (q[j])
theorem wsTo_all {q : List UInt8} {k : Nat} (h : WsTo q k) (hk : q.length ≤ k) : ∀ b ∈ q, ws b := by
  intro b hb
  obtain ⟨i, hi, rfl⟩ := List.mem_iff_getElem.1 hb
  exact h i hi (by omega)
theorem wsTo_succ {q : List UInt8} {k : Nat} (h : WsTo q k) (hw : ∀ hk : k < q.length, ws q[k]) : WsTo q (k + 1) := by
  intro j hj hjk
  by_cases e : j = k
  · subst e; exact hw hj
  · exact h j hj (by omega)
def BRel (q : List UInt8) (w0 : World) (v9 : Value) (wr : World) : Prop := ∃ k : Nat, v9 = .int .i64 (k : Int) ∧ k ≤ q.length ∧ WsTo q k ∧ wr = w0
def DRel (s : ByteArray) (w0 : World) (v11 v12 : Value) (wr : World) : Prop := ∃ (d : ByteArray) (k : Nat), v11 = .string d ∧ v12 = .int .i64 (k : Int) ∧ k ≤ s.size ∧ d.size ≤ 3 * k ∧ bl d = dbl ((bl s).take k) ∧ wr = w0

set_option maxHeartbeats 4000000 in
theorem prepBlanks_c (s hd tl : ByteArray) (f : Bool) (w : World) (hsm : hd.size ≤ 140737488355328) (htm : tl.size ≤ 140737488355328) (hE : Env w) :
    Calls Tryd.prog 6 #[.string s, .string hd, .string tl, .bool f] w fun e w' => e = .returned (.bool true) ∧ Below w.heap.size w w' := by
  by_cases hs : (3000 : Int) < (s.size : Int)
  · go_enter Tryd.func6, Tryd.ntmps6
    go_wp2_with (go_at_call 11; refine (alive_c _ hE).mono ?_; rintro e w3 ⟨rfl, hb3⟩)
    all_goals go_ret
    all_goals exact ⟨rfl, hb3⟩
  · by_cases hht : 100 < hd.size + tl.size
    · go_enter Tryd.func6, Tryd.ntmps6
      go_wp2_with (go_at_call 11; refine (alive_c _ hE).mono ?_; rintro e w3 ⟨rfl, hb3⟩)
      all_goals go_ret
      all_goals exact ⟨rfl, hb3⟩
    · clear hsm htm
      by_cases hse : s.toList.isEmpty = true
      · go_enter Tryd.func6, Tryd.ntmps6
        go_wp2_with (go_at_call 11; refine (alive_c _ hE).mono ?_; rintro e w3 ⟨rfl, hb3⟩)
        all_goals go_ret
        all_goals exact ⟨rfl, hb3⟩
      · have hse' : s.toList.isEmpty = false := eq_false_of_ne_true hse
        go_enter Tryd.func6, Tryd.ntmps6
        go_wp2_with fail
        go_loopw [9] (fun v9 wr => BRel (bl hd) w v9 wr) (fun v9 _ => hd.size - (RowKit.intOf v9).toNat)
        case atStart => exact ⟨0, rfl, Nat.zero_le _, fun j _ h => absurd h (Nat.not_lt_zero j), rfl⟩
        case round =>
          obtain ⟨k, rfl, hk, hws, rfl⟩ := hrel
          rw [bl_size] at hk
          have HWS := Aside0.mk hws
          clear hws
          by_cases hlt : k < hd.size
          · have hx := getS hd k hlt
            have hget := fun n => byteAt_eq (q := bl hd) (k := k) (by rw [bl_size]; exact hlt) (n := n)
            by_cases hb : byteAt (bl hd) k = 32 ∨ byteAt (bl hd) k = 9 ∨ byteAt (bl hd) k = 10
            · have hnext : Aside0 (WsTo (bl hd) (k + 1)) := ⟨wsTo_succ HWS.out (fun hk => by
                unfold ws
                rcases hb with h | h | h <;> rw [hget _ h] <;> decide)⟩
              clear hget
              rcases hb with hb | hb | hb <;> rw [hb] at hx <;> clear hb
              all_goals
                go_wp2_with fail
                exact ⟨⟨k + 1, by go_num, by rw [bl_size]; omega, hnext.out, rfl⟩, by simp [RowKit.intOf]; omega⟩
            · have h1 : ¬ ((hd[k]'hlt).toNat : Int) = 32 := by rw [hx]; omega
              have h2 : ¬ ((hd[k]'hlt).toNat : Int) = 9 := by rw [hx]; omega
              have h3 : ¬ ((hd[k]'hlt).toNat : Int) = 10 := by rw [hx]; omega
              clear hx hget hb
              go_wp2_with (go_at_call 11; refine (alive_c _ hE).mono ?_; rintro e w3 ⟨rfl, hb3⟩)
              case roundEnd =>
                rename_i hbad
                exfalso
                simp [h1, h2, h3] at hbad
              go_ret
              exact ⟨rfl, hb3⟩
          · have hend : k = hd.size := by omega
            subst hend
            go_wp2_with fail
            go_loopw [10] (fun v10 wr' => BRel (bl tl) wr v10 wr') (fun v10 _ => tl.size - (RowKit.intOf v10).toNat)
            case atStart => exact ⟨0, rfl, Nat.zero_le _, fun j _ h => absurd h (Nat.not_lt_zero j), rfl⟩
            case round =>
              obtain ⟨m, rfl, hm, hwt, rfl⟩ := hrel
              rw [bl_size] at hm
              have HWT := Aside0.mk hwt
              clear hwt
              by_cases hlm : m < tl.size
              · have hx := getS tl m hlm
                have hget := fun n => byteAt_eq (q := bl tl) (k := m) (by rw [bl_size]; exact hlm) (n := n)
                by_cases hb : byteAt (bl tl) m = 32 ∨ byteAt (bl tl) m = 9 ∨ byteAt (bl tl) m = 13
                · have hnext : Aside0 (WsTo (bl tl) (m + 1)) := ⟨wsTo_succ HWT.out (fun hk => by
                    unfold ws
                    rcases hb with h | h | h <;> rw [hget _ h] <;> decide)⟩
                  clear hget
                  rcases hb with hb | hb | hb <;> rw [hb] at hx <;> clear hb
                  all_goals
                    go_wp2_with fail
                    exact ⟨⟨m + 1, by go_num, by rw [bl_size]; omega, hnext.out, rfl⟩, by simp [RowKit.intOf]; omega⟩
                · have h1 : ¬ ((tl[m]'hlm).toNat : Int) = 32 := by rw [hx]; omega
                  have h2 : ¬ ((tl[m]'hlm).toNat : Int) = 9 := by rw [hx]; omega
                  have h3 : ¬ ((tl[m]'hlm).toNat : Int) = 13 := by rw [hx]; omega
                  clear hx hget hb
                  go_wp2_with (go_at_call 11; refine (alive_c _ hE).mono ?_; rintro e w3 ⟨rfl, hb3⟩)
                  case roundEnd =>
                    rename_i hbad
                    exfalso
                    simp [h1, h2, h3] at hbad
                  go_ret
                  exact ⟨rfl, hb3⟩
              · have hendm : m = tl.size := by omega
                subst hendm
                go_wp2_with fail
                go_loopw [11, 12] (fun v11 v12 wr' => DRel s wr v11 v12 wr') (fun _ v12 _ => s.size - (RowKit.intOf v12).toNat)
                case atStart => exact ⟨_, 0, rfl, rfl, Nat.zero_le _, by decide, rfl, rfl⟩
                case round =>
                  obtain ⟨d, j, rfl, rfl, hj, hdz, hdb, rfl⟩ := hrel
                  have HDB := Aside0.mk hdb
                  clear hdb
                  by_cases hlj : j < s.size
                  · have hx := getS s j hlj
                    have hob := Aside0.mk (one_byte s j hlj)
                    have hjl : j < (bl s).length := by rw [bl_size]; exact hlj
                    have hsn := Aside0.mk (dbl_snoc hjl)
                    have hoz : (s.extract j (j + 1)).size = 1 := by rw [← bl_size, hob.out]; rfl
                    by_cases hb : byteAt (bl s) j = 32
                    · rw [hb] at hx
                      have hs32 : Aside0 ((bl s)[j] = 32) := ⟨byteAt_eq hjl hb⟩
                      clear hb
                      go_wp2_with fail
                      have hz2 : (⟨#[9, 32]⟩ : ByteArray).size = 2 := rfl
                      refine ⟨⟨_, j + 1, rfl, by go_num, by omega, by rw [append_size, append_size, hoz, hz2]; omega, ?_, rfl⟩, by simp [RowKit.intOf]; omega⟩
                      rw [bl_append, bl_append, HDB.out, hob.out, hsn.out, if_pos hs32.out, hs32.out, List.append_assoc]
                      rfl
                    · have h1 : ¬ ((s[j]'hlj).toNat : Int) = 32 := by rw [hx]; omega
                      have hs32 : Aside0 (¬ (bl s)[j] = 32) := ⟨fun h => hb (by rw [byteAt_get hjl, h]; rfl)⟩
                      clear hx
                      go_wp2_with fail
                      refine ⟨⟨_, j + 1, rfl, by go_num, by omega, by rw [append_size, hoz]; omega, ?_, rfl⟩, by simp [RowKit.intOf]; omega⟩
                      rw [bl_append, HDB.out, hob.out, hsn.out, if_neg hs32.out]
                  · have hendj : j = s.size := by omega
                    subst hendj
                    have hne : bl s ≠ [] := by
                      intro h
                      have : s.toList = [] := by rw [Lib.toList_data]; exact h
                      rw [this] at hse'
                      cases hse'
                    have hpb := prep_blanks f (bl s) (bl hd) (bl tl) hne (wsTo_all HWS.out (by rw [bl_size]; omega)) (wsTo_all HWT.out (by rw [bl_size]; omega))
                    have hcat : bl (hd ++ d ++ tl) = bl hd ++ dbl (bl s) ++ bl tl := by
                      rw [bl_append, bl_append, HDB.out, List.take_of_length_le (by rw [bl_size]; omega)]
                    have cP := fun W (hW : Env W) => prepare_c s f W (by omega) hW
                    have cP2 := fun W (hW : Env W) => prepare_c (hd ++ d ++ tl) f W (by rw [append_size, append_size]; omega) hW
                    rw [show (hd ++ d ++ tl).data.toList = bl (hd ++ d ++ tl) from rfl, hcat, hpb] at cP2
                    rw [show s.data.toList = bl s from rfl] at cP
                    obtain ⟨t, n, ht⟩ := resT_form (prepL f (bl s))
                    rw [ht] at cP cP2
                    clear ht hpb hcat hne
                    go_wp2_with fail
                    refine (cP _ hE).mono ?_
                    rintro e w1 ⟨rfl, hb1⟩
                    have hE1 := hE.below hb1
                    go_wp2_with fail
                    refine (cP2 _ hE1).mono ?_
                    rintro e w2 ⟨rfl, hb2⟩
                    have hE2 := hE1.below hb2
                    go_wp2_with fail
                    refine (alive_c _ hE2).mono ?_
                    rintro e w3 ⟨rfl, hb3⟩
                    go_wp2
                    go_ret
                    exact ⟨rfl, below_seq (below_seq hb1 hb2) hb3⟩
end Go.Proofs.YtdfdponenhfbjaaDoor.Wk
