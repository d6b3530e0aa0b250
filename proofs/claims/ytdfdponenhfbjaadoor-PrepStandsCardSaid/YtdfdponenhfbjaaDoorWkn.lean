/- The walk of prep.mapped: a text's characters mapped and folded, of several blanks one. Conditions: strings of at most 2^44 bytes; the tables of unicode/utf8 as they are laid. -/
import Derived.Test.YtdfdponenhfbjaaDoorWkm
namespace Go.Proofs.YtdfdponenhfbjaaDoor.Wk
open Go Go.RowKit Go.Lib Go.Proofs.YtdfdponenhfbjaaDoor.PFn Go.Proofs.YtdfdponenhfbjaaDoor.Pl Go.Proofs.YtdfdponenhfbjaaDoor.Tx Go.Proofs.YtdfdponenhfbjaaDoor.Fn Go.Proofs.YtdfdponenhfbjaaDoorW.PrintWords

theorem byte_info : (Tryd.prog.info? 5).map (fun i => (i.zero, i.size, i.bytes)) = some (some (.int .u8 0), 1, 1) := by kernel_rfl
theorem strOf (l : List UInt8) : strOfNums (nbytes l) = ⟨l.toArray⟩ := str_nbytes l
set_option maxHeartbeats 4000000 in
set_option maxRecDepth 100000 in
theorem mapped_c (s : ByteArray) (f : Bool) (w : World) (hs : s.size ≤ 17592186044416) (hE : Env w) :
    Calls Tryd.prog 22 #[.string s, .bool f] w fun e w' => e = .returned (resT (mappedL f s.data.toList)) ∧ Below w.heap.size w w' := by
  have cT := text_c s w hs hE
  rw [validD_runes] at cT
  cases hr : runes s.data.toList with
  | none =>
    rw [hr] at cT
    have hm := Lib.hid (mapped_none (f := f) hr)
    clear hr hE
    go_enter Tryd.func22, Tryd.ntmps22
    go_wp2_with (go_at_call 16; refine cT.mono ?_; rintro e w1 ⟨rfl, hb⟩)
    go_ret2
    exact ⟨by rw [hm.out]; rfl, hb⟩
  | some rs =>
    rw [hr] at cT
    have Hr := Lib.hid hr
    clear hr hE
    obtain ⟨i0, hi, hz0, hz1, hz2⟩ := info_parts byte_info
    go_enter Tryd.func22, Tryd.ntmps22
    go_wp2_with (go_at_call 16; refine cT.mono ?_; rintro e w1 ⟨rfl, hb⟩)
    go_loopw [6] (fun v6 wr => MRel s f rs w w1.heap.size v6 wr) (fun _ wr => mMeas s w1.heap.size wr)
    case atStart => exact MRel.start Hr.out hb
    case round =>
      obtain ⟨pos, done, rest, hst, hrs, hdrop, hdb, hal, hps⟩ := hrel
      have hgr := good_of_runes Hr.out
      have Hrs := Lib.hid hrs
      clear hrs
      cases rest with
      | nil =>
        have hend : s.size ≤ pos := by
          have := congrArg List.length hdrop
          rw [List.length_drop, ← size_list] at this
          simp [Tx.encs] at this
          omega
        have hnx : ∀ ty, (Instr.next (.pointer (some ⟨w1.heap.size, 0, none⟩)) true ty).run Tryd.prog wr = _ := fun ty => Lib.run_next_end_at wr w1.heap.size s pos ty hst.1 (by omega)
        have hcv : (convert 50 9 u6).run Tryd.prog wr = .ok (.string (strOfNums (nbytes (accB f done)))) wr := own_string (P := Tryd.prog) Tryd.underlying50 Tryd.underlying5 Tryd.underlying9 (by rw [← bcells_nums]; exact hst.2.1)
        have hm : mappedL f s.data.toList = some (accB f done) := by
          have h1 := Hrs.out
          rw [List.append_nil] at h1
          have h2 := Hr.out
          rw [h1] at h2
          exact mapped_done h2 hdb
        have Hm := Lib.hid hm
        have hbw := hst.2.2.1
        clear hm hdrop hgr
        go_wp2
        go_ret2
        exact ⟨by rw [Hm.out, str_nbytes]; rfl, hbw⟩
      | cons r rest =>
        have hgood : Tx.Good r := hgr r (by rw [Hrs.out]; simp)
        obtain ⟨hlt, hdec, hdrop2, hpos2⟩ := MRel.rune hdrop hgood
        have hrle : r ≤ 1114111 := by unfold Tx.Good at hgood; omega
        have hnx : ∀ ty, (Instr.next (.pointer (some ⟨w1.heap.size, 0, none⟩)) true ty).run Tryd.prog wr = .ok (.tuple #[.bool true, .int .i64 pos, .int .i32 (r : Int)]) (wr.iterAt w1.heap.size s (pos + (enc r).length)) := fun ty => by
          have := Lib.run_next_any_at (P := Tryd.prog) wr w1.heap.size s pos ty hst.1 hlt
          rw [hdec] at this
          exact this
        have hst1 := hst.next (pos + (enc r).length)
        have hel := enc_length r
        clear hdec hdrop hgr
        by_cases hbad : bad r = true
        · have hm := Lib.hid (mapped_bad (f := f) Hr.out Hrs.out hbad)
          go_wp2_with (go_at_call 9; refine (map_bad r hbad _).mono ?_; rintro e w2 ⟨rfl, hd2⟩)
          go_ret2
          exact ⟨by rw [hm.out]; rfl, (hst1.drawn hd2).2.2.1⟩
        · have hbf : bad r = false := by simpa using hbad
          clear hbad
          cases hx : stay r with
          | none =>
            go_wp2_with (go_at_call 9; refine (map_goes r hbf hx _).mono ?_; rintro e w2 ⟨rfl, hd2⟩; have hst2 := hst1.drawn hd2)
            go_roundw
            case rel => exact ⟨pos + (enc r).length, done ++ [r], rest, by rw [accB_none hx]; exact hst2, by rw [Hrs.out]; simp, hdrop2, by simp [hdb, hbf], by rw [accB_none hx]; omega, hpos2⟩
            case measure => exact mMeas_lt hst hst2 (by omega) hpos2
          | some x =>
            have hxle : x ≤ 1114111 := by rcases stay_le hx with h | h <;> omega
            by_cases h32 : x = 32
            · subst h32
              rcases List.eq_nil_or_concat (accB f done) with hemp | ⟨A, c, hA⟩
              · -- a blank, nothing yet
                have hnl : NL f done 32 := by unfold NL; rw [hemp]; simp
                obtain ⟨A, c, rfl⟩ := St.empty (by rw [← hemp]; exact hst1)
                clear hemp
                cases f with
                | true =>
                  have hgx : Tx.Good (fold1 true 32) := fold1_good hbf hx
                  have hel2 := enc_length (fold1 true 32)
                  have hsz : (⟨(enc (fold1 true 32)).toArray⟩ : ByteArray).size = (enc (fold1 true 32)).length := by rw [size_list]
                  go_wp2_with (first | (go_at_call 9; refine (map_stays r 32 hbf hx _).mono ?_; rintro e w2 ⟨rfl, hd2⟩; have hst2 := hst1.drawn hd2) | (go_at_call 12; refine (fold_any 32 (by omega) _).mono ?_; rintro e w3 ⟨rfl, hd3⟩; have hst3 := hst2.drawn hd3) | (go_at_call 33; refine (putRune_c _ hgx _).mono ?_; rintro e w4 ⟨rfl, hd4⟩; have hst4 := hst3.drawn hd4) | (at_builtin; refine Lib.wpList_append_own_string _ rfl (.tmp 58) (.tmp 59) 50 9 rfl (w1.heap.size + 1) 5 i0 Tryd.underlying50 Tryd.underlying9 hi hz0 hz1 hz2 (.slice A 0 c) (accB true done).length (bcells (accB true done)) rfl hst4.2.1 ⟨(enc (fold1 true 32)).toArray⟩ rfl (by rw [hsz]; unfold maxLen; omega) (by rw [hsz]; omega) hst4.lt ?_; intro v5 w5 hown5 hgrow5 _; have hst5 := hst4.appended hown5 hgrow5; clear hown5 hgrow5))
                  go_roundw
                  case rel => exact ⟨pos + (enc r).length, done ++ [r], rest, by rw [accB_new hdb hx hnl]; exact hst5, by rw [Hrs.out]; simp, hdrop2, by simp [hdb, hbf], by rw [accB_new hdb hx hnl, List.length_append]; omega, hpos2⟩
                  case measure => exact mMeas_lt hst hst5 (by omega) hpos2
                | false =>
                  have hgx : Tx.Good (fold1 false 32) := fold1_good hbf hx
                  have hel2 := enc_length (fold1 false 32)
                  have hsz : (⟨(enc (fold1 false 32)).toArray⟩ : ByteArray).size = (enc (fold1 false 32)).length := by rw [size_list]
                  go_wp2_with (first | (go_at_call 9; refine (map_stays r 32 hbf hx _).mono ?_; rintro e w2 ⟨rfl, hd2⟩; have hst2 := hst1.drawn hd2) | (go_at_call 33; refine (putRune_c 32 hgx _).mono ?_; rintro e w4 ⟨rfl, hd4⟩; have hst4 := hst2.drawn hd4) | (at_builtin; refine Lib.wpList_append_own_string _ rfl (.tmp 58) (.tmp 59) 50 9 rfl (w1.heap.size + 1) 5 i0 Tryd.underlying50 Tryd.underlying9 hi hz0 hz1 hz2 (.slice A 0 c) (accB false done).length (bcells (accB false done)) rfl hst4.2.1 ⟨(enc (fold1 false 32)).toArray⟩ rfl (by rw [hsz]; unfold maxLen; omega) (by rw [hsz]; omega) hst4.lt ?_; intro v5 w5 hown5 hgrow5 _; have hst5 := hst4.appended hown5 hgrow5; clear hown5 hgrow5))
                  go_roundw
                  case rel => exact ⟨pos + (enc r).length, done ++ [r], rest, by rw [accB_new hdb hx hnl]; exact hst5, by rw [Hrs.out]; simp, hdrop2, by simp [hdb, hbf], by rw [accB_new hdb hx hnl, List.length_append]; omega, hpos2⟩
                  case measure => exact mMeas_lt hst hst5 (by omega) hpos2
              · rw [List.concat_eq_append] at hA
                obtain ⟨g, cap, rfl, hcell1⟩ := St.last (acc := A) (c := c) (by rw [← hA]; exact hst1)
                have hAl : A.length + 1 ≤ 4 * pos := by rw [hA] at hal; simpa using hal
                have HA := Lib.hid hA
                clear hA
                generalize hn : A.length = n at *
                clear hn
                by_cases hc : c = 32
                · -- one more blank: it is dropped
                  subst hc
                  have hl : (accB f done).getLast? = some 32 := by rw [HA.out]; simp
                  have Hl := Lib.hid hl
                  clear hl
                  go_wp2_with (go_at_call 9; refine (map_stays r 32 hbf hx _).mono ?_; rintro e w2 ⟨rfl, hd2⟩; have hst2 := hst1.drawn hd2; have hcell2 := drawn_cell hd2 hcell1)
                  go_roundw
                  case rel => exact ⟨pos + (enc r).length, done ++ [r], rest, by rw [accB_skip hdb hx Hl.out]; exact hst2, by rw [Hrs.out]; simp, hdrop2, by simp [hdb, hbf], by rw [accB_skip hdb hx Hl.out]; omega, hpos2⟩
                  case measure => exact mMeas_lt hst hst2 (by omega) hpos2
                · have hnl : NL f done 32 := by
                    unfold NL
                    rw [HA.out]
                    simpa using hc
                  have hlen : (accB f done).length = A.length + 1 := by rw [HA.out]; simp
                  have hc32 : ((c.toNat : Int) == 32) = false := by
                    rw [beq_eq_false_iff_ne]
                    intro h
                    exact hc (UInt8.toNat_inj.1 (by have : c.toNat = 32 := by omega
                                                    rw [this]; rfl))
                  clear hlen
                  cases f with
                  | true =>
                    have hgx : Tx.Good (fold1 true 32) := fold1_good hbf hx
                    have hel2 := enc_length (fold1 true 32)
                    have hsz : (⟨(enc (fold1 true 32)).toArray⟩ : ByteArray).size = (enc (fold1 true 32)).length := by rw [size_list]
                    go_wp2_with (first | (go_at_call 9; refine (map_stays r 32 hbf hx _).mono ?_; rintro e w2 ⟨rfl, hd2⟩; have hst2 := hst1.drawn hd2; have hcell2 := drawn_cell hd2 hcell1) | (go_at_call 12; refine (fold_any 32 (by omega) _).mono ?_; rintro e w3 ⟨rfl, hd3⟩; have hst3 := hst2.drawn hd3) | (go_at_call 33; refine (putRune_c _ hgx _).mono ?_; rintro e w4 ⟨rfl, hd4⟩; have hst4 := hst3.drawn hd4) | (at_builtin; refine Lib.wpList_append_own_string _ rfl (.tmp 58) (.tmp 59) 50 9 rfl (w1.heap.size + 1) 5 i0 Tryd.underlying50 Tryd.underlying9 hi hz0 hz1 hz2 (.slice (some ⟨g, 0, none⟩) (n + 1) cap) (accB true done).length (bcells (accB true done)) rfl hst4.2.1 ⟨(enc (fold1 true 32)).toArray⟩ rfl (by rw [hsz]; unfold maxLen; omega) (by rw [hsz]; omega) hst4.lt ?_; intro v5 w5 hown5 hgrow5 _; have hst5 := hst4.appended hown5 hgrow5; clear hown5 hgrow5))
                    go_roundw
                    case rel => exact ⟨pos + (enc r).length, done ++ [r], rest, by rw [accB_new hdb hx hnl]; exact hst5, by rw [Hrs.out]; simp, hdrop2, by simp [hdb, hbf], by rw [accB_new hdb hx hnl, List.length_append]; omega, hpos2⟩
                    case measure => exact mMeas_lt hst hst5 (by omega) hpos2
                  | false =>
                    have hgx : Tx.Good (fold1 false 32) := fold1_good hbf hx
                    have hel2 := enc_length (fold1 false 32)
                    have hsz : (⟨(enc (fold1 false 32)).toArray⟩ : ByteArray).size = (enc (fold1 false 32)).length := by rw [size_list]
                    go_wp2_with (first | (go_at_call 9; refine (map_stays r 32 hbf hx _).mono ?_; rintro e w2 ⟨rfl, hd2⟩; have hst2 := hst1.drawn hd2; have hcell2 := drawn_cell hd2 hcell1) | (go_at_call 33; refine (putRune_c 32 hgx _).mono ?_; rintro e w4 ⟨rfl, hd4⟩; have hst4 := hst2.drawn hd4) | (at_builtin; refine Lib.wpList_append_own_string _ rfl (.tmp 58) (.tmp 59) 50 9 rfl (w1.heap.size + 1) 5 i0 Tryd.underlying50 Tryd.underlying9 hi hz0 hz1 hz2 (.slice (some ⟨g, 0, none⟩) (n + 1) cap) (accB false done).length (bcells (accB false done)) rfl hst4.2.1 ⟨(enc (fold1 false 32)).toArray⟩ rfl (by rw [hsz]; unfold maxLen; omega) (by rw [hsz]; omega) hst4.lt ?_; intro v5 w5 hown5 hgrow5 _; have hst5 := hst4.appended hown5 hgrow5; clear hown5 hgrow5))
                    go_roundw
                    case rel => exact ⟨pos + (enc r).length, done ++ [r], rest, by rw [accB_new hdb hx hnl]; exact hst5, by rw [Hrs.out]; simp, hdrop2, by simp [hdb, hbf], by rw [accB_new hdb hx hnl, List.length_append]; omega, hpos2⟩
                    case measure => exact mMeas_lt hst hst5 (by omega) hpos2
            · have hnl : NL f done x := fun h => h32 h.1
              have hx32 : ((x : Int) == 32) = false := by rw [beq_eq_false_iff_ne]; omega
              cases f with
              | true =>
                have hgx : Tx.Good (fold1 true x) := fold1_good hbf hx
                have hel2 := enc_length (fold1 true x)
                have hsz : (⟨(enc (fold1 true x)).toArray⟩ : ByteArray).size = (enc (fold1 true x)).length := by rw [size_list]
                go_wp2_with (first | (go_at_call 9; refine (map_stays r x hbf hx _).mono ?_; rintro e w2 ⟨rfl, hd2⟩; have hst2 := hst1.drawn hd2) | (go_at_call 12; refine (fold_any x (by omega) _).mono ?_; rintro e w3 ⟨rfl, hd3⟩; have hst3 := hst2.drawn hd3) | (go_at_call 33; refine (putRune_c _ hgx _).mono ?_; rintro e w4 ⟨rfl, hd4⟩; have hst4 := hst3.drawn hd4) | (at_builtin; refine Lib.wpList_append_own_string _ rfl (.tmp 58) (.tmp 59) 50 9 rfl (w1.heap.size + 1) 5 i0 Tryd.underlying50 Tryd.underlying9 hi hz0 hz1 hz2 u6 (accB true done).length (bcells (accB true done)) rfl hst4.2.1 ⟨(enc (fold1 true x)).toArray⟩ rfl (by rw [hsz]; unfold maxLen; omega) (by rw [hsz]; omega) hst4.lt ?_; intro v5 w5 hown5 hgrow5 _; have hst5 := hst4.appended hown5 hgrow5; clear hown5 hgrow5))
                go_roundw
                case rel => exact ⟨pos + (enc r).length, done ++ [r], rest, by rw [accB_new hdb hx hnl]; exact hst5, by rw [Hrs.out]; simp, hdrop2, by simp [hdb, hbf], by rw [accB_new hdb hx hnl, List.length_append]; omega, hpos2⟩
                case measure => exact mMeas_lt hst hst5 (by omega) hpos2
              | false =>
                have hgx : Tx.Good (fold1 false x) := fold1_good hbf hx
                have hel2 := enc_length (fold1 false x)
                have hsz : (⟨(enc (fold1 false x)).toArray⟩ : ByteArray).size = (enc (fold1 false x)).length := by rw [size_list]
                go_wp2_with (first | (go_at_call 9; refine (map_stays r x hbf hx _).mono ?_; rintro e w2 ⟨rfl, hd2⟩; have hst2 := hst1.drawn hd2) | (go_at_call 33; refine (putRune_c x hgx _).mono ?_; rintro e w4 ⟨rfl, hd4⟩; have hst4 := hst2.drawn hd4) | (at_builtin; refine Lib.wpList_append_own_string _ rfl (.tmp 58) (.tmp 59) 50 9 rfl (w1.heap.size + 1) 5 i0 Tryd.underlying50 Tryd.underlying9 hi hz0 hz1 hz2 u6 (accB false done).length (bcells (accB false done)) rfl hst4.2.1 ⟨(enc (fold1 false x)).toArray⟩ rfl (by rw [hsz]; unfold maxLen; omega) (by rw [hsz]; omega) hst4.lt ?_; intro v5 w5 hown5 hgrow5 _; have hst5 := hst4.appended hown5 hgrow5; clear hown5 hgrow5))
                go_roundw
                case rel => exact ⟨pos + (enc r).length, done ++ [r], rest, by rw [accB_new hdb hx hnl]; exact hst5, by rw [Hrs.out]; simp, hdrop2, by simp [hdb, hbf], by rw [accB_new hdb hx hnl, List.length_append]; omega, hpos2⟩
                case measure => exact mMeas_lt hst hst5 (by omega) hpos2
end Go.Proofs.YtdfdponenhfbjaaDoor.Wk
