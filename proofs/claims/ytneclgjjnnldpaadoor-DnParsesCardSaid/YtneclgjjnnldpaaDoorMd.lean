/- Merged out of Rxx Rww Rpa Rpr (by wip/tools/merge.py). -/
import Derived.Test.YtneclgjjnnldpaaDoorMc
import Derived.Deep.AppendLies
import Derived.Laws.Concat
import Derived.Test.YtneclgjjnnldpaaDoorMa
section
/- The walks of octet.Text and octet.Hex: they answer the plain functions. Conditions: texts of at most 10^6 bytes (Hex); utf8's tables. -/
namespace Go.Proofs.YtneclgjjnnldpaaDoor.Rd
open Go Go.RowKit Go.Lib Go.Proofs.YtneclgjjnnldpaaDoor.PFn Go.Proofs.YtneclgjjnnldpaaDoor.Dp Go.Proofs.YtneclgjjnnldpaaDoorW.PrintWords

theorem text_c (s : ByteArray) (w : World) (hs : s.size ≤ 140737488351232) (hE : Env w) : Calls Tryd.prog 43 #[.string s] w fun e w' => e = .returned (.bool (Lib.validD (bl s))) ∧ Below w.heap.size w w' := by
  have cV : Calls Tryd.prog 58 #[.string s] w fun e w' => e = .returned (.bool (Lib.validD (bl s))) ∧ Below w.heap.size w w' := Any.utf8_ValidString Tryd.lays196 s w (by omega) hE.1
  go_enter Tryd.func43, Tryd.ntmps43
  go_wp2_with fail
  refine cV.mono ?_
  rintro e w1 ⟨rfl, hb⟩
  go_wp2
  go_ret
  exact ⟨rfl, hb⟩
def digs : ByteArray := ⟨#[48, 49, 50, 51, 52, 53, 54, 55, 56, 57, 97, 98, 99, 100, 101, 102]⟩
theorem dig_idx (n : Nat) (hn : n < 16) (w : World) : (Instr.index 9 (.string ⟨#[48, 49, 50, 51, 52, 53, 54, 55, 56, 57, 97, 98, 99, 100, 101, 102]⟩) (.int .u8 (n : Int))).run Tryd.prog w = .ok (.int .u8 ((Dp.hexDigit n).toNat : Int)) w := by
  obtain rfl | rfl | rfl | rfl | rfl | rfl | rfl | rfl | rfl | rfl | rfl | rfl | rfl | rfl | rfl | rfl : n = 0 ∨ n = 1 ∨ n = 2 ∨ n = 3 ∨ n = 4 ∨ n = 5 ∨ n = 6 ∨ n = 7 ∨ n = 8 ∨ n = 9 ∨ n = 10 ∨ n = 11 ∨ n = 12 ∨ n = 13 ∨ n = 14 ∨ n = 15 := by omega
  all_goals kernel_rfl
theorem and15 (c : UInt8) : bits BinOp.and .u8 (c.toNat : Int) 15 = ((c.toNat % 16 : Nat) : Int) := by
  have h : ∀ n : Fin 256, bits BinOp.and .u8 ((UInt8.ofNat n.val).toNat : Int) 15 = (((UInt8.ofNat n.val).toNat % 16 : Nat) : Int) := by decide +kernel
  have := h ⟨c.toNat, UInt8.toNat_lt c⟩
  rwa [UInt8.ofNat_toNat] at this
def HexRel (s : ByteArray) (w : World) (v3 v11 : Value) (wr : World) : Prop :=
  ∃ k : Nat, v11 = .int .i64 (k : Int) ∧ k ≤ s.size ∧ wr.ownsRow w.heap.size 5 1 v3 (hexW ((bl s).take k)).length (encs eB (hexW ((bl s).take k))) ∧ Below w.heap.size w wr
theorem hexW_len (l : Bs) : (hexW l).length = 2 * l.length := by
  unfold hexW
  induction l with
  | nil => rfl
  | cons c r ih => rw [List.flatMap_cons, List.length_append, ih]; simp; omega
theorem hexW_snoc (l : Bs) (c : UInt8) : hexW (l ++ [c]) = hexW l ++ [Dp.hexDigit (c.toNat / 16), Dp.hexDigit (c.toNat % 16)] := by
  unfold hexW
  rw [List.flatMap_append]
  rfl
set_option maxHeartbeats 1000000 in
set_option maxRecDepth 100000 in
theorem hexOut_c (s : ByteArray) (w : World) (hs : s.size ≤ 1000000) : Calls Tryd.prog 44 #[.string s] w fun e w' => e = .returned (.string ⟨(hexW (bl s)).toArray⟩) ∧ Below w.heap.size w w' := by
  obtain ⟨i0, hi, hz0, hz1, hz2⟩ := info_parts byte_info
  have hmul : IntKind.i64.wrap (2 * (s.size : Int)) = 2 * (s.size : Int) := IntWalk.i64_in _ (by omega)
  go_enter Tryd.func44, Tryd.ntmps44
  go_wp2_with (refine wpList_make_own _ rfl _ _ 64 rfl w.heap.size 5 i0 (.int .u8 0) 1 Tryd.underlying64 hi hz0 hz1 .i64 .i64 (2 * (s.size : Int)) (2 * s.size) rfl rfl (by omega) (by rw [hz2]; omega) (by simp only [maxLen]; omega) (Nat.le_refl _) ?_; intro w1 HO1 hg1)
  have hb1 : Below w.heap.size w w1 := (Below.refl _ _).grown hg1 (Nat.le_refl _) (fun k hk => by cases hk)
  go_loopw [3, 4, 11] (fun v3 _ v11 wr => HexRel s w v3 v11 wr) (fun _ _ v11 _ => s.size - (RowKit.intOf v11).toNat)
  case atStart => exact ⟨0, rfl, Nat.zero_le _, HO1, hb1⟩
  case round =>
    obtain ⟨k, rfl, hk, hown, hbel⟩ := hrel
    have HO := Aside0.mk hown
    clear hown
    by_cases hlt : k < s.size
    · have hkl : k < (bl s).length := by rw [bl_size]; exact hlt
      have hki : (k : Int) < (s.size : Int) := by omega
      have hx : ((s[k]'hlt).toNat : Int) = ((bl s)[k].toNat : Int) := by
        have hL : Lr s k ((bl s)[k] :: (bl s).drop (k + 1)) := ⟨List.drop_eq_getElem_cons hkl, hk⟩
        rw [hL.at_]
      have hsn : Aside0 (hexW ((bl s).take (k + 1)) = hexW ((bl s).take k) ++ [Dp.hexDigit ((bl s)[k].toNat / 16), Dp.hexDigit ((bl s)[k].toNat % 16)]) := ⟨by rw [List.take_succ_eq_append_getElem hkl, hexW_snoc]⟩
      have hlen : (hexW ((bl s).take k)).length ≤ 2000000 := by rw [hexW_len, List.length_take]; omega
      generalize (bl s)[k] = c at *
      have hc256 := UInt8.toNat_lt c
      have hq1 : c.toNat / 16 < 16 := by omega
      have hq2 : c.toNat % 16 < 16 := by omega
      have hq3 : (c.toNat : Int) / 16 = ((c.toNat / 16 : Nat) : Int) := by omega
      have hq4 : (c.toNat : Int) % 16 = ((c.toNat % 16 : Nat) : Int) := by omega
      have hq5 := and15 c
      have g1 := dig_idx _ hq1
      have g2 := dig_idx _ hq2
      generalize c.toNat / 16 = q at *
      generalize c.toNat % 16 = r at *
      generalize Dp.hexDigit q = x at *
      generalize Dp.hexDigit r = y at *
      go_wp2
      go_region_held3 (fun _ => True) (exact trivial) ((refine step_append_lies _ rfl _ _ _ rfl w.heap.size 5 i0 (.int .u8 0) 1 1 Tryd.underlying64 hi hz0 hz1 hz2 rfl (by omega) u3 (hexW ((bl s).take k)).length (encs eB (hexW ((bl s).take k))) rfl ((HO.out.alloc _).drew) ⟨wr.heap.size, 0, none⟩ 2 2 [eB x, eB y] rfl rfl (World.news_of_block (cs := #[eB x, eB y]) (t := 5) (fr := (0, 0)) (heap_alloc_new wr _)) (by intro u hu; simp only [List.mem_cons, List.not_mem_nil, or_false] at hu; rcases hu with rfl | rfl <;> rfl) (by omega) (by simp only [maxLen]; omega) (by omega) (by have := hbel.size; simp; omega) _ rfl ?_; intro gg cap w4 HO4 hg4 _ _))
      all_goals
        have hb4 : Below w.heap.size w w4 := pw_below_grown (below_drew (below_alloc hbel _)) _ (by have := hbel.size; simp; omega) hg4 (own_base HO.out)
        go_wp2
        exact ⟨⟨k + 1, by go_num, by omega, by rw [hsn.out, List.length_append, encs_append]; exact HO4, hb4⟩, by simp [RowKit.intOf]; omega⟩
    · have hke : k = s.size := by omega
      have hki : ¬ (k : Int) < (s.size : Int) := by omega
      have ht : (bl s).take k = bl s := by rw [hke, ← bl_size, List.take_length]
      have HO2 := Aside0.mk (ht ▸ HO.out)
      have hcv := own_eB HO2.out
      clear HO hke ht
      go_wp2
      refine bodyPost_ret (v := .string ⟨(hexW (bl s)).toArray⟩) (by simp [results, Tryd.results44, go_sem]) rfl ?_
      exact ⟨rfl, hbel⟩
end Go.Proofs.YtneclgjjnnldpaaDoor.Rd
end
section
/- The walk of dn's written: it answers the plain function. Conditions: a text of at most 10^6 bytes; utf8's tables. -/
namespace Go.Proofs.YtneclgjjnnldpaaDoor.Rd
open Go Go.RowKit Go.Lib Go.Proofs.YtneclgjjnnldpaaDoor.PFn Go.Proofs.YtneclgjjnnldpaaDoor.Dp Go.Proofs.YtneclgjjnnldpaaDoorW.PrintWords

theorem escW_cons (f : Bool) (c : UInt8) (r : Bs) : escW f (c :: r) = (if c = 0 then [92, 48, 48] else if (special c || (f && (c == 35 || c == 32)) || (r.isEmpty && c == 32)) = true then [92, c] else [c]) ++ escW false r := rfl
theorem bytes_join (l p : Bs) : (l.map fun c => (c.toNat : Int)) ++ bytesOf ⟨p.toArray⟩ = (l ++ p).map fun c => (c.toNat : Int) := by
  unfold bytesOf
  rw [List.map_append]
theorem own_joined {w : World} {base : Nat} {v : Value} {l p : Bs} (h : w.ownsRow base 5 1 v ((l.map fun c => (c.toNat : Int)) ++ bytesOf ⟨p.toArray⟩).length (nums .u8 ((l.map fun c => (c.toNat : Int)) ++ bytesOf ⟨p.toArray⟩))) : w.ownsRow base 5 1 v (l ++ p).length (encs eB (l ++ p)) := by
  rw [bytes_join, List.length_map, ← encs_eB] at h
  exact h
theorem cat_str (x y : Bs) : (⟨x.toArray⟩ : ByteArray) ++ ⟨y.toArray⟩ = ⟨(x ++ y).toArray⟩ := by
  apply ByteArray.ext
  rw [ByteArray.data_append]
  simp
theorem run_cat (x y : Bs) (h : x.length + y.length ≤ 140737488351232) (w : World) : (Op.stringOp .add ⟨x.toArray⟩ ⟨y.toArray⟩).run Tryd.prog w = .ok (.string ⟨(x ++ y).toArray⟩) w := by
  rw [run_string_add_sum (P := Tryd.prog) w ⟨x.toArray⟩ ⟨y.toArray⟩ (by show x.toArray.size + y.toArray.size ≤ _; simp; omega), cat_str]
theorem pc_two {k : Nat} {c : UInt8} {r : Bs} (h0 : ¬ c = 0) (h : (special c || (decide (k = 0) && (c == 35 || c == 32)) || (r.isEmpty && c == 32)) = true) :
    (if c = 0 then ([92, 48, 48] : Bs) else if (special c || (decide (k = 0) && (c == 35 || c == 32)) || (r.isEmpty && c == 32)) = true then [92, c] else [c]) = [92] ++ [c] := by
  rw [if_neg h0, if_pos h]
  rfl
theorem pc_one {k : Nat} {c : UInt8} {r : Bs} (h0 : ¬ c = 0) (h1 : special c = false) (h2 : ¬ (k = 0 ∧ (c = 35 ∨ c = 32))) (h3 : ¬ (r = [] ∧ c = 32)) :
    (if c = 0 then ([92, 48, 48] : Bs) else if (special c || (decide (k = 0) && (c == 35 || c == 32)) || (r.isEmpty && c == 32)) = true then [92, c] else [c]) = [c] := by
  rw [if_neg h0, if_neg]
  intro h
  rw [h1, Bool.false_or, Bool.or_eq_true, Bool.and_eq_true, Bool.and_eq_true, decide_eq_true_eq, Bool.or_eq_true, beq_iff_eq, beq_iff_eq, List.isEmpty_iff] at h
  rcases h with h | h
  · exact h2 h
  · exact h3 h
def WrRel (s : ByteArray) (ans : Bs) (w : World) (v3 v14 : Value) (wr : World) : Prop :=
  ∃ (acc : Bs) (k : Nat) (m : Bs), v14 = .int .i64 (k : Int) ∧ Lr s k m ∧ acc.length ≤ 3 * k ∧ acc ++ escW (decide (k = 0)) m = ans ∧
    wr.ownsRow w.heap.size 5 1 v3 acc.length (encs eB acc) ∧ Below w.heap.size w wr
/-- a round's end -/
theorem WrRel.next {s : ByteArray} {ans acc piece m : Bs} {w w1 : World} {v : Value} {k : Nat} {c : UInt8} (hm : Lr s k (c :: m)) (hacc : acc.length ≤ 3 * k) (hp : piece.length ≤ 3)
    (hans : acc ++ escW (decide (k = 0)) (c :: m) = ans) (hpc : (if c = 0 then [92, 48, 48] else if (special c || (decide (k = 0) && (c == 35 || c == 32)) || (m.isEmpty && c == 32)) = true then [92, c] else [c]) = piece)
    (ho : w1.ownsRow w.heap.size 5 1 v (acc ++ piece).length (encs eB (acc ++ piece))) (hb : Below w.heap.size w w1) : WrRel s ans w v (.int .i64 ((k + 1 : Nat) : Int)) w1 := by
  refine ⟨acc ++ piece, k + 1, m, rfl, hm.next, by rw [List.length_append]; omega, ?_, ho, hb⟩
  rw [decide_eq_false (by omega), ← hans, escW_cons, hpc, List.append_assoc]
set_option maxHeartbeats 1000000 in
set_option maxRecDepth 100000 in
theorem written_c (s : ByteArray) (w : World) (hs : s.size ≤ 1000000) (hE : Env w) : Calls Tryd.prog 25 #[.string s] w fun e w' => e = .returned (.string ⟨(Dp.written (bl s)).toArray⟩) ∧ Below w.heap.size w w' := by
  have cT := text_c s w (by omega) hE
  cases hV : Lib.validD (bl s) with
  | false =>
    rw [hV] at cT
    have cH := fun W => hexOut_c s W hs
    have hw : Dp.written (bl s) = 35 :: hexW (bl s) := by unfold Dp.written; rw [if_neg (by rw [hV]; decide)]
    rw [hw]
    have hcat := run_cat [35] (hexW (bl s)) (by rw [hexW_len, bl_size]; simp; omega)
    clear hw hV
    go_enter Tryd.func25, Tryd.ntmps25
    go_wp2_with fail
    refine cT.mono ?_
    rintro e w1 ⟨rfl, hb1⟩
    go_wp2_with fail
    refine (cH _).mono ?_
    rintro e w2 ⟨rfl, hb2⟩
    go_wp2
    go_ret
    exact ⟨rfl, below_seq hb1 hb2⟩
  | true =>
    rw [hV] at cT
    obtain ⟨ANS, hA⟩ : ∃ b, Dp.written (bl s) = b := ⟨_, rfl⟩
    have hw : [] ++ escW (decide (0 = 0)) (bl s) = ANS := by rw [← hA]; unfold Dp.written; rw [if_pos hV]; rfl
    rw [hA]
    have HA := Aside0.mk hw
    clear hw hV hA
    go_enter Tryd.func25, Tryd.ntmps25
    go_wp2_with fail
    refine cT.mono ?_
    rintro e w1 ⟨rfl, hb1⟩
    go_wp2_with fail
    go_loopw [3, 4, 5, 14, 20, 25] (fun v3 _ _ v14 _ _ wr => WrRel s ANS w v3 v14 wr) (fun _ _ _ v14 _ _ _ => s.size - (RowKit.intOf v14).toNat)
    case atStart => exact ⟨[], 0, bl s, rfl, ⟨List.drop_zero, Nat.zero_le _⟩, Nat.le_refl _, HA.out, own_nil _ _ _ _, hb1⟩
    case round =>
      obtain ⟨acc, k, m, rfl, hm, hacc, hans, hown, hbel⟩ := hrel
      have HO := Aside0.mk hown
      have HANS := Aside0.mk hans
      clear hown hans
      have hks := hm.2
      cases m with
      | nil =>
        have hki : ¬ (k : Int) < (s.size : Int) := by have := hm.nil; omega
        have hf : acc = ANS := by rw [← HANS.out]; show acc = acc ++ []; rw [List.append_nil]
        subst hf
        have hcv := own_eB HO.out
        go_wp2
        refine bodyPost_ret (v := .string ⟨acc.toArray⟩) (by simp [results, Tryd.results25, go_sem]) rfl ?_
        exact ⟨rfl, hbel⟩
      | cons c r =>
        have hk := hm.lt
        have hki : (k : Int) < (s.size : Int) := by omega
        have hx : ((s[k]'hk).toNat : Int) = (c.toNat : Int) := by rw [hm.at_]
        have hml := hm.len
        rw [List.length_cons] at hml
        by_cases hc0 : c = 0
        · subst hc0
          have HPC : Aside0 ((if (0 : UInt8) = 0 then ([92, 48, 48] : Bs) else if (special 0 || (decide (k = 0) && ((0 : UInt8) == 35 || (0 : UInt8) == 32)) || (r.isEmpty && (0 : UInt8) == 32)) = true then [92, 0] else [0]) = [92, 48, 48]) := ⟨rfl⟩
          go_wp2_with (at_builtin; refine Aside0.out ?_)
          refine ⟨?_⟩
          refine print_append_str (w0 := w) w.heap.size rfl _ _ 64 9 5 rfl Tryd.underlying64 Tryd.underlying9 byte_info u3 (acc.map fun c => (c.toNat : Int)) ⟨#[92, 48, 48]⟩ rfl rfl (by rw [List.length_map, ← encs_eB]; exact HO.out) hbel hbel.size (by rw [List.length_map]; show acc.length + 3 ≤ _; omega) ?_
          intro v1 w2 HO2 hb2 _
          have HO3 := own_joined (p := [92, 48, 48]) HO2
          clear HO2
          go_wp2
          exact ⟨WrRel.next hm hacc (by simp) HANS.out HPC.out HO3 hb2, by simp [RowKit.intOf]; omega⟩
        · have hx0 : ¬ (c.toNat : Int) = 0 := u8_ne (n := 0) hc0
          have cB := fun W => ib_c specs c W
          by_cases hsp : special c = true
          · have HPC : Aside0 ((if c = 0 then ([92, 48, 48] : Bs) else if (special c || (decide (k = 0) && (c == 35 || c == 32)) || (r.isEmpty && c == 32)) = true then [92, c] else [c]) = [92] ++ [c]) := ⟨by rw [if_neg hc0, if_pos (by rw [hsp]; rfl)]; rfl⟩
            have hk0 := ib_spec_yes hsp
            generalize Lib.indexByte specs c = n at *
            unfold specs at cB
            clear hsp hc0
            go_wp2_with (first | (go_at_call 45; refine (cB _).mono ?_; rintro e w5 ⟨rfl, rfl⟩) | (at_builtin; refine Aside0.out ?_))
            all_goals
              refine ⟨?_⟩
              refine print_append_of (w0 := w) eB w.heap.size rfl _ _ 64 5 (.int .u8 0) 1 rfl Tryd.underlying64 byte_info rfl (by omega) u3 acc (92 : UInt8) rfl rfl rfl HO.out hbel hbel.size (by omega) ?_
              intro v1 w2 HO2 hb2 _ _
              go_wp2_with (at_builtin; refine Aside0.out ?_)
              refine ⟨?_⟩
              refine print_append_of (w0 := w) eB w.heap.size rfl _ _ 64 5 (.int .u8 0) 1 rfl Tryd.underlying64 byte_info rfl (by omega) v1 (acc ++ [92]) c rfl rfl rfl HO2 hb2 hb2.size (by rw [List.length_append, List.length_singleton]; omega) ?_
              intro v2 w3 HO3 hb3 _ _
              go_wp2
              exact ⟨WrRel.next hm hacc (by simp) HANS.out HPC.out (by rw [List.append_assoc] at HO3; exact HO3) hb3, by simp [RowKit.intOf]; omega⟩
          · have hsp' : special c = false := eq_false_of_ne_true hsp
            have hk0 := ib_spec_no hsp'
            have hkd : decide (0 ≤ Lib.indexByte specs c) = false := decide_eq_false (by omega)
            generalize Lib.indexByte specs c = n at *
            unfold specs at cB
            by_cases hq1 : k = 0 ∧ (c = 35 ∨ c = 32)
            · have HPC := Aside0.mk (pc_two (k := k) (r := r) hc0 (by rw [hsp', decide_eq_true hq1.1]; rcases hq1.2 with h | h <;> rw [h] <;> rfl))
              clear hsp hsp' hc0
              rcases hq1 with ⟨rfl, rfl | rfl⟩
              · have hx0 : ¬ (35 : Int) = 0 := by omega
                go_wp2_with (first | (go_at_call 45; refine (cB _).mono ?_; rintro e w5 ⟨rfl, rfl⟩) | (at_builtin; refine Aside0.out ?_))
                all_goals
                  refine ⟨?_⟩
                  refine print_append_of (w0 := w) eB w.heap.size rfl _ _ 64 5 (.int .u8 0) 1 rfl Tryd.underlying64 byte_info rfl (by omega) u3 acc (92 : UInt8) rfl rfl rfl HO.out hbel hbel.size (by omega) ?_
                  intro v1 w2 HO2 hb2 _ _
                  go_wp2_with (at_builtin; refine Aside0.out ?_)
                  refine ⟨?_⟩
                  refine print_append_of (w0 := w) eB w.heap.size rfl _ _ 64 5 (.int .u8 0) 1 rfl Tryd.underlying64 byte_info rfl (by omega) v1 (acc ++ [92]) (35 : UInt8) rfl rfl rfl HO2 hb2 hb2.size (by rw [List.length_append, List.length_singleton]; omega) ?_
                  intro v2 w3 HO3 hb3 _ _
                  go_wp2
                  exact ⟨WrRel.next hm hacc (by simp) HANS.out HPC.out (by rw [List.append_assoc] at HO3; exact HO3) hb3, by simp [RowKit.intOf]; omega⟩
              · have hx0 : ¬ (32 : Int) = 0 := by omega
                go_wp2_with (first | (go_at_call 45; refine (cB _).mono ?_; rintro e w5 ⟨rfl, rfl⟩) | (at_builtin; refine Aside0.out ?_))
                all_goals
                  refine ⟨?_⟩
                  refine print_append_of (w0 := w) eB w.heap.size rfl _ _ 64 5 (.int .u8 0) 1 rfl Tryd.underlying64 byte_info rfl (by omega) u3 acc (92 : UInt8) rfl rfl rfl HO.out hbel hbel.size (by omega) ?_
                  intro v1 w2 HO2 hb2 _ _
                  go_wp2_with (at_builtin; refine Aside0.out ?_)
                  refine ⟨?_⟩
                  refine print_append_of (w0 := w) eB w.heap.size rfl _ _ 64 5 (.int .u8 0) 1 rfl Tryd.underlying64 byte_info rfl (by omega) v1 (acc ++ [92]) (32 : UInt8) rfl rfl rfl HO2 hb2 hb2.size (by rw [List.length_append, List.length_singleton]; omega) ?_
                  intro v2 w3 HO3 hb3 _ _
                  go_wp2
                  exact ⟨WrRel.next hm hacc (by simp) HANS.out HPC.out (by rw [List.append_assoc] at HO3; exact HO3) hb3, by simp [RowKit.intOf]; omega⟩
            · by_cases hq2 : r = [] ∧ c = 32
              · obtain ⟨rfl, rfl⟩ := hq2
                have hk00 : ¬ (k : Int) = 0 := fun h => hq1 ⟨by omega, .inr rfl⟩
                have HPC := Aside0.mk (pc_two (k := k) (r := ([] : Bs)) hc0 (by rw [hsp']; cases decide (k = 0) <;> rfl))
                have hszk : (s.size : Int) - 1 = (k : Int) := by simp only [List.length_nil] at hml; omega
                clear hsp hsp' hc0 hq1
                go_wp2_with (first | (go_at_call 45; refine (cB _).mono ?_; rintro e w5 ⟨rfl, rfl⟩) | (at_builtin; refine Aside0.out ?_))
                all_goals
                  refine ⟨?_⟩
                  refine print_append_of (w0 := w) eB w.heap.size rfl _ _ 64 5 (.int .u8 0) 1 rfl Tryd.underlying64 byte_info rfl (by omega) u3 acc (92 : UInt8) rfl rfl rfl HO.out hbel hbel.size (by omega) ?_
                  intro v1 w2 HO2 hb2 _ _
                  go_wp2_with (at_builtin; refine Aside0.out ?_)
                  refine ⟨?_⟩
                  refine print_append_of (w0 := w) eB w.heap.size rfl _ _ 64 5 (.int .u8 0) 1 rfl Tryd.underlying64 byte_info rfl (by omega) v1 (acc ++ [92]) (32 : UInt8) rfl rfl rfl HO2 hb2 hb2.size (by rw [List.length_append, List.length_singleton]; omega) ?_
                  intro v2 w3 HO3 hb3 _ _
                  go_wp2
                  exact ⟨WrRel.next hm hacc (by simp) HANS.out HPC.out (by rw [List.append_assoc] at HO3; exact HO3) hb3, by simp [RowKit.intOf]; omega⟩
              · have HPC := Aside0.mk (pc_one (k := k) (r := r) hc0 hsp' hq1 hq2)
                by_cases h35 : c = 35
                · have hk00 : ¬ (k : Int) = 0 := fun h => hq1 ⟨by omega, .inl h35⟩
                  by_cases hr : r = []
                  · have hszk : (s.size : Int) - 1 = (k : Int) := by rw [hr, List.length_nil] at hml; omega
                    subst h35
                    clear hsp hsp' hc0 hq1 hq2 hr
                    go_wp2_with (first | (go_at_call 45; refine (cB _).mono ?_; rintro e w5 ⟨rfl, rfl⟩) | (at_builtin; refine Aside0.out ?_))
                    all_goals
                      refine ⟨?_⟩
                      refine print_append_of (w0 := w) eB w.heap.size rfl _ _ 64 5 (.int .u8 0) 1 rfl Tryd.underlying64 byte_info rfl (by omega) u3 acc (35 : UInt8) rfl rfl rfl HO.out hbel hbel.size (by omega) ?_
                      intro v1 w2 HO2 hb2 _ _
                      go_wp2
                      exact ⟨WrRel.next hm hacc (by simp) HANS.out HPC.out HO2 hb2, by simp [RowKit.intOf]; omega⟩
                  · have hszk : ¬ (k : Int) = (s.size : Int) - 1 := by
                      cases r with
                      | nil => exact absurd rfl hr
                      | cons y u => simp only [List.length_cons] at hml; omega
                    subst h35
                    clear hsp hsp' hc0 hq1 hq2 hr
                    go_wp2_with (first | (go_at_call 45; refine (cB _).mono ?_; rintro e w5 ⟨rfl, rfl⟩) | (at_builtin; refine Aside0.out ?_))
                    all_goals
                      refine ⟨?_⟩
                      refine print_append_of (w0 := w) eB w.heap.size rfl _ _ 64 5 (.int .u8 0) 1 rfl Tryd.underlying64 byte_info rfl (by omega) u3 acc (35 : UInt8) rfl rfl rfl HO.out hbel hbel.size (by omega) ?_
                      intro v1 w2 HO2 hb2 _ _
                      go_wp2
                      exact ⟨WrRel.next hm hacc (by simp) HANS.out HPC.out HO2 hb2, by simp [RowKit.intOf]; omega⟩
                · by_cases h32 : c = 32
                  · have hk00 : ¬ (k : Int) = 0 := fun h => hq1 ⟨by omega, .inr h32⟩
                    have hszk : ¬ (k : Int) = (s.size : Int) - 1 := by
                      cases r with
                      | nil => exact absurd ⟨rfl, h32⟩ hq2
                      | cons y u => simp only [List.length_cons] at hml; omega
                    subst h32
                    clear hsp hsp' hc0 hq1 hq2
                    go_wp2_with (first | (go_at_call 45; refine (cB _).mono ?_; rintro e w5 ⟨rfl, rfl⟩) | (at_builtin; refine Aside0.out ?_))
                    all_goals
                      refine ⟨?_⟩
                      refine print_append_of (w0 := w) eB w.heap.size rfl _ _ 64 5 (.int .u8 0) 1 rfl Tryd.underlying64 byte_info rfl (by omega) u3 acc (32 : UInt8) rfl rfl rfl HO.out hbel hbel.size (by omega) ?_
                      intro v1 w2 HO2 hb2 _ _
                      go_wp2
                      exact ⟨WrRel.next hm hacc (by simp) HANS.out HPC.out HO2 hb2, by simp [RowKit.intOf]; omega⟩
                  · have hx35 : ¬ (c.toNat : Int) = 35 := u8_ne (n := 35) h35
                    have hx32 : ¬ (c.toNat : Int) = 32 := u8_ne (n := 32) h32
                    have hb35 : ((c.toNat : Int) == 35) = false := beq_eq_false_iff_ne.2 hx35
                    have hb32 : ((c.toNat : Int) == 32) = false := beq_eq_false_iff_ne.2 hx32
                    by_cases hr : r = []
                    · have hszk : (s.size : Int) - 1 = (k : Int) := by rw [hr, List.length_nil] at hml; omega
                      clear hsp hsp' hc0 hq1 hq2 h35 h32 hr
                      by_cases hk0z : k = 0
                      · subst hk0z
                        go_wp2_with (first | (go_at_call 45; refine (cB _).mono ?_; rintro e w5 ⟨rfl, rfl⟩) | (at_builtin; refine Aside0.out ?_))
                        all_goals
                          refine ⟨?_⟩
                          refine print_append_of (w0 := w) eB w.heap.size rfl _ _ 64 5 (.int .u8 0) 1 rfl Tryd.underlying64 byte_info rfl (by omega) u3 acc c rfl rfl rfl HO.out hbel hbel.size (by omega) ?_
                          intro v1 w2 HO2 hb2 _ _
                          go_wp2
                          exact ⟨WrRel.next hm hacc (by simp) HANS.out HPC.out HO2 hb2, by simp [RowKit.intOf]; omega⟩
                      · have hk00 : ¬ (k : Int) = 0 := by omega
                        clear hk0z
                        go_wp2_with (first | (go_at_call 45; refine (cB _).mono ?_; rintro e w5 ⟨rfl, rfl⟩) | (at_builtin; refine Aside0.out ?_))
                        all_goals
                          refine ⟨?_⟩
                          refine print_append_of (w0 := w) eB w.heap.size rfl _ _ 64 5 (.int .u8 0) 1 rfl Tryd.underlying64 byte_info rfl (by omega) u3 acc c rfl rfl rfl HO.out hbel hbel.size (by omega) ?_
                          intro v1 w2 HO2 hb2 _ _
                          go_wp2
                          exact ⟨WrRel.next hm hacc (by simp) HANS.out HPC.out HO2 hb2, by simp [RowKit.intOf]; omega⟩
                    · have hszk : ¬ (k : Int) = (s.size : Int) - 1 := by
                        cases r with
                        | nil => exact absurd rfl hr
                        | cons y u => simp only [List.length_cons] at hml; omega
                      clear hsp hsp' hc0 hq1 hq2 h35 h32 hr
                      by_cases hk0z : k = 0
                      · subst hk0z
                        go_wp2_with (first | (go_at_call 45; refine (cB _).mono ?_; rintro e w5 ⟨rfl, rfl⟩) | (at_builtin; refine Aside0.out ?_))
                        all_goals
                          refine ⟨?_⟩
                          refine print_append_of (w0 := w) eB w.heap.size rfl _ _ 64 5 (.int .u8 0) 1 rfl Tryd.underlying64 byte_info rfl (by omega) u3 acc c rfl rfl rfl HO.out hbel hbel.size (by omega) ?_
                          intro v1 w2 HO2 hb2 _ _
                          go_wp2
                          exact ⟨WrRel.next hm hacc (by simp) HANS.out HPC.out HO2 hb2, by simp [RowKit.intOf]; omega⟩
                      · have hk00 : ¬ (k : Int) = 0 := by omega
                        clear hk0z
                        go_wp2_with (first | (go_at_call 45; refine (cB _).mono ?_; rintro e w5 ⟨rfl, rfl⟩) | (at_builtin; refine Aside0.out ?_))
                        all_goals
                          refine ⟨?_⟩
                          refine print_append_of (w0 := w) eB w.heap.size rfl _ _ 64 5 (.int .u8 0) 1 rfl Tryd.underlying64 byte_info rfl (by omega) u3 acc c rfl rfl rfl HO.out hbel hbel.size (by omega) ?_
                          intro v1 w2 HO2 hb2 _ _
                          go_wp2
                          exact ⟨WrRel.next hm hacc (by simp) HANS.out HPC.out HO2 hb2, by simp [RowKit.intOf]; omega⟩
end Go.Proofs.YtneclgjjnnldpaaDoor.Rd
end
section
/- strings.Join over a list of one's own; a name in memory as a plain name. Conditions: as told. -/
namespace Go.Proofs.YtneclgjjnnldpaaDoor.Rd
open Go Go.RowKit Go.Lib Go.Proofs.YtneclgjjnnldpaaDoor.PFn Go.Proofs.YtneclgjjnnldpaaDoor.Dp Go.Proofs.YtneclgjjnnldpaaDoorW.PrintWords

theorem extraB : Builder.Extra Tryd.prog Tryd.lays156_ren where
  sizeBuilder := by kernel_rfl
  liesBuilder := by kernel_rfl
  t5 := Tryd.underlying5
  a5 := Tryd.isAgg5
  z5 := Tryd.sizeOf5
  v5 := Tryd.zeroValue5
  infoByte := by kernel_rfl
  cellsByte := by kernel_rfl
  sizeByte := by kernel_rfl
  neB5 := by decide
theorem own_cells_str {w : World} {base g n cap : Nat} {xs : List ByteArray} (h : w.ownsRow base 9 1 (.slice (some ⟨g, 0, none⟩) n cap) xs.length (encs Value.string xs)) : g < w.heap.size ∧ ∀ (j : Nat) x, xs[j]? = some x → w.cell? ⟨g, 0 + j, none⟩ = some (.string x) := by
  refine ⟨own_lt h g rfl, fun j x hj => ?_⟩
  obtain ⟨A, c, he, hr⟩ := own_reads_of (d := (⟨#[]⟩ : ByteArray)) h
  injection he with he _ _
  have hjl := (List.getElem?_eq_some_iff.1 hj).1
  obtain ⟨ad, hA, hc⟩ := hr.at_ (j : Int) (by omega) (by omega)
  rw [← he] at hA
  injection hA with hA
  subst hA
  rw [add_plain, Int.toNat_natCast] at hc
  have hg : rdOf (⟨#[]⟩ : ByteArray) xs (j : Int) = x := by
    unfold rdOf
    rw [Int.toNat_natCast, List.getD_eq_getElem?_getD, hj]
    rfl
  rw [hg] at hc
  rw [Nat.zero_add]
  exact hc
theorem join_c {w : World} {base : Nat} {v : Value} {xs : List ByteArray} (s : UInt8) (h : w.ownsRow base 9 1 v xs.length (encs Value.string xs)) (hN : xs.length ≤ 1000000) (hlen : (joinN 0 s (xs.map bl)).length ≤ 140737488355328) :
    Calls Tryd.prog 26 #[v, .string ⟨#[s]⟩] w fun e w' => e = .returned (.string ⟨(joinN 0 s (xs.map bl)).toArray⟩) ∧ Below w.heap.size w w' := by
  have hj : Lib.join (xs.map (·.data.toList)) (⟨#[s]⟩ : ByteArray).data.toList = joinN 0 s (xs.map bl) := join_joinN s (xs.map bl)
  have hh := h
  rcases h.2 with ⟨rfl, hx⟩ | ⟨g, cap, cur, rfl, hg, hb, r⟩
  · have hx0 : xs = [] := by
      cases xs with
      | nil => rfl
      | cons x r => simp at hx
    subst hx0
    exact (Any.strings_Join_none Tryd.lays156 extraB none 0 ⟨#[s]⟩ w).mono fun e w' ⟨he, hw⟩ => ⟨he, hw ▸ Below.refl _ _⟩
  · obtain ⟨h1, h2⟩ := own_cells_str hh
    have := Any.strings_Join Tryd.lays156 extraB g 0 cap xs ⟨#[s]⟩ w h2 h1 (by omega) (own_le hh) (by rw [hj]; exact hlen)
    rw [hj] at this
    exact this

/-! ### a name in memory as a plain name -/
def aP (x : S39) : Ava := (bl x.f0, bl x.f1)
def rP (r : List S39) : List Ava := r.map aP
def dP (d : List (List S39)) : List (List Ava) := d.map rP
theorem aP_sA (a : Ava) : aP (sA a) = a := rfl
theorem sA_aP (x : S39) : sA (aP x) = x := rfl
theorem rP_sR (r : List Ava) : rP (sR r) = r := by
  unfold rP sR
  rw [List.map_map]
  exact List.map_id r
theorem dP_sR (d : List (List Ava)) : dP (d.map sR) = d := by
  unfold dP
  rw [List.map_map]
  conv => rhs; rw [← List.map_id d]
  apply List.map_congr_left
  intro r _
  exact rP_sR r
theorem sR_rP (r : List S39) : sR (rP r) = r := by
  unfold rP sR
  rw [List.map_map]
  exact List.map_id r
theorem sR_dP (d : List (List S39)) : (dP d).map sR = d := by
  unfold dP
  rw [List.map_map]
  conv => rhs; rw [← List.map_id d]
  apply List.map_congr_left
  intro r _
  exact sR_rP r
theorem longM_dP (d : List (List S39)) : longM d = tooLong (dP d) := by
  rw [← long_map, sR_dP]
def wrongA (x : S39) : Bool := !isType (bl x.f0)
def wrongR (r : List S39) : Bool := r.isEmpty || r.any wrongA
theorem wrong_dP (d : List (List S39)) : wrong (dP d) = d.any wrongR := by
  unfold wrong dP
  rw [List.any_map]
  congr 1
  funext r
  show ((rP r).isEmpty || (rP r).any fun a => !isType a.1) = wrongR r
  unfold rP wrongR
  rw [List.any_map, List.isEmpty_map]
  rfl
def pairS (x : S39) : ByteArray := x.f0 ++ ⟨#[61]⟩ ++ ⟨(Dp.written (bl x.f1)).toArray⟩
theorem bl_cat (a b : ByteArray) : bl (a ++ b) = bl a ++ bl b := by
  unfold bl
  rw [ByteArray.data_append, Array.toList_append]
theorem bl_pairS (x : S39) : bl (pairS x) = pairN 0 (aP x) := by
  unfold pairS
  rw [bl_cat, bl_cat, List.append_assoc]
  rfl
def partS (r : List S39) : ByteArray := ⟨(partN 0 (rP r)).toArray⟩
theorem pairs_bl (r : List S39) : joinN 0 43 ((r.map pairS).map bl) = partN 0 (rP r) := by
  unfold partN rP
  rw [List.map_map, List.map_map]
  congr 1
  apply List.map_congr_left
  intro x _
  exact bl_pairS x
theorem parts_bl (d : List (List S39)) : joinN 0 44 ((d.map partS).map bl) = nameN 0 (dP d) := by
  unfold nameN dP
  rw [List.map_map, List.map_map]
  rfl
/-- what is right and not too long is short -/
theorem pair_short {d : List (List S39)} (hw : wrong (dP d) = false) (hl : tooLong (dP d) = false) : d.length ≤ 20 ∧ ∀ r ∈ d, r.length ≤ 4 ∧ ∀ x ∈ r, x.f0.size ≤ 64 ∧ x.f1.size ≤ 1024 := by
  obtain ⟨h1, h2⟩ := tooLong_no hl
  have h3 := wrong_no hw
  refine ⟨by unfold dP at h1; rwa [List.length_map] at h1, fun r hr => ?_⟩
  have hm : rP r ∈ dP d := List.mem_map.2 ⟨r, hr, rfl⟩
  obtain ⟨h4, h5⟩ := h2 _ hm
  obtain ⟨_, h7⟩ := h3 _ hm
  refine ⟨by unfold rP at h4; rwa [List.length_map] at h4, fun x hx => ?_⟩
  have hx' : aP x ∈ rP r := List.mem_map.2 ⟨x, hx, rfl⟩
  have h8 := h5 _ hx'
  have h9 := isType_len (h7 _ hx')
  rw [show (aP x).2 = bl x.f1 from rfl, bl_size] at h8
  rw [show (aP x).1 = bl x.f0 from rfl, bl_size] at h9
  exact ⟨h9, h8⟩
theorem pairN_short {x : S39} (h0 : x.f0.size ≤ 64) (h1 : x.f1.size ≤ 1024) : (pairN 0 (aP x)).length ≤ 3200 := by
  have := written_len (bl x.f1)
  rw [bl_size] at this
  show (bl x.f0 ++ (rep 0 ++ 61 :: (rep 0 ++ Dp.written (bl x.f1)))).length ≤ _
  simp only [List.length_append, List.length_cons, rep_len, bl_size]
  omega
theorem partN_short {r : List S39} (h : r.length ≤ 4) (h2 : ∀ x ∈ r, x.f0.size ≤ 64 ∧ x.f1.size ≤ 1024) : (partN 0 (rP r)).length ≤ 13000 := by
  have := joinN_len 43 3200 ((rP r).map (pairN 0)) (fun y hy => by
    obtain ⟨a, ha, rfl⟩ := List.mem_map.1 hy
    obtain ⟨x, hx, rfl⟩ := List.mem_map.1 ha
    exact pairN_short (h2 x hx).1 (h2 x hx).2)
  unfold partN
  have e : ((rP r).map (pairN 0)).length = r.length := by unfold rP; rw [List.length_map, List.length_map]
  rw [e] at this
  have := Nat.mul_le_mul_right (3200 + 1) h
  omega
theorem nameN_short {d : List (List S39)} (hw : wrong (dP d) = false) (hl : tooLong (dP d) = false) : (nameN 0 (dP d)).length ≤ 300000 := by
  obtain ⟨h1, h2⟩ := pair_short hw hl
  have := joinN_len 44 13000 ((dP d).map (partN 0)) (fun y hy => by
    obtain ⟨a, ha, rfl⟩ := List.mem_map.1 hy
    obtain ⟨r, hr, rfl⟩ := List.mem_map.1 ha
    exact partN_short (h2 r hr).1 (h2 r hr).2)
  unfold nameN
  have e : ((dP d).map (partN 0)).length = d.length := by unfold dP; rw [List.length_map, List.length_map]
  rw [e] at this
  have := Nat.mul_le_mul_right (13000 + 1) h1
  omega
end Go.Proofs.YtneclgjjnnldpaaDoor.Rd
end
section
/- The walk of dn's Print: it answers the plain function. Conditions: the name reads; sizes as a row bounds them; the listed tables hold what the program lays in them. -/
namespace Go.Proofs.YtneclgjjnnldpaaDoor.Rd
open Go Go.RowKit Go.Lib Go.Proofs.YtneclgjjnnldpaaDoor.PFn Go.Proofs.YtneclgjjnnldpaaDoor.Dp Go.Proofs.YtneclgjjnnldpaaDoorW.PrintWords

set_option maxHeartbeats 400000 in
theorem wrongA_c (x : S39) (W : World) (hs : x.f0.size ≤ 140737488351232) (hE : Env W) : Calls Tryd.prog 23 #[.agg #[.string x.f0, .string x.f1]] W fun e w' => e = .returned (.bool (wrongA x)) ∧ Below W.heap.size W w' := by
  have cI := fun W' (h : Env W') => isType_c x.f0 W' hs h
  obtain ⟨b, hb⟩ : ∃ b, isType (bl x.f0) = b := ⟨_, rfl⟩
  have hw : wrongA x = !b := by unfold wrongA; rw [hb]
  rw [hb] at cI
  rw [hw]
  clear hb hw
  go_enter Tryd.func23, Tryd.ntmps23
  go_wp2_with fail
  refine (cI _ (hE.below (below_alloc (Below.refl _ _) _))).mono ?_
  rintro e w1 ⟨rfl, hb1⟩
  go_wp2
  go_ret
  exact ⟨rfl, below_seq (below_alloc (Below.refl _ _) _) hb1⟩
theorem e_wrong : ∀ args w, (callFunc 23 args).run Tryd.prog w = .ok (.enter 23 args) w := enters_of Tryd.func23 (by kernel_rfl) rfl
theorem wrongAny_c (B : Option Addr) (c : Nat) (l : List S39) (W : World) (hl : kA.C W B l.length l) (hz : l.length ≤ 140737488351232) (hs : ∀ x ∈ l, x.f0.size ≤ 140737488351232) (hE : Env W) :
    Calls Tryd.prog 22 #[.slice B l.length c, .func (.func 23) #[] #[]] W fun e w' => e = .returned (.bool (l.any wrongA)) ∧ Below W.heap.size W w' :=
  contA_c 23 e_wrong wrongA B c l W hl hz (fun W' hb x hx => wrongA_c x W' (hs x hx) (hE.below hb))
/-- what a name in memory must be -/
structure Fine (d : List (List S39)) : Prop where
  z : d.length ≤ 140737488351232
  zz : ∀ r ∈ d, r.length ≤ 140737488351232
  ss : ∀ r ∈ d, ∀ x ∈ r, x.f0.size ≤ 140737488351232
def PrintP (w : World) (r : Bs × Nat) (e : Ending) (w' : World) : Prop := e = .returned (.tuple #[.string ⟨r.1.toArray⟩, .int .i64 (r.2 : Int)]) ∧ Below w.heap.size w w'
/-- the own block's cells stay where a list is grown -/
theorem far_cells {wr wa w4 w5 : World} {v : Value} {a b : Value} {o : Obj} (hb4 : Below wa.drew.heap.size wa.drew w4) (hlt : ∀ k, v.ownBlock = some k → k < wr.heap.size) (hg : (w4.alloc o).grownBy w5 v.ownBlock)
    (h0 : wa.cell? ⟨wr.heap.size, 0, none⟩ = some a) (h1 : wa.cell? ⟨wr.heap.size, 1, none⟩ = some b) : w5.cell? ⟨wr.heap.size, 0, none⟩ = some a ∧ w5.cell? ⟨wr.heap.size, 1, none⟩ = some b := by
  have key : ∀ (i : Nat) (u : Value), wa.cell? ⟨wr.heap.size, i, none⟩ = some u → w5.cell? ⟨wr.heap.size, i, none⟩ = some u := fun i u h => by
    have hd : wa.drew.cell? ⟨wr.heap.size, i, none⟩ = some u := h
    have h4 := pw_cell_below (below_alloc (Below.refl _ w4) o) (pw_cell_below hb4 hd)
    rw [hg.cell_far _ (World.block_lt_of_cell? _ _ h4) (fun e => by have := hlt wr.heap.size e.symm; omega)]
    exact h4
  exact ⟨key 0 a h0, key 1 b h1⟩
def P1Rel (d : List (List S39)) (w : World) (v15 : Value) (wr : World) : Prop := ∃ k : Nat, v15 = .int .i64 (k : Int) ∧ k ≤ d.length ∧ (∀ r ∈ d.take k, wrongR r = false) ∧ Below w.heap.size w wr
def P2Rel (d : List (List S39)) (w w1 : World) (v6 v31 : Value) (wr : World) : Prop := ∃ k : Nat, v31 = .int .i64 (k : Int) ∧ k ≤ d.length ∧ wr.ownsRow w1.heap.size 9 1 v6 ((d.take k).map partS).length (encs Value.string ((d.take k).map partS)) ∧ Below w1.heap.size w1 wr ∧ Below w.heap.size w wr
def P3Rel (r : List S39) (w1 : World) (v9 v37 : Value) (wr : World) : Prop := ∃ k : Nat, v37 = .int .i64 (k : Int) ∧ k ≤ r.length ∧ wr.ownsRow w1.heap.size 9 1 v9 ((r.take k).map pairS).length (encs Value.string ((r.take k).map pairS)) ∧ Below w1.heap.size w1 wr
set_option maxHeartbeats 2000000 in
set_option maxRecDepth 100000 in
theorem print_c (A : Option Addr) (c : Nat) (d : List (List S39)) (w : World) (hC : kR.C w A d.length d) (hF : Fine d) (hE : Env w) :
    Calls Tryd.prog 12 #[.slice A d.length c] w (PrintP w (printL (dP d))) := by
  have HC := Aside0.mk hC
  have HFN := Aside0.mk hF
  have hdz := hF.z
  obtain ⟨si0, shi, shz0, shz1, shz2⟩ := info_parts str_info
  obtain ⟨ANS, hA⟩ : ∃ b, printL (dP d) = b := ⟨_, rfl⟩
  rw [hA]
  have hA2 : ANS = if d.any wrongR then ([], 30) else if tooLong (dP d) then ([], 2) else if 65536 < (nameN 0 (dP d)).length then ([], 2) else (nameN 0 (dP d), 0) := by rw [← hA, ← wrong_dP]; rfl
  have HA := Aside0.mk hA2
  clear hC hF hA hA2
  go_enter Tryd.func12, Tryd.ntmps12
  go_wp2_with fail
  go_loopw [5, 15] (fun _ v15 wr => P1Rel d w v15 wr) (fun _ v15 _ => d.length - (RowKit.intOf v15).toNat)
  case atStart => exact ⟨0, rfl, Nat.zero_le _, fun x hx => by simp at hx, Below.refl _ _⟩
  case round =>
    obtain ⟨k, rfl, hk, hall, hb⟩ := hrel
    have HALL := Aside0.mk hall
    have HB := Aside0.mk hb
    clear hall hb
    by_cases hlt : k < d.length
    · have hki : (k : Int) < (d.length : Int) := by omega
      obtain ⟨ad, B, cc, rfl, h0, h1, h2⟩ := at_rdn (Kd.C_below HC.out HB.out) k hlt
      have hmem : d[k] ∈ d := List.getElem_mem hlt
      have hrz := HFN.out.zz _ hmem
      have cW := fun W (hW : Below wr.heap.size wr W) => wrongAny_c B cc d[k] W (Kd.C_below h2 hW) hrz (HFN.out.ss _ hmem) (hE.below (below_seq HB.out hW))
      have HIT : Aside0 (wrongR d[k] = true → d.any wrongR = true) := ⟨any_hit hlt⟩
      have MISS : Aside0 (wrongR d[k] = false → ∀ x ∈ d.take (k + 1), wrongR x = false) := ⟨take_miss hlt HALL.out⟩
      clear h2 hmem
      generalize d[k] = r at *
      by_cases hr0 : r.length = 0
      · have hf : ANS = ([], 30) := by
          rw [HA.out, HIT.out (by unfold wrongR; rw [List.length_eq_zero_iff.1 hr0]; rfl)]
          rfl
        subst hf
        have hr0b : ((r.length : Int) == 0) = true := by rw [hr0]; rfl
        clear hr0 HIT MISS cW
        go_wp2
        go_ret2
        exact ⟨rfl, HB.out⟩
      · have hr0i : ¬ (r.length : Int) = 0 := by omega
        have hr0b : ((r.length : Int) == 0) = false := beq_eq_false_iff_ne.2 hr0i
        have hne : r.isEmpty = false := by cases r with
          | nil => exact absurd rfl hr0
          | cons y u => rfl
        cases hq : r.any wrongA with
        | true =>
          have hf : ANS = ([], 30) := by
            rw [HA.out, HIT.out (by unfold wrongR; rw [hq, Bool.or_true])]
            rfl
          subst hf
          rw [hq] at cW
          clear hq hr0 HIT MISS hne
          go_wp2_with fail
          refine (cW _ (Below.refl _ _)).mono ?_
          rintro e w1 ⟨rfl, hb1⟩
          go_wp2
          go_ret2
          exact ⟨rfl, below_seq HB.out hb1⟩
        | false =>
          have hw : Aside0 (∀ x ∈ d.take (k + 1), wrongR x = false) := ⟨MISS.out (by unfold wrongR; rw [hq, hne]; rfl)⟩
          rw [hq] at cW
          clear hq hr0 HIT MISS hne
          go_wp2_with fail
          refine (cW _ (Below.refl _ _)).mono ?_
          rintro e w1 ⟨rfl, hb1⟩
          go_wp2
          exact ⟨⟨k + 1, by go_num, by omega, hw.out, below_seq HB.out hb1⟩, by simp [RowKit.intOf]; omega⟩
    · have hke : k = d.length := by omega
      subst hke
      have hany : d.any wrongR = false := any_miss HALL.out
      have hw : wrong (dP d) = false := by rw [wrong_dP]; exact hany
      have cT := tooLong_c A c d wr (Kd.C_below HC.out HB.out) HFN.out.z HFN.out.zz
      rw [longM_dP] at cT
      have HA2 : Aside0 (ANS = if tooLong (dP d) then ([], 2) else if 65536 < (nameN 0 (dP d)).length then ([], 2) else (nameN 0 (dP d), 0)) := ⟨by rw [HA.out, hany]; rfl⟩
      clear hany HA HALL
      cases hT : tooLong (dP d) with
      | true =>
        have hf : ANS = ([], 2) := by rw [HA2.out, hT]; rfl
        subst hf
        rw [hT] at cT
        clear hT hw HA2
        go_wp2_with fail
        refine cT.mono ?_
        rintro e w1 ⟨rfl, hb1⟩
        go_wp2
        go_ret2
        exact ⟨rfl, below_seq HB.out hb1⟩
      | false =>
        have HA3 : Aside0 (ANS = if 65536 < (nameN 0 (dP d)).length then ([], 2) else (nameN 0 (dP d), 0)) := ⟨by rw [HA2.out, hT]; rfl⟩
        rw [hT] at cT
        have hshort := pair_short hw hT
        have hnlen := nameN_short hw hT
        have HS := Aside0.mk hshort.2
        have hd20 := hshort.1
        clear hT hw HA2 hshort
        go_wp2_with fail
        refine cT.mono ?_
        rintro e w1 ⟨rfl, hb1⟩
        have HB1 : Aside0 (Below w.heap.size w w1) := ⟨below_seq HB.out hb1⟩
        clear hb1 HB cT
        go_wp2_with fail
        go_loopw [6, 31] (fun v6 v31 wr => P2Rel d w w1 v6 v31 wr) (fun _ v31 _ => d.length - (RowKit.intOf v31).toNat)
        case atStart => exact ⟨0, rfl, Nat.zero_le _, own_nil _ _ _ _, Below.refl _ _, HB1.out⟩
        case round =>
          obtain ⟨k, rfl, hk, hown6, hb2, hbw⟩ := hrel
          have HO6 := Aside0.mk hown6
          have HB2 := Aside0.mk hb2
          have HBW := Aside0.mk hbw
          clear hown6 hb2 hbw
          by_cases hlt : k < d.length
          · have hki : (k : Int) < (d.length : Int) := by omega
            obtain ⟨ad, B, cc, hAd, h0, h1, h2⟩ := at_rdn (Kd.C_below HC.out HBW.out) k hlt
            have hx := HS.out _ (List.getElem_mem hlt)
            have HSN : Aside0 ((d.take (k + 1)).map partS = (d.take k).map partS ++ [partS d[k]]) := ⟨by rw [List.take_succ_eq_append_getElem hlt, List.map_append]; rfl⟩
            have H2 := Aside0.mk h2
            have HX := Aside0.mk hx.2
            have hr4 := hx.1
            clear h2 hx
            generalize d[k] = r at *
            obtain ⟨n, hn⟩ : ∃ n, ((d.take k).map partS).length = n := ⟨_, rfl⟩
            have hnk : n ≤ 20 := by rw [← hn, List.length_map, List.length_take]; omega
            have HN := Aside0.mk hn
            clear hn
            subst hAd
            obtain ⟨wo, rfl⟩ : ∃ wo : World, wo = wr := ⟨_, rfl⟩
            go_wp2_with fail
            go_loopw [9, 37] (fun v9 v37 w' => P3Rel r wo v9 v37 w') (fun _ v37 _ => r.length - (RowKit.intOf v37).toNat)
            case atStart => exact ⟨0, rfl, Nat.zero_le _, own_nil _ _ _ _, Below.refl _ _⟩
            case round =>
              obtain ⟨i, rfl, hi, hown9, hb3⟩ := hrel
              have HO9 := Aside0.mk hown9
              have HB3 := Aside0.mk hb3
              clear hown9 hb3
              by_cases hlt2 : i < r.length
              · have hii : (i : Int) < (r.length : Int) := by omega
                obtain ⟨ad2, hB2, e0, e1⟩ := at_ava (Kd.C_below H2.out HB3.out) i hlt2
                have hx2 := HX.out _ (List.getElem_mem hlt2)
                have HSN2 : Aside0 ((r.take (i + 1)).map pairS = (r.take i).map pairS ++ [pairS r[i]]) := ⟨by rw [List.take_succ_eq_append_getElem hlt2, List.map_append]; rfl⟩
                generalize r[i] = x at *
                subst hB2
                go_wp2_with fail
                have hblk := blk_new wr (.cells #[.string x.f0, .string x.f1] 39)
                have hba : Below wr.heap.size wr (wr.alloc (.cells #[.string x.f0, .string x.f1] 39)) := below_alloc (Below.refl _ _) _
                have hwl : (Dp.written (bl x.f1)).length ≤ 3073 := by
                  have := written_len (bl x.f1)
                  rw [bl_size] at this
                  omega
                have hadd1 : ∀ w : World, (Op.stringOp .add x.f0 ⟨#[61]⟩).run Tryd.prog w = .ok (.string (x.f0 ++ ⟨#[61]⟩)) w := fun w => run_string_add_sum (P := Tryd.prog) w x.f0 ⟨#[61]⟩ (by show x.f0.size + 1 ≤ _; omega)
                have hadd2 : ∀ w : World, (Op.stringOp .add (x.f0 ++ ⟨#[61]⟩) ⟨(Dp.written (bl x.f1)).toArray⟩).run Tryd.prog w = .ok (.string (pairS x)) w := fun w => run_string_add_sum (P := Tryd.prog) w (x.f0 ++ ⟨#[61]⟩) ⟨(Dp.written (bl x.f1)).toArray⟩ (by
                  have h1 : (x.f0 ++ (⟨#[61]⟩ : ByteArray)).size = x.f0.size + 1 := by rw [← bl_size, bl_cat, List.length_append, bl_size]; rfl
                  have h2 : (⟨(Dp.written (bl x.f1)).toArray⟩ : ByteArray).size = (Dp.written (bl x.f1)).length := by show (Dp.written (bl x.f1)).toArray.size = _; simp
                  rw [h1, h2]
                  omega)
                have cW := fun W (hW : Env W) => written_c x.f1 W (by omega) hW
                have HBA := Aside0.mk hba
                clear hba e0 e1
                generalize wr.alloc (.cells #[.string x.f0, .string x.f1] 39) = wa at *
                have e0 : wa.cell? ⟨wr.heap.size, 0, none⟩ = some (.string x.f0) := blk_cell hblk 0
                have e1 : wa.cell? ⟨wr.heap.size, 1, none⟩ = some (.string x.f1) := blk_cell hblk 1
                have hEa : Env wa := hE.below (below_seq HBW.out (below_then HB3.out HB3.out.size HBA.out))
                have hEd : Env wa.drew := hEa
                have HOa : Aside0 (wa.drew.ownsRow wo.heap.size 9 1 u9 ((r.take i).map pairS).length (encs Value.string ((r.take i).map pairS))) := ⟨(pw_own_below HO9.out HBA.out).drew⟩
                have HBd : Aside0 (Below wo.heap.size wo wa.drew) := ⟨below_drew (below_then HB3.out HB3.out.size HBA.out)⟩
                have hni : ((r.take i).map pairS).length ≤ 4 := by rw [List.length_map, List.length_take]; omega
                clear hblk
                go_region_held3 (fun w' => w'.cell? ⟨wr.heap.size, 0, none⟩ = some (.string x.f0) ∧ w'.cell? ⟨wr.heap.size, 1, none⟩ = some (.string x.f1)) (first | go_keep | exact ⟨pw_cell_below hb4 (by assumption), pw_cell_below hb4 (by assumption)⟩ | exact far_cells hb4 (own_lt HO9.out) hg5 e0 e1) (first | (go_at_call 25; refine (cW _ hEd).mono ?_; rintro e w4 ⟨rfl, hb4⟩) | (refine step_append_lies _ rfl _ _ _ rfl wo.heap.size 9 si0 (.string ByteArray.empty) 1 16 Tryd.underlying50 shi shz0 shz1 shz2 rfl (by omega) u9 ((r.take i).map pairS).length (encs Value.string ((r.take i).map pairS)) rfl ((pw_own_below HOa.out hb4).alloc _) ⟨w4.heap.size, 0, none⟩ 1 1 [.string (pairS x)] rfl rfl (World.news_of_block (cs := #[.string (pairS x)]) (t := 9) (fr := (0, 0)) (heap_alloc_new w4 _)) (by intro u hu; rw [List.mem_singleton.1 hu]; rfl) (by omega) (by simp only [maxLen]; omega) (by omega) (Nat.le_trans HBd.out.size (Nat.le_trans hb4.size (by rw [World.size_alloc]; exact Nat.le_succ _))) _ rfl ?_; intro gg cap w5 HO5 hg5 _ _))
                have HB5 : Aside0 (Below wo.heap.size wo w5) := ⟨((below_then HBd.out HBd.out.size hb4).alloc (Nat.le_trans HBd.out.size hb4.size) _).grown hg5 (Nat.le_trans HBd.out.size (Nat.le_trans hb4.size (by rw [World.size_alloc]; exact Nat.le_succ _))) (own_base HO9.out)⟩
                have HO5' : Aside0 (w5.ownsRow wo.heap.size 9 1 (.slice (some ⟨gg, 0, none⟩) (i + 1) cap) ((r.take (i + 1)).map pairS).length (encs Value.string ((r.take (i + 1)).map pairS))) := ⟨by
                  have hmi : ((r.take i).map pairS).length = i := by rw [List.length_map, List.length_take]; omega
                  have h5 := HO5
                  rw [hmi] at h5
                  rw [HSN2.out, List.length_append, encs_append, hmi]
                  exact h5⟩
                clear HO5 hg5 hb4
                go_wp2
                exact ⟨⟨i + 1, by go_num, by omega, HO5'.out, HB5.out⟩, by simp [RowKit.intOf]; omega⟩
              · have hie : i = r.length := by omega
                have hii : ¬ (i : Int) < (r.length : Int) := by omega
                have ht : r.take i = r := by rw [hie, List.take_length]
                rw [ht] at HO9
                have hzz : ((r.map pairS)).length ≤ 4 := by rw [List.length_map]; exact hr4
                have cJ := join_c 43 HO9.out (by omega) (by rw [pairs_bl]; have := partN_short hr4 HX.out; omega)
                rw [pairs_bl] at cJ
                have HB6 : ∀ w6, Below wr.heap.size wr w6 → Aside0 (Below w1.heap.size w1 w6) := fun w6 h => ⟨below_then (below_then HB2.out HB2.out.size HB3.out) (Nat.le_trans HB2.out.size HB3.out.size) h⟩
                have HO66 : ∀ w6, Below wr.heap.size wr w6 → Aside0 (w6.ownsRow w1.heap.size 9 1 u6 ((d.take k).map partS).length (encs Value.string ((d.take k).map partS))) := fun w6 h => ⟨pw_own_below (pw_own_below HO6.out HB3.out) h⟩
                clear ht hie
                go_wp2_with fail
                refine cJ.mono ?_
                rintro e w6 ⟨rfl, hbJ⟩
                have HB7 := HB6 w6 hbJ
                have HO7 := HO66 w6 hbJ
                clear HB6 HO66 cJ
                go_wp2_with (at_builtin; refine print_append_of (w0 := w1) Value.string w1.heap.size rfl _ _ 50 9 (.string ByteArray.empty) 16 rfl Tryd.underlying50 str_info rfl (by omega) u6 ((d.take k).map partS) (partS r) rfl rfl rfl HO7.out HB7.out HB7.out.size (by rw [HN.out]; omega) ?_; intro v1 w8 HO8 HB8 _ _)
                exact ⟨⟨k + 1, by go_num, by omega, by rw [HSN.out]; exact HO8, HB8, below_seq HB1.out HB8⟩, by simp [RowKit.intOf]; omega⟩
          · have hke : k = d.length := by omega
            have hki : ¬ (k : Int) < (d.length : Int) := by omega
            have ht : d.take k = d := by rw [hke, List.take_length]
            rw [ht] at HO6
            have cJ := join_c 44 HO6.out (by rw [List.length_map]; omega) (by rw [parts_bl]; omega)
            rw [parts_bl] at cJ
            clear ht hke
            by_cases hbig : 65536 < (nameN 0 (dP d)).length
            · have hf : ANS = ([], 2) := by rw [HA3.out, if_pos hbig]
              subst hf
              have hbi : (65536 : Int) < (((nameN 0 (dP d)).length : Nat) : Int) := by omega
              go_wp2_with fail
              refine cJ.mono ?_
              rintro e w6 ⟨rfl, hbJ⟩
              go_wp2
              go_ret2
              exact ⟨rfl, below_seq HBW.out hbJ⟩
            · have hf : ANS = (nameN 0 (dP d), 0) := by rw [HA3.out, if_neg hbig]
              subst hf
              have hbi : ¬ (65536 : Int) < (((nameN 0 (dP d)).length : Nat) : Int) := by omega
              go_wp2_with fail
              refine cJ.mono ?_
              rintro e w6 ⟨rfl, hbJ⟩
              go_wp2
              go_ret2
              exact ⟨rfl, below_seq HBW.out hbJ⟩
end Go.Proofs.YtneclgjjnnldpaaDoor.Rd
end
