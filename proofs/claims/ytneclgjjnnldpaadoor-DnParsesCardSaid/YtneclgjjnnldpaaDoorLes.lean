/- The walk of the law DnEscapes: true at every value. Conditions: the listed tables hold what the program lays in them. -/
import Derived.Test.YtneclgjjnnldpaaDoorLba
namespace Go.Proofs.YtneclgjjnnldpaaDoor.Dp
theorem esc2_snoc (l : Bs) (c : UInt8) : esc2 (l ++ [c]) = esc2 l ++ [92, hexDigit (c.toNat / 16), hexDigit (c.toNat % 16)] := by
  unfold esc2
  rw [List.flatMap_append]
  rfl
theorem esc2_len (l : Bs) : (esc2 l).length = 3 * l.length := by
  unfold esc2
  induction l with
  | nil => rfl
  | cons c r ih => rw [List.flatMap_cons, List.length_append, ih]; simp; omega
theorem one_short {v : Bs} (h : v.length ≤ 1024) : tooLong [[([99, 110], v)]] = false := by
  unfold tooLong
  simp
  omega
theorem esc2_parse {v : Bs} (h : v.length ≤ 1024) : parseL (99 :: 110 :: 61 :: esc2 v) = ([[([99, 110], v)]], 0) := by
  unfold parseL
  rw [if_neg (by simp only [List.length_cons, esc2_len]; omega), esc2_name]
  dsimp only
  rw [one_short h]
  rfl
theorem hash_parse {v : Bs} (h : v.length ≤ 1024) : parseL (99 :: 110 :: 61 :: 35 :: hexW v) = if v = [] then ([], 30) else ([[([99, 110], v)]], 0) := by
  unfold parseL
  rw [if_neg (by simp only [List.length_cons, hexW_le]; omega), hash_name]
  by_cases hv : v = []
  · rw [if_pos hv, if_pos hv]
  · rw [if_neg hv, if_neg hv]
    dsimp only
    rw [one_short h]
    rfl
end Go.Proofs.YtneclgjjnnldpaaDoor.Dp
namespace Go.Proofs.YtneclgjjnnldpaaDoor.Rd
open Go Go.RowKit Go.Lib Go.Proofs.YtneclgjjnnldpaaDoor.PFn Go.Proofs.YtneclgjjnnldpaaDoor.Dp Go.Proofs.YtneclgjjnnldpaaDoorW.PrintWords Go.Proofs.YtneclgjjnnldpaaDoor.Rk

theorem dig_cut (n : Nat) (hn : n < 16) (w : World) : (Instr.slice 9 (.string ⟨#[48, 49, 50, 51, 52, 53, 54, 55, 56, 57, 97, 98, 99, 100, 101, 102]⟩) (some (.int .u8 (n : Int))) (some (.int .u8 ((n : Int) + 1))) none).run Tryd.prog w = .ok (.string ⟨#[Dp.hexDigit n]⟩) w := by
  obtain rfl | rfl | rfl | rfl | rfl | rfl | rfl | rfl | rfl | rfl | rfl | rfl | rfl | rfl | rfl | rfl : n = 0 ∨ n = 1 ∨ n = 2 ∨ n = 3 ∨ n = 4 ∨ n = 5 ∨ n = 6 ∨ n = 7 ∨ n = 8 ∨ n = 9 ∨ n = 10 ∨ n = 11 ∨ n = 12 ∨ n = 13 ∨ n = 14 ∨ n = 15 := by omega
  all_goals kernel_rfl
theorem u8_up {q : Nat} (h : q < 16) : IntKind.u8.wrap ((q : Int) + 1) = (q : Int) + 1 := by
  have : ∀ n : Fin 16, IntKind.u8.wrap ((n.val : Int) + 1) = (n.val : Int) + 1 := by decide
  exact this ⟨q, h⟩
theorem bl3 (x y z a : ByteArray) : bl (x ++ (a ++ y ++ z)) = bl x ++ (bl a ++ bl y ++ bl z) := by rw [bl_cat, bl_cat, bl_cat]
theorem bl2 (x y z : ByteArray) : bl (x ++ (y ++ z)) = bl x ++ (bl y ++ bl z) := by rw [bl_cat, bl_cat]
def EscRel (s : ByteArray) (w : World) (v3 v4 v5 : Value) (wr : World) : Prop :=
  ∃ (k : Nat) (x y : ByteArray), v3 = .string x ∧ v4 = .string y ∧ v5 = .int .i64 (k : Int) ∧ k ≤ s.size ∧ bl x = 99 :: 110 :: 61 :: esc2 ((bl s).take k) ∧ bl y = 99 :: 110 :: 61 :: 35 :: hexW ((bl s).take k) ∧ Below w.heap.size w wr
set_option maxHeartbeats 4000000 in
set_option maxRecDepth 100000 in
theorem dnEscapes_c (s : ByteArray) (w : World) (hE : Env w) : Calls Tryd.prog 5 #[.string s] w (TrueP w) := by
  by_cases h1 : 1024 < s.size
  · have h1i : (1024 : Int) < (s.size : Int) := by omega
    go_enter Tryd.func5, Tryd.ntmps5
    go_wp2_with fail
    refine (alive_c _ hE).mono ?_
    rintro e w1 ⟨rfl, hb⟩
    go_wp2
    go_ret
    exact ⟨rfl, hb⟩
  have h1i : ¬ (1024 : Int) < (s.size : Int) := by omega
  have h1d : decide ((1024 : Int) < (s.size : Int)) = false := decide_eq_false h1i
  have HEE := Aside0.mk hE
  clear hE
  go_enter Tryd.func5, Tryd.ntmps5
  go_wp2_with fail
  go_loopw [3, 4, 5] (fun v3 v4 v5 wr => EscRel s w v3 v4 v5 wr) (fun _ _ v5 _ => s.size - (RowKit.intOf v5).toNat)
  case atStart => exact ⟨0, _, _, rfl, rfl, rfl, Nat.zero_le _, by rw [List.take_zero]; rfl, by rw [List.take_zero]; rfl, Below.refl _ _⟩
  case round =>
    obtain ⟨k, x, y, rfl, rfl, rfl, hk, hx, hy, hbel⟩ := hrel
    by_cases hlt : k < s.size
    · have hkl : k < (bl s).length := by rw [bl_size]; exact hlt
      have hki : (k : Int) < (s.size : Int) := by omega
      have hsx : ((s[k]'hlt).toNat : Int) = ((bl s)[k].toNat : Int) := by
        have hL : Lr s k ((bl s)[k] :: (bl s).drop (k + 1)) := ⟨List.drop_eq_getElem_cons hkl, hk⟩
        rw [hL.at_]
      have HX : Aside0 (99 :: 110 :: 61 :: esc2 ((bl s).take (k + 1)) = bl x ++ [92, Dp.hexDigit ((bl s)[k].toNat / 16), Dp.hexDigit ((bl s)[k].toNat % 16)]) := ⟨by rw [List.take_succ_eq_append_getElem hkl, esc2_snoc, hx]; rfl⟩
      have HY : Aside0 (99 :: 110 :: 61 :: 35 :: hexW ((bl s).take (k + 1)) = bl y ++ [Dp.hexDigit ((bl s)[k].toNat / 16), Dp.hexDigit ((bl s)[k].toNat % 16)]) := ⟨by rw [List.take_succ_eq_append_getElem hkl, hexW_snoc, hy]; rfl⟩
      have hxz : x.size ≤ 4000 := by rw [← bl_size, hx]; simp only [List.length_cons, esc2_len, List.length_take]; omega
      have hyz : y.size ≤ 4000 := by rw [← bl_size, hy]; simp only [List.length_cons, hexW_len, List.length_take]; omega
      clear hx hy
      generalize (bl s)[k] = c at *
      have hc256 := UInt8.toNat_lt c
      have hq1 : c.toNat / 16 < 16 := by omega
      have hq2 : c.toNat % 16 < 16 := by omega
      have hq3 : (c.toNat : Int) / 16 = ((c.toNat / 16 : Nat) : Int) := by omega
      have hq4 : (c.toNat : Int) % 16 = ((c.toNat % 16 : Nat) : Int) := by omega
      have g1 := dig_cut _ hq1
      have g2 := dig_cut _ hq2
      generalize c.toNat / 16 = q at *
      generalize c.toNat % 16 = r at *
      generalize Dp.hexDigit q = dx at *
      generalize Dp.hexDigit r = dy at *
      go_wp2_with fail
      have u1 : IntKind.u8.wrap ((q : Int) + 1) = (q : Int) + 1 := u8_up hq1
      have u2 : IntKind.u8.wrap ((r : Int) + 1) = (r : Int) + 1 := u8_up hq2
      have u3 : (c.toNat : Int).tdiv 16 = (q : Int) := by rw [Int.tdiv_eq_ediv_of_nonneg (by omega)]; exact hq3
      have u4 : (c.toNat : Int).tmod 16 = (r : Int) := by rw [Int.tmod_eq_emod_of_nonneg (by omega)]; exact hq4
      clear hq3 hq4 hc256
      go_quiet (fail)
      go_wp2_with fail
      go_quiet (fail)
      go_wp2
      refine ⟨⟨k + 1, _, _, rfl, rfl, by go_num, by omega, ?_, ?_, pw_below_drewN hbel _⟩, by simp [RowKit.intOf]; omega⟩
      · rw [HX.out, bl3]; rfl
      · rw [HY.out, bl2]; rfl
    · have hke : k = s.size := by omega
      have hki : ¬ (k : Int) < (s.size : Int) := by omega
      have ht : (bl s).take k = bl s := by rw [hke, ← bl_size, List.take_length]
      have hsz : (bl s).length ≤ 1024 := by rw [bl_size]; omega
      rw [ht] at hx hy
      have hRo1 := R_one kA (W := wr) (base := wr.heap.size) (e := 39) (ok := fun k => wr.heap.size ≤ k) (okp := fun _ => False) (sA_mk wr wr.heap.size _ ([99, 110], bl s)) (fun _ hk => hk.elim) (Nat.le_refl _) (Nat.le_refl _)
      have hRo2 := R_one kR (W := wr.alloc (.cells #[.string ⟨#[99, 110]⟩, .string s] 39)) (base := wr.heap.size) (e := 25) (ok := fun k => wr.heap.size ≤ k) (okp := fun k => wr.heap.size ≤ k) (p := [sA ([99, 110], bl s)]) (cs := [.slice (some ⟨wr.heap.size, 0, none⟩) 1 1]) ⟨_, rfl, hRo1⟩ (fun _ hk => hk) (by rw [World.size_alloc]; omega) (by rw [World.size_alloc]; omega)
      have hb0 := below_alloc (below_alloc hbel (.cells #[.string ⟨#[99, 110]⟩, .string s] 39)) (.cells #[.slice (some ⟨wr.heap.size, 0, none⟩) 1 1] 25)
      have hxz : x.size ≤ 4000 := by rw [← bl_size, hx]; simp only [List.length_cons, esc2_len]; omega
      have hyz : y.size ≤ 4000 := by rw [← bl_size, hy]; simp only [List.length_cons, hexW_len]; omega
      have cP := parse_c x _ (HEE.out.below hb0) (by omega)
      rw [hx, esc2_parse hsz] at cP
      have hpy := hash_parse hsz
      rw [← hy] at hpy
      have hW := (R_view (A := some ⟨(wr.alloc (.cells #[.string ⟨#[99, 110]⟩, .string s] 39)).heap.size, 0, none⟩) (k := 1) (xs := [[sA ([99, 110], bl s)]]) hRo2).2
      have hbs : [[([99, 110], bl s)]].map sR = [[sA ([99, 110], bl s)]] := rfl
      rw [World.size_alloc] at hW
      have hSm : Small [[sA ([99, 110], bl s)]] := ⟨by simp, fun r hr => by rw [List.mem_singleton.1 hr]; simp⟩
      generalize [[sA ([99, 110], bl s)]] = want at *
      have hwl : want.length = 1 := by rw [← hbs]; rfl
      rw [hwl] at hW
      clear hke ht hRo1 hRo2 hx hy
      go_wp2_with fail
      generalize (wr.alloc _).alloc _ = W0 at *
      refine cP.mono ?_
      rintro e w1 ⟨v, rfl, hR, hb1⟩
      dsimp only at hR
      rw [hbs] at hR
      obtain ⟨A1, c1, rfl, hl1, hC1⟩ := Kd.R_reads hR
      have hb01 := below_seq hb0 hb1
      have hWW := Aside0.mk (hwl.symm ▸ hW : kR.C W0 (some ⟨wr.heap.size + 1, 0, none⟩) want.length want)
      have cS := same_yes hC1 hl1 (Kd.C_below hWW.out hb1) (by omega : want.length ≤ 1) hSm
      clear cP hR hC1 hW
      rw [hwl] at cS hl1 ⊢
      go_wp2_with fail
      refine cS.mono ?_
      rintro e w2 ⟨rfl, hb2⟩
      have hb02 := below_seq hb01 hb2
      have hE2 := HEE.out.below hb02
      have cP2 := parse_c y w2 hE2 (by omega)
      rw [hpy] at cP2
      clear cS hpy
      cases hbl : bl s with
      | nil =>
        rw [hbl, if_pos rfl] at cP2
        have hemp := empty_of hbl
        clear hbs hbl
        go_wp2_with fail
        refine cP2.mono ?_
        rintro e w3 ⟨v, rfl, hR3, hb3⟩
        have hb03 := below_seq hb02 hb3
        obtain ⟨A3, c3, rfl, _, _⟩ := Kd.R_reads hR3
        rw [show (([] : List (List Ava)).map sR).length = 0 from rfl]
        clear cP2 hR3
        go_wp2_with fail
        refine (alive_c _ (HEE.out.below hb03)).mono ?_
        rintro e w4 ⟨rfl, hb4⟩
        go_wp2
        go_ret
        exact ⟨rfl, below_seq hb03 hb4⟩
      | cons c0 r0 =>
        rw [if_neg (by rw [hbl]; simp)] at cP2
        have hemp := nonempty_of hbl
        clear hbl
        go_wp2_with fail
        refine cP2.mono ?_
        rintro e w3 ⟨v, rfl, hR3, hb3⟩
        have hb03 := below_seq hb02 hb3
        dsimp only at hR3
        rw [hbs] at hR3
        obtain ⟨A3, c3, rfl, hl3, hC3⟩ := Kd.R_reads hR3
        clear cP2 hR3
        rw [hwl]
        go_wp2_with fail
        refine (alive_c _ (HEE.out.below hb03)).mono ?_
        rintro e w4 ⟨rfl, hb4⟩
        have hb04 := below_seq hb03 hb4
        have cS3 := same_yes (Kd.C_below hC3 hb4) hl3 (Kd.C_below hWW.out (below_seq hb1 (below_seq hb2 (below_seq hb3 hb4)))) (by omega : want.length ≤ 1) hSm
        rw [hwl] at cS3
        clear hC3
        go_wp2_with fail
        refine cS3.mono ?_
        rintro e w5 ⟨rfl, hb5⟩
        go_wp2
        go_ret
        exact ⟨rfl, below_seq hb04 hb5⟩
end Go.Proofs.YtneclgjjnnldpaaDoor.Rd
