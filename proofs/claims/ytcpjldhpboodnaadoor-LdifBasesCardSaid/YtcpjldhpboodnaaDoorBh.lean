/- Package ldif's Unbase64 reads what the plain reader reads. Conditions: a text of at most 10^6 bytes. -/
import Derived.Test.YtcpjldhpboodnaaDoorBg
import Derived.Test.YtcpjldhpboodnaaDoorShelf
namespace Go.Proofs.YtcpjldhpboodnaaDoor.Lf
open Go Go.RowKit Go.Lib Go.Proofs.YtcpjldhpboodnaaDoor.PFn Go.Proofs.YtcpjldhpboodnaaDoorW.PrintWords Go.Proofs.YtcpjldhpboodnaaDoor.Rd

theorem ib_c (L : Bs) (x : UInt8) (w : World) : Calls Tryd.prog 41 #[.string ⟨L.toArray⟩, .int .u8 (x.toNat : Int)] w fun e w' => e = .returned (.int .i64 (Lib.indexByte L x)) ∧ w' = w := by
  have h := Any.strings_IndexByte Tryd.lays137 ⟨L.toArray⟩ (x.toNat : Int) w
  have e : ((x.toNat : Int).toNat).toUInt8 = x := by
    show UInt8.ofNat (x.toNat : Int).toNat = x
    rw [Int.toNat_natCast, UInt8.ofNat_toNat]
  rw [e] at h
  exact h
/-- a digit's number -/
theorem dig_c (x : UInt8) {k : Int} (hk : ud x = k) (w : World) : Calls Tryd.prog 41 #[.string ⟨#[65, 66, 67, 68, 69, 70, 71, 72, 73, 74, 75, 76, 77, 78, 79, 80, 81, 82, 83, 84, 85, 86, 87, 88, 89, 90, 97, 98, 99, 100, 101, 102, 103, 104, 105, 106, 107, 108, 109, 110, 111, 112, 113, 114, 115, 116, 117, 118, 119, 120, 121, 122, 48, 49, 50, 51, 52, 53, 54, 55, 56, 57, 43, 47]⟩, .int .u8 (x.toNat : Int)] w fun e w' => e = .returned (.int .i64 k) ∧ w = w' := by
  have := ib_c digs x w
  refine this.mono ?_
  rintro e w' ⟨he, rfl⟩
  exact ⟨by rw [he, ← hk]; rfl, rfl⟩
theorem trimEq_c (s : ByteArray) (w : World) (hs : s.size ≤ 1000000) : Calls Tryd.prog 40 #[.string s, .string ⟨#[61]⟩] w fun e w' => e = .returned (.string ⟨(trimRightB (bl s) 61).toArray⟩) ∧ w' = w :=
  Any.strings_TrimRight_one Tryd.lays162 s 61 (by decide) w (by omega)
theorem trim_len (l : Bs) (c : UInt8) : (trimRightB l c).length ≤ l.length := by
  unfold trimRightB
  rw [List.length_reverse]
  have := (List.dropWhile_suffix (· == c) (l := l.reverse)).length_le
  rwa [List.length_reverse] at this
theorem or_64 {x v : Nat} (hx : x < 64) (hv : v < 64) : Go.bits .or .i64 ((x : Int) * 64) (v : Int) = ((x * 64 + v : Nat) : Int) := by
  rw [bits_join .i64 63 (by decide) wraps_i64 6 _ _ (by omega) (by omega) (by omega) (by omega) (by omega) (by omega)]
  omega
theorem and_mask {y : Nat} (j : Nat) (n : Int) (hn : n = 2 ^ j - 1) (hj : j ≤ 63) (hy : y < 4294967296) : Go.bits .and .i64 (y : Int) n = ((y % 2 ^ j : Nat) : Int) := by
  have := bits_mask .i64 63 (by decide) wraps_i64 j hj (y : Int) (by omega) (by omega)
  rw [hn, this]
  simp
/-- what Unbase64 answers -/
def ubAns (r : Option Bs) : Value := match r with
  | none => .tuple #[.string ⟨#[]⟩, .int .i64 110]
  | some b => .tuple #[.string ⟨b.toArray⟩, .int .i64 0]
theorem cell1 {w : World} {T : Nat} {x u : Value} {j : Nat} (hj : [x][j]? = some u) : (w.alloc (.cells #[x] T)).cell? ((⟨w.heap.size, 0, none⟩ : Addr).add j) = some u := by
  match j, hj with
  | 0, hj => simp at hj; subst hj; simp [Addr.add]
theorem one1 (n : Int) : ∀ u ∈ [Value.int .u8 n], u.oneCell' = true := by
  intro u hu
  rw [List.mem_singleton.1 hu]
  rfl
theorem below_seq {w w1 w2 : World} (h : Below w.heap.size w w1) (k : Below w1.heap.size w1 w2) : Below w.heap.size w w2 := below_then h h.size k
theorem own_below {w w1 : World} {base : Nat} {e : TypeId} {size n : Nat} {v : Value} {xs : List Value} (h : w.ownsRow base e size v n xs) (hb : Below w.heap.size w w1) : w1.ownsRow base e size v n xs := own_move h (fun k hk => hb.block k (h.lt k hk).2)
theorem own_str {w : World} {base n : Nat} {v : Value} {l : Bs} (h : w.ownsRow base tB 1 v n (byteCells l)) : (convert 45 9 v).run Tryd.prog w = .ok (.string ⟨l.toArray⟩) w := by
  rw [← strOf_nb]
  refine own_string (e := 5) Tryd.underlying45 Tryd.underlying5 Tryd.underlying9 (base := base) (n := n) (e' := tB) ?_
  rw [show nums .u8 (nb l) = byteCells l from by unfold nums nb byteCells; rw [List.map_map]; rfl]
  exact h
def UnRel (T : ByteArray) (ans : Option Bs) (w : World) (v4 v6 v7 v14 : Value) (wr : World) : Prop :=
  ∃ (out : Bs) (x bits i : Nat) (m : Bs), v6 = .int .i64 (x : Int) ∧ v7 = .int .i64 (bits : Int) ∧ v14 = .int .i64 (i : Int) ∧ Lr T i m ∧ (bits = 0 ∨ bits = 2 ∨ bits = 4 ∨ bits = 6) ∧ x < 2 ^ bits ∧ out.length ≤ i ∧ decGo m x bits out = ans ∧
    wr.ownsRow w.heap.size tB 1 v4 out.length (byteCells out) ∧ Below w.heap.size w wr
set_option maxHeartbeats 4000000 in
set_option maxRecDepth 100000 in
theorem unbase_c (s : ByteArray) (w : World) (hs : s.size ≤ 1000000) : Calls Tryd.prog 15 #[.string s] w fun e w' => e = .returned (ubAns (unb64 (bl s))) ∧ Below w.heap.size w w' := by
  obtain ⟨i0, hi0, hz0, hz1, hz2⟩ := info_parts byte_info
  have cT := trimEq_c s w hs
  have htl := trim_len (bl s) 61
  rw [bl_size] at htl
  obtain ⟨ANS, hA⟩ : ∃ a, unb64 (bl s) = a := ⟨_, rfl⟩
  obtain ⟨DEC, hD⟩ : ∃ a, decGo (trimRightB (bl s) 61) 0 0 [] = a := ⟨_, rfl⟩
  have hAD : ANS = DEC.bind fun b => if b64 b = bl s then some b else none := by rw [← hA, ← hD]; rfl
  rw [hA]
  obtain ⟨L, hL⟩ : ∃ L, trimRightB (bl s) 61 = L := ⟨_, rfl⟩
  rw [hL] at cT htl hD
  clear hA hL
  obtain ⟨T, hT⟩ : ∃ T : ByteArray, T = ⟨L.toArray⟩ := ⟨_, rfl⟩
  have hbT : bl T = L := by rw [hT]; rfl
  have hTs : T.size ≤ s.size := by rw [← bl_size, hbT]; exact htl
  rw [← hT] at cT
  have HAD := Aside0.mk hAD
  have HD := Aside0.mk hD
  have HBT := Aside0.mk hbT
  clear hAD hD hT hbT htl
  go_enter Tryd.func15, Tryd.ntmps15
  go_wp2_with fail
  refine cT.mono ?_
  rintro e w1 ⟨rfl, rfl⟩
  clear cT
  go_wp2_with fail
  go_loopw [4, 6, 7, 14] (fun v4 v6 v7 v14 wr => UnRel T DEC w1 v4 v6 v7 v14 wr) (fun _ _ _ v14 _ => T.size - (RowKit.intOf v14).toNat)
  case atStart => exact ⟨[], 0, 0, 0, L, rfl, rfl, rfl, ⟨by rw [HBT.out]; rfl, Nat.zero_le _⟩, .inl rfl, by decide, Nat.le_refl _, HD.out, own_nil _ _ _ _, Below.refl _ _⟩
  case round =>
    obtain ⟨out, x, bits, i, m, rfl, rfl, rfl, hm, hbits, hx, hol, hdec, hown, hbel⟩ := hrel
    have HO := Aside0.mk hown
    have HB := Aside0.mk hbel
    have HDEC := Aside0.mk hdec
    have hiz := hm.2
    clear hown hbel hdec
    cases m with
    | nil =>
      have hie := hm.nil
      have hge : ¬ (i : Int) < (T.size : Int) := by omega
      have hd : DEC = some out := by rw [← HDEC.out]; rfl
      have hans : ANS = if b64 out = bl s then some out else none := by rw [HAD.out, hd]; rfl
      have HANS := Aside0.mk hans
      obtain ⟨A4, n4, k4, rfl⟩ := row_form HO.out
      have hcv : (convert 45 9 (.slice A4 n4 k4)).run Tryd.prog wr = .ok (.string ⟨out.toArray⟩) wr := own_str HO.out
      have cB := fun W => base64_c ⟨out.toArray⟩ W (by show out.toArray.size ≤ _; simp; omega)
      clear hie hd hans HAD HDEC HD HBT
      go_wp2_with fail
      refine (cB _).mono ?_
      rintro e w2 ⟨rfl, hb2⟩
      clear cB
      rw [show bl (⟨out.toArray⟩ : ByteArray) = out from rfl]
      have hb2' := below_seq HB.out hb2
      by_cases hbs : b64 out = bl s
      · have hss : s = ⟨(b64 out).toArray⟩ := by rw [hbs]; rfl
        have ha : ANS = some out := by rw [HANS.out, if_pos hbs]
        subst ha
        obtain ⟨S, hS⟩ : ∃ S : ByteArray, S = ⟨(b64 out).toArray⟩ := ⟨_, rfl⟩
        rw [← hS] at hss ⊢
        subst hss
        clear hbs hS HANS
        have hcv2 : (convert 45 9 (.slice A4 n4 k4)).run Tryd.prog w2 = .ok (.string ⟨out.toArray⟩) w2 := own_str (own_below HO.out hb2)
        go_wp2
        refine bodyPost_ret (v := .tuple #[.string ⟨out.toArray⟩, .int .i64 0]) (by simp [results, Tryd.results15, go_sem]) rfl ?_
        exact ⟨rfl, hb2'⟩
      · have hne : ¬ (⟨(b64 out).toArray⟩ : ByteArray) = s := fun e => hbs (by rw [← e]; rfl)
        have hne2 : (b64 out == s.toList) = false := by rw [Lib.toList_data]; exact beq_false_of_ne hbs
        have ha : ANS = none := by rw [HANS.out, if_neg hbs]
        subst ha
        clear hbs HANS
        go_wp2
        refine bodyPost_ret (v := .tuple #[.string ⟨#[]⟩, .int .i64 110]) (by simp [results, Tryd.results15, go_sem]) rfl ?_
        exact ⟨rfl, hb2'⟩
    | cons c r =>
      have hi := hm.lt
      have hii : (i : Int) < (T.size : Int) := by omega
      have hcc : ((T[i]'hi).toNat : Int) = (c.toNat : Int) := by rw [hm.at_]
      have hul := ud_lt c
      by_cases hneg : ud c < 0
      · have hm1 : ud c = -1 := by omega
        have cD := dig_c c hm1
        have hd : DEC = none := by rw [← HDEC.out]; simp only [decGo]; rw [if_pos hneg]
        subst hd
        have ha : ANS = none := by rw [HAD.out]; rfl
        subst ha
        clear hul hneg hm1 HDEC HAD HBT HD
        go_wp2_with fail
        refine (cD _).mono ?_
        rintro e w2 ⟨rfl, rfl⟩
        go_wp2
        go_ret2
        exact ⟨rfl, HB.out⟩
      · obtain ⟨v, hv⟩ : ∃ v : Nat, ud c = (v : Int) := ⟨(ud c).toNat, by omega⟩
        have hv64 : v < 64 := by omega
        have cD := dig_c c hv
        have hx64 : x < 64 := by rcases hbits with rfl | rfl | rfl | rfl <;> simp at hx <;> omega
        obtain ⟨y, hy⟩ : ∃ y, x * 64 + v = y := ⟨_, rfl⟩
        have hor : Go.bits .or .i64 ((x : Int) * 64) (v : Int) = (y : Int) := by rw [or_64 hx64 hv64, hy]
        have hyb : y < 4096 := by omega
        clear hul hneg HBT HD HAD
        rcases hbits with rfl | rfl | rfl | rfl
        · have hdec2 : decGo r y 6 out = DEC := by
            rw [← HDEC.out]
            simp only [decGo]
            rw [hv, if_neg (by omega), if_neg (by decide), Int.toNat_natCast, hy]
          have hy6 : y < 2 ^ 6 := by simp at hx; omega
          have HDEC2 := Aside0.mk hdec2
          have HY6 := Aside0.mk hy6
          clear hdec2 hy6 hv hy HDEC
          go_wp2_with fail
          refine (cD _).mono ?_
          rintro e w2 ⟨rfl, rfl⟩
          go_wp2
          exact ⟨⟨out, y, 6, i + 1, r, rfl, rfl, by go_num, hm.next, by simp, HY6.out, by omega, HDEC2.out, HO.out, HB.out⟩, by simp [RowKit.intOf]; omega⟩
        · have hyq : y < 256 := by simp at hx; omega
          obtain ⟨z, hzy⟩ : ∃ z : UInt8, z.toNat = y := ⟨UInt8.ofNat y, by rw [UInt8.toNat_ofNat']; exact Nat.mod_eq_of_lt hyq⟩
          subst hzy
          obtain ⟨x2, hx2⟩ : ∃ x2, z.toNat % 2 ^ 0 = x2 := ⟨_, rfl⟩
          have hz : UInt8.ofNat (z.toNat / 2 ^ 0) = z := by simp
          have hand : Go.bits .and .i64 (z.toNat : Int) 0 = (x2 : Int) := by rw [and_mask 0 _ (by decide) (by decide) (by omega), hx2]
          have hdec2 : decGo r x2 0 (out ++ [z]) = DEC := by
            rw [← HDEC.out]
            simp only [decGo]
            rw [hv, if_neg (by omega), if_pos (by decide), Int.toNat_natCast, hy, hx2, hz]
          have hx2b : x2 < 2 ^ 0 := by rw [← hx2]; exact Nat.mod_lt _ (by decide)
          have HDEC2 := Aside0.mk hdec2
          have HX2 := Aside0.mk hx2b
          clear hx2 hz hdec2 hx2b hv HDEC hy
          go_wp2_with fail
          refine (cD _).mono ?_
          rintro e w2 ⟨rfl, rfl⟩
          go_wp2_with (at_builtin; refine Aside0.out ?_)
          refine ⟨?_⟩
          refine wpList_append_own _ rfl _ _ 45 rfl w1.heap.size tB i0 (.int .u8 0) 1 1 Tryd.underlying45 hi0 hz0 hz1 hz2 rfl (by decide) _ _ _ rfl (HO.out.alloc _) ⟨wr.heap.size, 0, none⟩ 1 1 [.int .u8 (z.toNat : Int)] rfl rfl (fun j u hj => cell1 hj) (one1 _) (by unfold maxLen; omega) (by omega) (by have := HB.out.size; simp; omega) ?_
          intro v' w2 hown' hgrow _
          obtain ⟨A', n', k', rfl⟩ := row_form hown'
          have HO2 := Aside0.mk hown'
          have HG := Aside0.mk hgrow
          clear hown' hgrow
          go_wp2
          exact ⟨⟨out ++ [z], x2, 0, i + 1, r, rfl, rfl, by go_num, hm.next, by simp, HX2.out, by simp; omega, HDEC2.out, by simpa [byteCells] using HO2.out, (HB.out.alloc HB.out.size _).grown HG.out (by have := HB.out.size; simp; omega) (fun k hk => (HO.out.lt k hk).1)⟩, by simp [RowKit.intOf]; omega⟩
        · obtain ⟨x2, hx2⟩ : ∃ x2, y % 2 ^ 2 = x2 := ⟨_, rfl⟩
          obtain ⟨z, hz⟩ : ∃ z, UInt8.ofNat (y / 2 ^ 2) = z := ⟨_, rfl⟩
          have hyq : y / 4 < 256 := by simp at hx; omega
          have hzn : (y : Int) / 4 = (z.toNat : Int) := by
            rw [← hz, UInt8.toNat_ofNat', Nat.mod_eq_of_lt (show y / 2 ^ 2 < 2 ^ 8 from hyq)]
            omega
          have hand : Go.bits .and .i64 (y : Int) 3 = (x2 : Int) := by rw [and_mask 2 _ (by decide) (by decide) (by omega), hx2]
          have hdec2 : decGo r x2 2 (out ++ [z]) = DEC := by
            rw [← HDEC.out]
            simp only [decGo]
            rw [hv, if_neg (by omega), if_pos (by decide), Int.toNat_natCast, hy, hx2, hz]
          have hx2b : x2 < 2 ^ 2 := by rw [← hx2]; exact Nat.mod_lt _ (by decide)
          have HDEC2 := Aside0.mk hdec2
          have HX2 := Aside0.mk hx2b
          clear hx2 hz hdec2 hx2b hv HDEC hy
          go_wp2_with fail
          refine (cD _).mono ?_
          rintro e w2 ⟨rfl, rfl⟩
          go_wp2_with (at_builtin; refine Aside0.out ?_)
          refine ⟨?_⟩
          refine wpList_append_own _ rfl _ _ 45 rfl w1.heap.size tB i0 (.int .u8 0) 1 1 Tryd.underlying45 hi0 hz0 hz1 hz2 rfl (by decide) _ _ _ rfl (HO.out.alloc _) ⟨wr.heap.size, 0, none⟩ 1 1 [.int .u8 (z.toNat : Int)] rfl rfl (fun j u hj => cell1 hj) (one1 _) (by unfold maxLen; omega) (by omega) (by have := HB.out.size; simp; omega) ?_
          intro v' w2 hown' hgrow _
          obtain ⟨A', n', k', rfl⟩ := row_form hown'
          have HO2 := Aside0.mk hown'
          have HG := Aside0.mk hgrow
          clear hown' hgrow
          go_wp2
          exact ⟨⟨out ++ [z], x2, 2, i + 1, r, rfl, rfl, by go_num, hm.next, by simp, HX2.out, by simp; omega, HDEC2.out, by simpa [byteCells] using HO2.out, (HB.out.alloc HB.out.size _).grown HG.out (by have := HB.out.size; simp; omega) (fun k hk => (HO.out.lt k hk).1)⟩, by simp [RowKit.intOf]; omega⟩
        · obtain ⟨x2, hx2⟩ : ∃ x2, y % 2 ^ 4 = x2 := ⟨_, rfl⟩
          obtain ⟨z, hz⟩ : ∃ z, UInt8.ofNat (y / 2 ^ 4) = z := ⟨_, rfl⟩
          have hyq : y / 16 < 256 := by simp at hx; omega
          have hzn : (y : Int) / 16 = (z.toNat : Int) := by
            rw [← hz, UInt8.toNat_ofNat', Nat.mod_eq_of_lt (show y / 2 ^ 4 < 2 ^ 8 from hyq)]
            omega
          have hand : Go.bits .and .i64 (y : Int) 15 = (x2 : Int) := by rw [and_mask 4 _ (by decide) (by decide) (by omega), hx2]
          have hdec2 : decGo r x2 4 (out ++ [z]) = DEC := by
            rw [← HDEC.out]
            simp only [decGo]
            rw [hv, if_neg (by omega), if_pos (by decide), Int.toNat_natCast, hy, hx2, hz]
          have hx2b : x2 < 2 ^ 4 := by rw [← hx2]; exact Nat.mod_lt _ (by decide)
          have HDEC2 := Aside0.mk hdec2
          have HX2 := Aside0.mk hx2b
          clear hx2 hz hdec2 hx2b hv HDEC hy
          go_wp2_with fail
          refine (cD _).mono ?_
          rintro e w2 ⟨rfl, rfl⟩
          go_wp2_with (at_builtin; refine Aside0.out ?_)
          refine ⟨?_⟩
          refine wpList_append_own _ rfl _ _ 45 rfl w1.heap.size tB i0 (.int .u8 0) 1 1 Tryd.underlying45 hi0 hz0 hz1 hz2 rfl (by decide) _ _ _ rfl (HO.out.alloc _) ⟨wr.heap.size, 0, none⟩ 1 1 [.int .u8 (z.toNat : Int)] rfl rfl (fun j u hj => cell1 hj) (one1 _) (by unfold maxLen; omega) (by omega) (by have := HB.out.size; simp; omega) ?_
          intro v' w2 hown' hgrow _
          obtain ⟨A', n', k', rfl⟩ := row_form hown'
          have HO2 := Aside0.mk hown'
          have HG := Aside0.mk hgrow
          clear hown' hgrow
          go_wp2
          exact ⟨⟨out ++ [z], x2, 4, i + 1, r, rfl, rfl, by go_num, hm.next, by simp, HX2.out, by simp; omega, HDEC2.out, by simpa [byteCells] using HO2.out, (HB.out.alloc HB.out.size _).grown HG.out (by have := HB.out.size; simp; omega) (fun k hk => (HO.out.lt k hk).1)⟩, by simp [RowKit.intOf]; omega⟩
end Go.Proofs.YtcpjldhpboodnaaDoor.Lf
