/- The walk of chapter 3's law PrepStands: it returns true. Conditions: the tables of unicode/utf8 as they are laid; the row of numbers reads. -/
import Derived.Test.YtdfdponenhfbjaaDoorWkb
import Derived.Test.YtdfdponenhfbjaaDoorPls
import Derived.Test.YtdfdponenhfbjaaDoorWGuard
import Derived.Deep.QuietTactic
import Derived.BigQuiet
import Derived.ArgAppend
namespace Go.Proofs.YtdfdponenhfbjaaDoor.Wk
open Go Go.RowKit Go.Lib Go.Proofs.YtdfdponenhfbjaaDoor.PFn Go.Proofs.YtdfdponenhfbjaaDoor.Pl Go.Proofs.YtdfdponenhfbjaaDoor.Tx Go.Proofs.YtdfdponenhfbjaaDoor.Fn Go.Proofs.YtdfdponenhfbjaaDoorW.PrintWords

def SRel (s : ByteArray) (n : Nat) (w0 : World) (v5 v6 v7 : Value) (wr : World) : Prop :=
  ∃ (mids : List ByteArray) (a i : Nat) (A : Option Addr) (c : Nat), v5 = .int .i64 (a : Int) ∧ v6 = .slice A (mids.length + 1) c ∧ v7 = .int .i64 (i : Int) ∧ a ≤ s.size ∧ Stands (bl s) 0 (mids.map bl) a ∧ mids.length ≤ i ∧ i ≤ n + 1 ∧
    wr.ownsRow w0.heap.size 9 1 (.slice A (mids.length + 1) c) (mids.length + 1) (Go.Proofs.YtdfdponenhfbjaaDoorW.PrintWords.encs Value.string (⟨#[]⟩ :: mids)) ∧ Below w0.heap.size w0 wr
theorem own_first (W : World) : (W.alloc (.cells #[.string ⟨#[]⟩] 9)).ownsRow W.heap.size 9 1 (.slice (some ⟨W.heap.size, 0, none⟩) 1 1) 1 (Go.Proofs.YtdfdponenhfbjaaDoorW.PrintWords.encs Value.string [⟨#[]⟩]) :=
  own_lit_of (enc := Value.string) W W.heap.size 9 [⟨#[]⟩] (Nat.le_refl _) (by simp)

theorem own_drewN {W : World} {base n size k : Nat} {e : TypeId} {v : Value} {xs : List Value} (h : W.ownsRow base e size v n xs) : (W.drewN k).ownsRow base e size v n xs := h
theorem bl_extract (s : ByteArray) (f t : Nat) : bl (s.extract f t) = ((bl s).drop f).take (t - f) := Lib.extract_data s f t
theorem stands_more {s : ByteArray} {mids : List ByteArray} {a f t : Nat} (h : Stands (bl s) 0 (mids.map bl) a) (h1 : a ≤ f) (h2 : f ≤ t) (h3 : t ≤ s.size) : Stands (bl s) 0 ((mids ++ [s.extract f t]).map bl) t := by
  have e : f + (bl (s.extract f t)).length = t := by
    rw [bl_extract, List.length_take, List.length_drop, bl_size]
    omega
  have := Stands.snoc (p := bl (s.extract f t)) h1 (by rw [bl_extract]; exact List.take_prefix _ _) h
  rw [e] at this
  rw [List.map_append]
  exact this
theorem SRel.more {s : ByteArray} {n : Nat} {w0 w1 : World} {mids : List ByteArray} {a f t i k : Nat} {A1 : Option Addr} {c1 : Nat} (h : Stands (bl s) 0 (mids.map bl) a) (h1 : a ≤ f) (h2 : f ≤ t) (h3 : t ≤ s.size) (hm : mids.length ≤ i) (hi : i + 1 < n) (hk : k = mids.length + 2)
    (ho : w1.ownsRow w0.heap.size 9 1 (.slice A1 k c1) k (Go.Proofs.YtdfdponenhfbjaaDoorW.PrintWords.encs Value.string ((⟨#[]⟩ :: mids) ++ [s.extract f t]))) (hb : Below w0.heap.size w0 w1) :
    SRel s n w0 (.int .i64 (t : Int)) (.slice A1 k c1) (.int .i64 ((i : Int) + 2)) w1 := by
  have e : k = (mids ++ [s.extract f t]).length + 1 := by simp; omega
  subst e
  exact ⟨mids ++ [s.extract f t], t, i + 2, A1, c1, rfl, rfl, by go_num, h3, stands_more h h1 h2 h3, by simp; omega, by omega, ho, hb⟩
theorem last_row {w1 : World} {base : Nat} {v1 : Value} {mids : List ByteArray} {z : ByteArray} {k : Nat} (h : w1.ownsRow base 9 1 v1 k (Go.Proofs.YtdfdponenhfbjaaDoorW.PrintWords.encs Value.string ((⟨#[]⟩ :: mids) ++ [z]))) (hk : k = mids.length + 2) :
    ∃ A1 c1, v1 = .slice (some A1) (mids.length + 2) c1 ∧ mids.length + 2 ≤ c1 ∧ Kd.string.C w1 (some A1) (mids.length + 2) (⟨#[]⟩ :: (mids ++ [z])) := by
  subst hk
  obtain ⟨A1, c1, rfl, hle, hR⟩ := own_reads_of_le (d := ByteArray.empty) h
  obtain ⟨ad, rfl, _⟩ := hR.2.2 (by omega)
  exact ⟨ad, c1, rfl, hle, Kd.C_of_reads (d := ByteArray.empty) hR⟩
theorem two_C (w : World) (x y : ByteArray) (t : TypeId) : Kd.string.C (w.alloc (.cells #[.string x, .string y] t)) (some ⟨w.heap.size, 0, none⟩) 2 [x, y] := by
  refine Kd.C_of_reads (d := ByteArray.empty) ⟨rfl, by omega, fun _ => ⟨_, rfl, fun j hj => ?_⟩⟩
  rw [add_plain, cell_of_row _ _ _ _ _ _ (heap_alloc_new w _)]
  match j, hj with
  | 0, _ => rfl
  | 1, _ => rfl
theorem loop_row {w1 : World} {base k m : Nat} {v1 : Value} {xs : List Value} (h : w1.ownsRow base 9 1 v1 k xs) (hk : k = m + 2) :
    ∃ A1 c1, v1 = .slice A1 (m + 2) c1 ∧ w1.ownsRow base 9 1 (.slice A1 (m + 2) c1) (m + 2) xs := by
  subst hk
  obtain ⟨A1, c1, rfl⟩ := own_slice h
  exact ⟨A1, c1, rfl, h⟩
theorem olds_cells {W : World} {A1 : Addr} {mids : List ByteArray} {z : ByteArray} (hC : Kd.string.C W (some A1) (mids.length + 2) (⟨#[]⟩ :: (mids ++ [z]))) (o : Obj) :
    ∀ b, some A1 = some b → ∀ j u, (Go.Proofs.YtdfdponenhfbjaaDoorW.PrintWords.encs Value.string (⟨#[]⟩ :: mids))[j]? = some u → (W.alloc o).cell? (b.add j) = some u := by
  intro b hb j u hu
  injection hb with hb
  subst hb
  have hj : j < mids.length + 1 := by
    have := (List.getElem?_eq_some_iff.1 hu).1
    simpa [Go.Proofs.YtdfdponenhfbjaaDoorW.PrintWords.encs] using this
  rw [encs_get (d := ByteArray.empty) _ j (by simpa using hj)] at hu
  obtain ⟨ad, had, hc⟩ := Kd.at_string hC ((j : Nat) : Int) (by omega) (by omega)
  injection had with had
  subst had
  rw [Int.toNat_natCast] at hc
  have e : rdOf ByteArray.empty (⟨#[]⟩ :: (mids ++ [z])) (j : Int) = (⟨#[]⟩ :: mids).getD j ByteArray.empty := by
    rw [rdOf_at _ _ (by simp; omega), List.getD_eq_getElem?_getD, List.getElem?_eq_getElem (by simpa using hj), Option.getD_some]
    have : ∀ (h1 : j < (((⟨#[]⟩ : ByteArray) :: mids) ++ [z]).length) (h2 : j < ((⟨#[]⟩ : ByteArray) :: mids).length), (((⟨#[]⟩ : ByteArray) :: mids) ++ [z])[j]'h1 = ((⟨#[]⟩ : ByteArray) :: mids)[j]'h2 := fun h1 h2 => List.getElem_append_left h2
    exact this _ _
  rw [e, Option.some.inj hu] at hc
  exact pw_cell_below (below_alloc (Below.refl _ _) o) hc
theorem below_alloc_to {w w' : World} {o : Obj} (h : Drawn0 (w.alloc o) w') : Below w.heap.size w w' := below_seq (below_alloc (Below.refl _ _) o) h.below
theorem cut_open (ad : Addr) (m c : Nat) (hc : m + 2 ≤ c) (W : World) : (Instr.slice 37 (.slice (some ad) (m + 2) c) none (some (.int .i64 ((m : Int) + 2 - 1))) (some (.int .i64 ((m : Int) + 2 - 1)))).run Tryd.prog W = .ok (.slice (some ad) (m + 1) (m + 1)) W := by
  obtain ⟨i0, hi, hz0, hz1, hz2⟩ := info_parts str_info
  have hel : Tryd.prog.elem 37 = 9 := by simp [Program.elem, Tryd.underlying37]
  have e1 : ((m : Int) + 2 - 1).toNat = m + 1 := by omega
  rw [run_slice_hm W _ _ _ _ (by rw [hel]; exact Tryd.underlying37) _ _ _ _ (by omega) (by omega) (by omega), hel]
  simp [sizeOf, typeInfo, hi, hz1, sliced, Result.andThen, e1, Addr.add]

set_option maxHeartbeats 4000000 in
theorem prepStands_c (s : ByteArray) (A : Option Addr) (n c : Nat) (zs : List Int) (w : World) (hE : Env w) (hR : ReadsInt w .i64 A n zs) :
    Calls Tryd.prog 8 #[.string s, .slice A n c] w fun e w' => e = .returned (.bool true) ∧ Below w.heap.size w w' := by
  by_cases hs : (2000 : Int) < (s.size : Int)
  · go_enter Tryd.func8, Tryd.ntmps8
    go_wp2_with (go_at_call 11; refine (alive_c _ hE).mono ?_; rintro e w3 ⟨rfl, hb3⟩)
    go_ret
    exact ⟨rfl, hb3⟩
  · by_cases hn : (20 : Int) < (n : Int)
    · go_enter Tryd.func8, Tryd.ntmps8
      go_wp2_with (go_at_call 11; refine (alive_c _ hE).mono ?_; rintro e w3 ⟨rfl, hb3⟩)
      go_ret
      exact ⟨rfl, hb3⟩
    · have HR := Aside0.mk hR
      clear hR
      go_enter Tryd.func8, Tryd.ntmps8
      go_wp2_with fail
      go_loopw [5, 6, 7, 8, 9] (fun v5 v6 v7 _ _ wr => SRel s n w v5 v6 v7 wr) (fun _ _ v7 _ _ _ => n + 1 - (RowKit.intOf v7).toNat)
      case atStart => exact ⟨[], 0, 0, _, _, rfl, rfl, rfl, Nat.zero_le _, Nat.le_refl _, Nat.le_refl _, Nat.zero_le _, own_first w, below_alloc (Below.refl _ _) _⟩
      case round =>
        obtain ⟨mids, a, i, A6, c6, rfl, rfl, rfl, ha, hst, hmi, hin, hown, hbel⟩ := hrel
        have HST := Aside0.mk hst
        have HO := Aside0.mk hown
        clear hst hown
        by_cases hlt : i + 1 < n
        · obtain ⟨ad, rfl, hcell⟩ := HR.out.2.2 (by omega)
          have hc0 : wr.cell? (ad.add i) = some (.int .i64 (zs.getD i 0)) := pw_cell_below hbel (hcell i (by omega))
          have hc1 : wr.cell? ⟨ad.block, ad.off + (i + 1), none⟩ = some (.int .i64 (zs.getD (i + 1) 0)) := by
            rw [← addr_succ]
            exact pw_cell_below hbel (hcell (i + 1) (by omega))
          generalize zs.getD i 0 = x at hc0
          generalize zs.getD (i + 1) 0 = y at hc1
          clear hcell
          by_cases hskip : x < a ∨ y < x ∨ (s.size : Int) < y
          · go_wp2_with fail
            go_quiet (fail)
            go_wp2_with fail
            all_goals first
              | (exact ⟨⟨mids, a, i + 2, A6, c6, rfl, rfl, by go_num, ha, HST.out, by omega, by omega, own_drewN HO.out, pw_below_drewN hbel _⟩, by simp [RowKit.intOf]; omega⟩)
              | (exfalso; omega)
          · obtain ⟨f, rfl⟩ := Int.eq_ofNat_of_zero_le (show 0 ≤ x by omega)
            obtain ⟨t, rfl⟩ := Int.eq_ofNat_of_zero_le (show 0 ≤ y by omega)
            go_wp2_with fail
            go_quiet (fail)
            go_wp2_with (at_builtin; refine print_append_of (w0 := w) Value.string w.heap.size rfl _ _ 37 9 (.string ByteArray.empty) 16 rfl Tryd.underlying37 str_info rfl (by omega) (.slice A6 (mids.length + 1) c6) (⟨#[]⟩ :: mids) (s.extract f t) rfl rfl rfl (own_drewN HO.out) (pw_below_drewN hbel _) hbel.size (by simp; omega) ?_; intro v1 w1 HO1 HB1 _ _; obtain ⟨A1, c1, rfl, HN⟩ := loop_row (m := mids.length) HO1 (by simp))
            exact ⟨SRel.more HST.out (by omega) (by omega) (by omega) hmi hlt rfl HN HB1, by simp [RowKit.intOf]; omega⟩
        · obtain ⟨i0, hi, hz0, hz1, hz2⟩ := info_parts str_info
          have hal : s.size - a = (bl (s.extract a s.size)).length := by
            rw [bl_extract, List.length_take, List.length_drop, bl_size]
            omega
          have hz : bl (s.extract a s.size) = (bl s).drop a := by
            rw [bl_extract, List.take_of_length_le]
            rw [List.length_drop, bl_size]
            omega
          have cH1 : ∀ (W : World) (A1 : Addr) (c1 : Nat), Env W → Kd.string.C W (some A1) (mids.length + 2) (⟨#[]⟩ :: (mids ++ [s.extract a s.size])) → mids.length + 2 ≤ c1 →
              Calls Tryd.prog 17 #[.string s, .slice (some A1) (mids.length + 2) c1] W fun e w' => e = .returned (.bool true) ∧ Drawn0 W w' := fun W A1 c1 hW hC hc => by
            have h := holds_c s ⟨#[]⟩ (s.extract a s.size) mids (some A1) c1 W (by omega) (by omega) hW hC hc
            rw [hz, show bl ⟨#[]⟩ = [] from rfl, stands_holds HST.out (by rw [bl_size]; exact ha)] at h
            exact h
          have cH2 : ∀ (W : World) (A1 : Addr) (c1 : Nat), Env W → Kd.string.C W (some A1) (mids.length + 2) (⟨#[]⟩ :: (mids ++ [⟨#[]⟩])) → mids.length + 2 ≤ c1 →
              Calls Tryd.prog 17 #[.string s, .slice (some A1) (mids.length + 2) c1] W fun e w' => e = .returned (.bool true) ∧ Drawn0 W w' := fun W A1 c1 hW hC hc => by
            have h := holds_c s ⟨#[]⟩ ⟨#[]⟩ mids (some A1) c1 W (by omega) (by omega) hW hC hc
            rw [show bl ⟨#[]⟩ = [] from rfl, stands_holds_open HST.out] at h
            exact h
          have cH3 : ∀ (W : World) (t : TypeId), Env W → Calls Tryd.prog 17 #[.string s, .slice (some ⟨W.heap.size, 0, none⟩) 2 2] (W.alloc (.cells #[.string s, .string s] t)) fun e w' => e = .returned (.bool s.toList.isEmpty) ∧ Drawn0 (W.alloc (.cells #[.string s, .string s] t)) w' := fun W t hW => by
            have h := holds_c s s s [] (some ⟨W.heap.size, 0, none⟩) 2 (W.alloc (.cells #[.string s, .string s] t)) (by omega) (by simp) (hW.below (below_alloc (Below.refl _ _) _)) (two_C W _ _ t) (by simp)
            rw [show ([] : List ByteArray).map bl = [] from rfl, twice_holds, show (bl s).isEmpty = s.toList.isEmpty from by rw [Lib.toList_data]; rfl] at h
            exact h
          have cH4 : ∀ (W : World) (t : TypeId), Env W → Calls Tryd.prog 17 #[.string s, .slice (some ⟨W.heap.size, 0, none⟩) 2 2] (W.alloc (.cells #[.string (s ++ ⟨#[120]⟩), .string ⟨#[]⟩] t)) fun e w' => e = .returned (.bool false) ∧ Drawn0 (W.alloc (.cells #[.string (s ++ ⟨#[120]⟩), .string ⟨#[]⟩] t)) w' := fun W t hW => by
            have h := holds_c s (s ++ ⟨#[120]⟩) ⟨#[]⟩ [] (some ⟨W.heap.size, 0, none⟩) 2 (W.alloc (.cells #[.string (s ++ ⟨#[120]⟩), .string ⟨#[]⟩] t)) (by omega) (by simp) (hW.below (below_alloc (Below.refl _ _) _)) (two_C W _ _ t) (by simp)
            rw [show ([] : List ByteArray).map bl = [] from rfl, bl_append, show bl ⟨#[]⟩ = [] from rfl, show bl ⟨#[120]⟩ = [120] from rfl, longer_holds] at h
            exact h
          clear hz hal
          go_wp2_with (at_builtin; refine print_append_of (w0 := w) Value.string w.heap.size rfl _ _ 37 9 (.string ByteArray.empty) 16 rfl Tryd.underlying37 str_info rfl (by omega) (.slice A6 (mids.length + 1) c6) (⟨#[]⟩ :: mids) (s.extract a s.size) rfl rfl rfl HO.out hbel hbel.size (by simp; omega) ?_; intro v1 w1 HO1 HB1 _ _; obtain ⟨A1, c1, rfl, hle1, hC1⟩ := last_row HO1 (by simp); have HO1 := Aside0.mk HO1; have HC1 := Aside0.mk hC1; clear hC1; have hcut := cut_open A1 mids.length c1 hle1; refine Aside0.out ?_)
          refine ⟨?_⟩
          have hE1 := hE.below HB1
          go_wp2_with (go_at_call 17; refine (cH1 _ A1 c1 hE1 HC1.out hle1).mono ?_; rintro e w2 ⟨rfl, hd2⟩; refine Aside0.out ?_)
          refine ⟨?_⟩
          have hE2 := hE1.drawn hd2
          have hC2 := Aside0.mk (drawn_C HC1.out hd2)
          have HB2 := below_seq HB1 hd2.below
          have hsz2 : w.heap.size ≤ w2.heap.size := HB2.size
          go_wp2_with (at_builtin; refine gate_guard (by kernel_rfl) ?_; refine Aside0.out ?_)
          refine ⟨?_⟩
          refine wpList_append_grows _ rfl _ _ 37 rfl 9 i0 (.string ByteArray.empty) 1 16 Tryd.underlying37 hi hz0 hz1 hz2 rfl (by omega) (some A1) (mids.length + 1) (mids.length + 1) (Go.Proofs.YtdfdponenhfbjaaDoorW.PrintWords.encs Value.string (⟨#[]⟩ :: mids)) rfl (fun h => by cases h) (by simp [Go.Proofs.YtdfdponenhfbjaaDoorW.PrintWords.encs]) (olds_cells hC2.out _) ⟨w2.heap.size, 0, none⟩ 1 1 [.string ⟨#[]⟩] rfl rfl (World.news_of_block (cs := #[.string ⟨#[]⟩]) (fr := (0, 0)) (heap_alloc_new w2 _)) (by intro u hu; simp at hu; subst hu; rfl) (by omega) (by simp only [maxLen]; omega) (by omega) ?_
          intro v3 w3 HO3 hg3
          have HB3 : Below w.heap.size w w3 := (HB2.alloc hsz2 _).grown hg3 (by simp; omega) (fun k hk => by cases hk)
          have e3 : Go.Proofs.YtdfdponenhfbjaaDoorW.PrintWords.encs Value.string (⟨#[]⟩ :: mids) ++ [.string ⟨#[]⟩] = Go.Proofs.YtdfdponenhfbjaaDoorW.PrintWords.encs Value.string ((⟨#[]⟩ :: mids) ++ [⟨#[]⟩]) := by simp [Go.Proofs.YtdfdponenhfbjaaDoorW.PrintWords.encs]
          rw [e3] at HO3
          obtain ⟨A3, c3, rfl, hle3, hC3⟩ := last_row HO3 (by omega)
          have HC3 := Aside0.mk hC3
          have hE3 := hE.below HB3
          clear hC3 HO3 e3
          go_wp2_with (go_at_call 17; refine (cH2 _ A3 c3 hE3 HC3.out hle3).mono ?_; rintro e w4 ⟨rfl, hd4⟩; refine Aside0.out ?_)
          refine ⟨?_⟩
          have hE4 := hE3.drawn hd4
          go_wp2_with (go_at_call 11; refine (alive_c _ hE4).mono ?_; rintro e w5 ⟨rfl, hb5⟩; refine Aside0.out ?_)
          refine ⟨?_⟩
          have hE5 := hE4.below hb5
          by_cases hl : s.toList = []
          all_goals
            have hem : s.toList.isEmpty = decide (s.toList = []) := by cases s.toList <;> rfl
            first
              | rw [decide_eq_true hl] at hem
              | rw [decide_eq_false hl] at hem
            rw [hem] at cH3
            go_wp2_with (go_at_call 17; refine (cH3 w5 _ hE5).mono ?_; rintro e w6 ⟨rfl, hd6⟩; refine Aside0.out ?_)
            refine ⟨?_⟩
            have hE6 := (hE5.below (below_alloc (Below.refl _ _) _)).drawn hd6
            go_wp2_with (go_at_call 17; refine (cH4 w6 _ hE6).mono ?_; rintro e w7 ⟨rfl, hd7⟩)
            go_ret
            exact ⟨rfl, below_seq HB3 (below_seq hd4.below (below_seq hb5 (below_seq (below_alloc_to hd6) (below_alloc_to hd7))))⟩
end Go.Proofs.YtdfdponenhfbjaaDoor.Wk
