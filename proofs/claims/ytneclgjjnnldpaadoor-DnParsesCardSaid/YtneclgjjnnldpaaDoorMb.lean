/- Merged out of Rd Ro Rp Rc Ry Rx Ru Rh Re Rv Rq Rr (by wip/tools/merge.py). -/
import Derived.Test.YtneclgjjnnldpaaDoorPFnx
import Derived.Test.YtneclgjjnnldpaaDoorShelf
import Derived.Test.YtneclgjjnnldpaaDoorMa
import Derived.BigCall
import Derived.Lib.Hide
import Derived.StillTailTactics
import Derived.WalkLawsBesides
import Derived.Shelf.Pu.Clone
import Derived.Laws.DeepStrings4
import Derived.IntWalk
import Derived.Deep.RegionHeld3
section
/- The walks of dn's reader: ended, is, blanks. Conditions: the reader's cells as told. -/
namespace Go.Proofs.YtneclgjjnnldpaaDoor.Rd
open Go Go.RowKit Go.Lib Go.Proofs.YtneclgjjnnldpaaDoor.PFn Go.Proofs.YtneclgjjnnldpaaDoor.Dp Go.Proofs.YtneclgjjnnldpaaDoorW.PrintWords

def bl (s : ByteArray) : Bs := s.data.toList
theorem bl_size (s : ByteArray) : (bl s).length = s.size := Array.length_toList
/-- from i on the text reads l -/
def Lr (s : ByteArray) (i : Nat) (l : Bs) : Prop := (bl s).drop i = l ∧ i ≤ s.size
theorem Lr.nil {s : ByteArray} {i : Nat} (h : Lr s i []) : i = s.size := by
  have := List.drop_eq_nil_iff.1 h.1
  rw [bl_size] at this
  have := h.2
  omega
theorem Lr.lt {s : ByteArray} {i : Nat} {c : UInt8} {r : Bs} (h : Lr s i (c :: r)) : i < s.size := by
  rcases Nat.lt_or_ge i s.size with h1 | h1
  · exact h1
  · have := h.1
    rw [List.drop_eq_nil_of_le (by rw [bl_size]; exact h1)] at this
    cases this
theorem Lr.at_ {s : ByteArray} {i : Nat} {c : UInt8} {r : Bs} (h : Lr s i (c :: r)) : s[i]'h.lt = c := by
  have hl : i < (bl s).length := by rw [bl_size]; exact h.lt
  have h1 := h.1
  rw [List.drop_eq_getElem_cons hl] at h1
  injection h1
theorem Lr.next {s : ByteArray} {i : Nat} {c : UInt8} {r : Bs} (h : Lr s i (c :: r)) : Lr s (i + 1) r := by
  have hl : i < (bl s).length := by rw [bl_size]; exact h.lt
  have h1 := h.1
  rw [List.drop_eq_getElem_cons hl] at h1
  injection h1 with _ h1
  exact ⟨h1, h.lt⟩

def St (w0 w w' : World) (g : Nat) (s : ByteArray) (i : Nat) : Prop := IsS56 w0 w' g s (i : Int) ∧ Below w0.heap.size w0 w' ∧ KeepBut w w' g none
theorem St.drewN {w0 w w' : World} {g i : Nat} {s : ByteArray} (h : St w0 w w' g s i) (m : Nat) : St w0 w (w'.drewN m) g s i := ⟨h.1.drewN m, pw_below_drewN h.2.1 m, keep_drewN h.2.2 m⟩
/-- the reader's block -/
def Bk (w : World) (g : Nat) (s : ByteArray) (i : Nat) : Prop := w.heap[g]? = some (.cells #[.string s, .int .i64 (i : Int)] 56 (0, 0))
theorem Bk.drewN {w : World} {g i : Nat} {s : ByteArray} (h : Bk w g s i) (m : Nat) : Bk (w.drewN m) g s i := h
set_option maxHeartbeats 1000000 in
theorem ended_q {w : World} {g i : Nat} {s : ByteArray} (h : Bk w g s i) : Calls Tryd.prog 51 #[.pointer (some ⟨g, 0, none⟩)] w fun e w' => e = .returned (.bool (decide (i = s.size))) ∧ ∃ m, w' = w.drewN m := by
  have c0 := cellS56_0 h
  have c1 := cellS56_1 h
  have hd : ((i : Int) == (s.size : Int)) = decide (i = s.size) := by
    by_cases hi : i = s.size
    · rw [decide_eq_true hi]; simp [hi]
    · rw [decide_eq_false hi]
      simp
      omega
  have HD := Aside0.mk hd
  clear hd h
  go_enter Tryd.func51, Tryd.ntmps51
  go_wp2
  repeat (go_quiet (fail); try go_wp2)
  go_ret
  exact ⟨by rw [HD.out]; rfl, _, rfl⟩
set_option maxHeartbeats 2000000 in
theorem is_q {w : World} {g i : Nat} {s : ByteArray} {l : Bs} (h : Bk w g s i) (hl : Lr s i l) (c : UInt8) : Calls Tryd.prog 50 #[.pointer (some ⟨g, 0, none⟩), .int .u8 (c.toNat : Int)] w fun e w' => e = .returned (.bool (l.head? == some c)) ∧ ∃ m, w' = w.drewN m := by
  have c0 := cellS56_0 h
  have c1 := cellS56_1 h
  have cE := fun m => ended_q (h.drewN m)
  cases l with
  | nil =>
    have hi := hl.nil
    rw [decide_eq_true hi] at cE
    clear hl h hi
    go_enter Tryd.func50, Tryd.ntmps50
    go_wp2
    go_quiet (first | (go_at_call 51; exact Calls.quiet_of (cE _)))
    go_wp2
    go_ret
    exact ⟨rfl, _, rfl⟩
  | cons x r =>
    have hi := hl.lt
    have hx : ((s[i]'hi).toNat : Int) = (x.toNat : Int) := by rw [hl.at_]
    rw [decide_eq_false (by omega)] at cE
    have hsz : (i : Int) < (s.size : Int) := by omega
    clear hl h
    have hR : ((x :: r).head? == some c) = ((x.toNat : Int) == (c.toNat : Int)) := by
      by_cases e : x = c
      · subst e; simp
      · have : ¬ (x.toNat : Int) = (c.toNat : Int) := fun h => e (UInt8.toNat_inj.1 (by omega))
        rw [beq_false_of_ne this]
        simp [e]
    have HR := Aside0.mk hR
    clear hR
    go_enter Tryd.func50, Tryd.ntmps50
    go_wp2
    go_quiet (first | (go_at_call 51; exact Calls.quiet_of (cE _)))
    go_wp2
    go_ret
    exact ⟨by rw [HR.out]; rfl, _, rfl⟩

theorem St.self {w0 w : World} {g i : Nat} {s : ByteArray} {w' : World} (h : St w0 w w' g s i) : St w0 w' w' g s i := ⟨h.1, h.2.1, KeepBut.refl _ _ _⟩
theorem St.bk {w0 w w' : World} {g i : Nat} {s : ByteArray} (h : St w0 w w' g s i) : Bk w' g s i := h.1.1
theorem St.trans {w0 w w1 w2 : World} {g i j : Nat} {s : ByteArray} (h : St w0 w w1 g s i) (k : St w0 w1 w2 g s j) : St w0 w w2 g s j := ⟨k.1, k.2.1, h.2.2.trans k.2.2 (.inl rfl)⟩
theorem St.set {w0 w w1 : World} {g i : Nat} {s : ByteArray} (h : St w0 w w1 g s i) (j : Nat) : St w0 w (w1.setCell ⟨g, 1, none⟩ (.int .i64 (j : Int))) g s j := ⟨h.1.set_1 _, below_set h.2.1 h.1.ge, h.2.2.set_ _ _⟩
theorem St.below {w0 w w1 w2 : World} {g i : Nat} {s : ByteArray} (h : St w0 w w1 g s i) (hb : Below w1.heap.size w1 w2) : St w0 w w2 g s i := ⟨h.1.below hb, below_then h.2.1 h.2.1.size hb, h.2.2.trans (KeepBut.of_below hb g none) (.inl rfl)⟩
/-- the reader's step ahead -/
theorem blanks_step (c : UInt8) (r : Bs) : blanks (c :: r) = if c = 32 then blanks r else c :: r := by
  unfold blanks
  rw [List.dropWhile_cons]
  by_cases h : c = 32
  · subst h; rfl
  · rw [if_neg h, if_neg (by simpa using h)]
/-- what reads what it is to, at its end -/
def BlRel (w0 w : World) (g : Nat) (s : ByteArray) (ans : Bs) (wr : World) : Prop := ∃ (i : Nat) (l : Bs), St w0 w wr g s i ∧ Lr s i l ∧ blanks l = ans
/-- how far the reader has to go -/
def ms (s : ByteArray) (g : Nat) (w : World) : Nat := s.size + 1 - (RowKit.intOf ((w.cell? ⟨g, 1, none⟩).getD undef)).toNat
theorem ms_eq {w : World} {g i : Nat} {s : ByteArray} (h : Bk w g s i) : ms s g w = s.size + 1 - i := by
  unfold ms
  rw [cellS56_1 h]
  rfl
set_option maxHeartbeats 2000000 in
theorem blanks_c {w0 w : World} {g i : Nat} {s : ByteArray} {l : Bs} (h : St w0 w w g s i) (hl : Lr s i l) (hs : s.size ≤ 1000000) : Calls Tryd.prog 79 #[.pointer (some ⟨g, 0, none⟩)] w fun e w' => e = .returned (.tuple #[]) ∧ ∃ j, St w0 w w' g s j ∧ Lr s j (blanks l) := by
  obtain ⟨ANS, hA⟩ : ∃ b, blanks l = b := ⟨_, rfl⟩
  rw [hA]
  have HA := Aside0.mk hA
  clear hA
  go_enter Tryd.func79, Tryd.ntmps79
  go_wp2
  go_loopw [] (fun wr => BlRel w0 w g s ANS wr) (fun wr => ms s g wr)
  case atStart => exact ⟨i, l, h, hl, HA.out⟩
  case round =>
    obtain ⟨k, m, hst, hm, hb⟩ := hrel
    have hB := hst.bk
    have cI : ∀ W, Bk W g s k → Calls Tryd.prog 50 #[.pointer (some ⟨g, 0, none⟩), .int .u8 32] W fun e w' => e = .returned (.bool (m.head? == some 32)) ∧ ∃ q, w' = W.drewN q := fun W hW => is_q hW hm 32
    have HB := Aside0.mk hb
    clear hb
    have hks := hm.2
    cases m with
    | nil =>
      rw [show (([] : Bs).head? == some 32) = false from rfl] at cI
      go_wp2_with (go_at_call 50; refine (cI _ hB).mono ?_; rintro e w1 ⟨rfl, q, rfl⟩)
      (first | go_end0 | refine bodyPost_ret (results_none rfl _ _ _) rfl ?_)
      exact ⟨rfl, k, hst.drewN q, by rw [← HB.out]; exact hm⟩
    | cons x r =>
      by_cases hx : x = 32
      · subst hx
        rw [show (((32 : UInt8) :: r).head? == some 32) = true from rfl] at cI
        have hk := hm.lt
        have cw : wr.cell? ⟨g, 1, none⟩ = some (.int .i64 (k : Int)) := cellS56_1 hB
        have fz := blk_frozen hB 1
        go_wp2_with (go_at_call 50; refine (cI _ hB).mono ?_; rintro e w1 ⟨rfl, q, rfl⟩)
        have hst2 := (hst.drewN q).set (k + 1)
        exact ⟨⟨k + 1, r, hst2, hm.next, by rw [← HB.out, blanks_step, if_pos rfl]⟩, by rw [ms_eq hB, show (k : Int) + 1 = ((k + 1 : Nat) : Int) from rfl, ms_eq hst2.bk]; omega⟩
      · have e : ((x :: r).head? == some (32 : UInt8)) = false := by simp [hx]
        rw [e] at cI
        go_wp2_with (go_at_call 50; refine (cI _ hB).mono ?_; rintro e w1 ⟨rfl, q, rfl⟩)
        (first | go_end0 | refine bodyPost_ret (results_none rfl _ _ _) rfl ?_)
        exact ⟨rfl, k, hst.drewN q, by rw [← HB.out, blanks_step, if_neg hx]; exact hm⟩
end Go.Proofs.YtneclgjjnnldpaaDoor.Rd
end
section
/- The walks of dn's isOid and IsType: they answer the plain functions. Conditions: bytealg's MaxLen holds a number. -/
namespace Go.Proofs.YtneclgjjnnldpaaDoor.Rd
open Go Go.RowKit Go.Lib Go.Proofs.YtneclgjjnnldpaaDoor.PFn Go.Proofs.YtneclgjjnnldpaaDoor.Dp Go.Proofs.YtneclgjjnnldpaaDoorW.PrintWords

def Env (w : World) : Prop := Lib.Utf8Tabs (Tryd.lays196_ren.g 3) (Tryd.lays196_ren.g 4) w ∧ ∃ m : Int, w.cell? ⟨2, 0, none⟩ = some (.int .i64 m)
theorem Env.below {w w' : World} (h : Env w) (hb : Below w.heap.size w w') : Env w' :=
  ⟨Utf8Tabs_below h.1 hb, h.2.imp fun _ hm => pw_cell_below hb hm⟩
theorem below_seq {w w1 w2 : World} (h : Below w.heap.size w w1) (k : Below w1.heap.size w1 w2) : Below w.heap.size w w2 := below_then h h.size k
theorem str_info : (Tryd.prog.info? 9).map (fun i => (i.zero, i.size, i.bytes)) = some (some (.string ByteArray.empty), 1, 16) := by kernel_rfl
theorem empty_of {s : ByteArray} (h : bl s = []) : s.toList.isEmpty = true := by rw [Lib.toList_data]; unfold bl at h; rw [h]; rfl
theorem nonempty_of {s : ByteArray} {c : UInt8} {r : Bs} (h : bl s = c :: r) : s.toList.isEmpty = false := by rw [Lib.toList_data]; unfold bl at h; rw [h]; rfl
theorem at0 {s : ByteArray} {c : UInt8} {r : Bs} (h : bl s = c :: r) (h0 : 0 < s.size) : ((s[0]'h0).toNat : Int) = (c.toNat : Int) := by
  have hl : Lr s 0 (c :: r) := ⟨by rw [List.drop_zero]; exact h, Nat.zero_le _⟩
  rw [hl.at_]

theorem isLetter_f (c : UInt8) : dn_isLetter.f (c.toNat : Int) = some (letterB c) := by
  have h : ∀ n : Fin 256, dn_isLetter.f ((UInt8.ofNat n.val).toNat : Int) = some (letterB (UInt8.ofNat n.val)) := by decide +kernel
  have := h ⟨c.toNat, UInt8.toNat_lt c⟩
  rwa [UInt8.ofNat_toNat] at this
theorem inType_f (c : UInt8) : dn_inType.f (c.toNat : Int) = some (inTypeB c) := by
  have h : ∀ n : Fin 256, dn_inType.f ((UInt8.ofNat n.val).toNat : Int) = some (inTypeB (UInt8.ofNat n.val)) := by decide +kernel
  have := h ⟨c.toNat, UInt8.toNat_lt c⟩
  rwa [UInt8.ofNat_toNat] at this

theorem pieces_bl (s : ByteArray) : (Lib.splitB ⟨#[46]⟩ 0 (Lib.countB s ⟨#[46]⟩) s).map bl = splitDots (bl s) := by
  rw [← split_dots]
  exact Lib.splitB_data ⟨#[46]⟩ 0 _ s
theorem dots_len : ∀ (l p : Bs), p ∈ splitDots l → p.length ≤ l.length
  | [], p, h => by
    have : p = [] := by simpa [splitDots] using h
    subst this
    exact Nat.le_refl _
  | c :: r, p, h => by
    simp only [splitDots] at h
    split at h
    · rcases List.mem_cons.1 h with rfl | h
      · simp
      · have := dots_len r p h
        simp only [List.length_cons]
        omega
    · cases hr : splitDots r with
      | nil =>
        rw [hr] at h
        have : p = [c] := by simpa using h
        subst this
        simp
      | cons q qs =>
        rw [hr] at h
        rcases List.mem_cons.1 h with rfl | h
        · have := dots_len r q (by rw [hr]; simp)
          simp only [List.length_cons]
          omega
        · have := dots_len r p (by rw [hr]; simp [h])
          simp only [List.length_cons]
          omega
theorem all_bad {ps : List ByteArray} {k : Nat} (h : k < ps.length) (hb : numOk (bl ps[k]) = false) (b : Bool) : ((ps.map bl).all numOk && b) = false := by
  have : (ps.map bl).all numOk = false := by
    rw [List.all_eq_false]
    exact ⟨bl ps[k], List.mem_map.2 ⟨ps[k], List.getElem_mem h, rfl⟩, by rw [hb]; decide⟩
  rw [this]
  rfl
theorem all_good {ps : List ByteArray} (h : ∀ p ∈ ps, numOk (bl p) = true) (b : Bool) : ((ps.map bl).all numOk && b) = b := by
  have : (ps.map bl).all numOk = true := by
    rw [List.all_eq_true]
    intro x hx
    obtain ⟨p, hp, rfl⟩ := List.mem_map.1 hx
    exact h p hp
  rw [this]
  rfl
theorem take_more {ps : List ByteArray} {k : Nat} (h : k < ps.length) (ha : ∀ p ∈ ps.take k, numOk (bl p) = true) (hb : numOk (bl ps[k]) = true) : ∀ p ∈ ps.take (k + 1), numOk (bl p) = true := by
  intro p hp
  rw [List.take_succ_eq_append_getElem h] at hp
  rcases List.mem_append.1 hp with hp | hp
  · exact ha p hp
  · rw [List.mem_singleton.1 hp]; exact hb
def ORel (ps : List ByteArray) (w1 : World) (v10 : Value) (wr : World) : Prop := ∃ k : Nat, v10 = .int .i64 (k : Int) ∧ k ≤ ps.length ∧ (∀ p ∈ ps.take k, numOk (bl p) = true) ∧ Below w1.heap.size w1 wr

set_option maxHeartbeats 4000000 in
theorem isOid_c (s : ByteArray) (w : World) (hs : s.size ≤ 1000) (hE : Env w) : Calls Tryd.prog 33 #[.string s] w fun e w' => e = .returned (.bool (isOid (bl s))) ∧ Below w.heap.size w w' := by
  obtain ⟨m, hm⟩ := hE.2
  have cS := Any.strings_Split Tryd.lays146 str_info s ⟨#[46]⟩ m w (by omega) hm (by decide)
  have hlen := Lib.splitB_all ⟨#[46]⟩ (by decide) 0 _ s rfl
  have hbl := pieces_bl s
  have hcz := Lib.countB_le ⟨#[46]⟩ (by decide) s.size s (Nat.le_refl _)
  have hpz : ∀ p ∈ Lib.splitB ⟨#[46]⟩ 0 (Lib.countB s ⟨#[46]⟩) s, p.size ≤ 1000 := by
    intro p hp
    have h1 : bl p ∈ splitDots (bl s) := by
      rw [← hbl]
      exact List.mem_map.2 ⟨p, hp, rfl⟩
    have h2 := dots_len _ _ h1
    rw [bl_size, bl_size] at h2
    omega
  generalize Lib.splitB ⟨#[46]⟩ 0 (Lib.countB s ⟨#[46]⟩) s = ps at *
  rw [← hlen] at cS
  obtain ⟨ANS, hA⟩ : ∃ b, isOid (bl s) = b := ⟨_, rfl⟩
  rw [hA]
  have hA2 : ((ps.map bl).all numOk && decide (1 < ps.length)) = ANS := by
    rw [← hA]
    unfold isOid
    rw [← hbl, List.length_map]
  have HA := Aside0.mk hA2
  have HP := Aside0.mk hpz
  have hpl : ps.length ≤ 1001 := by omega
  clear hA hA2 hbl hlen hcz hE hm hpz
  go_enter Tryd.func33, Tryd.ntmps33
  go_wp2_with (go_at_call 54; refine cS.mono ?_; rintro e w1 ⟨rfl, rfl⟩)
  go_loopw [5, 10] (fun _ v10 wr => ORel ps (w.alloc (.cells (ps.map Value.string).toArray 9)) v10 wr) (fun _ v10 _ => ps.length - (RowKit.intOf v10).toNat)
  case atStart => exact ⟨0, rfl, Nat.zero_le _, fun p hp => by simp at hp, Below.refl _ _⟩
  case round =>
    obtain ⟨k, rfl, hk, hall, hbr⟩ := hrel
    have HALL := Aside0.mk hall
    clear hall
    by_cases hlt : k < ps.length
    · have hc : wr.cell? ⟨w.heap.size, k, none⟩ = some (.string ps[k]) := by
        refine pw_cell_below hbr ?_
        exact (blk_cell (heap_alloc_new w _) k).trans (by simp [hlt])
      have hbad := fun h => all_bad hlt h (decide (1 < ps.length))
      rw [HA.out] at hbad
      have hgood := fun h => take_more hlt HALL.out h
      have hpz := HP.out ps[k] (List.getElem_mem hlt)
      generalize ps[k] = p at *
      have HGOOD := Aside0.mk hgood
      have HBAD := Aside0.mk hbad
      clear hgood hbad
      cases hp : bl p with
      | nil =>
        have hemp := empty_of hp
        have hf : ANS = false := HBAD.out (by rw [hp]; rfl)
        subst hf
        clear hp
        go_wp2
        go_ret
        exact ⟨rfl, below_seq (below_alloc (Below.refl _ _) _) hbr⟩
      | cons c r =>
        have hemp := nonempty_of hp
        have hsz : p.size = r.length + 1 := by rw [← bl_size, hp]; rfl
        have h0 := at0 hp (by omega)
        have htr : (Lib.trimS p.data.toList (⟨#[48, 49, 50, 51, 52, 53, 54, 55, 56, 57]⟩ : ByteArray).data.toList).isEmpty = (bl p).all digitB := trim_digits (bl p)
        have cT : ∀ W, Calls Tryd.prog 55 #[.string p, .string ⟨#[48, 49, 50, 51, 52, 53, 54, 55, 56, 57]⟩] W fun e w' => e = .returned (.string ⟨(Lib.trimS p.data.toList (⟨#[48, 49, 50, 51, 52, 53, 54, 55, 56, 57]⟩ : ByteArray).data.toList).toArray⟩) ∧ Below W.heap.size W w' :=
          fun W => Any.strings_Trim_laid Tryd.lays160 (by kernel_rfl) p ⟨#[48, 49, 50, 51, 52, 53, 54, 55, 56, 57]⟩ W (by omega) (by decide) (by
            intro j b hj
            have hall : ([48, 49, 50, 51, 52, 53, 54, 55, 56, 57] : List UInt8).all (fun b => decide (b.toNat < 128)) = true := by decide
            exact ascii_of_all hall j b hj)
        generalize Lib.trimS p.data.toList (⟨#[48, 49, 50, 51, 52, 53, 54, 55, 56, 57]⟩ : ByteArray).data.toList = t at *
        have hnum : numOk (bl p) = (!(decide (1 < r.length + 1) && c == 48) && t.isEmpty) := by
          rw [htr, hp]
          rfl
        rw [hnum] at HGOOD HBAD
        clear hnum htr hp
        by_cases hA : 0 < r.length ∧ c = 48
        · obtain ⟨hr, rfl⟩ := hA
          have hf : ANS = false := HBAD.out (by rw [decide_eq_true (by omega)]; rfl)
          subst hf
          rw [show (((48 : UInt8).toNat : Nat) : Int) = 48 from rfl] at h0
          go_wp2
          go_ret
          exact ⟨rfl, below_seq (below_alloc (Below.refl _ _) _) hbr⟩
        · have hA2 : (!(decide (1 < r.length + 1) && c == 48)) = true := by
            by_cases h1 : 0 < r.length
            · have h2 : c ≠ 48 := fun h => hA ⟨h1, h⟩
              simp [h2]
            · rw [decide_eq_false (by omega)]
              rfl
          rw [hA2, Bool.true_and] at HGOOD HBAD
          have h48 : 0 < r.length → ¬ (c.toNat : Int) = 48 := fun h1 h => hA ⟨h1, UInt8.toNat_inj.1 (by
            have : (48 : UInt8).toNat = 48 := rfl
            omega)⟩
          clear hA hA2
          by_cases hr : 0 < r.length
          · have hc48 := h48 hr
            clear h48
            cases t with
            | nil =>
              go_wp2_with (go_at_call 55; refine (cT _).mono ?_; rintro e w2 ⟨rfl, hb2⟩)
              exact ⟨⟨k + 1, by go_num, by omega, HGOOD.out rfl, below_seq hbr hb2⟩, by simp [RowKit.intOf]; omega⟩
            | cons y u =>
              have hf : ANS = false := HBAD.out rfl
              subst hf
              have hemp2 : (⟨(y :: u).toArray⟩ : ByteArray).toList.isEmpty = false := nonempty_of (c := y) (r := u) rfl
              go_wp2_with (go_at_call 55; refine (cT _).mono ?_; rintro e w2 ⟨rfl, hb2⟩)
              go_ret
              exact ⟨rfl, below_seq (below_alloc (Below.refl _ _) _) (below_seq hbr hb2)⟩
          · have hr0 : r.length = 0 := by omega
            clear h48 hr
            cases t with
            | nil =>
              go_wp2_with (go_at_call 55; refine (cT _).mono ?_; rintro e w2 ⟨rfl, hb2⟩)
              exact ⟨⟨k + 1, by go_num, by omega, HGOOD.out rfl, below_seq hbr hb2⟩, by simp [RowKit.intOf]; omega⟩
            | cons y u =>
              have hf : ANS = false := HBAD.out rfl
              subst hf
              have hemp2 : (⟨(y :: u).toArray⟩ : ByteArray).toList.isEmpty = false := nonempty_of (c := y) (r := u) rfl
              go_wp2_with (go_at_call 55; refine (cT _).mono ?_; rintro e w2 ⟨rfl, hb2⟩)
              go_ret
              exact ⟨rfl, below_seq (below_alloc (Below.refl _ _) _) (below_seq hbr hb2)⟩
    · have hke : k = ps.length := by omega
      subst hke
      have hg := all_good (ps := ps) (fun p hp => HALL.out p (by rw [List.take_length]; exact hp)) (decide (1 < ps.length))
      rw [HA.out] at hg
      have hd : ANS = decide ((1 : Int) < (ps.length : Int)) := by
        rw [hg]
        congr 1
        exact propext ⟨fun h => by omega, fun h => by omega⟩
      clear hg
      have HD := Aside0.mk hd
      clear hd
      go_wp2
      go_ret
      exact ⟨by rw [HD.out]; rfl, below_seq (below_alloc (Below.refl _ _) _) hbr⟩
end Go.Proofs.YtneclgjjnnldpaaDoor.Rd
end
section
/- The walk of dn's IsType: it answers the plain function. Conditions: a text of at most 2^47 bytes; bytealg's MaxLen holds a number. -/
namespace Go.Proofs.YtneclgjjnnldpaaDoor.Rd
open Go Go.RowKit Go.Lib Go.Proofs.YtneclgjjnnldpaaDoor.PFn Go.Proofs.YtneclgjjnnldpaaDoor.Dp Go.Proofs.YtneclgjjnnldpaaDoorW.PrintWords

def okT (c : UInt8) : Bool := inTypeB c && !(c == 46)
theorem isType_cons (c : UInt8) (r : Bs) : isType (c :: r) = (decide (r.length + 1 ≤ 64) && (if letterB c then (c :: r).all okT else isOid (c :: r))) := rfl
theorem drawn_below {w w' : World} (h : Drawn0 w w') : Below w.heap.size w w' := h.below
def TRel (s : ByteArray) (w1 : World) (v : Value) (wr : World) : Prop := ∃ k : Nat, v = .int .i64 (k : Int) ∧ k ≤ s.size ∧ (∀ b ∈ (bl s).take k, okT b = true) ∧ Below w1.heap.size w1 wr

set_option maxHeartbeats 4000000 in
theorem isType_c (s : ByteArray) (w : World) (hs : s.size ≤ 140737488351232) (hE : Env w) : Calls Tryd.prog 19 #[.string s] w fun e w' => e = .returned (.bool (isType (bl s))) ∧ Below w.heap.size w w' := by
  cases hb : bl s with
  | nil =>
    have hemp := empty_of hb
    clear hb
    go_enter Tryd.func19, Tryd.ntmps19
    go_wp2
    go_ret
    exact ⟨rfl, Below.refl _ _⟩
  | cons c r =>
    have hemp := nonempty_of hb
    have hsz : s.size = r.length + 1 := by rw [← bl_size, hb]; rfl
    rw [isType_cons]
    by_cases h64 : s.size ≤ 64
    · rw [decide_eq_true (by omega), Bool.true_and]
      have h0 := at0 hb (by omega)
      have cL := fun W => dn_isLetter.calls (c.toNat : Int) _ W (isLetter_f c)
      by_cases hl : letterB c = true
      · rw [if_pos hl]
        rw [hl] at cL
        obtain ⟨ANS, hA⟩ : ∃ b, (c :: r).all okT = b := ⟨_, rfl⟩
        rw [hA]
        rw [← hb] at hA
        have HA := Aside0.mk hA
        clear hA hb hl
        go_enter Tryd.func19, Tryd.ntmps19
        go_wp2_with (go_at_call 32; refine (cL _).mono ?_; rintro e w1 ⟨rfl, hd1⟩)
        go_loopw [3, 21] (fun _ v21 wr => TRel s w v21 wr) (fun _ v21 _ => s.size - (RowKit.intOf v21).toNat)
        case atStart => exact ⟨0, rfl, Nat.zero_le _, fun p hp => by simp at hp, hd1.below⟩
        case round =>
          obtain ⟨k, rfl, hk, hall, hbr⟩ := hrel
          have HALL := Aside0.mk hall
          clear hall
          by_cases hlt : k < s.size
          · have hkl : k < (bl s).length := by rw [bl_size]; exact hlt
            have hx : ((s[k]'hlt).toNat : Int) = ((bl s)[k].toNat : Int) := by
              have hL : Lr s k ((bl s)[k] :: (bl s).drop (k + 1)) := ⟨List.drop_eq_getElem_cons hkl, hk⟩
              rw [hL.at_]
            have hgood : Aside0 (okT (bl s)[k] = true → ∀ b ∈ (bl s).take (k + 1), okT b = true) := ⟨fun h b hb => by
              rw [List.take_succ_eq_append_getElem hkl] at hb
              rcases List.mem_append.1 hb with hb | hb
              · exact HALL.out b hb
              · rw [List.mem_singleton.1 hb]; exact h⟩
            have hbad : Aside0 (okT (bl s)[k] = false → ANS = false) := ⟨fun h => by
              rw [← HA.out, List.all_eq_false]
              exact ⟨_, List.getElem_mem hkl, by rw [h]; decide⟩⟩
            generalize (bl s)[k] = x at *
            have cI := fun W => dn_inType.calls (x.toNat : Int) _ W (inType_f x)
            cases hi : inTypeB x with
            | false =>
              rw [hi] at cI
              have hf : ANS = false := hbad.out (by unfold okT; rw [hi]; rfl)
              subst hf
              clear hi
              go_wp2_with (go_at_call 34; refine (cI _).mono ?_; rintro e w2 ⟨rfl, hd2⟩)
              go_ret
              exact ⟨rfl, below_seq hbr hd2.below⟩
            | true =>
              rw [hi] at cI
              by_cases h46 : x = 46
              · have hf : ANS = false := hbad.out (by unfold okT; rw [hi, h46]; rfl)
                subst hf
                subst h46
                rw [show (((46 : UInt8).toNat : Nat) : Int) = 46 from rfl] at hx cI
                clear hi
                go_wp2_with (go_at_call 34; refine (cI _).mono ?_; rintro e w2 ⟨rfl, hd2⟩)
                go_ret
                exact ⟨rfl, below_seq hbr hd2.below⟩
              · have hg := Aside0.mk (hgood.out (by unfold okT; rw [hi]; simp [h46]))
                have hx46 : ¬ (x.toNat : Int) = 46 := fun h => h46 (UInt8.toNat_inj.1 (by
                  have : (46 : UInt8).toNat = 46 := rfl
                  omega))
                clear hi h46
                go_wp2_with (go_at_call 34; refine (cI _).mono ?_; rintro e w2 ⟨rfl, hd2⟩)
                exact ⟨⟨k + 1, by go_num, by omega, hg.out, below_seq hbr hd2.below⟩, by simp [RowKit.intOf]; omega⟩
          · have hke : k = s.size := by omega
            subst hke
            have hf : ANS = true := by
              rw [← HA.out, List.all_eq_true]
              intro b hb
              exact HALL.out b (by rw [← bl_size, List.take_length]; exact hb)
            subst hf
            go_wp2
            go_ret
            exact ⟨rfl, hbr⟩
      · have hl' : letterB c = false := eq_false_of_ne_true hl
        rw [if_neg hl]
        rw [hl'] at cL
        have cO := fun W (hW : Env W) => isOid_c s W (by omega) hW
        rw [hb] at cO
        clear hb hl hl'
        go_enter Tryd.func19, Tryd.ntmps19
        go_wp2_with (first | (go_at_call 32; refine (cL _).mono ?_; rintro e w1 ⟨rfl, hd1⟩) | (go_at_call 33; refine (cO _ (hE.below hd1.below)).mono ?_; rintro e w2 ⟨rfl, hb2⟩))
        go_ret
        exact ⟨rfl, below_seq hd1.below hb2⟩
    · rw [decide_eq_false (by omega), Bool.false_and]
      clear hb
      go_enter Tryd.func19, Tryd.ntmps19
      go_wp2
      go_ret
      exact ⟨rfl, Below.refl _ _⟩
end Go.Proofs.YtneclgjjnnldpaaDoor.Rd
end
section
/- strings.Clone at this program: the same string. Conditions: a string of at most 2^44 bytes. -/
namespace Go.Proofs.YtneclgjjnnldpaaDoor.Rd
open Go Go.RowKit Go.Lib Go.Proofs.YtneclgjjnnldpaaDoor.PFn Go.Proofs.YtneclgjjnnldpaaDoor.Dp Go.Proofs.YtneclgjjnnldpaaDoorW.PrintWords

def cloneRen : Go.Shelf.Ren := ⟨fun | 25 => 98 | n => n, fun | 37 => 64 | 47 => 85 | n => n, fun n => n⟩
theorem laysClone : LaysPu.n25 Tryd.prog cloneRen := {
  mixed := by kernel_rfl
  f25 := Tryd.func98.trans (congrArg some (by kernel_rfl))
  t0 := Tryd.underlying0
  a0 := Tryd.isAgg0
  z0 := Tryd.sizeOf0
  v0 := Tryd.zeroValue0
  i0 := by kernel_rfl
  t3 := Tryd.underlying3
  a3 := Tryd.isAgg3
  z3 := Tryd.sizeOf3
  v3 := Tryd.zeroValue3
  i3 := by kernel_rfl
  t4 := Tryd.underlying4
  a4 := Tryd.isAgg4
  z4 := Tryd.sizeOf4
  v4 := Tryd.zeroValue4
  i4 := by kernel_rfl
  t5 := Tryd.underlying5
  a5 := Tryd.isAgg5
  z5 := Tryd.sizeOf5
  v5 := Tryd.zeroValue5
  i5 := by kernel_rfl
  t9 := Tryd.underlying9
  a9 := Tryd.isAgg9
  z9 := Tryd.sizeOf9
  v9 := Tryd.zeroValue9
  i9 := by kernel_rfl
  t37 := Tryd.underlying64
  a37 := Tryd.isAgg64
  z37 := Tryd.sizeOf64
  v37 := Tryd.zeroValue64
  i37 := by kernel_rfl
  t47 := Tryd.underlying85
  a47 := Tryd.isAgg85
  z47 := Tryd.sizeOf85
  v47 := Tryd.zeroValue85
  i47 := by kernel_rfl }
set_option maxHeartbeats 1000000 in
theorem clone_c (s : ByteArray) (w : World) (hs : s.size ≤ 17592186044416) : Calls Tryd.prog 89 #[.string s] w fun e w' => e = .returned (.string s) ∧ Below w.heap.size w w' := by
  have cC : Calls Tryd.prog 98 #[.string s] w fun e w' => e = .returned (.string s) ∧ Below w.heap.size w w' := AnyPu.stringslite_Clone laysClone s w (by omega)
  go_enter Tryd.func89, Tryd.ntmps89
  go_wp2_with (go_at_call 98; refine cC.mono ?_; rintro e w1 ⟨rfl, hb⟩)
  go_ret
  exact ⟨rfl, hb⟩
end Go.Proofs.YtneclgjjnnldpaaDoor.Rd
end
section
/- The walk of the reader's typ: it answers, or panics, as the plain function says. Conditions: a text of at most 10^6 bytes. -/
namespace Go.Proofs.YtneclgjjnnldpaaDoor.Rd
open Go Go.RowKit Go.Lib Go.Proofs.YtneclgjjnnldpaaDoor.PFn Go.Proofs.YtneclgjjnnldpaaDoor.Dp Go.Proofs.YtneclgjjnnldpaaDoorW.PrintWords

/-- the panic by which the reader gives up -/
def Pan : List PanicEntry := [{ v := .iface 32 (.int .i64 30), recovered := false }]
theorem St.env {w0 w w' : World} {g i : Nat} {s : ByteArray} (h : St w0 w w' g s i) (hE : Env w0) : Env w' := hE.below h.2.1
/-- typ's loop: from i to j all bytes are a type's -/
def TyRel (w0 w : World) (g : Nat) (s : ByteArray) (i : Nat) (l : Bs) (wr : World) : Prop :=
  ∃ (j : Nat) (m : Bs), St w0 w wr g s j ∧ Lr s j m ∧ i ≤ j ∧ l.takeWhile inTypeB = l.take (j - i) ++ m.takeWhile inTypeB ∧ l.dropWhile inTypeB = m.dropWhile inTypeB
theorem quiet_in (x : UInt8) {b : Bool} (hb : inTypeB x = b) {w : World} {n : Nat} : Calls Tryd.prog 34 #[.int .u8 (x.toNat : Int)] (w.drewN n) fun e w'' => e = .returned (.bool b) ∧ ∃ m, w'' = w.drewN m :=
  Calls.quiet_of ((dn_inType.calls (x.toNat : Int) b _ (by rw [inType_f, hb])).mono fun e w' ⟨he, hd⟩ => ⟨he, by obtain ⟨⟨m, hm⟩⟩ := hd; exact ⟨m, hm⟩⟩)
theorem tw_step (x : UInt8) (r : Bs) (h : inTypeB x = true) : (x :: r).takeWhile inTypeB = x :: r.takeWhile inTypeB ∧ (x :: r).dropWhile inTypeB = r.dropWhile inTypeB := ⟨List.takeWhile_cons_of_pos h, List.dropWhile_cons_of_pos h⟩
theorem Lr.drop_eq {s : ByteArray} {i j : Nat} {l m : Bs} (hl : Lr s i l) (hm : Lr s j m) (hij : i ≤ j) : l.drop (j - i) = m := by
  rw [← hl.1, ← hm.1, List.drop_drop]
  congr 1
  omega

/-- a region that draws its order and whose last operations are forced: the head reads, in a world of one name -/
theorem still_tail {P : Program} {id : Nat} {Q : Exit → Act → World → Prop} {a : Act} {w : World} {l : List Oper} (n : Nat) (hm : P.follows .mixedOrders = true) (hB : Region.lexTailB .any l.toArray n = true)
    (h : ∀ w3, w3 = w.drewN 1 → wpStill P l.toArray w3 (fun a' => wpList P l.toArray Q (l.drop n) a' w3) (l.take n) a) : (Code.region id l.toArray true).wp P Q a w := wp_region_still_tail n hm hB (h _ rfl)
set_option maxHeartbeats 1000000 in
set_option maxRecDepth 100000 in
theorem typ_c {w0 w : World} {g i : Nat} {s : ByteArray} {l : Bs} (h : St w0 w w g s i) (hl : Lr s i l) (hs : s.size ≤ 1000000) (hE : Env w0) :
    Calls Tryd.prog 80 #[.pointer (some ⟨g, 0, none⟩)] w fun e w' => match typL l with
      | some x => e = .returned (.string ⟨x.1.toArray⟩) ∧ ∃ j, St w0 w w' g s j ∧ Lr s j x.2
      | none => e = .panicked Pan ∧ ∃ j, St w0 w w' g s j := by
  have c1 : w.cell? ⟨g, 1, none⟩ = some (.int .i64 (i : Int)) := cellS56_1 h.bk
  have his := hl.2
  obtain ⟨Q, hQ⟩ : ∃ Q : Ending → World → Prop, Q = fun e w' => match typL l with
      | some x => e = .returned (.string ⟨x.1.toArray⟩) ∧ ∃ j, St w0 w w' g s j ∧ Lr s j x.2
      | none => e = .panicked Pan ∧ ∃ j, St w0 w w' g s j := ⟨_, rfl⟩
  rw [← hQ]
  have HQ := Aside0.mk hQ
  clear hQ
  go_enter Tryd.func80, Tryd.ntmps80
  go_wp2
  repeat (go_quiet (fail); try go_wp2)
  go_loopw [] (fun wr => TyRel w0 w g s i l wr) (fun wr => ms s g wr)
  case atStart => exact ⟨i, l, h, hl, Nat.le_refl _, by rw [Nat.sub_self]; rfl, rfl⟩
  case round =>
    obtain ⟨j, m, hst, hm, hij, htw, hdw⟩ := hrel
    have hB := hst.bk
    have c0 : wr.cell? ⟨g, 0, none⟩ = some (.string s) := cellS56_0 hB
    have c1' : wr.cell? ⟨g, 1, none⟩ = some (.int .i64 (j : Int)) := cellS56_1 hB
    have hjs := hm.2
    have cE := fun n => ended_q (hB.drewN n)
    have hdr := hl.drop_eq hm hij
    cases m with
    | nil =>
      rw [decide_eq_true hm.nil] at cE
      rw [show List.takeWhile inTypeB [] = [] from rfl] at htw
      rw [show List.dropWhile inTypeB [] = [] from rfl] at hdw
      have HTW := Aside0.mk htw
      have HDW := Aside0.mk hdw
      clear htw hdw
      go_wp2
      go_quiet (first | (go_at_call 51; exact Calls.quiet_of (cE _)))
      go_wp2
      have hpc : bl (s.extract i j) = l.takeWhile inTypeB := by
        rw [HTW.out, List.append_nil, ← hl.1]
        exact Lib.extract_data s i j
      have hpz : (s.extract i j).size ≤ 1000000 := by
        rw [← bl_size, hpc]
        have := (List.takeWhile_prefix inTypeB (l := l)).length_le
        have hll : l.length ≤ s.size := by
          rw [← hl.1, List.length_drop, bl_size]
          omega
        omega
      have cI := fun W (hW : Env W) => isType_c (s.extract i j) W (by omega) hW
      have cC := fun W => clone_c (s.extract i j) W (by omega)
      have hE2 := hst.env hE
      have hpa : (⟨(l.takeWhile inTypeB).toArray⟩ : ByteArray) = s.extract i j := by rw [← hpc]; rfl
      rw [hpc] at cI
      have HPA := Aside0.mk hpa
      have hst2 := hst.drewN nq
      generalize wr.drewN nq = w2 at *
      refine still_tail 10 (by kernel_rfl) (by kernel_rfl) (fun w3 hw3 => ?_)
      have hst3 := hst2.drewN 1
      rw [← hw3] at hst3
      have d0 : w3.cell? ⟨g, 0, none⟩ = some (.string s) := cellS56_0 hst3.bk
      have d1 : w3.cell? ⟨g, 1, none⟩ = some (.int .i64 (j : Int)) := cellS56_1 hst3.bk
      clear hw3
      simp only [List.take_succ_cons, List.take_zero, List.drop_succ_cons, List.drop_zero]
      repeat still_step
      refine wpStill_nil ?_
      have hE3 := hst3.env hE
      by_cases hty : isType (l.takeWhile inTypeB) = true
      · rw [hty] at cI
        have htl : typL l = some (l.takeWhile inTypeB, l.dropWhile inTypeB) := if_pos hty
        go_wp2_with (go_at_call 19; refine (cI _ hE3).mono ?_; rintro e w4 ⟨rfl, hb4⟩)
        have hst4 := hst3.below hb4
        refine still_tail 10 (by kernel_rfl) (by kernel_rfl) (fun w5 hw5 => ?_)
        have hst5 := hst4.drewN 1
        rw [← hw5] at hst5
        have e0 : w5.cell? ⟨g, 0, none⟩ = some (.string s) := cellS56_0 hst5.bk
        have e1 : w5.cell? ⟨g, 1, none⟩ = some (.int .i64 (j : Int)) := cellS56_1 hst5.bk
        clear hw5
        simp only [List.take_succ_cons, List.take_zero, List.drop_succ_cons, List.drop_zero]
        repeat still_step
        refine wpStill_nil ?_
        go_wp2_with (go_at_call 89; refine (cC _).mono ?_; rintro e w6 ⟨rfl, hb6⟩)
        rw [HQ.out, htl]
        exact ⟨by rw [HPA.out]; rfl, j, hst5.below hb6, by rw [HDW.out]; exact hm⟩
      · have htl : typL l = none := if_neg hty
        rw [eq_false_of_ne_true hty] at cI
        go_wp2_with (go_at_call 19; refine (cI _ hE3).mono ?_; rintro e w4 ⟨rfl, hb4⟩)
        refine ⟨rfl, ?_⟩
        rw [HQ.out, htl]
        exact ⟨rfl, j, hst3.below hb4⟩
    | cons x r =>
      have hj := hm.lt
      rw [decide_eq_false (by omega)] at cE
      have hx : ((s[j]'hj).toNat : Int) = (x.toNat : Int) := by rw [hm.at_]
      have hji : (j : Int) < (s.size : Int) := by omega
      cases hi : inTypeB x with
      | true =>
        have fz := blk_frozen hB 1
        obtain ⟨h1, h2⟩ := tw_step x r hi
        rw [h1] at htw
        rw [h2] at hdw
        have HTW := Aside0.mk htw
        have HDW := Aside0.mk hdw
        have HI := Aside0.mk hi
        clear htw hdw hi
        go_wp2
        go_quiet (first | (go_at_call 51; exact Calls.quiet_of (cE _)) | (go_at_call 34; exact quiet_in x HI.out))
        go_wp2
        have hst2 := (hst.drewN nq).set (j + 1)
        refine ⟨⟨j + 1, r, hst2, hm.next, by omega, ?_, HDW.out⟩, by rw [ms_eq hB, show (j : Int) + 1 = ((j + 1 : Nat) : Int) from rfl, ms_eq hst2.bk]; omega⟩
        have hjl : j - i < l.length := by
          have : (l.drop (j - i)).length = (x :: r).length := by rw [hdr]
          rw [List.length_drop, List.length_cons] at this
          omega
        have hxl : l[j - i] = x := by
          have := hdr
          rw [List.drop_eq_getElem_cons hjl] at this
          injection this
        rw [HTW.out, show j + 1 - i = (j - i) + 1 by omega, List.take_succ_eq_append_getElem hjl, hxl, List.append_assoc]
        rfl
      | false =>
        have h1 : (x :: r).takeWhile inTypeB = [] := List.takeWhile_cons_of_neg (by simp [hi])
        have h2 : (x :: r).dropWhile inTypeB = x :: r := List.dropWhile_cons_of_neg (by simp [hi])
        rw [h1] at htw
        rw [h2] at hdw
        have HTW := Aside0.mk htw
        have HDW := Aside0.mk hdw
        have HI := Aside0.mk hi
        clear htw hdw hi
        go_wp2
        go_quiet (first | (go_at_call 51; exact Calls.quiet_of (cE _)) | (go_at_call 34; exact quiet_in x HI.out))
        go_wp2
        have hpc : bl (s.extract i j) = l.takeWhile inTypeB := by
          rw [HTW.out, List.append_nil, ← hl.1]
          exact Lib.extract_data s i j
        have hpz : (s.extract i j).size ≤ 1000000 := by
          rw [← bl_size, hpc]
          have := (List.takeWhile_prefix inTypeB (l := l)).length_le
          have hll : l.length ≤ s.size := by
            rw [← hl.1, List.length_drop, bl_size]
            omega
          omega
        have cI := fun W (hW : Env W) => isType_c (s.extract i j) W (by omega) hW
        have cC := fun W => clone_c (s.extract i j) W (by omega)
        have hE2 := hst.env hE
        have hpa : (⟨(l.takeWhile inTypeB).toArray⟩ : ByteArray) = s.extract i j := by rw [← hpc]; rfl
        rw [hpc] at cI
        have HPA := Aside0.mk hpa
        have hst2 := hst.drewN nq
        generalize wr.drewN nq = w2 at *
        refine still_tail 10 (by kernel_rfl) (by kernel_rfl) (fun w3 hw3 => ?_)
        have hst3 := hst2.drewN 1
        rw [← hw3] at hst3
        have d0 : w3.cell? ⟨g, 0, none⟩ = some (.string s) := cellS56_0 hst3.bk
        have d1 : w3.cell? ⟨g, 1, none⟩ = some (.int .i64 (j : Int)) := cellS56_1 hst3.bk
        clear hw3
        simp only [List.take_succ_cons, List.take_zero, List.drop_succ_cons, List.drop_zero]
        repeat still_step
        refine wpStill_nil ?_
        have hE3 := hst3.env hE
        by_cases hty : isType (l.takeWhile inTypeB) = true
        · rw [hty] at cI
          have htl : typL l = some (l.takeWhile inTypeB, l.dropWhile inTypeB) := if_pos hty
          go_wp2_with (go_at_call 19; refine (cI _ hE3).mono ?_; rintro e w4 ⟨rfl, hb4⟩)
          have hst4 := hst3.below hb4
          refine still_tail 10 (by kernel_rfl) (by kernel_rfl) (fun w5 hw5 => ?_)
          have hst5 := hst4.drewN 1
          rw [← hw5] at hst5
          have e0 : w5.cell? ⟨g, 0, none⟩ = some (.string s) := cellS56_0 hst5.bk
          have e1 : w5.cell? ⟨g, 1, none⟩ = some (.int .i64 (j : Int)) := cellS56_1 hst5.bk
          clear hw5
          simp only [List.take_succ_cons, List.take_zero, List.drop_succ_cons, List.drop_zero]
          repeat still_step
          refine wpStill_nil ?_
          go_wp2_with (go_at_call 89; refine (cC _).mono ?_; rintro e w6 ⟨rfl, hb6⟩)
          rw [HQ.out, htl]
          exact ⟨by rw [HPA.out]; rfl, j, hst5.below hb6, by rw [HDW.out]; exact hm⟩
        · have htl : typL l = none := if_neg hty
          rw [eq_false_of_ne_true hty] at cI
          go_wp2_with (go_at_call 19; refine (cI _ hE3).mono ?_; rintro e w4 ⟨rfl, hb4⟩)
          refine ⟨rfl, ?_⟩
          rw [HQ.out, htl]
          exact ⟨rfl, j, hst3.below hb4⟩
end Go.Proofs.YtneclgjjnnldpaaDoor.Rd
end
section
/- octet.Digit: what a digit counts, or -1. Conditions: none. -/
namespace Go.Proofs.YtneclgjjnnldpaaDoor.Rd
open Go Go.RowKit Go.Lib Go.Proofs.YtneclgjjnnldpaaDoor.PFn Go.Proofs.YtneclgjjnnldpaaDoor.Dp Go.Proofs.YtneclgjjnnldpaaDoorW.PrintWords

def dv (c : UInt8) : Int := match hv c with
  | some n => (n : Int)
  | none => -1
theorem digit_f (c : UInt8) : octet_Digit.f 9 (c.toNat : Int) = some (dv c) := by
  have h : ∀ n : Fin 256, octet_Digit.f 9 ((UInt8.ofNat n.val).toNat : Int) = some (dv (UInt8.ofNat n.val)) := by decide +kernel
  have := h ⟨c.toNat, UInt8.toNat_lt c⟩
  rwa [UInt8.ofNat_toNat] at this
theorem refDigit_f (c : UInt8) : chanceryref1_Digit.f 9 (c.toNat : Int) = some (dv c) := by
  have h : ∀ n : Fin 256, chanceryref1_Digit.f 9 ((UInt8.ofNat n.val).toNat : Int) = some (dv (UInt8.ofNat n.val)) := by decide +kernel
  have := h ⟨c.toNat, UInt8.toNat_lt c⟩
  rwa [UInt8.ofNat_toNat] at this
theorem dv_lt (c : UInt8) : -1 ≤ dv c ∧ dv c ≤ 15 := by
  have h : ∀ n : Fin 256, -1 ≤ dv (UInt8.ofNat n.val) ∧ dv (UInt8.ofNat n.val) ≤ 15 := by decide +kernel
  have := h ⟨c.toNat, UInt8.toNat_lt c⟩
  rwa [UInt8.ofNat_toNat] at this
theorem dv_hex (c : UInt8) : hexB c = decide (0 ≤ dv c) := by
  have h : ∀ n : Fin 256, hexB (UInt8.ofNat n.val) = decide (0 ≤ dv (UInt8.ofNat n.val)) := by decide +kernel
  have := h ⟨c.toNat, UInt8.toNat_lt c⟩
  rwa [UInt8.ofNat_toNat] at this
end Go.Proofs.YtneclgjjnnldpaaDoor.Rd
end
section
/- The walk of octet.Unhex: under way. Conditions: a text of at most 10^6 bytes. -/
namespace Go.Proofs.YtneclgjjnnldpaaDoor.Rd
open Go Go.RowKit Go.Lib Go.Proofs.YtneclgjjnnldpaaDoor.PFn Go.Proofs.YtneclgjjnnldpaaDoor.Dp Go.Proofs.YtneclgjjnnldpaaDoorW.PrintWords

theorem own_drewN {w : World} {base n : Nat} {e size : Nat} {v : Value} {xs : List Value} (h : w.ownsRow base e size v n xs) (m : Nat) : (w.drewN m).ownsRow base e size v n xs := pw_own_below h (pw_below_drewN (Below.refl _ _) m)
/-- a byte as a value -/
def eB (c : UInt8) : Value := .int .u8 (c.toNat : Int)
theorem encs_eB (l : Bs) : encs eB l = nums .u8 (l.map fun c => (c.toNat : Int)) := by simp [encs, nums, eB]
theorem strOfNums_eB (l : Bs) : strOfNums (l.map fun c => (c.toNat : Int)) = ⟨l.toArray⟩ := by
  unfold strOfNums
  rw [List.map_map]
  congr 2
  conv => rhs; rw [← List.map_id l]
  apply List.map_congr_left
  intro c _
  simp
theorem own_eB {w : World} {base n : Nat} {v : Value} {l : Bs} (h : w.ownsRow base 5 1 v n (encs eB l)) : (convert 64 9 v).run Tryd.prog w = .ok (.string ⟨l.toArray⟩) w := by
  rw [encs_eB] at h
  rw [← strOfNums_eB]
  exact own_string (e := 5) Tryd.underlying64 Tryd.underlying5 Tryd.underlying9 h
theorem byte_or {x y : Nat} (hx : x < 16) (hy : y < 16) : bits BinOp.or .i64 ((x : Int) * 16) (y : Int) % 256 = ((UInt8.ofNat (16 * x + y)).toNat : Int) := by
  have h : ∀ i j : Fin 16, bits BinOp.or .i64 ((i.val : Int) * 16) (j.val : Int) % 256 = ((UInt8.ofNat (16 * i.val + j.val)).toNat : Int) := by decide +kernel
  exact h ⟨x, hx⟩ ⟨y, hy⟩
theorem unhex_even : ∀ (l b : Bs), unhex l = some b → l.length % 2 = 0
  | [], _, _ => rfl
  | [_], _, h => by cases h
  | a :: c :: r, b, h => by
    simp only [unhex] at h
    obtain ⟨x, _, h⟩ := Option.bind_eq_some_iff.1 h
    obtain ⟨y, hy, _⟩ := Option.map_eq_some_iff.1 h
    have := unhex_even r y hy
    simp only [List.length_cons]
    omega
/-- the loop's state: what is gathered, and the answer still to come -/
def UhRel (s : ByteArray) (ans : Option Bs) (w0 : World) (v4 v5 : Value) (wr : World) : Prop :=
  ∃ (acc : Bs) (i : Nat) (m : Bs), v5 = .int .i64 (i : Int) ∧ Lr s i m ∧ m.length % 2 = 0 ∧ acc.length ≤ i ∧ (unhex m).map (acc ++ ·) = ans ∧
    wr.ownsRow w0.heap.size 5 1 v4 acc.length (encs eB acc) ∧ Below w0.heap.size w0 wr
theorem byte_info : (Tryd.prog.info? 5).map (fun i => (i.zero, i.size, i.bytes)) = some (some (.int .u8 0), 1, 1) := by kernel_rfl
theorem quiet_dig (x : UInt8) {w : World} {n : Nat} : Calls Tryd.prog 99 #[.int .u8 (x.toNat : Int)] (w.drewN n) fun e w'' => e = .returned (.int .i64 (dv x)) ∧ ∃ m, w'' = w.drewN m :=
  Calls.quiet_of ((octet_Digit.calls 9 (x.toNat : Int) (dv x) _ (digit_f x)).mono fun e w' ⟨he, hd⟩ => ⟨he, by obtain ⟨⟨m, hm⟩⟩ := hd; exact ⟨m, hm⟩⟩)
def uhAns : Option Bs → Value
  | some b => .tuple #[.string ⟨b.toArray⟩, .int .i64 0]
  | none => .tuple #[.string ⟨#[]⟩, .int .i64 11]
theorem hv_lt {c : UInt8} {n : Nat} (h : hv c = some n) : n < 16 := by
  unfold hv at h
  split at h
  · injection h; omega
  · split at h
    · injection h; omega
    · split at h
      · injection h; omega
      · cases h
set_option maxHeartbeats 1000000 in
set_option maxRecDepth 10000 in
theorem unhex_c (s : ByteArray) (w : World) (hs : s.size ≤ 1000000) : Calls Tryd.prog 100 #[.string s] w fun e w' => e = .returned (uhAns (unhex (bl s))) ∧ Below w.heap.size w w' := by
  by_cases hev : s.size % 2 = 0
  · have hev' : ((s.size : Int)).tmod 2 = 0 := by rw [Int.tmod_eq_emod_of_nonneg (by omega)]; omega
    obtain ⟨ANS, hA⟩ : ∃ b, unhex (bl s) = b := ⟨_, rfl⟩
    rw [hA]
    have HA := Aside0.mk hA
    clear hA
    obtain ⟨i0, hi, hz0, hz1, hz2⟩ := info_parts byte_info
    go_enter Tryd.func100, Tryd.ntmps100
    go_wp2_with (refine wpList_make_own _ rfl _ _ 64 rfl w.heap.size 5 i0 (.int .u8 0) 1 Tryd.underlying64 hi hz0 hz1 .i64 .i64 ((s.size : Int) / 2) (s.size / 2) rfl rfl (by omega) (by rw [hz2]; omega) (by simp only [maxLen]; omega) (Nat.le_refl _) ?_; intro w1 HO1 hg1)
    have hb1 : Below w.heap.size w w1 := (Below.refl _ _).grown hg1 (Nat.le_refl _) (fun k hk => by cases hk)
    go_loopw [4, 5, 6, 7] (fun v4 v5 _ _ wr => UhRel s ANS w v4 v5 wr) (fun _ v5 _ _ _ => s.size - (RowKit.intOf v5).toNat)
    case atStart => exact ⟨[], 0, bl s, rfl, ⟨List.drop_zero, Nat.zero_le _⟩, by rw [bl_size]; exact hev, Nat.le_refl _, by rw [HA.out]; simp, HO1, hb1⟩
    case round =>
      obtain ⟨acc, i, m, rfl, hm, hmev, hacc, hans, hown, hbel⟩ := hrel
      have HO := Aside0.mk hown
      have HANS := Aside0.mk hans
      clear hown hans
      cases m with
      | nil =>
        have hie := hm.nil
        have hge : ¬ (i : Int) < (s.size : Int) := by omega
        have HIE := Aside0.mk hie
        clear hie
        obtain ⟨A4, c4, rfl⟩ : ∃ A c, u4 = .slice A acc.length c := own_slice HO.out
        have hstr1 := own_eB HO.out
        go_wp2
        go_ret2
        refine ⟨?_, hbel⟩
        rw [← HANS.out]
        simp [unhex, uhAns]
      | cons a m =>
        cases m with
        | nil => exact absurd hmev (by simp)
        | cons b r =>
          have ha := hm.lt
          have hb := hm.next.lt
          have hxa : ((s[i]'ha).toNat : Int) = (a.toNat : Int) := by rw [hm.at_]
          have hxb : ((s[i + 1]'hb).toNat : Int) = (b.toNat : Int) := by rw [hm.next.at_]
          have hi1 : (i : Int) < (s.size : Int) := by omega
          have hi2 : (i : Int) + 1 < (s.size : Int) := by omega
          have hsum : IntKind.i64.wrap ((i : Int) + 1) = (i : Int) + 1 := IntWalk.i64_in _ (by omega)
          cases hA : hv a with
          | none =>
            have hda : dv a = -1 := by unfold dv; rw [hA]
            have hf : ANS = none := by rw [← HANS.out]; simp [unhex, byte2, hA]
            subst hf
            have cA : ∀ W n, Calls Tryd.prog 99 #[.int .u8 (a.toNat : Int)] (World.drewN W n) fun e w'' => e = .returned (.int .i64 (-1)) ∧ ∃ m, w'' = W.drewN m := fun W n => by have := @quiet_dig a W n; rw [hda] at this; exact this
            have cB : ∀ W n, Calls Tryd.prog 99 #[.int .u8 (b.toNat : Int)] (World.drewN W n) fun e w'' => e = .returned (.int .i64 (dv b)) ∧ ∃ m, w'' = W.drewN m := fun W n => @quiet_dig b W n
            clear hda hA
            go_wp2
            go_quiet (first | (go_at_call 99; first | (with_reducible exact cA _ _) | (with_reducible exact cB _ _)))
            go_wp2
            go_ret2
            exact ⟨rfl, pw_below_drewN hbel _⟩
          | some x =>
            have hda : dv a = x := by unfold dv; rw [hA]
            have hx := hv_lt hA
            have cA : ∀ W n, Calls Tryd.prog 99 #[.int .u8 (a.toNat : Int)] (World.drewN W n) fun e w'' => e = .returned (.int .i64 (x : Int)) ∧ ∃ m, w'' = W.drewN m := fun W n => by have := @quiet_dig a W n; rw [hda] at this; exact this
            have hx2 : (x : Int) < 16 := by omega
            cases hB : hv b with
            | none =>
              have hdb : dv b = -1 := by unfold dv; rw [hB]
              have hf : ANS = none := by rw [← HANS.out]; simp [unhex, byte2, hA, hB]
              subst hf
              have cB : ∀ W n, Calls Tryd.prog 99 #[.int .u8 (b.toNat : Int)] (World.drewN W n) fun e w'' => e = .returned (.int .i64 (-1)) ∧ ∃ m, w'' = W.drewN m := fun W n => by have := @quiet_dig b W n; rw [hdb] at this; exact this
              clear hda hdb hA hB
              go_wp2
              go_quiet (first | (go_at_call 99; first | (with_reducible exact cA _ _) | (with_reducible exact cB _ _)))
              go_wp2
              go_ret2
              exact ⟨rfl, pw_below_drewN hbel _⟩
            | some y =>
              have hdb : dv b = y := by unfold dv; rw [hB]
              have hy := hv_lt hB
              have hbyte := byte_or hx hy
              have hans2 : (unhex r).map ((acc ++ [UInt8.ofNat (16 * x + y)]) ++ ·) = ANS := by
                rw [← HANS.out]
                simp only [unhex, byte2, hA, hB, Option.bind_some, Option.map_some, Option.map_map]
                congr 1
                funext q
                simp
              generalize UInt8.ofNat (16 * x + y) = z at *
              have HANS2 := Aside0.mk hans2
              have cB : ∀ W n, Calls Tryd.prog 99 #[.int .u8 (b.toNat : Int)] (World.drewN W n) fun e w'' => e = .returned (.int .i64 (y : Int)) ∧ ∃ m, w'' = W.drewN m := fun W n => by have := @quiet_dig b W n; rw [hdb] at this; exact this
              clear hda hdb hA hB hans2
              have hy2 : (y : Int) < 16 := by omega
              go_wp2
              go_quiet (first | (go_at_call 99; first | (with_reducible exact cA _ _) | (with_reducible exact cB _ _)))
              go_wp2_with (at_builtin; refine print_append_of (w0 := w) eB w.heap.size rfl _ _ 64 5 (.int .u8 0) 1 rfl Tryd.underlying64 byte_info rfl (by omega) _ acc z rfl rfl rfl (own_drewN HO.out _) (pw_below_drewN hbel _) hbel.size (by simp; omega) ?_; intro v1 w2 HO2 HB2 _ _)
              have hsz := hm.next.next.2
              exact ⟨⟨acc ++ [z], i + 2, r, by go_num, hm.next.next, by simp only [List.length_cons] at hmev; omega, by simp; omega, HANS2.out, HO2, HB2⟩, by simp [RowKit.intOf]; omega⟩
  · have hn : unhex (bl s) = none := by
      cases h : unhex (bl s) with
      | none => rfl
      | some b =>
        have := unhex_even _ _ h
        rw [bl_size] at this
        exact absurd this hev
    rw [hn]
    have hev' : ¬ ((s.size : Int)).tmod 2 = 0 := by rw [Int.tmod_eq_emod_of_nonneg (by omega)]; omega
    go_enter Tryd.func100, Tryd.ntmps100
    go_wp2
    go_ret2
    exact ⟨rfl, Below.refl _ _⟩
end Go.Proofs.YtneclgjjnnldpaaDoor.Rd
end
section
/- The walk of the reader's hex: it answers, or panics, as the plain function says. Conditions: a text of at most 10^6 bytes. -/
namespace Go.Proofs.YtneclgjjnnldpaaDoor.Rd
open Go Go.RowKit Go.Lib Go.Proofs.YtneclgjjnnldpaaDoor.PFn Go.Proofs.YtneclgjjnnldpaaDoor.Dp Go.Proofs.YtneclgjjnnldpaaDoorW.PrintWords

/-- a loop over what p lets: from i to j all bytes are p's -/
def TwRel (p : UInt8 → Bool) (w0 w : World) (g : Nat) (s : ByteArray) (i : Nat) (l : Bs) (wr : World) : Prop :=
  ∃ (j : Nat) (m : Bs), St w0 w wr g s j ∧ Lr s j m ∧ i ≤ j ∧ l.takeWhile p = l.take (j - i) ++ m.takeWhile p ∧ l.dropWhile p = m.dropWhile p
theorem tw_more {p : UInt8 → Bool} {s : ByteArray} {i j : Nat} {l r : Bs} {x : UInt8} (hl : Lr s i l) (hm : Lr s j (x :: r)) (hij : i ≤ j) (hx : p x = true)
    (htw : l.takeWhile p = l.take (j - i) ++ (x :: r).takeWhile p) (hdw : l.dropWhile p = (x :: r).dropWhile p) :
    l.takeWhile p = l.take (j + 1 - i) ++ r.takeWhile p ∧ l.dropWhile p = r.dropWhile p := by
  have hdr := hl.drop_eq hm hij
  have hjl : j - i < l.length := by
    have : (l.drop (j - i)).length = (x :: r).length := by rw [hdr]
    rw [List.length_drop, List.length_cons] at this
    omega
  have hxl : l[j - i] = x := by
    have := hdr
    rw [List.drop_eq_getElem_cons hjl] at this
    injection this
  rw [List.takeWhile_cons_of_pos hx] at htw
  rw [List.dropWhile_cons_of_pos hx] at hdw
  refine ⟨?_, hdw⟩
  rw [htw, show j + 1 - i = (j - i) + 1 by omega, List.take_succ_eq_append_getElem hjl, hxl, List.append_assoc]
  rfl
/-- where the loop stops: the piece and what is left -/
theorem tw_end {p : UInt8 → Bool} {s : ByteArray} {i j : Nat} {l m : Bs} (hl : Lr s i l) (hm : ∀ c ∈ m.head?, p c = false)
    (htw : l.takeWhile p = l.take (j - i) ++ m.takeWhile p) (hdw : l.dropWhile p = m.dropWhile p) :
    bl (s.extract i j) = l.takeWhile p ∧ (s.extract i j).size ≤ s.size ∧ l.dropWhile p = m := by
  have h1 : m.takeWhile p = [] := by
    cases m with
    | nil => rfl
    | cons c r => exact List.takeWhile_cons_of_neg (by rw [hm c (by simp)]; decide)
  have h2 : m.dropWhile p = m := by
    cases m with
    | nil => rfl
    | cons c r => exact List.dropWhile_cons_of_neg (by rw [hm c (by simp)]; decide)
  have h3 : bl (s.extract i j) = l.takeWhile p := by
    rw [htw, h1, List.append_nil, ← hl.1]
    exact Lib.extract_data s i j
  refine ⟨h3, ?_, by rw [hdw, h2]⟩
  rw [← bl_size, h3]
  have := (List.takeWhile_prefix p (l := l)).length_le
  have hll : l.length ≤ s.size := by
    rw [← hl.1, List.length_drop, bl_size]
    omega
  omega
theorem hex_some {x : UInt8} {n : Nat} (h : hv x = some n) : hexB x = true := by unfold hexB; rw [h]; rfl
theorem hex_none {x : UInt8} (h : hv x = none) : hexB x = false := by unfold hexB; rw [h]; rfl
set_option maxHeartbeats 2000000 in
set_option maxRecDepth 100000 in
theorem hex_c {w0 w : World} {g i : Nat} {s : ByteArray} {l : Bs} (h : St w0 w w g s i) (hl0 : Lr s i (35 :: l)) (hs : s.size ≤ 1000000) :
    Calls Tryd.prog 90 #[.pointer (some ⟨g, 0, none⟩)] w fun e w' => match hexL l with
      | some x => e = .returned (.string ⟨x.1.toArray⟩) ∧ ∃ j, St w0 w w' g s j ∧ Lr s j x.2
      | none => e = .panicked Pan ∧ ∃ j, St w0 w w' g s j := by
  have c1 : w.cell? ⟨g, 1, none⟩ = some (.int .i64 (i : Int)) := cellS56_1 h.bk
  have fz := blk_frozen h.bk 1
  have hl := hl0.next
  have his := hl.2
  have hst0 := h.set (i + 1)
  obtain ⟨k, hk⟩ : ∃ k : Nat, i + 1 = k := ⟨_, rfl⟩
  have hk1 : (i : Int) + 1 = (k : Int) := by omega
  rw [hk] at hl his hst0
  obtain ⟨Q, hQ⟩ : ∃ Q : Ending → World → Prop, Q = fun e w' => match hexL l with
      | some x => e = .returned (.string ⟨x.1.toArray⟩) ∧ ∃ j, St w0 w w' g s j ∧ Lr s j x.2
      | none => e = .panicked Pan ∧ ∃ j, St w0 w w' g s j := ⟨_, rfl⟩
  rw [← hQ]
  have HQ := Aside0.mk hQ
  clear hQ
  go_enter Tryd.func90, Tryd.ntmps90
  go_wp2
  go_loopw [] (fun wr => TwRel hexB w0 w g s k l wr) (fun wr => ms s g wr)
  case atStart => exact ⟨k, l, hst0, hl, Nat.le_refl _, by rw [Nat.sub_self]; rfl, rfl⟩
  case round =>
    obtain ⟨j, m, hst, hm, hij, htw, hdw⟩ := hrel
    have hB := hst.bk
    have c0 : wr.cell? ⟨g, 0, none⟩ = some (.string s) := cellS56_0 hB
    have c1' : wr.cell? ⟨g, 1, none⟩ = some (.int .i64 (j : Int)) := cellS56_1 hB
    have hjs := hm.2
    have cE := fun n => ended_q (hB.drewN n)
    have fz' := blk_frozen hB 1
    by_cases hgo : ∃ x r n, m = x :: r ∧ hv x = some n
    · obtain ⟨x, r, n, rfl, hn⟩ := hgo
      have hmore := tw_more hl hm hij (hex_some hn) htw hdw
      have HM := Aside0.mk hmore
      have hj := hm.lt
      rw [decide_eq_false (by omega)] at cE
      have hx : ((s[j]'hj).toNat : Int) = (x.toNat : Int) := by rw [hm.at_]
      have hji : (j : Int) < (s.size : Int) := by omega
      have cA : ∀ W k, Calls Tryd.prog 99 #[.int .u8 (x.toNat : Int)] (World.drewN W k) fun e w'' => e = .returned (.int .i64 (n : Int)) ∧ ∃ q, w'' = W.drewN q := fun W k => by have := @quiet_dig x W k; rw [show dv x = n by unfold dv; rw [hn]] at this; exact this
      clear hmore htw hdw hn
      go_wp2
      go_quiet (first | (go_at_call 51; exact Calls.quiet_of (cE _)) | (go_at_call 99; exact cA _ _))
      go_wp2
      have hst2 := (hst.drewN nq).set (j + 1)
      exact ⟨⟨j + 1, r, hst2, hm.next, by omega, HM.out.1, HM.out.2⟩, by rw [ms_eq hB, show (j : Int) + 1 = ((j + 1 : Nat) : Int) from rfl, ms_eq hst2.bk]; omega⟩
    · have hstop : ∀ c ∈ m.head?, hexB c = false := by
        intro c hc
        cases m with
        | nil => cases hc
        | cons x r =>
          have : c = x := by simpa using hc.symm
          subst this
          cases hn : hv c with
          | none => exact hex_none hn
          | some n => exact absurd ⟨c, r, n, rfl, hn⟩ hgo
      obtain ⟨hpc, hpz, hdr⟩ := tw_end hl hstop htw hdw
      have cU := fun W => unhex_c (s.extract k j) W (by omega)
      rw [hpc] at cU
      have HDR := Aside0.mk hdr
      have HST := Aside0.mk hstop
      clear hpc hdr htw hdw hgo hstop
      cases m
      case' nil =>
        rw [decide_eq_true hm.nil] at cE
        go_wp2
        go_quiet (first | (go_at_call 51; exact Calls.quiet_of (cE _)))
        go_wp2
      case' cons x r =>
        have hj := hm.lt
        rw [decide_eq_false (by omega)] at cE
        have hx : ((s[j]'hj).toNat : Int) = (x.toNat : Int) := by rw [hm.at_]
        have hji : (j : Int) < (s.size : Int) := by omega
        have hn : hv x = none := by
          have := HST.out x (by simp)
          unfold hexB at this
          cases h : hv x with
          | none => rfl
          | some n => rw [h] at this; cases this
        have cA : ∀ W k, Calls Tryd.prog 99 #[.int .u8 (x.toNat : Int)] (World.drewN W k) fun e w'' => e = .returned (.int .i64 (-1)) ∧ ∃ q, w'' = W.drewN q := fun W k => by have := @quiet_dig x W k; rw [show dv x = -1 by unfold dv; rw [hn]] at this; exact this
        clear hn
        go_wp2
        go_quiet (first | (go_at_call 51; exact Calls.quiet_of (cE _)) | (go_at_call 99; exact cA _ _))
        go_wp2
      all_goals
        have hst2 := hst.drewN nq
        generalize wr.drewN nq = w2 at *
        have d0 : w2.cell? ⟨g, 0, none⟩ = some (.string s) := cellS56_0 hst2.bk
        have d1 : w2.cell? ⟨g, 1, none⟩ = some (.int .i64 (j : Int)) := cellS56_1 hst2.bk
        cases hU : unhex (l.takeWhile hexB) with
        | none =>
          have hh : hexL l = none := by unfold hexL; rw [hU]; rfl
          have HH := Aside0.mk hh
          rw [hU] at cU
          clear hU hh
          unfold uhAns at cU
          go_region_held3 (fun w' => w'.cell? ⟨g, 0, none⟩ = some (.string s) ∧ w'.cell? ⟨g, 1, none⟩ = some (.int .i64 (j : Int))) (first | go_keep | exact ⟨pw_cell_below hb4 (by assumption), pw_cell_below hb4 (by assumption)⟩) (first | (go_at_call 100; refine (cU _).mono ?_; rintro e w4 ⟨rfl, hb4⟩))
          go_wp2
          refine ⟨rfl, ?_⟩
          rw [HQ.out, HH.out]
          exact ⟨rfl, j, (hst2.drewN 1).below hb4⟩
        | some b =>
          rw [hU] at cU
          cases b with
          | nil =>
            have hh : hexL l = none := by unfold hexL; rw [hU]; rfl
            have HH := Aside0.mk hh
            clear hU hh
            unfold uhAns at cU
            go_region_held3 (fun w' => w'.cell? ⟨g, 0, none⟩ = some (.string s) ∧ w'.cell? ⟨g, 1, none⟩ = some (.int .i64 (j : Int))) (first | go_keep | exact ⟨pw_cell_below hb4 (by assumption), pw_cell_below hb4 (by assumption)⟩) (first | (go_at_call 100; refine (cU _).mono ?_; rintro e w4 ⟨rfl, hb4⟩))

            go_wp2
            refine ⟨rfl, ?_⟩
            rw [HQ.out, HH.out]
            exact ⟨rfl, j, (hst2.drewN 1).below hb4⟩
          | cons y u =>
            have hh : hexL l = some (y :: u, l.dropWhile hexB) := by unfold hexL; rw [hU]; rfl
            have HH := Aside0.mk hh
            have hemp := nonempty_of (s := ⟨(y :: u).toArray⟩) (c := y) (r := u) rfl
            clear hU hh
            unfold uhAns at cU
            go_region_held3 (fun w' => w'.cell? ⟨g, 0, none⟩ = some (.string s) ∧ w'.cell? ⟨g, 1, none⟩ = some (.int .i64 (j : Int))) (first | go_keep | exact ⟨pw_cell_below hb4 (by assumption), pw_cell_below hb4 (by assumption)⟩) (first | (go_at_call 100; refine (cU _).mono ?_; rintro e w4 ⟨rfl, hb4⟩))

            go_wp2
            rw [HQ.out, HH.out]
            exact ⟨rfl, j, (hst2.drewN 1).below hb4, by rw [HDR.out]; exact hm⟩
end Go.Proofs.YtneclgjjnnldpaaDoor.Rd
end
section
/- The walk of the reader's escape: it answers, or panics, as the plain function says. Conditions: a text of at most 10^6 bytes. -/
namespace Go.Proofs.YtneclgjjnnldpaaDoor.Rd
open Go Go.RowKit Go.Lib Go.Proofs.YtneclgjjnnldpaaDoor.PFn Go.Proofs.YtneclgjjnnldpaaDoor.Dp Go.Proofs.YtneclgjjnnldpaaDoorW.PrintWords

theorem ib_c (L : Bs) (x : UInt8) (w : World) : Calls Tryd.prog 45 #[.string ⟨L.toArray⟩, .int .u8 (x.toNat : Int)] w fun e w' => e = .returned (.int .i64 (Lib.indexByte L x)) ∧ w' = w := by
  have h := Any.strings_IndexByte Tryd.lays137 ⟨L.toArray⟩ (x.toNat : Int) w
  have e : ((x.toNat : Int).toNat).toUInt8 = x := by
    show UInt8.ofNat (x.toNat : Int).toNat = x
    rw [Int.toNat_natCast, UInt8.ofNat_toNat]
  rw [e] at h
  exact h
theorem ib_q (L : Bs) (x : UInt8) {k : Int} (hk : Lib.indexByte L x = k) {w : World} {n : Nat} : Calls Tryd.prog 45 #[.string ⟨L.toArray⟩, .int .u8 (x.toNat : Int)] (w.drewN n) fun e w'' => e = .returned (.int .i64 k) ∧ ∃ m, w'' = w.drewN m :=
  Calls.quiet_of ((ib_c L x _).mono fun e w' ⟨he, hw⟩ => ⟨by rw [he, hk], 0, hw⟩)
def escs : Bs := [34, 43, 44, 59, 60, 62, 92, 61, 35, 32]
def specs : Bs := [34, 43, 44, 59, 60, 62, 92]
theorem ib_esc (c : UInt8) : escapable c = decide (0 ≤ Lib.indexByte escs c) := by
  have h : ∀ n : Fin 256, escapable (UInt8.ofNat n.val) = decide (0 ≤ Lib.indexByte escs (UInt8.ofNat n.val)) := by decide +kernel
  have := h ⟨c.toNat, UInt8.toNat_lt c⟩
  rwa [UInt8.ofNat_toNat] at this
theorem ib_spec (c : UInt8) : special c = decide (0 ≤ Lib.indexByte specs c) := by
  have h : ∀ n : Fin 256, special (UInt8.ofNat n.val) = decide (0 ≤ Lib.indexByte specs (UInt8.ofNat n.val)) := by decide +kernel
  have := h ⟨c.toNat, UInt8.toNat_lt c⟩
  rwa [UInt8.ofNat_toNat] at this
theorem ib_esc_yes {c : UInt8} (h : escapable c = true) : 0 ≤ Lib.indexByte escs c := by rw [ib_esc] at h; exact of_decide_eq_true h
theorem ib_esc_no {c : UInt8} (h : escapable c = false) : Lib.indexByte escs c < 0 := by rw [ib_esc] at h; have := of_decide_eq_false h; omega
theorem ib_spec_yes {c : UInt8} (h : special c = true) : 0 ≤ Lib.indexByte specs c := by rw [ib_spec] at h; exact of_decide_eq_true h
theorem ib_spec_no {c : UInt8} (h : special c = false) : Lib.indexByte specs c < 0 := by rw [ib_spec] at h; have := of_decide_eq_false h; omega
theorem dig_some {x : UInt8} {n : Nat} (h : hv x = some n) (W : World) (k : Nat) : Calls Tryd.prog 99 #[.int .u8 (x.toNat : Int)] (World.drewN W k) fun e w'' => e = .returned (.int .i64 (n : Int)) ∧ ∃ q, w'' = W.drewN q := by
  have := @quiet_dig x W k
  rw [show dv x = n by unfold dv; rw [h]] at this
  exact this
theorem dig_none {x : UInt8} (h : hv x = none) (W : World) (k : Nat) : Calls Tryd.prog 99 #[.int .u8 (x.toNat : Int)] (World.drewN W k) fun e w'' => e = .returned (.int .i64 (-1)) ∧ ∃ q, w'' = W.drewN q := by
  have := @quiet_dig x W k
  rw [show dv x = -1 by unfold dv; rw [h]] at this
  exact this
theorem byte2_some {c d : UInt8} {x y : Nat} (hc : hv c = some x) (hd : hv d = some y) : byte2 c d = some (UInt8.ofNat (16 * x + y)) := by unfold byte2; rw [hc, hd]; rfl

/-- a quiet call in a region behind another quiet region -/
theorem q2 {P : Program} {f : FuncId} {args : Array Value} {v : Value} (h : ∀ (W : World) (k : Nat), Calls P f args (W.drewN k) fun e w'' => e = .returned v ∧ ∃ q, w'' = W.drewN q) {w : World} {a n : Nat} :
    Calls P f args (w.drewN (a + n)) fun e w'' => e = .returned v ∧ ∃ m, w'' = w.drewN (a + m) := by
  have h1 := h (w.drewN a) n
  rw [World.drewN_drewN] at h1
  exact h1.mono fun e w' ⟨he, q, hq⟩ => ⟨he, q, by rw [hq, World.drewN_drewN]⟩
theorem dq2 {x : UInt8} {w : World} {a n : Nat} : Calls Tryd.prog 99 #[.int .u8 (x.toNat : Int)] (w.drewN (a + n)) fun e w'' => e = .returned (.int .i64 (dv x)) ∧ ∃ m, w'' = w.drewN (a + m) := q2 (fun _ _ => quiet_dig x)
def EscP (w0 w : World) (g : Nat) (s : ByteArray) (l : Bs) (e : Ending) (w' : World) : Prop := match escL l with
  | some x => e = .returned (.int .u8 (x.1.toNat : Int)) ∧ ∃ j, St w0 w w' g s j ∧ Lr s j x.2
  | none => e = .panicked Pan ∧ ∃ j, St w0 w w' g s j
theorem EscP.yes {w0 w w' : World} {g j : Nat} {s : ByteArray} {l r : Bs} {c : UInt8} (he : escL l = some (c, r)) (hs : St w0 w w' g s j) (hl : Lr s j r) : EscP w0 w g s l (.returned (.int .u8 (c.toNat : Int))) w' := by
  unfold EscP
  rw [he]
  exact ⟨rfl, j, hs, hl⟩
theorem EscP.no {w0 w w' : World} {g j : Nat} {s : ByteArray} {l : Bs} (he : escL l = none) (hs : St w0 w w' g s j) : EscP w0 w g s l (.panicked Pan) w' := by
  unfold EscP
  rw [he]
  exact ⟨rfl, j, hs⟩
set_option maxHeartbeats 2000000 in
set_option maxRecDepth 100000 in
theorem escape_c {w0 w : World} {g i : Nat} {s : ByteArray} {l : Bs} (h : St w0 w w g s i) (hl0 : Lr s i (92 :: l)) (hs : s.size ≤ 1000000) :
    Calls Tryd.prog 91 #[.pointer (some ⟨g, 0, none⟩)] w (EscP w0 w g s l) := by
  have c0 : w.cell? ⟨g, 0, none⟩ = some (.string s) := cellS56_0 h.bk
  have c1 : w.cell? ⟨g, 1, none⟩ = some (.int .i64 (i : Int)) := cellS56_1 h.bk
  have fz := blk_frozen h.bk 1
  have hl := hl0.next
  have his := hl.2
  have hsum : IntKind.i64.wrap ((i : Int) + 1) = (i : Int) + 1 := IntWalk.i64_in _ (by omega)
  have hp2 : (0 : Int) ≤ (i : Int) + 2 := by omega
  have ht2 : ((i : Int) + 2).toNat = i + 2 := by omega
  have hsum2 : IntKind.i64.wrap ((i : Int) + 2) = (i : Int) + 2 := IntWalk.i64_in _ (by omega)
  cases l with
  | nil =>
    have hiz := hl.nil
    have hd1 : decide ((i : Int) + 1 < (s.size : Int)) = false := decide_eq_false (by omega)
    have hd2 : (s.size : Int) ≤ (i : Int) + 2 := by omega
    clear hiz
    go_enter Tryd.func91, Tryd.ntmps91
    go_wp2
    go_quiet (fail)
    go_wp2
    go_quiet (fail)
    go_wp2
    refine ⟨rfl, ?_⟩
    exact EscP.no rfl (h.drewN _)
  | cons c r =>
    have hc := hl.lt
    have hx : ((s[i + 1]'hc).toNat : Int) = (c.toNat : Int) := by rw [hl.at_]
    have hd1 : (i : Int) + 1 < (s.size : Int) := by omega
    by_cases hes : escapable c = true
    · have hk := ib_esc_yes hes
      have cI := fun (W : World) (n : Nat) => ib_q escs c (k := Lib.indexByte escs c) rfl (w := W) (n := n)
      have he : escL (c :: r) = some (c, r) := by simp only [escL]; rw [if_pos hes]
      have hst2 := h.set (i + 2)
      have hr2 := hl.next
      have hmin : IntKind.i64.wrap ((i : Int) + 2 - 1) = (i : Int) + 1 := by rw [show (i : Int) + 2 - 1 = (i : Int) + 1 by omega]; exact hsum
      generalize Lib.indexByte escs c = k at *
      unfold escs at cI
      have HE := Aside0.mk he
      clear he hes
      go_enter Tryd.func91, Tryd.ntmps91
      go_wp2
      go_quiet (first | (go_at_call 45; exact cI _ _))
      go_wp2
      go_quiet (fail)
      go_wp2
      go_ret
      exact EscP.yes HE.out (((h.drewN _).set (i + 2)).drewN _) hr2
    · have hes' : escapable c = false := eq_false_of_ne_true hes
      have hk := ib_esc_no hes'
      have cI := fun (W : World) (n : Nat) => ib_q escs c (k := Lib.indexByte escs c) rfl (w := W) (n := n)
      generalize Lib.indexByte escs c = k at *
      unfold escs at cI
      cases r with
      | nil =>
        have hiz := hl.next.nil
        have he : escL [c] = none := by simp only [escL]; rw [if_neg hes]
        have HE := Aside0.mk he
        have hd2 : (s.size : Int) ≤ (i : Int) + 2 := by omega
        clear he hes hes' hiz
        go_enter Tryd.func91, Tryd.ntmps91
        go_wp2
        go_quiet (first | (go_at_call 45; exact cI _ _))
        go_wp2
        go_quiet (fail)
        go_wp2
        refine ⟨rfl, ?_⟩
        exact EscP.no HE.out (h.drewN _)
      | cons d r =>
        have hd := hl.next.lt
        have hxd : ((s[i + 2]'hd).toNat : Int) = (d.toNat : Int) := by rw [hl.next.at_]
        have hd2 : (i : Int) + 2 < (s.size : Int) := by omega
        have he0 : escL (c :: d :: r) = (byte2 c d).map fun x => (x, r) := by simp only [escL]; rw [if_neg hes]
        have hst3 := h.set (i + 3)
        have hr3 := hl.next.next
        clear hes hes'
        cases hA : hv c with
        | none =>
          have he : escL (c :: d :: r) = none := by rw [he0]; unfold byte2; rw [hA]; rfl
          have HE := Aside0.mk he
          have hda : dv c = -1 := by unfold dv; rw [hA]
          clear he he0 hA
          go_enter Tryd.func91, Tryd.ntmps91
          go_wp2
          go_quiet (first | (go_at_call 45; exact cI _ _))
          go_wp2
          go_quiet (fail)
          go_wp2
          go_quiet (first | (go_at_call 99; exact dq2))
          go_wp2
          refine ⟨rfl, ?_⟩
          exact EscP.no HE.out (h.drewN _)
        | some x =>
          have hda : dv c = x := by unfold dv; rw [hA]
          have hx16 := hv_lt hA
          have hx2 : (x : Int) < 16 := by omega
          cases hB : hv d with
          | none =>
            have he : escL (c :: d :: r) = none := by rw [he0]; unfold byte2; rw [hA, hB]; rfl
            have HE := Aside0.mk he
            have hdb : dv d = -1 := by unfold dv; rw [hB]
            clear he he0 hA hB
            go_enter Tryd.func91, Tryd.ntmps91
            go_wp2
            go_quiet (first | (go_at_call 45; exact cI _ _))
            go_wp2
            go_quiet (fail)
            go_wp2
            go_quiet (first | (go_at_call 99; exact dq2))
            go_wp2
            refine ⟨rfl, ?_⟩
            exact EscP.no HE.out (h.drewN _)
          | some y =>
            have he : escL (c :: d :: r) = some (UInt8.ofNat (16 * x + y), r) := by rw [he0, byte2_some hA hB]; rfl
            have hdb : dv d = y := by unfold dv; rw [hB]
            have hy16 := hv_lt hB
            have hy2 : (y : Int) < 16 := by omega
            have hbyte := byte_or hx16 hy16
            generalize UInt8.ofNat (16 * x + y) = z at *
            have HE := Aside0.mk he
            clear he he0 hA hB
            go_enter Tryd.func91, Tryd.ntmps91
            go_wp2
            go_quiet (first | (go_at_call 45; exact cI _ _))
            go_wp2
            go_quiet (fail)
            go_wp2
            go_quiet (first | (go_at_call 99; exact dq2))
            go_wp2
            go_ret
            rw [hbyte]
            exact EscP.yes HE.out ((h.drewN _).set (i + 3)) hr3
end Go.Proofs.YtneclgjjnnldpaaDoor.Rd
end
section
/- The walk of the reader's value: it answers, or panics, as the plain function says. Conditions: a text of at most 10^6 bytes. -/
namespace Go.Proofs.YtneclgjjnnldpaaDoor.Rd
open Go Go.RowKit Go.Lib Go.Proofs.YtneclgjjnnldpaaDoor.PFn Go.Proofs.YtneclgjjnnldpaaDoor.Dp Go.Proofs.YtneclgjjnnldpaaDoorW.PrintWords

theorem Lr.len {s : ByteArray} {i : Nat} {l : Bs} (h : Lr s i l) : l.length = s.size - i := by rw [← h.1, List.length_drop, bl_size]
theorem u8_ne {x : UInt8} {n : Nat} (h : x ≠ UInt8.ofNat n) : ¬ (x.toNat : Int) = (n : Int) := fun e => h (by
  have : x.toNat = n := by omega
  rw [← this, UInt8.ofNat_toNat])
theorem keep_grown {w W w1 : World} {g : Nat} {row : Option Nat} (h : KeepBut w W g none) (hg : W.grownBy w1 row) (hr : ∀ k, row = some k → w.heap.size ≤ k) : KeepBut w w1 g none :=
  ⟨Nat.le_trans h.1 hg.size, fun i hi hne _ => (hg.block i (Nat.lt_of_lt_of_le hi h.1) (fun e => by have := hr i e.symm; omega)).trans (h.2 i hi hne (by simp))⟩
theorem St.grown {w0 w W w1 : World} {g j : Nat} {s : ByteArray} {row : Option Nat} (h : St w0 w W g s j) (hlt : g < w.heap.size) (h0 : w0.heap.size ≤ w.heap.size) (hg : W.grownBy w1 row) (hr : ∀ k, row = some k → w.heap.size ≤ k) : St w0 w w1 g s j :=
  ⟨h.1.grown hg (fun e => by have := hr g e.symm; omega), h.2.1.grown hg h.2.1.size (fun k hk => Nat.le_trans h0 (hr k hk)), keep_grown h.2.2 hg hr⟩
theorem St.lt {w0 w w1 : World} {g j : Nat} {s : ByteArray} (h : St w0 w w1 g s j) : g < w1.heap.size := h.1.lt
theorem St.size0 {w0 w w1 : World} {g j : Nat} {s : ByteArray} (h : St w0 w w1 g s j) : w0.heap.size ≤ w1.heap.size := h.2.1.size
theorem own_block_ne {w : World} {base n : Nat} {e size : Nat} {v : Value} {xs : List Value} (h : w.ownsRow base e size v n xs) {g : Nat} (hg : g < base) : v.ownBlock ≠ some g := fun e => by
  have := own_base h g e
  omega
/-- the bytes gathered, cut and read as a string -/
theorem cut_str {wr : World} {base n long : Nat} {v : Value} {acc : Bs} (h : wr.ownsRow base 5 1 v n (encs eB acc)) (hn : n = acc.length) (hlong : long ≤ acc.length) :
    ∃ A c, v = .slice A acc.length c ∧ (∀ W : World, (Instr.slice 64 (.slice A acc.length c) none (some (.int .i64 (long : Int))) none).run Tryd.prog W = .ok (.slice A long c) W) ∧
      ∀ m : Nat, (convert 64 9 (.slice A long c)).run Tryd.prog (wr.drewN m) = .ok (.string ⟨(acc.take long).toArray⟩) (wr.drewN m) := by
  subst hn
  have hle : ∃ A c, v = .slice A acc.length c ∧ acc.length ≤ c := by
    obtain ⟨A, c, hv⟩ := own_slice h
    have h2 := h
    rw [hv] at h2
    exact ⟨A, c, hv, own_le h2⟩
  obtain ⟨A, c, rfl, hc⟩ := hle
  rw [encs_eB] at h
  obtain ⟨A', c', he, hr⟩ := own_reads h
  injection he with he1 _ he2
  subst he1 he2
  obtain ⟨i0, hi, _, hz1, _⟩ := info_parts byte_info
  have hlm : (acc.map fun c => (c.toNat : Int)).length = acc.length := List.length_map _
  have hp := print_take_int (P := Tryd.prog) (k := .u8) 64 5 Tryd.underlying64 hi hz1 A c (acc.map fun c => (c.toNat : Int)) (long : Int) (by omega) (by rw [hlm]; omega) (by rw [hlm]; exact hc)
  have hl2 : ((acc.map fun c => (c.toNat : Int)).take ((long : Int)).toNat).length = long := by rw [List.length_take, hlm, Int.toNat_natCast]; omega
  rw [hl2, hlm] at hp
  refine ⟨A, c, rfl, hp.1, fun m => ?_⟩
  have h3 := hp.2.1 wr hr
  have h4 : ReadsInt (wr.drewN m) .u8 A long ((acc.map fun c => (c.toNat : Int)).take ((long : Int)).toNat) := h3.below (pw_below_drewN (Below.refl _ _) m)
  have h5 := string_of_reads (P := Tryd.prog) (src := 64) (dst := 9) (e := 5) (c := c) Tryd.underlying64 Tryd.underlying5 Tryd.underlying9 h4
  rw [Int.toNat_natCast, ← List.map_take, strOfNums_eB] at h5
  exact h5

theorem slice_more {w : World} {base : Nat} {e size : Nat} {v : Value} {acc : Bs} {c : UInt8} {xs : List Value} (h : w.ownsRow base e size v (acc ++ [c]).length xs) : ∃ A k, v = .slice A (acc.length + 1) k := by
  obtain ⟨A, k, hv⟩ := own_slice h
  exact ⟨A, k, by rw [hv, List.length_append]; rfl⟩
def ValP (w0 w : World) (g : Nat) (s : ByteArray) (r : Option (Bs × Bs)) (e : Ending) (w' : World) : Prop := match r with
  | some x => e = .returned (.string ⟨x.1.toArray⟩) ∧ ∃ j, St w0 w w' g s j ∧ Lr s j x.2
  | none => e = .panicked Pan ∧ ∃ j, St w0 w w' g s j
theorem ValP.yes {w0 w w' : World} {g j : Nat} {s : ByteArray} {r v : Bs} (hs : St w0 w w' g s j) (hl : Lr s j r) : ValP w0 w g s (some (v, r)) (.returned (.string ⟨v.toArray⟩)) w' := ⟨rfl, j, hs, hl⟩
theorem ValP.no {w0 w w' : World} {g j : Nat} {s : ByteArray} (hs : St w0 w w' g s j) : ValP w0 w g s none (.panicked Pan) w' := ⟨rfl, j, hs⟩
/-- value's loop -/
def VRel (w0 w : World) (g : Nat) (s : ByteArray) (ans : Option (Bs × Bs)) (v3 v4 : Value) (wr : World) : Prop :=
  ∃ (acc : Bs) (long j : Nat) (m : Bs), v4 = .int .i64 (long : Int) ∧ long ≤ acc.length ∧ acc.length ≤ j ∧ St w0 w wr g s j ∧ Lr s j m ∧ valF acc long m = ans ∧
    wr.ownsRow w.heap.size 5 1 v3 acc.length (encs eB acc)
theorem hash_q {w : World} {g i : Nat} {s : ByteArray} {l : Bs} (h : Bk w g s i) (hl : Lr s i l) {b : Bool} (hb : (l.head? == some 35) = b) : Calls Tryd.prog 50 #[.pointer (some ⟨g, 0, none⟩), .int .u8 35] w fun e w' => e = .returned (.bool b) ∧ ∃ m, w' = w.drewN m := by
  rw [← hb]
  exact is_q h hl 35
theorem comma_q {w : World} {g i : Nat} {s : ByteArray} {l : Bs} (h : Bk w g s i) (hl : Lr s i l) {b : Bool} (hb : (l.head? == some 44) = b) : Calls Tryd.prog 50 #[.pointer (some ⟨g, 0, none⟩), .int .u8 44] w fun e w' => e = .returned (.bool b) ∧ ∃ m, w' = w.drewN m := by
  rw [← hb]
  exact is_q h hl 44
theorem plus_q {w : World} {g i : Nat} {s : ByteArray} {l : Bs} (h : Bk w g s i) (hl : Lr s i l) {b : Bool} (hb : (l.head? == some 43) = b) : Calls Tryd.prog 50 #[.pointer (some ⟨g, 0, none⟩), .int .u8 43] w fun e w' => e = .returned (.bool b) ∧ ∃ m, w' = w.drewN m := by
  rw [← hb]
  exact is_q h hl 43
theorem equal_q {w : World} {g i : Nat} {s : ByteArray} {l : Bs} (h : Bk w g s i) (hl : Lr s i l) {b : Bool} (hb : (l.head? == some 61) = b) : Calls Tryd.prog 50 #[.pointer (some ⟨g, 0, none⟩), .int .u8 61] w fun e w' => e = .returned (.bool b) ∧ ∃ m, w' = w.drewN m := by
  rw [← hb]
  exact is_q h hl 61
set_option maxHeartbeats 1000000 in
set_option maxRecDepth 100000 in
theorem value_c {w0 w : World} {g i : Nat} {s : ByteArray} {l : Bs} (h : St w0 w w g s i) (hl : Lr s i l) (hs : s.size ≤ 1000000) :
    Calls Tryd.prog 81 #[.pointer (some ⟨g, 0, none⟩)] w (ValP w0 w g s (valueL l)) := by
  by_cases hhash : ∃ r, l = 35 :: r
  · obtain ⟨r, rfl⟩ := hhash
    have cI := fun W (hW : Bk W g s i) => hash_q hW hl (b := true) rfl
    have hB := h.bk
    have hv : valueL (35 :: r) = hexL r := rfl
    rw [hv]
    cases hH : hexL r with
    | none =>
      have cH : ∀ W, St w0 W W g s i → Calls Tryd.prog 90 #[.pointer (some ⟨g, 0, none⟩)] W fun e w' => e = .panicked Pan ∧ ∃ j, St w0 W w' g s j := fun W hW => by
        have := hex_c hW hl hs
        rw [hH] at this
        exact this
      clear hH hv
      go_enter Tryd.func81, Tryd.ntmps81
      go_wp2_with (first | (go_at_call 50; refine (cI _ hB).mono ?_; rintro e w1 ⟨rfl, q, rfl⟩) | (go_at_call 90; refine (cH _ (h.drewN _).self).mono ?_; rintro e w2 ⟨rfl, j, hst⟩))
      refine ⟨rfl, ?_⟩
      exact ValP.no ((h.drewN _).trans hst)
    | some x =>
      have cH : ∀ W, St w0 W W g s i → Calls Tryd.prog 90 #[.pointer (some ⟨g, 0, none⟩)] W fun e w' => e = .returned (.string ⟨x.1.toArray⟩) ∧ ∃ j, St w0 W w' g s j ∧ Lr s j x.2 := fun W hW => by
        have := hex_c hW hl hs
        rw [hH] at this
        exact this
      clear hH hv
      go_enter Tryd.func81, Tryd.ntmps81
      go_wp2_with (first | (go_at_call 50; refine (cI _ hB).mono ?_; rintro e w1 ⟨rfl, q, rfl⟩) | (go_at_call 90; refine (cH _ (h.drewN _).self).mono ?_; rintro e w2 ⟨rfl, j, hst, hlr⟩))
      go_ret
      exact ValP.yes ((h.drewN _).trans hst) hlr
  · have hh : (l.head? == some 35) = false := by
      cases l with
      | nil => rfl
      | cons c r =>
        have : c ≠ 35 := fun e => hhash ⟨r, by rw [e]⟩
        simp [this]
    have hv : valueL l = valF [] 0 l := by
      cases l with
      | nil => rfl
      | cons c r =>
        have : c ≠ 35 := fun e => hhash ⟨r, by rw [e]⟩
        simp only [valueL]
        rw [if_neg this]
    have cI := fun W (hW : Bk W g s i) => hash_q hW hl hh
    have hB := h.bk
    have hglt := h.lt
    have h0 := h.size0
    obtain ⟨ANS, hA⟩ : ∃ b, valF [] 0 l = b := ⟨_, rfl⟩
    rw [hv, hA]
    have HA := Aside0.mk hA
    have his := hl.2
    clear hhash hh hv hA
    go_enter Tryd.func81, Tryd.ntmps81
    go_wp2_with (first | (go_at_call 50; refine (cI _ hB).mono ?_; rintro e w1 ⟨rfl, q, rfl⟩))
    go_loopw [3, 4, 5, 32, 42] (fun v3 v4 _ _ _ wr => VRel w0 w g s ANS v3 v4 wr) (fun _ _ _ _ _ wr => ms s g wr)
    case atStart => exact ⟨[], 0, i, l, rfl, Nat.le_refl _, Nat.zero_le _, h.drewN _, hl, HA.out, own_nil _ _ _ _⟩
    case round =>
      obtain ⟨acc, long, j, m, rfl, hlong, hacc, hst, hm, hans, hown⟩ := hrel
      have HO := Aside0.mk hown
      have HANS := Aside0.mk hans
      clear hown hans
      have hBr := hst.bk
      have hjs := hm.2
      have d0 : wr.cell? ⟨g, 0, none⟩ = some (.string s) := cellS56_0 hBr
      have d1 : wr.cell? ⟨g, 1, none⟩ = some (.int .i64 (j : Int)) := cellS56_1 hBr
      have fz := blk_frozen hBr 1
      have cE := fun W (hW : Bk W g s j) => ended_q hW
      by_cases hend : m = [] ∨ ∃ r, m = 44 :: r ∨ m = 43 :: r
      · have hfin : valF acc long m = some (acc.take long, m) := by
          rcases hend with rfl | ⟨r, rfl | rfl⟩
          · rfl
          · rw [valF_cons, if_pos (.inl rfl)]
          · rw [valF_cons, if_pos (.inr rfl)]
        rw [HANS.out] at hfin
        subst hfin
        obtain ⟨A3, c3, rfl, hsl, hcv⟩ := cut_str HO.out rfl hlong
        rcases hend with rfl | ⟨r, rfl | rfl⟩
        · rw [decide_eq_true hm.nil] at cE
          go_wp2_with (first | (go_at_call 51; refine (cE _ hBr).mono ?_; rintro e w2 ⟨rfl, q2, rfl⟩))
          refine bodyPost_ret (v := .string ⟨(acc.take long).toArray⟩) (by simp [results, Tryd.results81, go_sem]) rfl ?_
          exact ValP.yes (hst.drewN _) hm
        · have hj := hm.lt
          rw [decide_eq_false (by omega)] at cE
          have c44 := fun n => comma_q (hBr.drewN n) hm (b := true) rfl
          go_wp2_with (first | (go_at_call 51; refine (cE _ hBr).mono ?_; rintro e w2 ⟨rfl, q2, rfl⟩) | (go_at_call 50; refine (c44 _).mono ?_; rintro e w3 ⟨rfl, q3, rfl⟩))
          refine bodyPost_ret (v := .string ⟨(acc.take long).toArray⟩) (by simp [results, Tryd.results81, go_sem]) rfl ?_
          exact ValP.yes (hst.drewN _) hm
        · have hj := hm.lt
          rw [decide_eq_false (by omega)] at cE
          have c44 := fun n => comma_q (hBr.drewN n) hm (b := false) rfl
          have c43 := fun n => plus_q (hBr.drewN n) hm (b := true) rfl
          go_wp2_with (first | (go_at_call 51; refine (cE _ hBr).mono ?_; rintro e w2 ⟨rfl, q2, rfl⟩) | (go_at_call 50; refine (c44 _).mono ?_; clear c44; rintro e w3 ⟨rfl, q3, rfl⟩) | (go_at_call 50; refine (c43 _).mono ?_; rintro e w4 ⟨rfl, q4, rfl⟩))
          refine bodyPost_ret (v := .string ⟨(acc.take long).toArray⟩) (by simp [results, Tryd.results81, go_sem]) rfl ?_
          exact ValP.yes (hst.drewN _) hm
      · have hne : ∃ x r, m = x :: r ∧ x ≠ 44 ∧ x ≠ 43 := by
          cases m with
          | nil => exact absurd (.inl rfl) hend
          | cons x r => exact ⟨x, r, rfl, fun e => hend (.inr ⟨r, .inl (by rw [e])⟩), fun e => hend (.inr ⟨r, .inr (by rw [e])⟩)⟩
        obtain ⟨x, r, rfl, h44, h43⟩ := hne
        have hj := hm.lt
        rw [decide_eq_false (by omega)] at cE
        have hx : ((s[j]'hj).toNat : Int) = (x.toNat : Int) := by rw [hm.at_]
        have hji : (j : Int) < (s.size : Int) := by omega
        have c44 := fun n => comma_q (hBr.drewN n) hm (b := false) (by simp [h44])
        have c43 := fun n => plus_q (hBr.drewN n) hm (b := false) (by simp [h43])
        clear hend
        have hvc := valF_cons acc long x r
        rw [if_neg (fun h => h.elim h44 h43), HANS.out] at hvc
        by_cases h92 : x = 92
        · subst h92
          rw [if_pos rfl] at hvc
          have hpos := hm.len
          cases hE : escL r with
          | none =>
            have cX : ∀ W, St w0 W W g s j → Calls Tryd.prog 91 #[.pointer (some ⟨g, 0, none⟩)] W fun e w' => e = .panicked Pan ∧ ∃ k, St w0 W w' g s k := fun W hW => by
              have := escape_c hW hm hs
              unfold EscP at this
              rw [hE] at this
              exact this
            rw [hE] at hvc
            have hans2 : ANS = none := hvc
            subst hans2
            clear hE hvc
            go_wp2_with (first | (go_at_call 51; refine (cE _ hBr).mono ?_; rintro e w2 ⟨rfl, q2, rfl⟩) | (go_at_call 50; refine (c44 _).mono ?_; clear c44; rintro e w3 ⟨rfl, q3, rfl⟩) | (go_at_call 50; refine (c43 _).mono ?_; rintro e w4 ⟨rfl, q4, rfl⟩))
            go_quiet (fail)
            go_wp2_with (first | (go_at_call 91; refine (cX _ (hst.drewN _).self).mono ?_; rintro e w5 ⟨rfl, k, hst5⟩))
            refine ⟨rfl, ?_⟩
            exact ValP.no ((hst.drewN _).trans hst5)
          | some y =>
            have cX : ∀ W, St w0 W W g s j → Calls Tryd.prog 91 #[.pointer (some ⟨g, 0, none⟩)] W fun e w' => e = .returned (.int .u8 (y.1.toNat : Int)) ∧ ∃ k, St w0 W w' g s k ∧ Lr s k y.2 := fun W hW => by
              have := escape_c hW hm hs
              unfold EscP at this
              rw [hE] at this
              exact this
            have hshort := escL_len (show escL r = some (y.1, y.2) from hE)
            rw [hE] at hvc
            have hans2 : valF (acc ++ [y.1]) (acc.length + 1) y.2 = ANS := hvc.symm
            have HA2 := Aside0.mk hans2
            clear hE hvc hans2
            go_wp2_with (first | (go_at_call 51; refine (cE _ hBr).mono ?_; rintro e w2 ⟨rfl, q2, rfl⟩) | (go_at_call 50; refine (c44 _).mono ?_; clear c44; rintro e w3 ⟨rfl, q3, rfl⟩) | (go_at_call 50; refine (c43 _).mono ?_; rintro e w4 ⟨rfl, q4, rfl⟩))
            go_quiet (fail)
            go_wp2_with (first | (go_at_call 91; refine (cX _ (hst.drewN _).self).mono ?_; rintro e w5 ⟨rfl, k, hst5, hl5⟩) | (at_builtin; refine print_append_of eB w.heap.size rfl _ _ 64 5 (.int .u8 0) 1 rfl Tryd.underlying64 byte_info rfl (by omega) u3 acc y.1 rfl rfl rfl (KeepBut.own hst5.2.2 (own_drewN HO.out _) (own_block_ne HO.out hglt) (Classical.em _)) (Below.refl _ _) (Nat.le_trans hst.2.2.1 hst5.2.2.1) (by omega) ?_; intro v1 w6 HO6 _ hg6 _; obtain ⟨A6, c6, rfl⟩ := slice_more HO6))
            have hst6 := ((hst.drewN _).trans hst5).grown hglt h0 hg6 (own_base HO.out)
            have hl5l := hl5.len
            have hl52 := hl5.2
            rw [List.length_cons] at hpos
            exact ⟨⟨acc ++ [y.1], acc.length + 1, k, y.2, by go_num, by simp, by simp; omega, hst6, hl5, HA2.out, HO6⟩, by rw [ms_eq hBr, ms_eq hst6.bk]; omega⟩
        · rw [if_neg h92] at hvc
          have hx92 : ¬ (x.toNat : Int) = 92 := u8_ne (n := 92) h92
          by_cases hbad : x = 0 ∨ special x = true
          · rw [if_pos hbad] at hvc
            subst hvc
            have hk : x.toNat ≠ 0 → 0 ≤ Lib.indexByte specs x := fun h0 => ib_spec_yes (hbad.resolve_left (fun e => h0 (by rw [e]; rfl)))
            have cB := fun W => ib_c specs x W
            generalize Lib.indexByte specs x = k at *
            unfold specs at cB
            by_cases hx0 : x = 0
            · subst hx0
              clear hk
              go_wp2_with (first | (go_at_call 51; refine (cE _ hBr).mono ?_; rintro e w2 ⟨rfl, q2, rfl⟩) | (go_at_call 50; refine (c44 _).mono ?_; clear c44; rintro e w3 ⟨rfl, q3, rfl⟩) | (go_at_call 50; refine (c43 _).mono ?_; rintro e w4 ⟨rfl, q4, rfl⟩))
              go_quiet (fail)
              go_wp2
              refine ⟨rfl, ?_⟩
              exact ValP.no (hst.drewN _)
            · have hx0' : ¬ (x.toNat : Int) = 0 := u8_ne (n := 0) hx0
              have hk' := hk (by omega)
              clear hk
              go_wp2_with (first | (go_at_call 51; refine (cE _ hBr).mono ?_; rintro e w2 ⟨rfl, q2, rfl⟩) | (go_at_call 50; refine (c44 _).mono ?_; clear c44; rintro e w3 ⟨rfl, q3, rfl⟩) | (go_at_call 50; refine (c43 _).mono ?_; rintro e w4 ⟨rfl, q4, rfl⟩))
              go_quiet (fail)
              go_wp2_with (first | (go_at_call 45; refine (cB _).mono ?_; rintro e w5 ⟨rfl, rfl⟩))
              refine ⟨rfl, ?_⟩
              exact ValP.no (hst.drewN _)
          · rw [if_neg hbad] at hvc
            have hsp : special x = false := by
              cases h : special x with
              | false => rfl
              | true => exact absurd (.inr h) hbad
            have hk := ib_spec_no hsp
            have hx0' : ¬ (x.toNat : Int) = 0 := u8_ne (n := 0) (fun e => hbad (.inl e))
            have cB := fun W => ib_c specs x W
            generalize Lib.indexByte specs x = k at *
            unfold specs at cB
            have HVC := Aside0.mk hvc
            have hkd : decide (0 ≤ k) = false := decide_eq_false (by omega)
            clear hvc hbad hsp
            have hml := hm.len
            rw [List.length_cons] at hml
            by_cases h32 : x = 32
            · subst h32
              go_wp2_with (first | (go_at_call 51; refine (cE _ hBr).mono ?_; rintro e w2 ⟨rfl, q2, rfl⟩) | (go_at_call 50; refine (c44 _).mono ?_; clear c44; rintro e w3 ⟨rfl, q3, rfl⟩) | (go_at_call 50; refine (c43 _).mono ?_; rintro e w4 ⟨rfl, q4, rfl⟩))
              go_quiet (fail)
              go_wp2_with (first | (go_at_call 45; refine (cB _).mono ?_; rintro e w5 ⟨rfl, rfl⟩) | (at_builtin; refine print_append_of eB w.heap.size rfl _ _ 64 5 (.int .u8 0) 1 rfl Tryd.underlying64 byte_info rfl (by omega) u3 acc (32 : UInt8) rfl (by simp [Act.eval]) rfl (own_setCell (p := ⟨g, 1, none⟩) (own_drewN HO.out _) (fun e => own_block_ne HO.out hglt e.symm) _) (Below.refl _ _) (by simpa using hst.2.2.1) (by omega) ?_; intro v1 w6 HO6 _ hg6 _; obtain ⟨A6, c6, rfl⟩ := slice_more HO6))
              have hst6 := ((hst.drewN (q2 + q3 + q4 + nq)).set (j + 1)).grown hglt h0 hg6 (own_base HO.out)
              exact ⟨⟨acc ++ [32], long, j + 1, r, rfl, by simp; omega, by simp; omega, hst6, hm.next, by rw [HVC.out]; rfl, HO6⟩, by rw [ms_eq hBr, ms_eq hst6.bk]; omega⟩
            · have hx32 : ¬ (x.toNat : Int) = 32 := u8_ne (n := 32) h32
              go_wp2_with (first | (go_at_call 51; refine (cE _ hBr).mono ?_; rintro e w2 ⟨rfl, q2, rfl⟩) | (go_at_call 50; refine (c44 _).mono ?_; clear c44; rintro e w3 ⟨rfl, q3, rfl⟩) | (go_at_call 50; refine (c43 _).mono ?_; rintro e w4 ⟨rfl, q4, rfl⟩))
              go_quiet (fail)
              go_wp2_with (first | (go_at_call 45; refine (cB _).mono ?_; rintro e w5 ⟨rfl, rfl⟩) | (at_builtin; refine print_append_of eB w.heap.size rfl _ _ 64 5 (.int .u8 0) 1 rfl Tryd.underlying64 byte_info rfl (by omega) u3 acc x rfl (by simp [Act.eval]) rfl (own_setCell (p := ⟨g, 1, none⟩) (own_drewN HO.out _) (fun e => own_block_ne HO.out hglt e.symm) _) (Below.refl _ _) (by simpa using hst.2.2.1) (by omega) ?_; intro v1 w6 HO6 _ hg6 _; obtain ⟨A6, c6, rfl⟩ := slice_more HO6))
              have hst6 := ((hst.drewN (q2 + q3 + q4 + nq)).set (j + 1)).grown hglt h0 hg6 (own_base HO.out)
              exact ⟨⟨acc ++ [x], acc.length + 1, j + 1, r, by go_num, by simp, by simp; omega, hst6, hm.next, by rw [HVC.out, if_neg h32], HO6⟩, by rw [ms_eq hBr, ms_eq hst6.bk]; omega⟩
end Go.Proofs.YtneclgjjnnldpaaDoor.Rd
end
section
/- The walk of the reader's pair: it answers, or panics, as the plain function says. Conditions: a text of at most 10^6 bytes. -/
namespace Go.Proofs.YtneclgjjnnldpaaDoor.Rd
open Go Go.RowKit Go.Lib Go.Proofs.YtneclgjjnnldpaaDoor.PFn Go.Proofs.YtneclgjjnnldpaaDoor.Dp Go.Proofs.YtneclgjjnnldpaaDoorW.PrintWords

def str (b : Bs) : ByteArray := ⟨b.toArray⟩
theorem str_bl (s : ByteArray) : str (bl s) = s := rfl
theorem bl_str (b : Bs) : bl (str b) = b := rfl
/-- a pair as a value -/
def avaV (a : Ava) : Value := .agg #[.string ⟨a.1.toArray⟩, .string ⟨a.2.toArray⟩]
def PairP (w0 w : World) (g : Nat) (s : ByteArray) (r : Option (Ava × Bs)) (e : Ending) (w' : World) : Prop := match r with
  | some x => e = .returned (avaV x.1) ∧ ∃ j, St w0 w w' g s j ∧ Lr s j x.2
  | none => e = .panicked Pan ∧ ∃ j, St w0 w w' g s j
theorem PairP.yes {w0 w w' : World} {g j : Nat} {s : ByteArray} {r : Bs} {a : Ava} (hs : St w0 w w' g s j) (hl : Lr s j r) : PairP w0 w g s (some (a, r)) (.returned (avaV a)) w' := ⟨rfl, j, hs, hl⟩
theorem PairP.no {w0 w w' : World} {g j : Nat} {s : ByteArray} (hs : St w0 w w' g s j) : PairP w0 w g s none (.panicked Pan) w' := ⟨rfl, j, hs⟩
/-- an ava's block -/
def Ab (w : World) (b : Nat) (x y : ByteArray) : Prop := w.heap[b]? = some (.cells #[.string x, .string y] 39 (0, 0))
theorem Ab.c0 {w : World} {b : Nat} {x y : ByteArray} (h : Ab w b x y) : w.cell? ⟨b, 0, none⟩ = some (.string x) := blk_cell h 0
theorem Ab.c1 {w : World} {b : Nat} {x y : ByteArray} (h : Ab w b x y) : w.cell? ⟨b, 1, none⟩ = some (.string y) := blk_cell h 1
theorem Ab.f {w : World} {b : Nat} {x y : ByteArray} (h : Ab w b x y) (i : Nat) : w.frozen? ⟨b, i, none⟩ = false := blk_frozen h i
theorem Ab.keep {w w1 : World} {b g : Nat} {x y : ByteArray} (h : Ab w b x y) (hk : KeepBut w w1 g none) (hne : b ≠ g) : Ab w1 b x y := hk.blk h hne (by simp)
theorem Ab.set0 {w : World} {b : Nat} {x y : ByteArray} (h : Ab w b x y) (z : ByteArray) : Ab (w.setCell ⟨b, 0, none⟩ (.string z)) b z y := blk_set h 0 _
theorem Ab.set1 {w : World} {b : Nat} {x y : ByteArray} (h : Ab w b x y) (z : ByteArray) : Ab (w.setCell ⟨b, 1, none⟩ (.string z)) b x z := blk_set h 1 _
theorem Ab.far {w : World} {b : Nat} {x y : ByteArray} (h : Ab w b x y) {p : Addr} (hp : b ≠ p.block) (u : Value) : Ab (w.setCell p u) b x y := blk_far h hp u
theorem Ab.lt {w : World} {b : Nat} {x y : ByteArray} (h : Ab w b x y) : b < w.heap.size := blk_lt h
/-- a store into a block of one's own -/
theorem St.far {w0 w w1 : World} {g j b k : Nat} {s : ByteArray} (h : St w0 w w1 g s j) (hb : w.heap.size ≤ b) (h0 : w0.heap.size ≤ w.heap.size) (hg : g < w.heap.size) (u : Value) : St w0 w (w1.setCell ⟨b, k, none⟩ u) g s j :=
  ⟨h.1.far (p := ⟨b, k, none⟩) (by show g ≠ b; omega) u, below_set h.2.1 (Nat.le_trans h0 hb), ⟨by rw [World.size_setCell]; exact h.2.2.1, fun i hi hne hr => (Below.heap_setCell w1 ⟨b, k, none⟩ u i (by show i ≠ b; omega)).trans (h.2.2.2 i hi hne hr)⟩⟩
set_option maxHeartbeats 1000000 in
set_option maxRecDepth 100000 in
theorem pair_c {w0 w : World} {g i : Nat} {s : ByteArray} {l : Bs} (h : St w0 w w g s i) (hl : Lr s i l) (hs : s.size ≤ 1000000) (hE : Env w0) :
    Calls Tryd.prog 62 #[.pointer (some ⟨g, 0, none⟩)] w (PairP w0 w g s (pairL l)) := by
  obtain ⟨ANS, hA⟩ : ∃ b, pairL l = b := ⟨_, rfl⟩
  rw [hA]
  have HA := Aside0.mk hA
  have hglt := h.lt
  have h0 := h.size0
  clear hA
  go_enter Tryd.func62, Tryd.ntmps62
  go_wp2_with fail
  generalize hW0 : ((w.alloc (Obj.cells #[Value.string { data := #[] }, Value.string { data := #[] }] 39)).alloc (Obj.cells #[Value.string { data := #[] }, Value.string { data := #[] }] 39)) = W0
  have hst0 : St w0 w W0 g s i := by rw [← hW0]; exact h.below (below_alloc (below_alloc (Below.refl _ _) _) _)
  have hb0 : Ab W0 w.heap.size ⟨#[]⟩ ⟨#[]⟩ := by rw [← hW0]; exact blk_alloc (blk_new w _) _
  have hb1 : Ab W0 (w.heap.size + 1) ⟨#[]⟩ ⟨#[]⟩ := by
    rw [← hW0]
    have := blk_new (w.alloc (Obj.cells #[Value.string { data := #[] }, Value.string { data := #[] }] 39)) (Obj.cells #[Value.string { data := #[] }, Value.string { data := #[] }] 39)
    rw [World.size_alloc] at this
    exact this
  clear hW0
  have ne0 : w.heap.size ≠ g := by omega
  have ne1 : w.heap.size + 1 ≠ g := by omega
  refine (blanks_c hst0.self hl hs).mono ?_
  rintro e w1 ⟨rfl, j1, hst1, hl1⟩
  have hp1 := hst0.trans hst1
  have hb0 := hb0.keep hst1.2.2 ne0
  have hb1 := hb1.keep hst1.2.2 ne1
  cases hT : typL (blanks l) with
  | none =>
    have cT := typ_c hst1.self hl1 hs hE
    rw [hT] at cT
    have hans : ANS = none := by rw [← HA.out]; unfold pairL; rw [hT]; rfl
    subst hans
    clear hT
    go_wp2_with fail
    refine cT.mono ?_
    rintro e w2 ⟨rfl, j2, hst2⟩
    refine ⟨rfl, ?_⟩
    exact PairP.no (hp1.trans hst2)
  | some x =>
    have cT := typ_c hst1.self hl1 hs hE
    rw [hT] at cT
    go_wp2_with fail
    refine cT.mono ?_
    rintro e w2 ⟨rfl, j2, hst2, hl2⟩
    have hp2 := hp1.trans hst2
    have hb0 := hb0.keep hst2.2.2 ne0
    have hb1 := hb1.keep hst2.2.2 ne1
    have e0 := hb1.c0
    have f0 := hb1.f 0
    go_wp2_with fail
    have hp3 := hp2.far (b := w.heap.size + 1) (k := 0) (by omega) h0 hglt (.string ⟨x.1.toArray⟩)
    have hb0 := hb0.far (p := ⟨w.heap.size + 1, 0, none⟩) (by show w.heap.size ≠ w.heap.size + 1; omega) (.string ⟨x.1.toArray⟩)
    have hb1 := hb1.set0 ⟨x.1.toArray⟩
    clear cT e0 f0
    generalize w2.setCell ⟨w.heap.size + 1, 0, none⟩ (.string ⟨x.1.toArray⟩) = w3 at *
    refine (blanks_c hp3.self hl2 hs).mono ?_
    rintro e w4 ⟨rfl, j4, hst4, hl4⟩
    have hp4 := hp3.trans hst4
    have hb0 := hb0.keep hst4.2.2 ne0
    have hb1 := hb1.keep hst4.2.2 ne1
    have hans0 : ANS = match blanks x.2 with
      | [] => none
      | c :: r => if c = 61 then (valueL (blanks r)).map fun y => ((x.1, y.1), blanks y.2) else none := by rw [← HA.out]; unfold pairL; rw [hT]; rfl
    by_cases heq : ∃ r, blanks x.2 = 61 :: r
    · obtain ⟨r, hr⟩ := heq
      rw [hr] at hl4 hans0
      have hans1 : ANS = (valueL (blanks r)).map fun y => ((x.1, y.1), blanks y.2) := hans0
      have cQ := equal_q hp4.bk hl4 (b := true) rfl
      clear hans0
      go_wp2_with fail
      refine cQ.mono ?_
      rintro e w5 ⟨rfl, q5, rfl⟩
      have hp5 := hp4.drewN q5
      have d1 : (w4.drewN q5).cell? ⟨g, 1, none⟩ = some (.int .i64 (j4 : Int)) := cellS56_1 hp5.bk
      have fz : (w4.drewN q5).frozen? ⟨g, 1, none⟩ = false := blk_frozen hp5.bk 1
      have hb0 : Ab (w4.drewN q5) _ _ _ := hb0
      have hb1 : Ab (w4.drewN q5) _ _ _ := hb1
      have hj4 := hl4.lt
      have hl5 := hl4.next
      generalize w4.drewN q5 = w5 at *
      go_wp2_with fail
      have hp6 := hp5.set (j4 + 1)
      have hb0 := hb0.far (p := ⟨g, 1, none⟩) ne0 (.int .i64 ((j4 + 1 : Nat) : Int))
      have hb1 := hb1.far (p := ⟨g, 1, none⟩) ne1 (.int .i64 ((j4 + 1 : Nat) : Int))
      rw [show ((j4 + 1 : Nat) : Int) = (j4 : Int) + 1 from rfl] at hp6 hb0 hb1
      clear d1 fz
      generalize w5.setCell ⟨g, 1, none⟩ (.int .i64 ((j4 : Int) + 1)) = w6 at *
      refine (blanks_c hp6.self hl5 hs).mono ?_
      rintro e w7 ⟨rfl, j7, hst7, hl7⟩
      have hp7 := hp6.trans hst7
      have hb0 := hb0.keep hst7.2.2 ne0
      have hb1 := hb1.keep hst7.2.2 ne1
      have cV := value_c hp7.self hl7 hs
      cases hV : valueL (blanks r) with
      | none =>
        rw [hV] at cV hans1
        have hans : ANS = none := hans1
        subst hans
        clear hV hans1 hT
        go_wp2_with fail
        refine cV.mono ?_
        rintro e w8 ⟨rfl, j8, hst8⟩
        refine ⟨rfl, ?_⟩
        exact PairP.no (hp7.trans hst8)
      | some y =>
        rw [hV] at cV hans1
        have hans : ANS = some ((x.1, y.1), blanks y.2) := hans1
        subst hans
        clear hV hans1 hT
        go_wp2_with fail
        refine cV.mono ?_
        rintro e w8 ⟨rfl, j8, hst8, hl8⟩
        have hp8 := hp7.trans hst8
        have hb0 := hb0.keep hst8.2.2 ne0
        have hb1 := hb1.keep hst8.2.2 ne1
        have e1 := hb1.c1
        have f1 := hb1.f 1
        go_wp2_with fail
        have hp9 := hp8.far (b := w.heap.size + 1) (k := 1) (by omega) h0 hglt (.string ⟨y.1.toArray⟩)
        have hb0 := hb0.far (p := ⟨w.heap.size + 1, 1, none⟩) (by show w.heap.size ≠ w.heap.size + 1; omega) (.string ⟨y.1.toArray⟩)
        have hb1 := hb1.set1 ⟨y.1.toArray⟩
        clear cV e1 f1
        generalize w8.setCell ⟨w.heap.size + 1, 1, none⟩ (.string ⟨y.1.toArray⟩) = w9 at *
        refine (blanks_c hp9.self hl8 hs).mono ?_
        rintro e wa ⟨rfl, ja, hsta, hla⟩
        have hpa := hp9.trans hsta
        have hb0 := hb0.keep hsta.2.2 ne0
        have hb1 := hb1.keep hsta.2.2 ne1
        have a0 := hb0.c0
        have a1 := hb0.c1
        have g0 := hb0.f 0
        have g1 := hb0.f 1
        have b0 := hb1.c0
        have b1 := hb1.c1
        go_wp2_with fail
        have hpb := (hpa.far (b := w.heap.size) (k := 0) (Nat.le_refl _) h0 hglt (.string ⟨x.1.toArray⟩)).far (b := w.heap.size) (k := 1) (Nat.le_refl _) h0 hglt (.string ⟨y.1.toArray⟩)
        have hb := (hb0.set0 ⟨x.1.toArray⟩).set1 ⟨y.1.toArray⟩
        generalize (wa.setCell ⟨w.heap.size, 0, none⟩ (.string ⟨x.1.toArray⟩)).setCell ⟨w.heap.size, 1, none⟩ (.string ⟨y.1.toArray⟩) = wb at *
        clear a0 a1 g0 g1 b0 b1 hb0 hb1
        have r0 := hb.c0
        have r1 := hb.c1
        refine bodyPost_ret (v := avaV (x.1, y.1)) (by simp [results, Tryd.results62, go_sem, r0, r1, avaV]) rfl ?_
        exact PairP.yes hpb hla
    · have hbad : ((blanks x.2).head? == some 61) = false := by
        cases hb : blanks x.2 with
        | nil => rfl
        | cons c r =>
          have : c ≠ 61 := fun e => heq ⟨r, by rw [hb, e]⟩
          simp [this]
      have hans : ANS = none := by
        rw [hans0]
        cases hb : blanks x.2 with
        | nil => rfl
        | cons c r =>
          have : c ≠ 61 := fun e => heq ⟨r, by rw [hb, e]⟩
          simp [this]
      subst hans
      have cQ := equal_q hp4.bk hl4 hbad
      clear hans0 heq hbad hT
      go_wp2_with fail
      refine cQ.mono ?_
      rintro e w5 ⟨rfl, q5, rfl⟩
      go_wp2
      refine ⟨rfl, ?_⟩
      exact PairP.no (hp4.drewN _)
end Go.Proofs.YtneclgjjnnldpaaDoor.Rd
end
section
/- The walk of the reader's part: it answers, or panics, as the plain function says. Conditions: a text of at most 10^6 bytes. -/
namespace Go.Proofs.YtneclgjjnnldpaaDoor.Rd
open Go Go.RowKit Go.Lib Go.Proofs.YtneclgjjnnldpaaDoor.PFn Go.Proofs.YtneclgjjnnldpaaDoor.Dp Go.Proofs.YtneclgjjnnldpaaDoorW.PrintWords

/-- a literal of one element -/
theorem R_one {α : Type} (d : Kd α) {W : World} {base e : Nat} {p : α} {cs : List Value} {ok okp : Nat → Prop} (hp : d.M W base okp p cs) (hok : ∀ k, okp k → ok k) (hfresh : ok W.heap.size) (hbase : base ≤ W.heap.size) :
    d.R e (W.alloc (.cells cs.toArray e)) base ok (.slice (some ⟨W.heap.size, 0, none⟩) 1 1) [p] := by
  have hrep : Reps (d.M W base okp) d.sz [p] cs := by
    have := (Reps.none (d.M W base okp) d.sz).snoc hp (d.K_len (d.K_of_M hp))
    simpa using this
  refine ⟨fun k hk => ?_, cs, ?_, ?_⟩
  · have : W.heap.size = k := by simpa [Value.ownBlock] using hk
    subst this
    exact hfresh
  · have h2 := World.ownsRow_lit (base := base) (e := e) (size := d.sz) W cs.toArray 1 hbase (by simp [maxLen]) (by simpa using hrep.1)
    simpa using h2
  · refine hrep.imp_ (fun p c hp => d.M_mono (fun k hk => ⟨hok k hk.1, fun he => ?_⟩) (Kd.M_below (d.M_bound hp) (below_alloc (Below.refl _ _) _)))
    have h3 : k = W.heap.size := by simpa [Value.ownBlock] using he
    have := hk.2.2.1
    omega
/-- a pair in memory -/
def sA (a : Ava) : S39 := ⟨⟨a.1.toArray⟩, ⟨a.2.toArray⟩⟩
abbrev kA : Kd S39 := k39
abbrev kR : Kd (List S39) := Kd.slice 39 kA
theorem ava_info : (Tryd.prog.info? 39).map (fun i => (i.zero, i.size, i.bytes)) = some (some (.agg #[.string ByteArray.empty, .string ByteArray.empty]), kA.sz, 32) := by kernel_rfl
theorem sA_mk (w : World) (base : Nat) (ok : Nat → Prop) (a : Ava) : kA.M w base ok (sA a) [.string ⟨a.1.toArray⟩, .string ⟨a.2.toArray⟩] := k39_mkM w base ok (sA a)
theorem map_snoc {α β : Type} (f : α → β) (xs : List α) (x : α) : xs.map f ++ [f x] = (xs ++ [x]).map f := by simp
theorem R_len {α : Type} {d : Kd α} {e : Nat} {w : World} {base : Nat} {ok : Nat → Prop} {v : Value} {xs : List α} {n : Nat} (h : d.R e w base ok v xs) (hn : xs.length = n) : ∃ A c, v = .slice A n c := by
  subst hn
  exact Kd.R_slice h
/-- what part leaves: the pairs' list, of its own memory -/
def PartP (w0 w : World) (g : Nat) (s : ByteArray) (r : Option (List Ava × Bs)) (e : Ending) (w' : World) : Prop := match r with
  | some x => (∃ v, e = .returned v ∧ kA.R 39 w' w.heap.size (fun k => w.heap.size ≤ k) v (x.1.map sA)) ∧ ∃ j, St w0 w w' g s j ∧ Lr s j x.2
  | none => e = .panicked Pan ∧ ∃ j, St w0 w w' g s j
theorem PartP.yes {w0 w w' : World} {g j : Nat} {s : ByteArray} {r : Bs} {xs : List Ava} {v : Value} (hr : kA.R 39 w' w.heap.size (fun k => w.heap.size ≤ k) v (xs.map sA)) (hs : St w0 w w' g s j) (hl : Lr s j r) : PartP w0 w g s (some (xs, r)) (.returned v) w' := ⟨⟨v, rfl, hr⟩, j, hs, hl⟩
theorem PartP.no {w0 w w' : World} {g j : Nat} {s : ByteArray} (hs : St w0 w w' g s j) : PartP w0 w g s none (.panicked Pan) w' := ⟨rfl, j, hs⟩
theorem PairP.some_ {w0 w w' : World} {g : Nat} {s : ByteArray} {x : Ava × Bs} {e : Ending} (h : PairP w0 w g s (some x) e w') : e = .returned (avaV x.1) ∧ ∃ j, St w0 w w' g s j ∧ Lr s j x.2 := h
theorem PairP.none_ {w0 w w' : World} {g : Nat} {s : ByteArray} {e : Ending} (h : PairP w0 w g s none e w') : e = .panicked Pan ∧ ∃ j, St w0 w w' g s j := h
def PaRel (w0 w : World) (g : Nat) (s : ByteArray) (ans : Option (List Ava × Bs)) (v3 : Value) (wr : World) : Prop :=
  ∃ (acc : List Ava) (j : Nat) (m : Bs), kA.R 39 wr w.heap.size (fun k => w.heap.size ≤ k) v3 (acc.map sA) ∧ acc.length ≤ j ∧ St w0 w wr g s j ∧ Lr s j m ∧ partF acc m = ans
set_option maxHeartbeats 1000000 in
set_option maxRecDepth 100000 in
theorem part_c {w0 w : World} {g i : Nat} {s : ByteArray} {l : Bs} (h : St w0 w w g s i) (hl : Lr s i l) (hs : s.size ≤ 1000000) (hE : Env w0) :
    Calls Tryd.prog 49 #[.pointer (some ⟨g, 0, none⟩)] w (PartP w0 w g s (partL l)) := by
  obtain ⟨ANS, hA⟩ : ∃ b, partL l = b := ⟨_, rfl⟩
  rw [hA]
  have HA := Aside0.mk hA
  have hglt := h.lt
  have h0 := h.size0
  clear hA
  have cP := pair_c h hl hs hE
  cases hP : pairL l with
  | none =>
    rw [hP] at cP
    have hans : ANS = none := by rw [← HA.out]; unfold partL; rw [hP]; rfl
    subst hans
    clear hP
    go_enter Tryd.func49, Tryd.ntmps49
    go_wp2_with fail
    refine cP.mono ?_
    intro e w1 hq
    obtain ⟨rfl, j, hst⟩ := hq.none_
    refine ⟨rfl, ?_⟩
    exact PartP.no hst
  | some x =>
    rw [hP] at cP
    have hans : partF [x.1] x.2 = ANS := by rw [← HA.out]; unfold partL; rw [hP]; rfl
    have HANS := Aside0.mk hans
    have hlen := pairL_len (show pairL l = some (x.1, x.2) from hP)
    have hll := hl.len
    clear hP hans
    go_enter Tryd.func49, Tryd.ntmps49
    go_wp2_with fail
    refine cP.mono ?_
    intro e w1 hq
    obtain ⟨rfl, j, hst, hl1⟩ := hq.some_
    unfold avaV
    have hl1l := hl1.len
    have hRo := R_one kA (W := w1) (base := w.heap.size) (e := 39) (ok := fun k => w.heap.size ≤ k) (okp := fun _ => False) (sA_mk w1 w.heap.size _ x.1) (fun _ hk => hk.elim) hst.2.2.1 hst.2.2.1
    have hst2 := hst.below (below_alloc (Below.refl _ w1) (Obj.cells #[.string ⟨x.1.1.toArray⟩, .string ⟨x.1.2.toArray⟩] 39))
    have HRo := Aside0.mk hRo
    have Hst2 := Aside0.mk hst2
    clear hRo hst2
    have hj1 : 1 ≤ j := by have := hl1.2; omega
    go_wp2_with fail
    go_loopw [3] (fun v3 wr => PaRel w0 w g s ANS v3 wr) (fun _ wr => ms s g wr)
    case atStart => exact ⟨[x.1], j, x.2, HRo.out, hj1, Hst2.out, hl1, HANS.out⟩
    case round =>
      clear hst hl1 hl1l hj1 HRo Hst2 hq HANS hlen cP
      obtain ⟨acc, j, m, hR, hacc, hst, hm, hans⟩ := hrel
      have HR := Aside0.mk hR
      have hBr := hst.bk
      by_cases hplus : ∃ r, m = 43 :: r
      · obtain ⟨r, rfl⟩ := hplus
        have hans1 : ANS = match pairL r with
          | none => none
          | some (a, r') => partF (acc ++ [a]) r' := by rw [← hans, partF_cons, if_pos rfl]; cases pairL r <;> rfl
        have cQ := plus_q hBr hm (b := true) rfl
        have hj := hm.lt
        have hm1 := hm.next
        have hml := hm.len
        clear hans hR
        go_wp2_with fail
        refine cQ.mono ?_
        rintro e w2 ⟨rfl, q2, rfl⟩
        have hp2 := hst.drewN q2
        have d1 : (wr.drewN q2).cell? ⟨g, 1, none⟩ = some (.int .i64 (j : Int)) := cellS56_1 hp2.bk
        have fz : (wr.drewN q2).frozen? ⟨g, 1, none⟩ = false := blk_frozen hp2.bk 1
        have hjs := hm.2
        go_wp2_with fail
        have hp3 := hp2.set (j + 1)
        have HR3 : Aside0 (kA.R 39 ((wr.drewN q2).setCell ⟨g, 1, none⟩ (.int .i64 ((j : Int) + 1))) w.heap.size (fun k => w.heap.size ≤ k) u3 (acc.map sA)) :=
          ⟨Kd.R_far (Kd.R_below HR.out (pw_below_drewN (Below.refl _ _) q2)) (p := ⟨g, 1, none⟩) (fun k hk => by show k ≠ g; omega) _⟩
        rw [show ((j + 1 : Nat) : Int) = (j : Int) + 1 from rfl] at hp3
        have hbk : Bk wr g s j := hBr
        clear d1 fz hbk HR cQ
        have hms : ms s g wr = s.size + 1 - j := ms_eq hBr
        have HMS := Aside0.mk hms
        clear hms hBr
        generalize (wr.drewN q2).setCell ⟨g, 1, none⟩ (.int .i64 ((j : Int) + 1)) = w3 at *
        have cP := pair_c hp3.self hm1 hs hE
        cases hP : pairL r with
        | none =>
          rw [hP] at cP hans1
          have hans2 : ANS = none := hans1
          subst hans2
          clear hP hans1
          refine cP.mono ?_
          intro e w4 hq
          obtain ⟨rfl, j4, hst4⟩ := hq.none_
          refine ⟨rfl, ?_⟩
          exact PartP.no (hp3.trans hst4)
        | some y =>
          rw [hP] at cP hans1
          have hans2 : partF (acc ++ [y.1]) y.2 = ANS := hans1.symm
          have HANS2 := Aside0.mk hans2
          have hlen := pairL_len (show pairL r = some (y.1, y.2) from hP)
          clear hP hans1 hans2
          refine cP.mono ?_
          intro e w4 hq
          obtain ⟨rfl, j4, hst4, hl4⟩ := hq.some_
          unfold avaV
          have hp4 := hp3.trans hst4
          have hl4l := hl4.len
          have hl42 := hl4.2
          have HR4 : Aside0 (kA.R 39 w4 w.heap.size (fun k => w.heap.size ≤ k) u3 (acc.map sA)) := ⟨Kd.R_keep HR3.out hst4.2.2 (fun k hk => by omega)⟩
          have hsz4 := hp4.2.2.1
          clear hq cP HR3
          go_wp2_with (at_builtin; refine Kd.R_append kA w.heap.size rfl _ _ 25 39 (.agg #[.string ByteArray.empty, .string ByteArray.empty]) 32 rfl Tryd.underlying25 ava_info rfl (by decide) (by decide) u3 (acc.map sA) (sA y.1) [.string ⟨y.1.1.toArray⟩, .string ⟨y.1.2.toArray⟩] (fun k => w.heap.size ≤ k) (fun _ => False) rfl rfl (sA_mk _ _ _ _) (fun _ hk => hk.elim) (fun k hk => Nat.le_trans hsz4 hk) HR4.out (Below.refl _ _) hsz4 (by simp; omega) ?_; intro v1 w6 HR6 _ hg6 _)
          have hp6 := hp4.grown hglt h0 hg6 HR4.out.1
          rw [List.length_cons] at hml
          exact ⟨⟨acc ++ [y.1], j4, y.2, by rw [← map_snoc]; exact HR6, by simp; omega, hp6, hl4, HANS2.out⟩, by rw [HMS.out, ms_eq hp6.bk]; omega⟩
      · have hno : (m.head? == some 43) = false := by
          cases m with
          | nil => rfl
          | cons c r =>
            have : c ≠ 43 := fun e => hplus ⟨r, by rw [e]⟩
            simp [this]
        have hans1 : ANS = some (acc, m) := by
          rw [← hans]
          cases m with
          | nil => rfl
          | cons c r =>
            have : c ≠ 43 := fun e => hplus ⟨r, by rw [e]⟩
            rw [partF_cons, if_neg this]
        subst hans1
        have cQ := plus_q hBr hm hno
        clear hans hR hplus hno
        go_wp2_with fail
        refine cQ.mono ?_
        rintro e w2 ⟨rfl, q2, rfl⟩
        go_wp2
        refine bodyPost_ret (v := u3) (by simp [results, Tryd.results49, go_sem]) rfl ?_
        exact PartP.yes (Kd.R_below HR.out (pw_below_drewN (Below.refl _ _) q2)) (hst.drewN _) hm
end Go.Proofs.YtneclgjjnnldpaaDoor.Rd
end
