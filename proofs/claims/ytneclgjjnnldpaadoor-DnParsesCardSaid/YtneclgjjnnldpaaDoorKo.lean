/- What the walk of the reference's pair stands on: one pair is read as the plain function reads it; where that reads none, it tells so, or stops ahead of a byte that no name goes on with. Conditions: a text of at most 10^6 bytes. -/
import Derived.Test.YtneclgjjnnldpaaDoorKu
import Derived.Deep.DeepCutAuto
import Derived.Deep.CutBlock
namespace Go.Proofs.YtneclgjjnnldpaaDoor.Rd
open Go Go.RowKit Go.Lib Go.Proofs.YtneclgjjnnldpaaDoor.PFn Go.Proofs.YtneclgjjnnldpaaDoor.Dp Go.Proofs.YtneclgjjnnldpaaDoorW.PrintWords Go.Proofs.YtneclgjjnnldpaaDoor.Rk

def Stuck (m : Bs) : Prop := ∃ c r, m = c :: r ∧ c ≠ 43 ∧ c ≠ 44
def PairR (w0 w : World) (g : Nat) (s : ByteArray) (r : Option (Ava × Bs)) (e : Ending) (w' : World) : Prop :=
  ∃ (a : Ava) (b : Bool) (j : Nat) (m : Bs), e = .returned (.tuple #[avaV a, .bool b]) ∧ Sd w0 w w' g s j ∧ Lr s j m ∧ match r with
    | some x => b = true ∧ a = x.1 ∧ m = x.2
    | none => b = true → Stuck m
theorem Sd.lt {w0 w w1 : World} {g j : Nat} {s : ByteArray} (h : Sd w0 w w1 g s j) : g < w1.heap.size := h.1.lt
theorem Sd.size0 {w0 w w1 : World} {g j : Nat} {s : ByteArray} (h : Sd w0 w w1 g s j) : w0.heap.size ≤ w1.heap.size := h.2.1.size
theorem Sd.far {w0 w w1 : World} {g j b k : Nat} {s : ByteArray} (h : Sd w0 w w1 g s j) (hb : w.heap.size ≤ b) (h0 : w0.heap.size ≤ w.heap.size) (hg : g < w.heap.size) (u : Value) : Sd w0 w (w1.setCell ⟨b, k, none⟩ u) g s j :=
  ⟨h.1.far (p := ⟨b, k, none⟩) (by show g ≠ b; omega) u, below_set h.2.1 (Nat.le_trans h0 hb), ⟨by rw [World.size_setCell]; exact h.2.2.1, fun i hi hne hr => (Below.heap_setCell w1 ⟨b, k, none⟩ u i (by show i ≠ b; omega)).trans (h.2.2.2 i hi hne hr)⟩⟩
theorem Sd.grown {w0 w W w1 : World} {g j : Nat} {s : ByteArray} {row : Option Nat} (h : Sd w0 w W g s j) (hlt : g < w.heap.size) (h0 : w0.heap.size ≤ w.heap.size) (hg : W.grownBy w1 row) (hr : ∀ k, row = some k → w.heap.size ≤ k) : Sd w0 w w1 g s j :=
  ⟨h.1.grown hg (fun e => by have := hr g e.symm; omega), h.2.1.grown hg h.2.1.size (fun k hk => Nat.le_trans h0 (hr k hk)), keep_grown h.2.2 hg hr⟩
theorem Sd.c0 {w0 w w1 : World} {g j : Nat} {s : ByteArray} (h : Sd w0 w w1 g s j) : w1.cell? ⟨g, 0, none⟩ = some (.string s) := cellS78_0 h.bk
theorem Sd.c1 {w0 w w1 : World} {g j : Nat} {s : ByteArray} (h : Sd w0 w w1 g s j) : w1.cell? ⟨g, 1, none⟩ = some (.int .i64 (j : Int)) := cellS78_1 h.bk
theorem Sd.fz {w0 w w1 : World} {g j : Nat} {s : ByteArray} (h : Sd w0 w w1 g s j) : w1.frozen? ⟨g, 1, none⟩ = false := blk_frozen h.bk 1
def TwRd (p : UInt8 → Bool) (w0 w : World) (g : Nat) (s : ByteArray) (i : Nat) (l : Bs) (X : World → Prop) (wr : World) : Prop :=
  ∃ (j : Nat) (m : Bs), Sd w0 w wr g s j ∧ Lr s j m ∧ i ≤ j ∧ l.takeWhile p = l.take (j - i) ++ m.takeWhile p ∧ l.dropWhile p = m.dropWhile p ∧ X wr
theorem quiet_let (x : UInt8) {w : World} {n : Nat} : Calls Tryd.prog 35 #[.int .u8 (x.toNat : Int)] (w.drewN n) fun e w'' => e = .returned (.bool (letterB x)) ∧ ∃ m, w'' = w.drewN m :=
  Calls.quiet_of ((chanceryref4_letter.calls (x.toNat : Int) (letterB x) _ (refLet_f x)).mono fun e w' ⟨he, hd⟩ => ⟨he, by obtain ⟨⟨m, hm⟩⟩ := hd; exact ⟨m, hm⟩⟩)
theorem quiet_dgt (x : UInt8) {w : World} {n : Nat} : Calls Tryd.prog 36 #[.int .u8 (x.toNat : Int)] (w.drewN n) fun e w'' => e = .returned (.bool (digitB x)) ∧ ∃ m, w'' = w.drewN m :=
  Calls.quiet_of ((chanceryref4_digit.calls (x.toNat : Int) (digitB x) _ (refDig_f x)).mono fun e w' ⟨he, hd⟩ => ⟨he, by obtain ⟨⟨m, hm⟩⟩ := hd; exact ⟨m, hm⟩⟩)
theorem byte_ne {x : UInt8} {n : Nat} (h : x ≠ UInt8.ofNat n) : ((x.toNat : Int) == (n : Int)) = false := beq_false_of_ne (u8_ne h)
theorem isD_lit {w0 w : World} {g i : Nat} {s : ByteArray} {l : Bs} (h : Sd w0 w w g s i) (hl : Lr s i l) (c : UInt8) (n : Int) (hn : ((c.toNat : Nat) : Int) = n) {b : Bool} (hb : (l.head? == some c) = b) : Calls Tryd.prog 53 #[.pointer (some ⟨g, 0, none⟩), .int .u8 n] w fun e w' => e = .returned (.bool b) ∧ Sd w0 w w' g s i := by
  rw [← hn, ← hb]
  exact isD_c h hl c
theorem refType_d {s : ByteArray} {b : Bool} (hb : isType (bl s) = b) (hs : s.size ≤ 1000000) (w : World) : Calls Tryd.prog 20 #[.string s] w fun e w' => e = .returned (.bool b) ∧ ∃ m, w' = w.drewN m := by
  rw [← hb]
  exact refType_c s w (by omega)
theorem head_no {m : Bs} {c : UInt8} (h : ¬ ∃ r, m = c :: r) : (m.head? == some c) = false := by
  cases m with
  | nil => rfl
  | cons x r =>
    have : x ≠ c := fun e => h ⟨r, by rw [e]⟩
    simp [this]
theorem pairL_ty {l m : Bs} {T : ByteArray} (h1 : bl T = (blanks l).takeWhile inTypeB) (h2 : (blanks l).dropWhile inTypeB = m) : pairL l = if isType (bl T) = true then (match blanks m with
      | [] => none
      | c :: r => if c = 61 then (valueL (blanks r)).map fun y => ((bl T, y.1), blanks y.2) else none) else none := by
  unfold pairL typL
  rw [← h1, h2]
  cases isType (bl T) <;> rfl
def VRd (w0 w : World) (g : Nat) (s : ByteArray) (ans : Option (Bs × Bs)) (Bz X : Nat) (T : ByteArray) (v8 v9 : Value) (wr : World) : Prop :=
  ∃ (acc : Bs) (long j : Nat) (m : Bs), v9 = .int .i64 (long : Int) ∧ long ≤ acc.length ∧ acc.length ≤ j ∧ Sd w0 w wr g s j ∧ Lr s j m ∧ valF acc long m = ans ∧
    wr.ownsRow Bz 5 1 v8 acc.length (encs eB acc) ∧ Bz ≤ wr.heap.size ∧ Ab wr w.heap.size ⟨#[]⟩ ⟨#[]⟩ ∧ Ab wr X T ⟨#[]⟩
theorem Ab.grown {W w1 : World} {b : Nat} {x y : ByteArray} {row : Option Nat} (h : Ab W b x y) (hg : W.grownBy w1 row) (hne : row ≠ some b) : Ab w1 b x y := (hg.block b h.lt (fun e => hne e.symm)).trans h
theorem byte_wrap {x y : Nat} (hx : x < 16) (hy : y < 16) : IntKind.u8.wrap (IntKind.i64.wrap (IntKind.i64.wrap (16 * (x : Int)) + (y : Int))) = ((UInt8.ofNat (16 * x + y)).toNat : Int) := by
  have h : ∀ i j : Fin 16, IntKind.u8.wrap (IntKind.i64.wrap (IntKind.i64.wrap (16 * (i.val : Int)) + (j.val : Int))) = ((UInt8.ofNat (16 * i.val + j.val)).toNat : Int) := by decide +kernel
  exact h ⟨x, hx⟩ ⟨y, hy⟩
theorem escL_yes {n : UInt8} {r : Bs} (h : escapable n = true) : escL (n :: r) = some (n, r) := by
  simp only [escL]
  rw [if_pos h]
theorem escL_no0 {n : UInt8} (h : escapable n = false) : escL [n] = none := by
  simp only [escL]
  rw [if_neg (by rw [h]; decide)]
theorem escL_no1 {n d : UInt8} {r : Bs} (h : escapable n = false) : escL (n :: d :: r) = (byte2 n d).map fun x => (x, r) := by
  simp only [escL]
  rw [if_neg (by rw [h]; decide)]
theorem special_d (x : UInt8) (W : World) : Calls Tryd.prog 66 #[.int .u8 (x.toNat : Int)] W fun e w' => e = .returned (.bool (Dp.special x)) ∧ ∃ m, w' = W.drewN m :=
  (chanceryref4_special.calls 20 (x.toNat : Int) _ W (refSp_f x)).mono fun _ _ ⟨he, hd⟩ => ⟨he, hd.out⟩
theorem hexD {v : Bs} {P : ByteArray} (hP : bl P = v.takeWhile hexB) (hs : P.size ≤ 1000000) : ∃ (V : ByteArray) (E : Int), (∀ W, Calls Tryd.prog 65 #[.string P] W fun e w' => e = .returned (.tuple #[.string V, .int .i64 E]) ∧ Below W.heap.size W w') ∧
    ((E = 11 ∧ hexL v = none) ∨ (E = 0 ∧ V.toList.isEmpty = true ∧ hexL v = none) ∨ (E = 0 ∧ V.toList.isEmpty = false ∧ hexL v = some (bl V, v.dropWhile hexB))) := by
  have c := fun W => refUnhex_c P W hs
  rw [hP] at c
  cases hU : unhex (v.takeWhile hexB) with
  | none =>
    rw [hU] at c
    exact ⟨⟨#[]⟩, 11, c, .inl ⟨rfl, by unfold hexL; rw [hU]; rfl⟩⟩
  | some b =>
    rw [hU] at c
    cases b with
    | nil => exact ⟨⟨#[]⟩, 0, c, .inr (.inl ⟨rfl, empty_of rfl, by unfold hexL; rw [hU]; rfl⟩)⟩
    | cons y u => exact ⟨⟨(y :: u).toArray⟩, 0, c, .inr (.inr ⟨rfl, nonempty_of (c := y) (r := u) rfl, by unfold hexL; rw [hU]; rfl⟩)⟩
end Go.Proofs.YtneclgjjnnldpaaDoor.Rd
