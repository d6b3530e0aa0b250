/- The walk of chapter 3's law PrepTwice: it returns true. Conditions: the tables of unicode/utf8 as they are laid. -/
import Derived.Test.YtdfdponenhfbjaaDoorWka
namespace Go.Proofs.YtdfdponenhfbjaaDoor.Wk
open Go Go.RowKit Go.Lib Go.Proofs.YtdfdponenhfbjaaDoor.PFn Go.Proofs.YtdfdponenhfbjaaDoor.Pl Go.Proofs.YtdfdponenhfbjaaDoor.Tx Go.Proofs.YtdfdponenhfbjaaDoor.Fn Go.Proofs.YtdfdponenhfbjaaDoorW.PrintWords

theorem empty_of {s : ByteArray} (h : s.data.toList = []) : s.toList.isEmpty = true := by rw [Lib.toList_data, h]; rfl
theorem nonempty_of {s : ByteArray} (h : s.data.toList ≠ []) : s.toList.isEmpty = false := by
  rw [Lib.toList_data]
  cases h3 : s.data.toList with
  | nil => exact absurd h3 h
  | cons a b => rfl
theorem nonempty_of' {q : List UInt8} (h : q ≠ []) : q.isEmpty = false := by
  cases q with
  | nil => exact absurd rfl h
  | cons a b => rfl

def byteAt (q : List UInt8) (k : Nat) : Nat := (q.getD k 0).toNat
/-- what the loop of PrepTwice looks for is nowhere -/
def Shaped (q : List UInt8) : Prop := ∀ k, k < q.length → byteAt q k = 32 → k ≠ 0 ∧ k ≠ q.length - 1 ∧ byteAt q (k - 1) ≠ 32
theorem shaped_of {q : List UInt8} (h1 : q.head? ≠ some 32) (h2 : q.getLast? ≠ some 32) (h3 : ∀ p s, q ≠ p ++ 32 :: 32 :: s) : Shaped q := by
  intro k hk hb
  have hat : ∀ j, j < q.length → byteAt q j = 32 → q[j]? = some 32 := by
    intro j hj hb
    unfold byteAt at hb
    rw [List.getD_eq_getElem?_getD, List.getElem?_eq_getElem hj, Option.getD_some] at hb
    rw [List.getElem?_eq_getElem hj]
    exact congrArg some (UInt8.toNat_inj.1 hb)
  have hk2 := hat k hk hb
  refine ⟨?_, ?_, ?_⟩
  · rintro rfl
    exact h1 (by rw [List.head?_eq_getElem?]; exact hk2)
  · rintro rfl
    exact h2 (by rw [List.getLast?_eq_getElem?]; exact hk2)
  · intro hb2
    have hne : k ≠ 0 := by
      rintro rfl
      exact h1 (by rw [List.head?_eq_getElem?]; exact hk2)
    have hk3 := hat (k - 1) (by omega) hb2
    apply h3 (q.take (k - 1)) (q.drop (k + 1))
    have e1 : q.drop (k - 1) = 32 :: q.drop k := by
      rw [List.drop_eq_getElem_cons (show k - 1 < q.length by omega)]
      congr 1
      · have := List.getElem?_eq_getElem (l := q) (show k - 1 < q.length by omega)
        rw [hk3] at this
        exact (Option.some.inj this).symm
      · congr 1
        omega
    have e2 : q.drop k = 32 :: q.drop (k + 1) := by
      rw [List.drop_eq_getElem_cons hk]
      congr 1
      have := List.getElem?_eq_getElem (l := q) hk
      rw [hk2] at this
      exact (Option.some.inj this).symm
    rw [← e2, ← e1, List.take_append_drop]

theorem getB (q : List UInt8) (k : Nat) (h : k < (⟨q.toArray⟩ : ByteArray).size) : (((⟨q.toArray⟩ : ByteArray)[k]'h).toNat : Int) = (byteAt q k : Int) := by
  have hl : k < q.length := by rw [sizeArr] at h; exact h
  have e : (⟨q.toArray⟩ : ByteArray)[k]'h = q.getD k 0 := by
    simp only [List.getD, List.getElem?_eq_getElem hl, Option.getD_some]
    rfl
  unfold byteAt
  rw [e]

def TRel (n : Nat) (w0 : World) (v9 : Value) (wr : World) : Prop := ∃ k : Nat, v9 = .int .i64 (k : Int) ∧ k ≤ n ∧ Below w0.heap.size w0 wr

set_option maxHeartbeats 4000000 in
theorem prepTwice_c (s : ByteArray) (f : Bool) (w : World) (hE : Env w) :
    Calls Tryd.prog 5 #[.string s, .bool f] w fun e w' => e = .returned (.bool true) ∧ Below w.heap.size w w' := by
  by_cases hs : (9000 : Int) < (s.size : Int)
  · go_enter Tryd.func5, Tryd.ntmps5
    go_wp2_with (go_at_call 11; refine (alive_c _ hE).mono ?_; rintro e w3 ⟨rfl, hb3⟩)
    go_ret
    exact ⟨rfl, hb3⟩
  · have cP := fun W (hW : Env W) => prepare_c s f W (by omega) hW
    cases h0 : prepL f s.data.toList with
    | none =>
      rw [h0] at cP
      unfold resT at cP
      clear h0
      go_enter Tryd.func5, Tryd.ntmps5
      go_wp2_with (first | (go_at_call 14; refine (cP _ hE).mono ?_; rintro e w1 ⟨rfl, hb1⟩) | (go_at_call 11; refine (alive_c _ (hE.below hb1)).mono ?_; rintro e w3 ⟨rfl, hb3⟩))
      go_ret
      exact ⟨rfl, below_seq hb1 hb3⟩
    | some a =>
      rw [h0] at cP
      have hal := prep_length h0
      rw [← size_list] at hal
      have hsz : (⟨a.toArray⟩ : ByteArray).size ≤ 40000 := by rw [sizeArr]; omega
      have hsl : (⟨a.toArray⟩ : ByteArray).size = a.length := sizeArr a
      have cP2 := fun W (hW : Env W) => prepare_c ⟨a.toArray⟩ f W (by omega) hW
      rw [show (⟨a.toArray⟩ : ByteArray).data.toList = a from rfl, prep_prep h0] at cP2
      have cT := fun W (hW : Env W) => text_c ⟨a.toArray⟩ W (by omega) hW
      rw [show (⟨a.toArray⟩ : ByteArray).data.toList = a from rfl, prep_text h0] at cT
      have hemp := prep_empty h0
      have hshape := fun h => prep_shape h0 h
      unfold resT at cP cP2
      clear h0
      go_enter Tryd.func5, Tryd.ntmps5
      go_wp2_with fail
      refine (cP _ hE).mono ?_
      rintro e w1 ⟨rfl, hb1⟩
      have hE1 := hE.below hb1
      go_wp2_with fail
      refine (cP2 _ hE1).mono ?_
      rintro e w2 ⟨rfl, hb2⟩
      have hE2 := hE1.below hb2
      by_cases h1 : a = []
      · have hse := empty_of (hemp.1 h1)
        subst h1
        clear hemp hshape
        go_wp2_with fail
        refine (cT _ hE2).mono ?_
        rintro e w3 ⟨rfl, hb3⟩
        have hE3 := hE2.below hb3
        go_wp2_with fail
        go_loopw [9] (fun v9 wr => TRel 0 w3 v9 wr) (fun v9 _ => 0 - (RowKit.intOf v9).toNat)
        case atStart => exact ⟨0, rfl, Nat.zero_le _, Below.refl _ _⟩
        case round =>
          obtain ⟨k, rfl, hk, hbr⟩ := hrel
          obtain rfl : k = 0 := by omega
          go_wp2_with (go_at_call 11; refine (alive_c _ (hE3.below hbr)).mono ?_; rintro e w4 ⟨rfl, hb4⟩)
          go_ret
          exact ⟨rfl, below_seq hb1 (below_seq hb2 (below_seq hb3 (below_seq hbr hb4)))⟩
      · have hse := nonempty_of (fun h => h1 (hemp.2 h))
        have hae : (⟨a.toArray⟩ : ByteArray).toList.isEmpty = false := nonempty_of h1
        have hae2 := nonempty_of' h1
        by_cases h32 : a = [32]
        · subst h32
          clear hemp hshape
          go_wp2_with fail
          refine (cT _ hE2).mono ?_
          rintro e w3 ⟨rfl, hb3⟩
          have hE3 := hE2.below hb3
          go_wp2_with fail
          go_loopw [9] (fun v9 wr => TRel 0 w3 v9 wr) (fun v9 _ => 0 - (RowKit.intOf v9).toNat)
          case atStart => exact ⟨0, rfl, Nat.zero_le _, Below.refl _ _⟩
          case round =>
            obtain ⟨k, rfl, hk, hbr⟩ := hrel
            obtain rfl : k = 0 := by omega
            go_wp2_with (go_at_call 11; refine (alive_c _ (hE3.below hbr)).mono ?_; rintro e w4 ⟨rfl, hb4⟩)
            go_ret
            exact ⟨rfl, below_seq hb1 (below_seq hb2 (below_seq hb3 (below_seq hbr hb4)))⟩
        · have hsh := hshape h32
          have hS := Aside0.mk (shaped_of hsh.1 hsh.2.1 hsh.2.2)
          have h33 : (a == [32]) = false := beq_false_of_ne h32
          clear hemp hshape hsh h1
          go_wp2_with fail
          refine (cT _ hE2).mono ?_
          rintro e w3 ⟨rfl, hb3⟩
          have hE3 := hE2.below hb3
          go_wp2_with fail
          go_loopw [9] (fun v9 wr => TRel a.length w3 v9 wr) (fun v9 _ => a.length - (RowKit.intOf v9).toNat)
          case atStart => exact ⟨0, rfl, Nat.zero_le _, Below.refl _ _⟩
          case round =>
            obtain ⟨k, rfl, hk, hbr⟩ := hrel
            by_cases hlt : k < a.length
            · have hx := getB a k (by omega)
              by_cases hb : byteAt a k = 32
              · obtain ⟨hk0, hkn, hbb⟩ := hS.out k hlt hb
                have hy := getB a (k - 1) (by omega)
                rw [hb] at hx
                have hy' : ¬ (((⟨a.toArray⟩ : ByteArray)[k - 1]'(by omega)).toNat : Int) = 32 := by rw [hy]; omega
                have hkn' : ¬ (k : Int) = (a.length : Int) - 1 := by omega
                clear hb hbb hy hkn
                go_wp2_with fail
                case' roundEnd => skip
                rotate_left
                · rename_i hbad
                  exfalso
                  simp only [beq_iff_eq, hy', or_false] at hbad
                  omega
                case roundEnd =>
                  exact ⟨⟨k + 1, by go_num, by omega, hbr⟩, by simp [RowKit.intOf]; omega⟩
              · have hx' : ¬ (((⟨a.toArray⟩ : ByteArray)[k]'(by omega)).toNat : Int) = 32 := by rw [hx]; omega
                clear hx hb
                go_wp2_with fail
                case roundEnd =>
                  exact ⟨⟨k + 1, by go_num, by omega, hbr⟩, by simp [RowKit.intOf]; omega⟩
            · go_wp2_with (go_at_call 11; refine (alive_c _ (hE3.below hbr)).mono ?_; rintro e w4 ⟨rfl, hb4⟩)
              go_ret
              exact ⟨rfl, below_seq hb1 (below_seq hb2 (below_seq hb3 (below_seq hbr hb4)))⟩
end Go.Proofs.YtdfdponenhfbjaaDoor.Wk
