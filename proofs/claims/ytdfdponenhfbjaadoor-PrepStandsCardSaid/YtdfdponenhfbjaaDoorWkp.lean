/- The walks of prep.Prepare and of the document's Prepare: both answer the plain function. Conditions: strings of at most 2^44 bytes; the tables of unicode/utf8 as they are laid. -/
import Derived.Test.YtdfdponenhfbjaaDoorWkn
namespace Go.Proofs.YtdfdponenhfbjaaDoor.Wk
open Go Go.RowKit Go.Lib Go.Proofs.YtdfdponenhfbjaaDoor.PFn Go.Proofs.YtdfdponenhfbjaaDoor.Pl Go.Proofs.YtdfdponenhfbjaaDoor.Tx Go.Proofs.YtdfdponenhfbjaaDoor.Fn Go.Proofs.YtdfdponenhfbjaaDoorW.PrintWords

theorem sizeArr (l : List UInt8) : (⟨l.toArray⟩ : ByteArray).size = l.length := by rw [size_list]
theorem mapd_length (f : Bool) (rs : List Nat) : (mapd f rs).length ≤ rs.length := by
  unfold mapd
  rw [List.length_map]
  exact List.length_filterMap_le _ _
theorem sgo_length (acc l : List Nat) : (sgo acc l).length ≤ acc.length + l.length := by
  induction l generalizing acc with
  | nil => exact Nat.le_refl _
  | cons r t ih =>
    simp only [sgo]
    split
    · have := ih acc; simp only [List.length_cons]; omega
    · have := ih (acc ++ [r]); simp at this ⊢; omega
theorem encs_length_le (q : List Nat) : q.length ≤ (Tx.encs q).length ∧ (Tx.encs q).length ≤ 4 * q.length := by
  induction q with
  | nil => simp [Tx.encs]
  | cons y u ih =>
    rw [encs_cons, List.length_append, List.length_cons]
    have := enc_length y
    omega
theorem runes_length {l : List UInt8} {rs : List Nat} (h : runes l = some rs) : rs.length ≤ l.length := by
  have := (encs_length_le rs).1
  rw [encs_of_runes h] at this
  exact this
theorem mapped_length {f : Bool} {l t : List UInt8} (h : mappedL f l = some t) : t.length ≤ 4 * l.length := by
  unfold mappedL at h
  obtain ⟨rs, hr, h⟩ := Option.bind_eq_some_iff.1 h
  split at h
  · cases h
  · injection h with h
    subst h
    have h1 := (encs_length_le (sgo [] (mapd f rs))).2
    have h2 := sgo_length [] (mapd f rs)
    have h3 := mapd_length f rs
    have h4 := runes_length hr
    simp only [List.length_nil] at h2
    omega

/-- strings.Trim at a blank -/
theorem trim_c (s : ByteArray) (w : World) (hs : s.size ≤ 70368744177664) : Calls Tryd.prog 23 #[.string s, .string ⟨#[32]⟩] w fun e w' => e = .returned (.string ⟨(Lib.trimB s.data.toList 32).toArray⟩) ∧ Below w.heap.size w w' :=
  (Any.strings_Trim_one Tryd.lays160 s 32 (by decide) w (by omega)).mono fun e w' ⟨he, hw⟩ => ⟨he, by
    rcases hw with rfl | rfl
    · exact Below.refl _ _
    · exact below_drew (Below.refl _ _)⟩

/-- what Prepare answers behind Trim -/
def prepB (l t : List UInt8) : List UInt8 := if t = [] ∧ l ≠ [] then [32] else t
theorem prep_byB {f : Bool} {l t : List UInt8} (h : mappedL f l = some t) : prepL f l = some (prepB l (Lib.trimB t 32)) := by
  rw [prep_mapped, h]
  rfl

set_option maxHeartbeats 2000000 in
theorem prepare_c (s : ByteArray) (f : Bool) (w : World) (hs : s.size ≤ 17592186044416) (hE : Env w) :
    Calls Tryd.prog 14 #[.string s, .bool f] w fun e w' => e = .returned (resT (prepL f s.data.toList)) ∧ Below w.heap.size w w' := by
  have cM := mapped_c s f w hs hE
  cases hm : mappedL f s.data.toList with
  | none =>
    rw [hm] at cM
    have hp : prepL f s.data.toList = none := by rw [prep_mapped, hm]; rfl
    rw [hp]
    unfold resT at cM
    clear hm hp hE
    go_enter Tryd.func14, Tryd.ntmps14
    go_wp2_with (go_at_call 22; refine cM.mono ?_; rintro e w1 ⟨rfl, hb⟩)
    go_ret2
    exact ⟨rfl, hb⟩
  | some t =>
    rw [hm] at cM
    have hl := mapped_length hm
    rw [← size_list] at hl
    rw [prep_byB hm]
    unfold resT at cM
    clear hm hE
    have hts : (⟨t.toArray⟩ : ByteArray).size = t.length := sizeArr t
    have cT := fun W => trim_c ⟨t.toArray⟩ W (by rw [hts]; omega)
    generalize Lib.trimB t 32 = q at *
    clear hl hts
    by_cases h1 : q = []
    · subst h1
      have k1 : (([] : List UInt8) == []) = true := rfl
      by_cases h2 : s.data.toList = []
      · have hp : prepB s.data.toList [] = [] := by unfold prepB; rw [if_neg (fun h => h.2 h2)]
        rw [hp]
        have hne : s.toList = [] := by rw [Lib.toList_data]; exact h2
        have hemp : s.toList.isEmpty = true := by rw [hne]; rfl
        clear hp h2 hne
        go_enter Tryd.func14, Tryd.ntmps14
        go_wp2_with (first | (go_at_call 22; refine cM.mono ?_; rintro e w1 ⟨rfl, hb⟩) | (go_at_call 23; refine (cT _).mono ?_; rintro e w2 ⟨rfl, hb2⟩))
        go_ret2
        exact ⟨rfl, below_seq hb hb2⟩
      · have hp : prepB s.data.toList [] = [32] := by unfold prepB; rw [if_pos ⟨rfl, h2⟩]
        rw [hp]
        have hemp : s.toList.isEmpty = false := by
          rw [Lib.toList_data]
          cases h3 : s.data.toList with
          | nil => exact absurd h3 h2
          | cons a b => rfl
        clear hp h2
        go_enter Tryd.func14, Tryd.ntmps14
        go_wp2_with (first | (go_at_call 22; refine cM.mono ?_; rintro e w1 ⟨rfl, hb⟩) | (go_at_call 23; refine (cT _).mono ?_; rintro e w2 ⟨rfl, hb2⟩))
        go_ret2
        exact ⟨rfl, below_seq hb hb2⟩
    · have hp : prepB s.data.toList q = q := by unfold prepB; rw [if_neg (fun h => h1 h.1)]
      rw [hp]
      have hemp : (⟨q.toArray⟩ : ByteArray).toList.isEmpty = false := by
        rw [Lib.toList_data]
        cases q with
        | nil => exact absurd rfl h1
        | cons a b => rfl
      have hemp2 : q.isEmpty = false := by
        cases q with
        | nil => exact absurd rfl h1
        | cons a b => rfl
      clear hp
      go_enter Tryd.func14, Tryd.ntmps14
      go_wp2_with (first | (go_at_call 22; refine cM.mono ?_; rintro e w1 ⟨rfl, hb⟩) | (go_at_call 23; refine (cT _).mono ?_; rintro e w2 ⟨rfl, hb2⟩))
      go_ret2
      exact ⟨rfl, below_seq hb hb2⟩
end Go.Proofs.YtdfdponenhfbjaaDoor.Wk
