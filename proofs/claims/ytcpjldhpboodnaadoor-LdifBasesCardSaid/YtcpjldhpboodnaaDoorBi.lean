/- Package ldif's isPlain and the writer's line: what the plain functions say. Conditions: sizes as told. -/
import Derived.Test.YtcpjldhpboodnaaDoorBh
import Derived.Test.YtcpjldhpboodnaaDoorBc
namespace Go.Proofs.YtcpjldhpboodnaaDoor.Lf
open Go Go.RowKit Go.Lib Go.Proofs.YtcpjldhpboodnaaDoor.PFn Go.Proofs.YtcpjldhpboodnaaDoorW.PrintWords Go.Proofs.YtcpjldhpboodnaaDoor.Rd

def okB (c : UInt8) : Bool := decide (32 ≤ c.toNat) && decide (c.toNat ≤ 126)
def badHead (c : UInt8) : Bool := c == 32 || c == 58 || c == 60
theorem plainV_cons (c : UInt8) (r : Bs) : plainV (c :: r) = (!badHead c && !((c :: r).getLastD 0 == 32) && (c :: r).all okB) := rfl
theorem head3 : ∀ c : Fin 256, (if badHead (UInt8.ofNat c.val) then (0 ≤ Lib.indexByte [32, 58, 60] (UInt8.ofNat c.val)) else (Lib.indexByte [32, 58, 60] (UInt8.ofNat c.val) = -1)) := by decide +kernel
theorem head_yes {c : UInt8} (h : badHead c = true) : 0 ≤ Lib.indexByte [32, 58, 60] c := by
  have := head3 ⟨c.toNat, c.toNat_lt⟩
  rw [show UInt8.ofNat (⟨c.toNat, c.toNat_lt⟩ : Fin 256).val = c from UInt8.ofNat_toNat, if_pos h] at this
  exact this
theorem head_not {c : UInt8} (h : badHead c = false) : Lib.indexByte [32, 58, 60] c = -1 := by
  have := head3 ⟨c.toNat, c.toNat_lt⟩
  rw [show UInt8.ofNat (⟨c.toNat, c.toNat_lt⟩ : Fin 256).val = c from UInt8.ofNat_toNat, if_neg (by rw [h]; decide)] at this
  exact this
theorem head_c (x : UInt8) {k : Int} (hk : Lib.indexByte [32, 58, 60] x = k) (w : World) : Calls Tryd.prog 41 #[.string ⟨#[32, 58, 60]⟩, .int .u8 (x.toNat : Int)] w fun e w' => e = .returned (.int .i64 k) ∧ w = w' := by
  have := ib_c [32, 58, 60] x w
  refine this.mono ?_
  rintro e w' ⟨he, rfl⟩
  exact ⟨by rw [he, hk], rfl⟩
def PlRel (v : ByteArray) (a : Value) : Prop := ∃ (i : Nat) (m : Bs), a = .int .i64 (i : Int) ∧ Lr v i m ∧ (bl v).all okB = m.all okB
def IsB (b : Bool) (w : World) (e : Ending) (w' : World) : Prop := e = .returned (.bool b) ∧ w = w'
theorem last_at {v : ByteArray} (h : 0 < v.size) : (bl v).getLastD 0 = v[v.size - 1]'(by omega) := by
  have hn : bl v ≠ [] := by
    intro e
    have := bl_size v
    rw [e] at this
    simp at this
    omega
  rw [List.getLastD_eq_getLast?, List.getLast?_eq_getElem?, bl_size, List.getElem?_eq_getElem (by rw [bl_size]; omega)]
  rfl
set_option maxHeartbeats 2000000 in
set_option maxRecDepth 100000 in
theorem isPlain_c (v : ByteArray) (w : World) (hs : v.size ≤ 140737488355328) : Calls Tryd.prog 54 #[.string v] w (IsB (plainV (bl v)) w) := by
  obtain ⟨ANS, hA⟩ : ∃ b, plainV (bl v) = b := ⟨_, rfl⟩
  rw [hA]
  cases hb : bl v with
  | nil =>
    have hemp : v.toList.isEmpty = true := by rw [Lib.toList_data]; unfold bl at hb; rw [hb]; rfl
    have hans : ANS = false := by rw [← hA, hb]; rfl
    subst hans
    clear hb hA
    go_enter Tryd.func54, Tryd.ntmps54
    go_wp2
    go_ret
    exact ⟨rfl, rfl⟩
  | cons c r =>
    have hemp : v.toList.isEmpty = false := by rw [Lib.toList_data]; unfold bl at hb; rw [hb]; rfl
    have hz : 0 < v.size := by rw [← bl_size, hb]; simp
    have hzi : (0 : Int) < (v.size : Int) := by omega
    have hans := plainV_cons c r
    rw [← hb, hA, last_at hz] at hans
    have hc0 : ((v[0]'hz).toNat : Int) = (c.toNat : Int) := by rw [show v[0]'hz = c from at_bl (x0 := v) (l := []) (r := r) hb hz]
    by_cases hh : badHead c = true
    · have ha : ANS = false := by rw [hans, hh]; rfl
      subst ha
      have hk := head_yes hh
      obtain ⟨k, hkk⟩ : ∃ k, Lib.indexByte [32, 58, 60] c = k := ⟨_, rfl⟩
      rw [hkk] at hk
      have cH := head_c c hkk
      clear hans hA hh hkk hb
      go_enter Tryd.func54, Tryd.ntmps54
      go_wp2_with fail
      refine (cH _).mono ?_
      rintro e w2 ⟨rfl, rfl⟩
      go_wp2
      go_ret
      exact ⟨rfl, rfl⟩
    · have hh' : badHead c = false := by simpa using hh
      have cH := head_c c (head_not hh')
      have hl : v.size - 1 < v.size := by omega
      obtain ⟨z, hzz⟩ : ∃ z, v[v.size - 1]'hl = z := ⟨_, rfl⟩
      rw [hzz, hh'] at hans
      have hli : (v.size : Int) - 1 < (v.size : Int) := by omega
      have hl0 : (0 : Int) ≤ (v.size : Int) - 1 := by omega
      have hlz : ((v[((v.size : Int) - 1).toNat]'(by omega)).toNat : Int) = (z.toNat : Int) := by
        have : ((v.size : Int) - 1).toNat = v.size - 1 := by omega
        simp only [this, hzz]
      by_cases h32 : z = 32
      · have ha : ANS = false := by rw [hans, h32]; rfl
        subst ha h32
        clear hans hA hh hh' hb
        go_enter Tryd.func54, Tryd.ntmps54
        go_wp2_with fail
        refine (cH _).mono ?_
        rintro e w2 ⟨rfl, rfl⟩
        go_wp2
        go_ret
        exact ⟨rfl, rfl⟩
      · have h32b : ((z.toNat : Int) == 32) = false := beq_false_of_ne (fun e => h32 (UInt8.toNat_inj.1 (by show z.toNat = 32; omega)))
        have hans2 : (bl v).all okB = ANS := by
          rw [hans, hb, show (z == 32) = false from beq_false_of_ne h32]
          rfl
        have HANS := Aside0.mk hans2
        clear hans hA hh hh' hans2 hb
        go_enter Tryd.func54, Tryd.ntmps54
        go_wp2_with fail
        refine (cH _).mono ?_
        rintro e w2 ⟨rfl, rfl⟩
        go_wp2_with fail
        go_loop [22] (fun a => PlRel v a) (fun a => v.size - (RowKit.intOf a).toNat)
        case atStart => exact ⟨0, bl v, rfl, ⟨rfl, Nat.zero_le _⟩, rfl⟩
        case round =>
          clear hzz hlz h32b hl0 hli
          obtain ⟨i, m, rfl, hm, hall⟩ := hrel
          have HALL := Aside0.mk hall
          clear hall
          cases m with
          | nil =>
            have hie := hm.nil
            have hge : ¬ (i : Int) < (v.size : Int) := by omega
            have ha : ANS = true := by rw [← HANS.out, HALL.out]; rfl
            subst ha
            clear hie
            go_wp2
            go_ret
            exact ⟨rfl, rfl⟩
          | cons x q =>
            have hi := hm.lt
            have hii : (i : Int) < (v.size : Int) := by omega
            have hxx : ((v[i]'hi).toNat : Int) = (x.toNat : Int) := by rw [hm.at_]
            by_cases hok : okB x = true
            · have hlo : ¬ (x.toNat : Int) < 32 := by unfold okB at hok; simp at hok; omega
              have hhi : ¬ (126 : Int) < (x.toNat : Int) := by unfold okB at hok; simp at hok; omega
              have hall2 : (bl v).all okB = q.all okB := by rw [HALL.out, List.all_cons, hok]; rfl
              have HALL2 := Aside0.mk hall2
              clear hok hall2
              go_wp2
              exact ⟨⟨i + 1, q, by go_num, hm.next, HALL2.out⟩, by simp [RowKit.intOf]; omega⟩
            · have ha : ANS = false := by rw [← HANS.out, HALL.out, List.all_cons, show okB x = false by simpa using hok]; rfl
              subst ha
              by_cases hlo : (x.toNat : Int) < 32
              · clear hok
                go_wp2
                go_ret
                exact ⟨rfl, rfl⟩
              · have hhi : (126 : Int) < (x.toNat : Int) := by unfold okB at hok; simp at hok; omega
                clear hok
                go_wp2
                go_ret
                exact ⟨rfl, rfl⟩
end Go.Proofs.YtcpjldhpboodnaaDoor.Lf
