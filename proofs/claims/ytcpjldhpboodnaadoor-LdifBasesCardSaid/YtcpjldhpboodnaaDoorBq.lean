/- The walk of the law LdifBases: true at every two texts. Conditions: texts of at most 2^47 bytes. -/
import Derived.Test.YtcpjldhpboodnaaDoorBm
import Derived.Test.YtcpjldhpboodnaaDoorBp
namespace Go.Proofs.YtcpjldhpboodnaaDoor.Lf
open Go Go.RowKit Go.Lib Go.Proofs.YtcpjldhpboodnaaDoor.PFn Go.Proofs.YtcpjldhpboodnaaDoorW.PrintWords Go.Proofs.YtcpjldhpboodnaaDoor.Rd

theorem ub_same (r : Option Bs) : ubAns r = .tuple #[.string (ub2 r).1, .int .i64 (ub2 r).2] := by cases r <;> rfl
set_option maxHeartbeats 1000000 in
set_option maxRecDepth 100000 in
theorem ldifBases_c (b s : ByteArray) (w : World) : Calls Tryd.prog 4 #[.string b, .string s] w (TrueP w) := by
  have cA := fun W => alive_c W
  by_cases hl : 9000 < b.size
  · have hli : (9000 : Int) < (b.size : Int) := by omega
    go_enter Tryd.func4, Tryd.ntmps4
    go_wp2_with fail
    refine (cA _).mono ?_
    rintro e w1 ⟨rfl, hb⟩
    go_wp2
    go_ret
    exact ⟨rfl, hb⟩
  · have hli : ¬ (9000 : Int) < (b.size : Int) := by omega
    have hld : decide ((9000 : Int) < (b.size : Int)) = false := decide_eq_false hli
    by_cases hs : 9000 < s.size
    · have hsi : (9000 : Int) < (s.size : Int) := by omega
      go_enter Tryd.func4, Tryd.ntmps4
      go_wp2_with fail
      refine (cA _).mono ?_
      rintro e w1 ⟨rfl, hb⟩
      go_wp2
      go_ret
      exact ⟨rfl, hb⟩
    · have hsi : ¬ (9000 : Int) < (s.size : Int) := by omega
      have hsd : decide ((9000 : Int) < (s.size : Int)) = false := decide_eq_false hsi
      have cB := fun W => base64_c b W (by omega)
      have cR := fun W => refBase64_c b W (by omega)
      obtain ⟨Q, hQ⟩ : ∃ Q : ByteArray, Q = ⟨(b64 (bl b)).toArray⟩ := ⟨_, rfl⟩
      have cU := fun W => unbase_c s W (by omega)
      have cV := fun W => refUnbase_c s W (by omega)
      obtain ⟨V, E, hVE⟩ : ∃ V E, ub2 (unb64 (bl s)) = (V, E) := ⟨_, _, rfl⟩
      have hua : ubAns (unb64 (bl s)) = .tuple #[.string V, .int .i64 E] := by rw [ub_same, hVE]
      have cU : ∀ W, Calls Tryd.prog 15 #[.string s] W fun e w' => e = .returned (.tuple #[.string V, .int .i64 E]) ∧ Below W.heap.size W w' := fun W => by
        have := cU W
        rw [hua] at this
        exact this
      have cV : ∀ W, Calls Tryd.prog 16 #[.string s] W fun e w' => e = .returned (.tuple #[.string V, .int .i64 E]) ∧ Below W.heap.size W w' := fun W => by
        have := cV W
        rw [hVE] at this
        exact this
      have cB : ∀ W, Calls Tryd.prog 17 #[.string b] W fun e w' => e = .returned (.string Q) ∧ Below W.heap.size W w' := fun W => by
        have := cB W
        rw [← hQ] at this
        exact this
      have cR : ∀ W, Calls Tryd.prog 18 #[.string b] W fun e w' => e = .returned (.string Q) ∧ Below W.heap.size W w' := fun W => by
        have := cR W
        rw [← hQ] at this
        exact this
      clear hQ hVE hua
      go_enter Tryd.func4, Tryd.ntmps4
      go_wp2_with fail
      refine (cU _).mono ?_
      rintro e w1 ⟨rfl, hb1⟩
      clear cU
      go_wp2_with fail
      refine (cV _).mono ?_
      rintro e w2 ⟨rfl, hb2⟩
      clear cV
      go_wp2_with fail
      refine (cA _).mono ?_
      rintro e w3 ⟨rfl, hb3⟩
      go_wp2_with fail
      refine (cB _).mono ?_
      rintro e w4 ⟨rfl, hb4⟩
      clear cB
      go_wp2_with fail
      refine (cR _).mono ?_
      rintro e w5 ⟨rfl, hb5⟩
      go_wp2
      go_ret
      exact ⟨rfl, below_seq hb1 (below_seq hb2 (below_seq hb3 (below_seq hb4 hb5)))⟩
end Go.Proofs.YtcpjldhpboodnaaDoor.Lf
