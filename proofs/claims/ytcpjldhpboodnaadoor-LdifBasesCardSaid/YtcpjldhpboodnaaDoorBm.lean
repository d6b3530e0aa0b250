/- Chapter 18's laws' first call; the law LdifBits: true at every text. Conditions: a text of at most 2^47 bytes. -/
import Derived.Test.YtcpjldhpboodnaaDoorBl
namespace Go.Proofs.YtcpjldhpboodnaaDoor.Lf
open Go Go.RowKit Go.Lib Go.Proofs.YtcpjldhpboodnaaDoor.PFn Go.Proofs.YtcpjldhpboodnaaDoorW.PrintWords Go.Proofs.YtcpjldhpboodnaaDoor.Rd

def aT : ByteArray := ⟨#[50, 48, 50, 52, 48, 49, 48, 49, 48, 48, 48, 48, 48, 48, 90]⟩
def aD : ByteArray := ⟨#[100, 99, 61, 122]⟩
def aS : ByteArray := ⟨#[116, 105, 109, 101, 58, 32, 50, 48, 50, 52, 48, 49, 48, 49, 48, 48, 48, 48, 48, 48, 90, 10, 119, 104, 111, 58, 58, 32, 10, 100, 110, 58, 32, 100, 99, 61, 122, 10, 99, 104, 97, 110, 103, 101, 116, 121, 112, 101, 58, 32, 100, 101, 108, 101, 116, 101, 10, 10]⟩
theorem aS_text : textL (delR aT aD) = bl aS := by decide +kernel
def TrueP (w : World) (e : Ending) (w' : World) : Prop := e = .returned (.bool true) ∧ Below w.heap.size w w'
set_option maxHeartbeats 1000000 in
set_option maxRecDepth 100000 in
theorem alive_c (w : World) : Calls Tryd.prog 10 #[] w (TrueP w) := by
  have cP := printDel_c aT aD w (by rw [aS_text]; decide +kernel) (by decide) (by decide)
  rw [aS_text] at cP
  unfold delV chV at cP
  have cB := fun W => base64_c ⟨#[97, 98]⟩ W (by decide)
  rw [show (⟨(b64 (bl ⟨#[97, 98]⟩)).toArray⟩ : ByteArray) = ⟨#[89, 87, 73, 61]⟩ from by decide +kernel] at cB
  rw [show (⟨(bl aS).toArray⟩ : ByteArray) = aS from rfl] at cP
  unfold aT aD aS at cP
  go_enter Tryd.func10, Tryd.ntmps10
  go_wp2_with fail
  refine cP.mono ?_
  rintro e w1 ⟨rfl, hb1⟩
  go_wp2_with fail
  refine (cB _).mono ?_
  rintro e w2 ⟨rfl, hb2⟩
  go_wp2
  go_ret
  exact ⟨rfl, below_seq hb1 hb2⟩
set_option maxHeartbeats 1000000 in
set_option maxRecDepth 100000 in
theorem ldifBits_c (s : ByteArray) (w : World) : Calls Tryd.prog 5 #[.string s] w (TrueP w) := by
  have cA := fun W => alive_c W
  by_cases hl : 9000 < s.size
  · have hli : (9000 : Int) < (s.size : Int) := by omega
    go_enter Tryd.func5, Tryd.ntmps5
    go_wp2_with fail
    refine (cA _).mono ?_
    rintro e w1 ⟨rfl, hb⟩
    go_wp2
    go_ret
    exact ⟨rfl, hb⟩
  · have hli : ¬ (9000 : Int) < (s.size : Int) := by omega
    obtain ⟨T, hT⟩ : ∃ T : ByteArray, T = ⟨(b64 (bl s)).toArray⟩ := ⟨_, rfl⟩
    have hTl : T.size = (s.size + 2) / 3 * 4 := by rw [hT]; show (b64 (bl s)).toArray.size = _; rw [List.size_toArray, b64_len, bl_size]
    have cB := base64_c s w (by omega)
    rw [← hT] at cB
    have hu : unb64 (bl T) = some (bl s) := by rw [hT]; exact unb64_back (bl s)
    have cU : ∀ W, Calls Tryd.prog 15 #[.string T] W fun e w' => e = .returned (.tuple #[.string s, .int .i64 0]) ∧ Below W.heap.size W w' := fun W => by
      have := unbase_c T W (by omega)
      rw [hu] at this
      exact this
    have hq : ((T.size : Int) == ((s.size : Int) + 2) / 3 * 4) = true := by rw [beq_iff_eq]; omega
    clear hT hTl hu
    go_enter Tryd.func5, Tryd.ntmps5
    go_wp2_with fail
    refine cB.mono ?_
    rintro e w1 ⟨rfl, hb1⟩
    go_wp2_with fail
    refine (cU _).mono ?_
    rintro e w2 ⟨rfl, hb2⟩
    go_wp2_with fail
    refine (cA _).mono ?_
    rintro e w3 ⟨rfl, hb3⟩
    go_wp2
    go_ret
    exact ⟨rfl, below_seq hb1 (below_seq hb2 hb3)⟩
end Go.Proofs.YtcpjldhpboodnaaDoor.Lf
