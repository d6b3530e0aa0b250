/- package ldif's Print of a record that deletes: the plain text. Conditions: sizes as told. -/
import Derived.Test.YtcpjldhpboodnaaDoorBj
import Derived.MapKept
import Derived.WideMake
import Derived.Carry
import Derived.Deep.DeepCutAuto
namespace Go.Proofs.YtcpjldhpboodnaaDoor.Lf
open Go Go.RowKit Go.Lib Go.Proofs.YtcpjldhpboodnaaDoor.PFn Go.Proofs.YtcpjldhpboodnaaDoorW.PrintWords Go.Proofs.YtcpjldhpboodnaaDoor.Rd

def chV (t u d : ByteArray) (k : Int) (a m : Value) (r s : ByteArray) (b h : Bool) : Value := .agg #[.string t, .string u, .string d, .int .i64 k, a, m, .string r, .string s, .bool b, .bool h]
theorem wu_below {B b : Nat} {acc : Bs} {w w' : World} (h : Wu B b acc w) (hb : Below w.heap.size w w') : Wu B b acc w' := by
  obtain ⟨h1, v, h2, h3, h4⟩ := h
  exact ⟨h1, v, (hb.block b (blk_lt h2)).trans h2, own_below h3 hb, h4⟩
theorem map_u : Tryd.prog.underlying 103 = some (.map 3 1) := by kernel_rfl
/-- one more entry in a map that was made last -/
theorem ins_c {W : World} {r c : Nat} {es : Array MapEntry} {k : Int} {v : Value} (hr : r = W.heap.size) (hn : Instr.findNow (.int .i64) (.int .i64 k) es.toList 0 = some none) :
    (Instr.mapUpdate 103 (.map (some r)) (.int .i64 k) v).run Tryd.prog (W.alloc (.map es c)) = .ok () (W.alloc (.map (es.push { key := .int .i64 k, val := v, born := c }) (c + 1))) := by
  subst hr
  have hb : (W.alloc (.map es c)).heap[W.heap.size]? = some (.map es c) := heap_alloc_new _ _
  have hc : (Instr.checkKey false 10000 3 (.int .i64 k)).run Tryd.prog (W.alloc (.map es c)) = .ok () (W.alloc (.map es c)) := MapKept.run_checkKey (k := .int .i64 k) Tryd.underlying3 (by simp [MapKept.IsKey]) false 9999
  have hset : ({ W.alloc (.map es c) with heap := (W.alloc (.map es c)).heap.setIfInBounds W.heap.size (.map (es.push { key := .int .i64 k, val := v, born := c }) (c + 1)) } : World) = W.alloc (.map (es.push { key := .int .i64 k, val := v, born := c }) (c + 1)) := by
    have e : ∀ (a b : Obj), (W.heap.push a).setIfInBounds W.heap.size b = W.heap.push b := by
      intro a b
      apply Array.ext'
      rw [Array.toList_setIfInBounds, Array.toList_push, Array.toList_push, List.set_append_right _ _ (by simp)]
      simp
    show ({ W with heap := (W.heap.push _).setIfInBounds W.heap.size _ } : World) = { W with heap := W.heap.push _ }
    rw [e]
  simp [Instr.mapUpdate, run_underlying map_u, MapKept.run_getObj_map hb, hc, MapKept.run_findKey Tryd.underlying3 hn, MapKept.run_setObj_map _ hb, Result.andThen]
  exact hset
theorem look_c {W : World} {r c : Nat} {es : Array MapEntry} {k : Int} {i : Nat} {v : Value} (hb : W.heap[r]? = some (.map es c)) (hn : Instr.findNow (.int .i64) (.int .i64 k) es.toList 0 = some (some (i, v))) :
    (Instr.lookup 103 (.map (some r)) (.int .i64 k) false).run Tryd.prog W = .ok v W := by
  have hc : (Instr.checkKey es.isEmpty 10000 3 (.int .i64 k)).run Tryd.prog W = .ok () W := MapKept.run_checkKey (k := .int .i64 k) Tryd.underlying3 (by simp [MapKept.IsKey]) _ 9999
  simp [Instr.lookup, run_underlying map_u, MapKept.run_getObj_map hb, hc, MapKept.run_findKey Tryd.underlying3 hn, Result.andThen]
theorem rest4_c (w : World) : Calls Tryd.prog 60 #[] w fun e w' => e = .returned (.tuple #[]) ∧ w = w' := by
  go_enter Tryd.func60, Tryd.ntmps60
  go_wp2
  go_end0
  exact ⟨rfl, rfl⟩
set_option maxHeartbeats 2000000 in
set_option maxRecDepth 100000 in
theorem restDel_c {B b : Nat} {acc : Bs} {w : World} (h : Wu B b acc w) (hB : B ≤ w.heap.size) (t u d : ByteArray) :
    Calls Tryd.prog 28 #[.pointer (some ⟨b, 0, none⟩), chV t u d 1 (.slice none 0 0) (.slice none 0 0) ⟨#[]⟩ ⟨#[]⟩ false false] w (LineP B b acc w) := by
  unfold chV
  have hmf : ∀ (fn : Fn) (first cap : Array Value) (w : World), (Instr.makeFunc fn first cap).run Tryd.prog w = .ok (.func fn first cap) w := fun _ _ _ _ => rfl
  have hmm := fun W => @run_makeMap Tryd.prog 103 W
  go_enter Tryd.func28, Tryd.ntmps28
  go_upto_region 1 with fail
  have hX : (((w.alloc (Obj.cells #[Value.pointer (some ⟨b, 0, none⟩)] 99)).alloc (Obj.cells #[.string t, .string u, .string d, .int .i64 1, .slice none 0 0, .slice none 0 0, .string ⟨#[]⟩, .string ⟨#[]⟩, .bool false, .bool false] 25))).heap[w.heap.size + 1]? = some (.cells #[.string t, .string u, .string d, .int .i64 1, .slice none 0 0, .slice none 0 0, .string ⟨#[]⟩, .string ⟨#[]⟩, .bool false, .bool false] 25 (0, 0)) := by
    have := blk_new (w.alloc (Obj.cells #[Value.pointer (some ⟨b, 0, none⟩)] 99)) (Obj.cells #[.string t, .string u, .string d, .int .i64 1, .slice none 0 0, .slice none 0 0, .string ⟨#[]⟩, .string ⟨#[]⟩, .bool false, .bool false] 25)
    rw [World.size_alloc] at this
    exact this
  have hB2 : Below w.heap.size w ((w.alloc (Obj.cells #[Value.pointer (some ⟨b, 0, none⟩)] 99)).alloc (Obj.cells #[.string t, .string u, .string d, .int .i64 1, .slice none 0 0, .slice none 0 0, .string ⟨#[]⟩, .string ⟨#[]⟩, .bool false, .bool false] 25)) := below_alloc (below_alloc (Below.refl _ _) _) _
  generalize (w.alloc (Obj.cells #[Value.pointer (some ⟨b, 0, none⟩)] 99)).alloc (Obj.cells #[.string t, .string u, .string d, .int .i64 1, .slice none 0 0, .slice none 0 0, .string ⟨#[]⟩, .string ⟨#[]⟩, .bool false, .bool false] 25) = W at *
  have c3 : ∀ o, (W.alloc o).cell? ⟨w.heap.size + 1, 3, none⟩ = some (.int .i64 1) := fun o => by rw [cell_of_heap (blk_alloc hX o)]; rfl
  have i0 : ∀ v, (Instr.mapUpdate 103 (.map (some W.heap.size)) (.int .i64 0) v).run Tryd.prog (W.alloc (.map #[] 0)) = .ok () (W.alloc (.map #[⟨.int .i64 0, v, 0⟩] 1)) := fun v => ins_c rfl rfl
  have i1 : ∀ a v, (Instr.mapUpdate 103 (.map (some W.heap.size)) (.int .i64 2) v).run Tryd.prog (W.alloc (.map #[⟨.int .i64 0, a, 0⟩] 1)) = .ok () (W.alloc (.map #[⟨.int .i64 0, a, 0⟩, ⟨.int .i64 2, v, 1⟩] 2)) := fun a v => ins_c rfl rfl
  have i2 : ∀ a b v, (Instr.mapUpdate 103 (.map (some W.heap.size)) (.int .i64 3) v).run Tryd.prog (W.alloc (.map #[⟨.int .i64 0, a, 0⟩, ⟨.int .i64 2, b, 1⟩] 2)) = .ok () (W.alloc (.map #[⟨.int .i64 0, a, 0⟩, ⟨.int .i64 2, b, 1⟩, ⟨.int .i64 3, v, 2⟩] 3)) := fun a b v => ins_c rfl rfl
  have i3 : ∀ a b c v, (Instr.mapUpdate 103 (.map (some W.heap.size)) (.int .i64 1) v).run Tryd.prog (W.alloc (.map #[⟨.int .i64 0, a, 0⟩, ⟨.int .i64 2, b, 1⟩, ⟨.int .i64 3, c, 2⟩] 3)) = .ok () (W.alloc (.map #[⟨.int .i64 0, a, 0⟩, ⟨.int .i64 2, b, 1⟩, ⟨.int .i64 3, c, 2⟩, ⟨.int .i64 1, v, 3⟩] 4)) := fun a b c v => ins_c rfl rfl
  have lk : ∀ a b c v, (Instr.lookup 103 (.map (some W.heap.size)) (.int .i64 1) false).run Tryd.prog (W.alloc (.map #[⟨.int .i64 0, a, 0⟩, ⟨.int .i64 2, b, 1⟩, ⟨.int .i64 3, c, 2⟩, ⟨.int .i64 1, v, 3⟩] 4)) = .ok v (W.alloc (.map #[⟨.int .i64 0, a, 0⟩, ⟨.int .i64 2, b, 1⟩, ⟨.int .i64 3, c, 2⟩, ⟨.int .i64 1, v, 3⟩] 4)) := fun a b c v => look_c (blk_new W (.map _ 4)) (i := 3) rfl
  clear hX
  have hbd : Below w.heap.size w (W.alloc (.map #[⟨.int .i64 0, .func (.func 56) #[] #[.pointer (some ⟨w.heap.size + 1, 0, none⟩), .pointer (some ⟨w.heap.size, 0, none⟩)], 0⟩, ⟨.int .i64 2, .func (.func 57) #[] #[.pointer (some ⟨w.heap.size + 1, 0, none⟩), .pointer (some ⟨w.heap.size, 0, none⟩)], 1⟩, ⟨.int .i64 3, .func (.func 59) #[] #[.pointer (some ⟨w.heap.size, 0, none⟩), .pointer (some ⟨w.heap.size + 1, 0, none⟩)], 2⟩, ⟨.int .i64 1, .func (.func 60) #[] #[], 3⟩] 4)) := below_alloc hB2 _
  go_wp2_with fail
  refine (rest4_c _).mono ?_
  rintro e w5 ⟨rfl, rfl⟩
  go_wp2
  go_end0
  exact ⟨rfl, wu_below h hbd, hbd.mono hB, kept_below hbd⟩
end Go.Proofs.YtcpjldhpboodnaaDoor.Lf
