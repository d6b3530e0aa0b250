/- The walk of prep.mapped: a text's characters mapped and folded, of several blanks one. Conditions: strings of at most 2^44 bytes; the tables of unicode/utf8 as they are laid. -/
import Derived.Test.YtdfdponenhfbjaaDoorWk
import Derived.Lib.OthersKept
namespace Go.Proofs.YtdfdponenhfbjaaDoor.Wk
open Go Go.RowKit Go.Lib Go.Proofs.YtdfdponenhfbjaaDoor.PFn Go.Proofs.YtdfdponenhfbjaaDoor.Pl Go.Proofs.YtdfdponenhfbjaaDoor.Tx Go.Proofs.YtdfdponenhfbjaaDoor.Fn Go.Proofs.YtdfdponenhfbjaaDoorW.PrintWords

/-- a text and OK, or no text and ErrText -/
def resT : Option (List UInt8) → Value
  | none => .tuple #[.string ⟨#[]⟩, .int .i64 10]
  | some l => .tuple #[.string ⟨l.toArray⟩, .int .i64 0]

theorem mapR_nat (r : Nat) : mapR (r : Int) = if bad r = true then ((0 : Int), false, true) else match stay r with | none => ((0 : Int), false, false) | some x => ((x : Int), true, false) := by
  unfold mapR bad stay
  by_cases h1 : blankR r = true
  · simp [h1]
  · by_cases h2 : goesR r = true
    · simp [h1, h2]
    · by_cases h3 : badR r = true
      · simp [h1, h2, h3]
      · simp [h1, h2, h3]
/-- the calls of Map, Fold, PutRune as the walk meets them -/
theorem map_bad (r : Nat) (h : bad r = true) (w : World) : Calls Tryd.prog 9 #[.int .i32 (r : Int)] w fun e w' => e = .returned (.tuple #[.int .i32 0, .bool false, .bool true]) ∧ Drawn0 w w' :=
  prep_Map.calls 6 (r : Int) 0 false true w (by rw [map_f, mapR_nat, if_pos h])
theorem map_goes (r : Nat) (h : bad r = false) (hs : stay r = none) (w : World) : Calls Tryd.prog 9 #[.int .i32 (r : Int)] w fun e w' => e = .returned (.tuple #[.int .i32 0, .bool false, .bool false]) ∧ Drawn0 w w' :=
  prep_Map.calls 6 (r : Int) 0 false false w (by rw [map_f, mapR_nat, if_neg (by simp [h]), hs])
theorem map_stays (r x : Nat) (h : bad r = false) (hs : stay r = some x) (w : World) : Calls Tryd.prog 9 #[.int .i32 (r : Int)] w fun e w' => e = .returned (.tuple #[.int .i32 (x : Int), .bool true, .bool false]) ∧ Drawn0 w w' :=
  prep_Map.calls 6 (r : Int) (x : Int) true false w (by rw [map_f, mapR_nat, if_neg (by simp [h]), hs])
theorem fold_any (x : Nat) (h : x ≤ 1114111) (w : World) : Calls Tryd.prog 12 #[.int .i32 (x : Int)] w fun e w' => e = .returned (.int .i32 ((fold1 true x : Nat) : Int)) ∧ Drawn0 w w' :=
  prep_Fold.calls 4 (x : Int) _ w (by rw [fold_f _ (by omega) (by omega), fold1_int])

/-- bytes as cells -/
def bcells (l : List UInt8) : List Value := l.map fun b => Value.int .u8 b.toNat
theorem bcells_append (a b : List UInt8) : bcells (a ++ b) = bcells a ++ bcells b := by simp [bcells]
theorem bcells_str (l : List UInt8) : Lib.strCells ⟨l.toArray⟩ = bcells l := by simp [Lib.strCells, bcells]
theorem bcells_nums (l : List UInt8) : bcells l = nums .u8 (nbytes l) := by simp [bcells, nums, nbytes]
theorem bcells_length (l : List UInt8) : (bcells l).length = l.length := by simp [bcells]

/-- what the loop of mapped holds after `done` of the runes -/
def accB (f : Bool) (done : List Nat) : List UInt8 := Tx.encs (sgo [] (mapd f done))
theorem encs_last {q : List Nat} (hg : ∀ r ∈ q, Tx.Good r) : (Tx.encs q).getLast? = some 32 ↔ q.getLast? = some 32 := by
  constructor
  · intro h
    exact Classical.byContradiction fun h2 => bytes_last q hg h2 h
  · intro h
    rcases List.eq_nil_or_concat q with rfl | ⟨t, x, rfl⟩
    · cases h
    · rw [List.concat_eq_append] at h ⊢
      have : x = 32 := by simpa using h
      subst this
      rw [encs_snoc, enc_32]
      simp
theorem sgo_good {f : Bool} {done : List Nat} (hb : done.any bad = false) : ∀ r ∈ sgo [] (mapd f done), Tx.Good r := by
  intro r hr
  rcases mem_sgo hr with hr | hr
  · cases hr
  · exact plain_good (mapd_plain hb r hr).1
theorem accB_none {f : Bool} {done : List Nat} {r : Nat} (hs : stay r = none) : accB f (done ++ [r]) = accB f done := by
  unfold accB
  rw [mapd_snoc, hs]
  simp
theorem accB_skip {f : Bool} {done : List Nat} {r : Nat} (hb : done.any bad = false) (hs : stay r = some 32) (hl : (accB f done).getLast? = some 32) : accB f (done ++ [r]) = accB f done := by
  unfold accB at hl ⊢
  rw [encs_last (sgo_good hb)] at hl
  rw [mapd_snoc, hs]
  simp only
  rw [(fold1_32 f 32).2 rfl, sgo_snoc, if_pos ⟨rfl, hl⟩]
theorem accB_add {f : Bool} {done : List Nat} {r x : Nat} (hb : done.any bad = false) (hs : stay r = some x) (hl : ¬ (x = 32 ∧ (accB f done).getLast? = some 32)) : accB f (done ++ [r]) = accB f done ++ enc (fold1 f x) := by
  unfold accB at hl ⊢
  rw [encs_last (sgo_good hb)] at hl
  rw [mapd_snoc, hs]
  simp only
  rw [sgo_snoc, if_neg, encs_snoc]
  rintro ⟨h1, h2⟩
  exact hl ⟨(fold1_32 f x).1 h1, h2⟩

/-- what stands behind accB is no blank that is to be dropped -/
def NL (f : Bool) (done : List Nat) (x : Nat) : Prop := ¬ (x = 32 ∧ (accB f done).getLast? = some 32)
theorem accB_new {f : Bool} {done : List Nat} {r x : Nat} (hb : done.any bad = false) (hs : stay r = some x) (hl : NL f done x) : accB f (done ++ [r]) = accB f done ++ enc (fold1 f x) := accB_add hb hs hl

/-- the state of the loop: the iterator in block K stands at pos; v holds the bytes acc -/
def St (w0 : World) (K : Nat) (s : ByteArray) (pos : Nat) (v : Value) (acc : List UInt8) (w : World) : Prop :=
  w.heap[K]? = some (.stringIter s pos) ∧ w.ownsRow (K + 1) 5 1 v acc.length (bcells acc) ∧ Below w0.heap.size w0 w ∧ w0.heap.size ≤ K
theorem St.drawn {w0 w w' : World} {K pos : Nat} {s : ByteArray} {v : Value} {acc : List UInt8} (h : St w0 K s pos v acc w) (hd : Drawn0 w w') : St w0 K s pos v acc w' := by
  obtain ⟨⟨n, rfl⟩⟩ := hd
  exact ⟨h.1, h.2.1, pw_below_drewN h.2.2.1 n, h.2.2.2⟩
theorem St.next {w0 w : World} {K pos : Nat} {s : ByteArray} {v : Value} {acc : List UInt8} (h : St w0 K s pos v acc w) (p : Nat) : St w0 K s p v acc (w.iterAt K s p) := by
  refine ⟨Lib.iterAt_heap w K s pos p h.1, ⟨h.2.1.1, ?_⟩, Lib.below_iterAt h.2.2.1 h.2.2.2 s p, h.2.2.2⟩
  rcases h.2.1.2 with hn | ⟨g, cap, cur, hv, hb, hg, rest⟩
  · exact .inl hn
  · exact .inr ⟨g, cap, cur, hv, hb, (Lib.iterAt_other w K g s p (by omega)).trans hg, rest⟩
theorem St.grown {w0 w w1 : World} {K pos : Nat} {s : ByteArray} {v v1 : Value} {acc acc1 : List UInt8} (h : St w0 K s pos v acc w) (ho : w1.ownsRow (K + 1) 5 1 v1 acc1.length (bcells acc1)) (hg : w.grownBy w1 v.ownBlock) : St w0 K s pos v1 acc1 w1 := by
  have hlt : K < w.heap.size := (Array.getElem?_eq_some_iff.1 h.1).1
  refine ⟨(hg.block K hlt ?_).trans h.1, ho, h.2.2.1.grown hg (by have := h.2.2.2; omega) ?_, h.2.2.2⟩
  · intro e
    have := (h.2.1.lt K e.symm).1
    omega
  · intro k hk
    have := (h.2.1.lt k hk).1
    have := h.2.2.2
    omega
theorem St.appended {w0 w w1 : World} {K pos : Nat} {s : ByteArray} {v v1 : Value} {acc l : List UInt8} (h : St w0 K s pos v acc w)
    (ho : w1.ownsRow (K + 1) 5 1 v1 (acc.length + (⟨l.toArray⟩ : ByteArray).size) (bcells acc ++ Lib.strCells ⟨l.toArray⟩)) (hg : w.grownBy w1 v.ownBlock) : St w0 K s pos v1 (acc ++ l) w1 := by
  refine h.grown ?_ hg
  rw [bcells_str] at ho
  rw [bcells_append, List.length_append]
  have : (⟨l.toArray⟩ : ByteArray).size = l.length := by rw [size_list]
  rw [this] at ho
  exact ho
theorem St.lt {w0 w : World} {K pos : Nat} {s : ByteArray} {v : Value} {acc : List UInt8} (h : St w0 K s pos v acc w) : K + 1 ≤ w.heap.size := (Array.getElem?_eq_some_iff.1 h.1).1
theorem St.pos {w0 w : World} {K pos : Nat} {s : ByteArray} {v : Value} {acc : List UInt8} (h : St w0 K s pos v acc w) : w.iterPos K = pos := by unfold World.iterPos; rw [h.1]
/-- b is empty, nil or not -/
theorem St.empty {w0 w : World} {K pos : Nat} {s : ByteArray} {v : Value} (h : St w0 K s pos v [] w) : ∃ A c, v = .slice A 0 c := by
  rcases h.2.1.2 with ⟨rfl, _⟩ | ⟨g, cap, cur, rfl, _⟩
  · exact ⟨_, _, rfl⟩
  · exact ⟨_, _, rfl⟩
/-- b's last byte -/
theorem St.last {w0 w : World} {K pos : Nat} {s : ByteArray} {v : Value} {acc : List UInt8} {c : UInt8} (h : St w0 K s pos v (acc ++ [c]) w) : ∃ g cap, v = .slice (some ⟨g, 0, none⟩) (acc.length + 1) cap ∧ w.cell? ⟨g, acc.length, none⟩ = some (.int .u8 c.toNat) := by
  have hl : (acc ++ [c]).length = acc.length + 1 := by simp
  obtain ⟨g, cap, hv, _⟩ := h.2.1.form (by omega)
  have hown := h.2.1
  rw [hv] at hown
  have := hown.cellAt acc.length (by omega)
  refine ⟨g, cap, by rw [hv, hl], this.trans ?_⟩
  rw [bcells_append, List.getElem?_append_right (by rw [bcells_length]; omega), bcells_length]
  simp [bcells]
/-- the relation of the loop -/
def MRel (s : ByteArray) (f : Bool) (rs : List Nat) (w0 : World) (K : Nat) (v6 : Value) (wr : World) : Prop :=
  ∃ (pos : Nat) (done rest : List Nat), St w0 K s pos v6 (accB f done) wr ∧ rs = done ++ rest ∧ s.data.toList.drop pos = Tx.encs rest ∧ done.any bad = false ∧ (accB f done).length ≤ 4 * pos ∧ pos ≤ s.size
def mMeas (s : ByteArray) (K : Nat) (wr : World) : Nat := s.size - wr.iterPos K
theorem MRel.start {s : ByteArray} {f : Bool} {rs : List Nat} {w0 w : World} (hr : runes s.data.toList = some rs) (hb : Below w0.heap.size w0 w) : MRel s f rs w0 w.heap.size (.slice none 0 0) (w.iter s 0) := by
  refine ⟨0, [], rs, ⟨World.iter_heap w s 0, ?_, ?_, hb.size⟩, rfl, ?_, rfl, ?_, by omega⟩
  · exact World.ownsRow_nil _ _ _ _
  · exact hb.alloc hb.size _
  · rw [List.drop_zero]
    exact (encs_of_runes hr).symm
  · simp [accB, mapd, sgo, Tx.encs]
/-- the rune that stands next -/
theorem MRel.rune {s : ByteArray} {pos r : Nat} {rest : List Nat} (hd : s.data.toList.drop pos = Tx.encs (r :: rest)) (hg : Tx.Good r) : pos < s.size ∧ Utf8.decode s pos = (r, (enc r).length) ∧ s.data.toList.drop (pos + (enc r).length) = Tx.encs rest ∧ pos + (enc r).length ≤ s.size := by
  have hlen := congrArg List.length hd
  rw [List.length_drop, ← size_list, encs_cons, List.length_append] at hlen
  have he := (enc_length r).1
  refine ⟨by omega, ?_, ?_, by omega⟩
  · rw [← decodeL_drop, hd, encs_cons, decode_enc r hg]
  · rw [← List.drop_drop, hd, encs_cons, List.drop_left]
theorem mapped_bad {f : Bool} {l : List UInt8} {rs done rest : List Nat} {r : Nat} (hr : runes l = some rs) (h : rs = done ++ r :: rest) (hb : bad r = true) : mappedL f l = none := by
  unfold mappedL
  rw [hr, Option.bind_some, if_pos]
  rw [h, List.any_append, List.any_cons, hb]
  simp
theorem mapped_done {f : Bool} {l : List UInt8} {rs : List Nat} (hr : runes l = some rs) (hb : rs.any bad = false) : mappedL f l = some (accB f rs) := by
  unfold mappedL
  rw [hr, Option.bind_some, if_neg (by simp [hb])]
  rfl
theorem mapped_none {f : Bool} {l : List UInt8} (hr : runes l = none) : mappedL f l = none := by
  unfold mappedL
  rw [hr]
  rfl
theorem mMeas_lt {s : ByteArray} {w0 w wr : World} {K pos pos2 : Nat} {v v2 : Value} {acc acc2 : List UInt8} (h : St w0 K s pos v acc wr) (h2 : St w0 K s pos2 v2 acc2 w) (hlt : pos < pos2) (hle : pos2 ≤ s.size) : mMeas s K w < mMeas s K wr := by
  unfold mMeas
  rw [h.pos, h2.pos]
  omega
theorem fold1_good {f : Bool} {r x : Nat} (hb : bad r = false) (hs : stay r = some x) : Tx.Good (fold1 f x) := plain_good (fold1_plain (stay_plain hb hs))
theorem enc_fold_le (f : Bool) (x : Nat) : (enc (fold1 f x)).length ≤ 4 := (enc_length _).2
end Go.Proofs.YtdfdponenhfbjaaDoor.Wk
