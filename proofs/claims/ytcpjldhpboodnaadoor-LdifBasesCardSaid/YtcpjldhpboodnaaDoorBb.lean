/- Change records as texts, in plain Lean over lists of bytes: written, read, read back. No program. Conditions: none. -/
import Derived.Test.YtcpjldhpboodnaaDoorBa
import Derived.Test.YtcpjldhpboodnaaDoorMa
namespace Go.Proofs.YtcpjldhpboodnaaDoor.Lf
open Go
open Go.Proofs.YtcpjldhpboodnaaDoor.Dp (isType)

structure Rc where
  time : Bs
  who : Bs
  dn : Bs
  kind : Int
  attrs : List (Bs × List Bs)
  mods : List (Int × Bs × List Bs)
  rdn : Bs
  sup : Bs
  del : Bool
  has : Bool
def Rc.zero : Rc := ⟨[], [], [], 0, [], [], [], [], false, false⟩
def wTime : Bs := [116, 105, 109, 101]
def wWho : Bs := [119, 104, 111]
def wDn : Bs := [100, 110]
def wKind : Bs := [99, 104, 97, 110, 103, 101, 116, 121, 112, 101]
def wRdn : Bs := [110, 101, 119, 114, 100, 110]
def wDel : Bs := [100, 101, 108, 101, 116, 101, 111, 108, 100, 114, 100, 110]
def wSup : Bs := [110, 101, 119, 115, 117, 112, 101, 114, 105, 111, 114]
def wAdd : Bs := [97, 100, 100]
def wDelete : Bs := [100, 101, 108, 101, 116, 101]
def wModify : Bs := [109, 111, 100, 105, 102, 121]
def wModrdn : Bs := [109, 111, 100, 114, 100, 110]
def wReplace : Bs := [114, 101, 112, 108, 97, 99, 101]
def kindW (k : Int) : Bs := if k = 0 then wAdd else if k = 1 then wDelete else if k = 2 then wModify else wModrdn
def opW (k : Int) : Bs := if k = 0 then wAdd else if k = 1 then wDelete else wReplace
def wBit (b : Bool) : Bs := if b then [49] else [48]
/-- does a value stand in a line as it is? -/
def plainV : Bs → Bool
  | [] => false
  | c :: r => !(c == 32 || c == 58 || c == 60) && !((c :: r).getLastD 0 == 32) && (c :: r).all fun c => decide (32 ≤ c.toNat) && decide (c.toNat ≤ 126)
/-- a line without its end -/
def lineB (name v : Bs) : Bs := name ++ (if plainV v then 58 :: 32 :: v else 58 :: 58 :: 32 :: b64 v)
def lineL (name v : Bs) : Bs := lineB name v ++ [10]
def attrT (l : List (Bs × List Bs)) : Bs := l.flatMap fun a => a.2.flatMap (lineL a.1)
def modT (l : List (Int × Bs × List Bs)) : Bs := l.flatMap fun m => lineL (opW m.1) m.2.1 ++ m.2.2.flatMap (lineL m.2.1) ++ [45, 10]
def moveT (c : Rc) : Bs := lineL wRdn c.rdn ++ lineL wDel (wBit c.del) ++ if c.has then lineL wSup c.sup else []
def restT (c : Rc) : Bs := if c.kind = 0 then attrT c.attrs else if c.kind = 1 then [] else if c.kind = 2 then modT c.mods else moveT c
def headT (c : Rc) : Bs := lineL wTime c.time ++ lineL wWho c.who ++ lineL wDn c.dn ++ lineL wKind (kindW c.kind)
def textL (c : Rc) : Bs := headT c ++ restT c ++ [10]
/-- attributes that can be written -/
def attrsOk : List (Bs × List Bs) → Bool
  | [] => true
  | [a] => isType a.1 && !a.2.isEmpty
  | a :: b :: r => isType a.1 && !a.2.isEmpty && !(a.1 == b.1) && attrsOk (b :: r)
def modsOk (l : List (Int × Bs × List Bs)) : Bool := l.all fun m => decide (0 ≤ m.1) && decide (m.1 ≤ 2) && isType m.2.1
def onlyOk (c : Rc) : Bool := decide (0 ≤ c.kind) && decide (c.kind ≤ 3) && !(c.kind != 0 && !c.attrs.isEmpty || c.kind != 2 && !c.mods.isEmpty || !c.sup.isEmpty && !c.has) && !(c.kind != 3 && (!c.rdn.isEmpty || c.del || c.has))
def right (c : Rc) : Bool := onlyOk c && attrsOk c.attrs && modsOk c.mods
def printL (c : Rc) : Bs × Nat := if right c then (if 65536 < (textL c).length then ([], 2) else (textL c, 0)) else ([], 110)
/-! ### reading -/
def splitN : Bs → List Bs
  | [] => [[]]
  | c :: r => if c = 10 then [] :: splitN r else match splitN r with
    | [] => [[c]]
    | p :: ps => (c :: p) :: ps
theorem splitN_ne : ∀ l, splitN l ≠ []
  | [] => by simp [splitN]
  | c :: r => by
    simp only [splitN]
    split
    · simp
    · split <;> simp
theorem splitN_line : ∀ (s r : Bs), (∀ c ∈ s, c ≠ 10) → splitN (s ++ 10 :: r) = s :: splitN r
  | [], r, _ => by simp [splitN]
  | c :: s, r, h => by
    have ih := splitN_line s r (fun d hd => h d (List.mem_cons_of_mem _ hd))
    rw [List.cons_append]
    simp only [splitN]
    rw [if_neg (h c List.mem_cons_self), ih]
/-- behind the sign : -/
def valOf (n v : Bs) : Bs × Bs := match v with
  | 58 :: 32 :: t => (match unb64 t with
    | some b => (n, b)
    | none => ([], []))
  | 58 :: t => (n, t)
  | 32 :: t => (n, t)
  | v => (n, v)
def pairOf (s : Bs) : Bs × Bs := match s.dropWhile (· != 58) with
  | [] => (if s = [45] then s else [], [])
  | _ :: v => valOf (s.takeWhile (· != 58)) v
def pairsOf (text : Bs) : List (Bs × Bs) := (splitN text).map pairOf
def nx (name : Bs) : List (Bs × Bs) → Bs × List (Bs × Bs)
  | [] => ([], [])
  | (n, v) :: r => if n = name then (v, r) else ([], (n, v) :: r)
def hasN (name : Bs) : List (Bs × Bs) → Bool
  | [] => false
  | (n, _) :: _ => n == name
def addV (acc : List (Bs × List Bs)) (n v : Bs) : List (Bs × List Bs) := match acc.getLast? with
  | none => acc ++ [(n, [v])]
  | some a => if a.1 = n then acc.dropLast ++ [(a.1, a.2 ++ [v])] else acc ++ [(n, [v])]
def addGo : List (Bs × Bs) → List (Bs × List Bs) → List (Bs × List Bs)
  | [], acc => acc
  | (n, v) :: r, acc => if n = [] then acc else addGo r (addV acc n v)
def opOf (n : Bs) : Option Int := if n = wAdd then some 0 else if n = wDelete then some 1 else if n = wReplace then some 2 else none
def valsOf (typ : Bs) : List (Bs × Bs) → List Bs × List (Bs × Bs)
  | [] => ([], [])
  | (n, v) :: r => if n = typ then (v :: (valsOf typ r).1, (valsOf typ r).2) else ([], (n, v) :: r)
theorem valsOf_len (typ : Bs) : ∀ l, (valsOf typ l).2.length ≤ l.length
  | [] => Nat.le_refl _
  | (n, v) :: r => by
    simp only [valsOf]
    split
    · have := valsOf_len typ r
      simp only [List.length_cons]
      omega
    · exact Nat.le_refl _
def modsGo : Nat → List (Bs × Bs) → List (Int × Bs × List Bs)
  | 0, _ => []
  | _, [] => []
  | k + 1, (n, typ) :: r => match opOf n with
    | none => []
    | some op => match (valsOf typ r).2 with
      | [] => []
      | (m, _) :: r2 => if m = [45] then (op, typ, (valsOf typ r).1) :: modsGo k r2 else []
def kindOf (w : Bs) : Int := if w = wModrdn then 3 else if w = wModify then 2 else if w = wDelete then 1 else 0
def restOf (c : Rc) (l : List (Bs × Bs)) : Rc :=
  if c.kind = 0 then { c with attrs := addGo l [] }
  else if c.kind = 1 then c
  else if c.kind = 2 then { c with mods := modsGo (l.length + 1) l }
  else { c with rdn := (nx wRdn l).1, del := (nx wDel (nx wRdn l).2).1 == [49], sup := (nx wSup (nx wDel (nx wRdn l).2).2).1, has := hasN wSup (nx wDel (nx wRdn l).2).2 }
def recL (l0 : List (Bs × Bs)) : Rc :=
  restOf { Rc.zero with time := (nx wTime l0).1, who := (nx wWho (nx wTime l0).2).1, dn := (nx wDn (nx wWho (nx wTime l0).2).2).1, kind := kindOf (nx wKind (nx wDn (nx wWho (nx wTime l0).2).2).2).1 } (nx wKind (nx wDn (nx wWho (nx wTime l0).2).2).2).2
def parseL (text : Bs) : Rc × Nat :=
  if 65536 < text.length then (Rc.zero, 2) else if printL (recL (pairsOf text)) = (text, 0) then (recL (pairsOf text), 0) else (Rc.zero, 110)
/-! ### lines read back -/
def nameOk (n : Bs) : Prop := ∀ c ∈ n, c ≠ 58 ∧ c ≠ 10
theorem tw_all {p : UInt8 → Bool} {n r : Bs} {x : UInt8} (h : ∀ c ∈ n, p c = true) (hx : p x = false) : (n ++ x :: r).takeWhile p = n ∧ (n ++ x :: r).dropWhile p = x :: r := by
  constructor
  · rw [List.takeWhile_append_of_pos h, List.takeWhile_cons, hx]
    simp
  · rw [List.dropWhile_append_of_pos h, List.dropWhile_cons, hx]
    simp
theorem plainV_mem {v : Bs} (h : plainV v = true) : ∀ c ∈ v, c ≠ 10 := by
  intro c hc
  cases v with
  | nil => cases hc
  | cons x r =>
    unfold plainV at h
    simp only [Bool.and_eq_true, List.all_eq_true, decide_eq_true_eq] at h
    have := h.2 c hc
    intro e
    rw [e] at this
    exact absurd this.1 (by decide)
theorem lineB_mem {n v : Bs} (hn : nameOk n) : ∀ c ∈ lineB n v, c ≠ 10 := by
  intro c hc
  unfold lineB at hc
  rcases List.mem_append.1 hc with hc | hc
  · exact (hn c hc).2
  · split at hc
    · next hp =>
      rcases List.mem_cons.1 hc with rfl | hc
      · decide
      · rcases List.mem_cons.1 hc with rfl | hc
        · decide
        · exact plainV_mem hp c hc
    · rcases List.mem_cons.1 hc with rfl | hc
      · decide
      · rcases List.mem_cons.1 hc with rfl | hc
        · decide
        · rcases List.mem_cons.1 hc with rfl | hc
          · decide
          · exact b64_mem v c hc
theorem pairOf_line {n v : Bs} (hn : nameOk n) : pairOf (lineB n v) = (n, v) := by
  have hp : ∀ c ∈ n, (c != 58) = true := fun c hc => by simpa using (hn c hc).1
  cases hpl : plainV v with
  | true =>
    have e : lineB n v = n ++ 58 :: 32 :: v := by unfold lineB; rw [hpl]; rfl
    obtain ⟨h1, h2⟩ := tw_all (r := 32 :: v) hp (x := 58) (by decide)
    rw [e]
    unfold pairOf
    rw [h2, h1]
    rfl
  | false =>
    have e : lineB n v = n ++ 58 :: 58 :: 32 :: b64 v := by unfold lineB; rw [hpl]; rfl
    obtain ⟨h1, h2⟩ := tw_all (r := 58 :: 32 :: b64 v) hp (x := 58) (by decide)
    rw [e]
    unfold pairOf
    rw [h2, h1]
    show (match unb64 (b64 v) with
      | some b => (n, b)
      | none => ([], [])) = (n, v)
    rw [unb64_back]
theorem pairs_line {n v : Bs} (hn : nameOk n) (r : Bs) : pairsOf (lineL n v ++ r) = (n, v) :: pairsOf r := by
  unfold pairsOf lineL
  rw [List.append_assoc, List.singleton_append, splitN_line _ _ (lineB_mem hn), List.map_cons, pairOf_line hn]
theorem pairs_dash (r : Bs) : pairsOf (45 :: 10 :: r) = ([45], []) :: pairsOf r := by
  unfold pairsOf
  have := splitN_line [45] r (by simp)
  rw [show ([45] : Bs) ++ 10 :: r = 45 :: 10 :: r from rfl] at this
  rw [this, List.map_cons]
  rfl
theorem pairs_end : pairsOf [10] = [([], []), ([], [])] := by decide +kernel
theorem pairs_vals {n : Bs} (hn : nameOk n) (r : Bs) : ∀ vs : List Bs, pairsOf (vs.flatMap (lineL n) ++ r) = vs.map (fun v => (n, v)) ++ pairsOf r
  | [] => rfl
  | v :: vs => by
    rw [List.flatMap_cons, List.append_assoc, pairs_line hn, pairs_vals hn r vs]
    rfl
end Go.Proofs.YtcpjldhpboodnaaDoor.Lf
