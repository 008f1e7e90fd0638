/- What the functions compute, as plain Lean: no program is in sight. -/
import Derived.Test.YthbgmmliijpemaaDoorSl
namespace Go.Proofs.YthbgmmliijpemaaDoor
open Go

/-- An act as data. -/
structure PAct where
  kind : Int
  no : Int
  to : Int
  n : Int
  id : GId
  stack : List GEnt
  data : ByteArray
/-- An act in memory, and what its stack reads as. -/
def GAct.p (a : GAct) (st : List GEnt) : PAct := ⟨a.kind, a.no, a.to, a.n, a.id, st, a.data⟩

/-- A number that may be. -/
def numB (n : Int) : Bool := decide (0 ≤ n) && decide (n ≤ 1099511627776)
/-- Which fields a kind's line has: o a No, t a To, n an N, i an Id, s a Stack, d Data. -/
def fieldsL : List (List UInt8) := [[], [111, 105, 100], [111], [111], [], [110], [111, 116], [111, 110, 105], [111, 105], [111], [111, 115, 100], [110], [110], [110], [110], [111, 110, 105, 115]]
def wordsL : List (List UInt8) := [[], [106, 111, 105, 110], [108, 101, 97, 118, 101], [102, 97, 105, 108], [114, 111, 117, 110, 100], [112, 97, 115, 115], [104, 111, 115, 116], [119, 97, 110, 116], [117, 110, 119, 97, 110, 116], [97, 115, 107], [115, 101, 110, 100], [98, 114, 105, 110, 103], [116, 119, 105, 99, 101], [108, 111, 115, 101], [108, 97, 115, 116], [108, 105, 110, 107]]
def fieldsOf (kind : Int) : List UInt8 := fieldsL.getD kind.toNat []
def wordOf (kind : Int) : List UInt8 := wordsL.getD kind.toNat []
def hasL (l : List UInt8) (c : UInt8) : Bool := l.contains c
def hasF (kind : Int) (c : UInt8) : Bool := hasL (fieldsOf kind) c

/-- May an entry be? -/
def entB (e : GEnt) : Bool := if e.kind = 1 then decide (e.host = 0) else decide (e.kind = 2) && (decide (e.id = GId.zero) && (decide (0 ≤ e.host) && decide (e.host < 16)))
/-- May a stack be? -/
def stackB (l : List GEnt) : Bool := decide (1 ≤ l.length) && (decide (l.length ≤ 4) && l.all entB)
/-- May an act be said? -/
def mayB (a : PAct) : Bool :=
  (decide (1 ≤ a.kind) && decide (a.kind ≤ 15)) && (numB a.no && (numB a.to && (numB a.n && decide (a.data.size ≤ 64)))) &&
  ((hasF a.kind 111 || decide (a.no = 0)) && ((hasF a.kind 116 || decide (a.to = 0)) && (hasF a.kind 110 || decide (a.n = 0)))) &&
  ((hasF a.kind 105 || decide (a.id = GId.zero)) && (hasF a.kind 100 || decide (a.data.size = 0))) &&
  (if hasF a.kind 115 then stackB a.stack else decide (a.stack.length = 0))
/-- May acts be said? -/
def rightB (l : List PAct) : Bool := decide (l.length ≤ 200) && l.all mayB

/-- An act's cells in memory read as an act. -/
structure RdAct (w : World) (B : Nat) (a : GAct) (p : PAct) : Prop where
  st : Sl w B 34 a.stack (p.stack.map GEnt.cells)
  eq : p = a.p p.stack
/-- Acts in memory. -/
structure RdActs (w : World) (B : Nat) (s : SlV) (l : List PAct) : Prop where
  ex : ∃ gs : List GAct, Sl w B 38 s (gs.map GAct.cells) ∧ gs.length = l.length ∧ ∀ (i : Nat) (a : GAct) (p : PAct), gs[i]? = some a → l[i]? = some p → RdAct w B a p
theorem RdAct.keep {w w' : World} {B : Nat} {a : GAct} {p : PAct} (h : RdAct w B a p) (hk : ∀ b, b < B → w'.heap[b]? = w.heap[b]?) : RdAct w' B a p := ⟨h.st.keep hk, h.eq⟩
theorem RdAct.more {w : World} {B B' : Nat} {a : GAct} {p : PAct} (h : RdAct w B a p) (hB : B ≤ B') : RdAct w B' a p := ⟨h.st.more hB, h.eq⟩
theorem RdActs.keep {w w' : World} {B : Nat} {s : SlV} {l : List PAct} (h : RdActs w B s l) (hk : ∀ b, b < B → w'.heap[b]? = w.heap[b]?) : RdActs w' B s l := by
  obtain ⟨gs, h1, h2, h3⟩ := h.ex
  exact ⟨gs, h1.keep hk, h2, fun i a p ha hp => (h3 i a p ha hp).keep hk⟩
theorem RdActs.more {w : World} {B B' : Nat} {s : SlV} {l : List PAct} (h : RdActs w B s l) (hB : B ≤ B') : RdActs w B' s l := by
  obtain ⟨gs, h1, h2, h3⟩ := h.ex
  exact ⟨gs, h1.more hB, h2, fun i a p ha hp => (h3 i a p ha hp).more hB⟩
theorem RdActs.len {w : World} {B : Nat} {s : SlV} {l : List PAct} (h : RdActs w B s l) : s.len = l.length := by
  obtain ⟨gs, h1, h2, h3⟩ := h.ex
  have := h1.len
  simp at this; omega
/-- The act at a place: where it lies. -/
theorem RdActs.at_ {w : World} {B : Nat} {A : Option Addr} {n c : Nat} {l : List PAct} (h : RdActs w B ⟨A, n, c⟩ l) {k : Nat} {p : PAct} (hp : l[k]? = some p) :
    ∃ b o a, A = some ⟨b, o, none⟩ ∧ b < B ∧ w.row? b (o + k * 38) 38 = some a.cells ∧ RdAct w B a p := by
  obtain ⟨gs, h1, h2, h3⟩ := h.ex
  have hk : k < l.length := (List.getElem?_eq_some_iff.1 hp).1
  have h4 := h1.len
  simp at h4
  obtain ⟨b, o, e, hb, hr⟩ := h1.ad (by show 0 < n; omega)
  have ha : gs[k]? = some gs[k] := List.getElem?_eq_getElem (by omega)
  exact ⟨b, o, gs[k], e, hb, hr k _ (by simp [ha]), h3 k _ p ha hp⟩
end Go.Proofs.YthbgmmliijpemaaDoor
