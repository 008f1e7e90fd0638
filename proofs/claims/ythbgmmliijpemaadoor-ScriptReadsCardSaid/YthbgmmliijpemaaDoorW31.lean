/- Walks: a line that is read: its words, and what stands while it is read. -/
import Derived.Test.YthbgmmliijpemaaDoorW29
import Derived.Test.YthbgmmliijpemaaDoorW30
set_option linter.unusedVariables false
set_option linter.unusedSimpArgs false
namespace Go.Proofs.YthbgmmliijpemaaDoor
open Go Go.RowKit
def strsC (L : List (List UInt8)) : Array Value := (L.map strV).toArray
theorem strsC_size (L : List (List UInt8)) : (strsC L).size = L.length := by simp [strsC]
theorem strsC_at {L : List (List UInt8)} {j : Nat} (h : j < L.length) : (strsC L)[j]? = some (strV L[j]) := by simp [strsC, h]
theorem count_split (l : List UInt8) : Lib.count l [32] + 1 = (splitS l).length := by
  have := Lib.splitB_all ⟨#[32]⟩ (by decide) 0 (Lib.count l [32]) ⟨l.toArray⟩ rfl
  rw [← split_lib l, ← this]
  have h2 := congrArg List.length (Lib.splitB_data ⟨#[32]⟩ 0 (Lib.count l [32]) ⟨l.toArray⟩)
  rw [List.length_map] at h2
  exact h2
theorem split_strs (l : List UInt8) : ((Lib.splitB ⟨#[32]⟩ 0 (Lib.countB ⟨l.toArray⟩ ⟨#[32]⟩) ⟨l.toArray⟩).map Value.string).toArray = strsC (splitS l) := by
  have h := Lib.splitB_data ⟨#[32]⟩ 0 (Lib.count l [32]) ⟨l.toArray⟩
  rw [strsC, ← split_lib l]
  show _ = ((Lib.splitK [32] 0 (Lib.count l [32]) l).map strV).toArray
  have h' : (Lib.splitB ⟨#[32]⟩ 0 (Lib.count l [32]) ⟨l.toArray⟩).map (·.data.toList) = Lib.splitK [32] 0 (Lib.count l [32]) l := h
  rw [← h', List.map_map]
  congr 1
theorem split51 (l : List UInt8) (m : Int) (w : World) (hl : l.length ≤ 1000000) (hm : w.cell? ⟨0, 0, none⟩ = some (.int .i64 m)) :
    Calls Tryd.prog 51 #[strV l, .string ⟨#[32]⟩] w fun e w' => e = .returned (.slice (some ⟨w.heap.size, 0, none⟩) (splitS l).length (splitS l).length) ∧ w' = w.alloc (.cells (strsC (splitS l)) 9) := by
  have := Tryd.strings_Split ⟨l.toArray⟩ ⟨#[32]⟩ m w (by show l.toArray.size < _; rw [List.size_toArray]; omega) hm (by decide)
  rw [split_strs, show Lib.countB ⟨l.toArray⟩ ⟨#[32]⟩ + 1 = (splitS l).length from count_split l] at this
  exact this
/-- A slice that reads as rows, in blocks from lo on. -/
structure SlUp (w : World) (lo k : Nat) (s : SlV) (rows : List (Array Value)) : Prop where
  sl : Sl w w.heap.size k s rows
  up : ∀ b o, s.a = some ⟨b, o, none⟩ → lo ≤ b ∧ ∃ cs, w.heap[b]? = some (.cells cs 56 (0, 0))
theorem SlUp.only {w w' : World} {lo k : Nat} {s : SlV} {rows : List (Array Value)} (h : SlUp w lo k s rows) (hn : ∀ b, lo ≤ b → b < w.heap.size → w'.heap[b]? = w.heap[b]?) (hs : w.heap.size ≤ w'.heap.size) : SlUp w' lo k s rows :=
  ⟨⟨h.sl.len, h.sl.cap, fun h0 => by
    obtain ⟨b, o, e, hb, hr⟩ := h.sl.ad h0
    exact ⟨b, o, e, by omega, fun i r hi => by rw [World.row?_block (hn b (h.up b o e).1 hb)]; exact hr i r hi⟩⟩, fun b o e => by
    obtain ⟨h1, cs, h2⟩ := h.up b o e
    exact ⟨h1, cs, (hn b h1 (Array.getElem?_eq_some_iff.1 h2).1).trans h2⟩⟩
theorem SlUp.on {w w' : World} {lo k : Nat} {s : SlV} {rows : List (Array Value)} (h : SlUp w lo k s rows) (hb : Below w.heap.size w w') : SlUp w' lo k s rows :=
  h.only (fun b _ h2 => hb.block b h2) hb.size
theorem SlUp.nil (w : World) (lo k : Nat) : SlUp w lo k ⟨none, 0, 0⟩ [] := ⟨Sl.nil _ _ _, fun b o h => by cases h⟩
theorem SlUp.rd {w : World} {lo : Nat} {a : GAct} {p : PAct} (h : SlUp w lo 34 a.stack (p.stack.map GEnt.cells)) (e : p = a.p p.stack) : RdAct w w.heap.size a p := ⟨h.sl, e⟩
/-- What stands while script.act reads a line: the words, the act so far, where the range is. -/
structure In29 (w : World) (L : List (List UInt8)) (g : Nat) (s : ByteArray) (j : Nat) (a : GAct) (p : PAct) (W : World) : Prop where
  res : Box W w.heap.size 42 GAct.zero.cells
  strs : Box W (w.heap.size + 1) 9 (strsC L)
  cell : Box W (w.heap.size + 2) 80 #[.slice (some ⟨w.heap.size + 1, 0, none⟩) L.length L.length]
  act : Box W g 42 a.cells
  st : SlUp W (g + 2) 34 a.stack (p.stack.map GEnt.cells)
  eq : p = a.p p.stack
  iter : W.heap[g + 1]? = some (.stringIter s j)
  below : Below w.heap.size w W
  lt : w.heap.size + 2 < g
section
variable {w W W' : World} {L : List (List UInt8)} {g : Nat} {s : ByteArray} {j : Nat} {a : GAct} {p : PAct}
theorem In29.hlt (h : In29 w L g s j a p W) : g + 1 < W.heap.size := by
  rcases Nat.lt_or_ge (g + 1) W.heap.size with h1 | h1
  · exact h1
  · have := h.iter; simp [Array.getElem?_eq_none h1] at this
theorem In29.on (h : In29 w L g s j a p W) (hb : Below W.heap.size W W') : In29 w L g s j a p W' :=
  ⟨h.res.below hb, h.strs.below hb, h.cell.below hb, h.act.below hb, h.st.on hb, h.eq, (hb.block _ h.hlt).trans h.iter, h.below.trans (hb.mono h.below.size), h.lt⟩
theorem In29.pos (h : In29 w L g s j a p W) : W.iterPos (g + 1) = j := by simp [World.iterPos, h.iter]
theorem In29.go (h : In29 w L g s j a p W) (k : Nat) : In29 w L g s k a p (W.iterAt (g + 1) s k) := by
  have hl := h.lt
  have ho : ∀ b, b ≠ g + 1 → (W.iterAt (g + 1) s k).heap[b]? = W.heap[b]? := fun b hb => Lib.iterAt_other W (g + 1) b s k hb
  have hb : Below w.heap.size W (W.iterAt (g + 1) s k) := Lib.below_iterAt (Below.refl w.heap.size W) (k := g + 1) (by omega) s k
  exact ⟨(ho _ (by omega)).trans h.res, (ho _ (by omega)).trans h.strs, (ho _ (by omega)).trans h.cell, (ho _ (by omega)).trans h.act,
    h.st.only (fun b h1 _ => ho b (by omega)) hb.size, h.eq, Lib.iterAt_heap W (g + 1) s j k h.iter, h.below.trans hb, h.lt⟩
/-- A field is written. -/
theorem In29.upd (h : In29 w L g s j a p W) (hn : ∀ b, b ≠ g → W'.heap[b]? = W.heap[b]?) (hs : W'.heap.size = W.heap.size) (hb : Below w.heap.size W W') {a' : GAct} {p' : PAct} (hbox : Box W' g 42 a'.cells)
    (hst : SlUp W (g + 2) 34 a'.stack (p'.stack.map GEnt.cells)) (he : p' = a'.p p'.stack) : In29 w L g s j a' p' W' := by
  have hl := h.lt
  exact ⟨(hn _ (by omega)).trans h.res, (hn _ (by omega)).trans h.strs, (hn _ (by omega)).trans h.cell, hbox, hst.only (fun b h1 _ => hn b (by omega)) (by omega), he, (hn _ (by omega)).trans h.iter, h.below.trans hb, h.lt⟩
theorem In29.cell_ (h : In29 w L g s j a p W) (i : Nat) (v : Value) {a' : GAct} {p' : PAct} (hc : a.cells.setIfInBounds i v = a'.cells) (hst : SlUp W (g + 2) 34 a'.stack (p'.stack.map GEnt.cells)) (he : p' = a'.p p'.stack) :
    In29 w L g s j a' p' (W.setCell ⟨g, i, none⟩ v) := by
  have hl := h.lt
  refine h.upd (fun b hb => Below.heap_setCell W ⟨g, i, none⟩ v b hb) (by simp [World.setCell]) ((Below.refl _ _).setCell (p := ⟨g, i, none⟩) (by show w.heap.size ≤ g; omega) v) ?_ hst he
  have := h.act.set_ i v
  rw [hc] at this; exact this
theorem In29.row_ (h : In29 w L g s j a p W) (i : Nat) (vs : Array Value) {a' : GAct} {p' : PAct} (hc : splice a.cells i vs = a'.cells) (hst : SlUp W (g + 2) 34 a'.stack (p'.stack.map GEnt.cells)) (he : p' = a'.p p'.stack) :
    In29 w L g s j a' p' (W.putRow g i vs) := by
  have hl := h.lt
  refine h.upd (fun b hb => World.heap_putRow vs b hb) (by simp) (below_putRow (Below.refl _ _) (by omega) vs) ?_ hst he
  have := h.act.put i vs
  rw [hc] at this; exact this
end
end Go.Proofs.YthbgmmliijpemaaDoor
