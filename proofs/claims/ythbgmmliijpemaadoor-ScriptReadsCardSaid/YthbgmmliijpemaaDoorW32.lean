/- Walks: acts that are read, one behind the other. -/
import Derived.Test.YthbgmmliijpemaaDoorW31
set_option linter.unusedVariables false
set_option linter.unusedSimpArgs false
namespace Go.Proofs.YthbgmmliijpemaaDoor
open Go Go.RowKit
/-- An act in memory, whose entries lie in a block of entries. -/
structure RdT (w : World) (a : GAct) (p : PAct) : Prop where
  rd : RdAct w w.heap.size a p
  ty : ∀ b o, a.stack.a = some ⟨b, o, none⟩ → ∃ cs, w.heap[b]? = some (.cells cs 56 (0, 0))
section
variable {w w' : World} {a : GAct} {p : PAct} {base : Nat} {s s' : SlV} {out : List PAct} {gs : List GAct}
theorem RdT.keep (h : RdT w a p) (hk : ∀ b, b < w.heap.size → (∃ cs, w.heap[b]? = some (.cells cs 56 (0, 0))) → w'.heap[b]? = w.heap[b]?) (hs : w.heap.size ≤ w'.heap.size) : RdT w' a p :=
  ⟨⟨⟨h.rd.st.len, h.rd.st.cap, fun h0 => by
    obtain ⟨b, o, e, hb, hr⟩ := h.rd.st.ad h0
    exact ⟨b, o, e, by omega, fun i r hi => by rw [World.row?_block (hk b hb (h.ty b o e))]; exact hr i r hi⟩⟩, h.rd.eq⟩, fun b o e => by
    obtain ⟨cs, h2⟩ := h.ty b o e
    exact ⟨cs, (hk b (Array.getElem?_eq_some_iff.1 h2).1 ⟨cs, h2⟩).trans h2⟩⟩
theorem RdT.on (h : RdT w a p) (hb : Below w.heap.size w w') : RdT w' a p := h.keep (fun b h1 _ => hb.block b h1) hb.size
theorem RdT.put {rows : List (Array Value)} (h : RdT w a p) (ho : Own w base 42 38 s rows) (hp : Put base s w w') : RdT w' a p :=
  h.keep (fun b h1 ⟨cs, h2⟩ => hp.others b h1 fun e => by
    obtain ⟨A, n, c⟩ := s
    cases A with
    | none => cases e
    | some ad =>
      obtain ⟨g, o, sp⟩ := ad
      simp [Value.ownBlock, SlV.val] at e
      subst e
      rcases ho.row.2 with ⟨h3, _⟩ | ⟨g, cap, cur, h3, _, h4, _⟩
      · injection h3 with h3 _ _; cases h3
      · injection h3 with h3 _ _
        injection h3 with h3
        injection h3 with h3 _ _
        subst h3
        rw [h2] at h4
        injection h4 with h4
        injection h4 with _ h4 _
        exact absurd h4 (by decide)) hp.below.size
/-- The acts so far. -/
structure Acts (w : World) (base : Nat) (s : SlV) (gs : List GAct) (out : List PAct) : Prop where
  own : Own w base 42 38 s (gs.map GAct.cells)
  len : gs.length = out.length
  rd : ∀ (j : Nat) (a : GAct) (p : PAct), gs[j]? = some a → out[j]? = some p → RdT w a p
theorem Acts.nil (w : World) (base : Nat) : Acts w base ⟨none, 0, 0⟩ [] [] := ⟨Own.nil _ _ _ _, rfl, fun j a p h => by simp at h⟩
theorem Acts.on (h : Acts w base s gs out) (hb : Below w.heap.size w w') : Acts w' base s gs out := ⟨h.own.kept hb, h.len, fun j a p h1 h2 => (h.rd j a p h1 h2).on hb⟩
theorem Acts.slen (h : Acts w base s gs out) : s.len = out.length := by have := h.own.len; rw [List.length_map, h.len] at this; exact this
theorem Acts.push (h : Acts w base s gs out) (hr : RdT w a p) (ho : Own w' base 42 38 s' (gs.map GAct.cells ++ [a.cells])) (hp : Put base s w w') : Acts w' base s' (gs ++ [a]) (out ++ [p]) :=
  ⟨by rw [List.map_append]; exact ho, by simp [h.len], fun j x q h1 h2 => by
    rcases Nat.lt_or_ge j gs.length with h3 | h3
    · rw [List.getElem?_append_left h3] at h1
      rw [List.getElem?_append_left (by rw [← h.len]; exact h3)] at h2
      exact (h.rd j x q h1 h2).put h.own hp
    · have h4 := (List.getElem?_eq_some_iff.1 h1).1
      have h5 : j = gs.length := by simp at h4; omega
      subst h5
      rw [List.getElem?_append_right (Nat.le_refl _)] at h1
      rw [List.getElem?_append_right (by rw [h.len]; exact Nat.le_refl _)] at h2
      rw [h.len] at h2
      simp at h1 h2
      subst h1 h2
      exact hr.put h.own hp⟩
theorem Acts.acts (h : Acts w base s gs out) : RdActs w w.heap.size s out := ⟨gs, h.own.sl, h.len, fun j a p h1 h2 => (h.rd j a p h1 h2).rd⟩
end
end Go.Proofs.YthbgmmliijpemaaDoor
