/- An argument that is a slice of acts, opened: what it reads as. -/
import Derived.Test.YthbgmmliijpemaaDoorW22
import Derived.Deep.Slices
import Derived.OpenShut
import Derived.ChangeSame
import Derived.Carry
set_option linter.unusedVariables false
set_option linter.unusedSimpArgs false
namespace Go.Proofs.YthbgmmliijpemaaDoor
open Go Go.RowKit Go.ChangeShapes Go.WideShapes Go.Deep
/-- Cells that read, one by one, as a row's, are that row. -/
theorem row_of_cells {w : World} {b o n : Nat} {r : Array Value} (hr : r.size = n) (hn : 0 < n) (h : ∀ j, j < n → w.cell? ⟨b, o + j, none⟩ = r[j]?) : w.row? b o n = some r := by
  have h0 := h 0 hn
  rw [Array.getElem?_eq_getElem (show 0 < r.size by omega)] at h0
  have hl := h (n - 1) (by omega)
  unfold World.row?
  unfold World.cell? at h h0 hl
  cases hb : w.heap[b]? with
  | none => simp [hb] at h0
  | some ob =>
    cases ob with
    | cells cs t f =>
      simp only [hb] at h h0 hl ⊢
      simp at h hl
      have hle : o + n ≤ cs.size := by
        rw [Array.getElem?_eq_getElem (show n - 1 < r.size by omega)] at hl
        have := (Array.getElem?_eq_some_iff.1 hl).1
        omega
      rw [if_pos hle]
      congr 1
      apply Array.ext
      · simp; omega
      · intro j h1 h2
        have := h j (by omega)
        rw [Array.getElem?_eq_getElem h2] at this
        have h3 := (Array.getElem?_eq_some_iff.1 this)
        obtain ⟨h4, h5⟩ := h3
        simpa using h5
    | _ => simp [hb] at h0
theorem list_of {α : Type} {n : Nat} {Q : Nat → α → Prop} (h : ∀ i, i < n → ∃ x, Q i x) : ∃ l : List α, l.length = n ∧ ∀ (i : Nat) (x : α), l[i]? = some x → Q i x := by
  induction n with
  | zero => exact ⟨[], rfl, by simp⟩
  | succ n ih =>
    obtain ⟨l, hl, hq⟩ := ih fun i hi => h i (by omega)
    obtain ⟨x, hx⟩ := h n (by omega)
    refine ⟨l ++ [x], by simp [hl], fun i y hy => ?_⟩
    rcases Nat.lt_or_ge i l.length with h1 | h1
    · rw [List.getElem?_append_left h1] at hy; exact hq i y hy
    · rw [List.getElem?_append_right h1] at hy
      have h2 := (List.getElem?_eq_some_iff.1 hy).1
      have h3 : i = n := by simp at h2; omega
      subst h3
      rw [hl] at hy
      simp at hy
      subst hy; exact hx
section
variable {H : Type} {enc : TypeId × Value → H} {w : World} {base : Nat} {spare : Nat → Bool} {held : Bool}
theorem cells_of3 : Tryd.prog.cellsOf 3 = 1 := by kernel_rfl
theorem cells_of5 : Tryd.prog.cellsOf 5 = 1 := by kernel_rfl
theorem cells_of9 : Tryd.prog.cellsOf 9 = 1 := by kernel_rfl
theorem cells_of39 : Tryd.prog.cellsOf 39 = 32 := by kernel_rfl
theorem cells_of40 : Tryd.prog.cellsOf 40 = 1 := by kernel_rfl
theorem cells_of42 : Tryd.prog.cellsOf 42 = 38 := by kernel_rfl
theorem cells_of56 : Tryd.prog.cellsOf 56 = 34 := by kernel_rfl
theorem byte_wf {n : Int} (h : (Lit.int .u8 n).wf = true) : 0 ≤ n ∧ n < 256 := by
  simp [Lit.wf] at h
  have h1 : IntKind.u8.min = 0 := rfl
  have h2 : IntKind.u8.max = 255 := rfl
  omega
set_option maxRecDepth 20000 in
theorem open_id {fuel : Nat} {cs : List Value} {x : DataW H × List MemPlace} (h : DataW.trod enc Tryd.prog w base spare held fuel 39 cs = some x) : ∃ g : GId, cs = g.cells.toList := by
  obtain ⟨xs, m, rfl, hx, hlen, hn, hf⟩ := DataW.trod_array Tryd.underlying39 h
  rw [cells_of39] at hlen
  have hb : ∀ i, i < 32 → ∃ b : UInt8, cs[i]? = some (.int .u8 (b.toNat : Int)) := by
    intro i hi
    have h1 := hf i hi
    rw [cells_of5, List.getElem?_eq_getElem (show i < xs.length by omega)] at h1
    obtain ⟨n, e1, e2, e3⟩ := DataW.trod_int Tryd.underlying5 h1
    obtain ⟨h4, h5⟩ := byte_wf e3
    refine ⟨UInt8.ofNat n.toNat, ?_⟩
    have h6 : ((cs.drop (i * 1)).take 1)[0]? = some (.int .u8 n) := by rw [e1]; rfl
    rw [List.getElem?_take, if_pos (by omega), List.getElem?_drop] at h6
    rw [show i = i * 1 + 0 by omega, h6]
    congr 2
    simp; omega
  obtain ⟨l, hl, hq⟩ := list_of hb
  refine ⟨⟨l, hl⟩, ?_⟩
  apply List.ext_getElem?
  intro i
  rcases Nat.lt_or_ge i 32 with h1 | h1
  · rw [hq i l[i] (List.getElem?_eq_getElem (by omega))]
    have := (GId.mk l hl).cells_at i h1
    rw [Array.getElem?_toList, this]
    simp [GId.at, hl, h1]
  · rw [List.getElem?_eq_none (by omega), List.getElem?_eq_none (by simp; omega)]
theorem take_one {cs : List Value} {o : Nat} {v : Value} (h : (cs.drop o).take 1 = [v]) : cs[o]? = some v := by
  have h6 : ((cs.drop o).take 1)[0]? = some v := by rw [h]; rfl
  rw [List.getElem?_take, if_pos (by omega), List.getElem?_drop] at h6
  simpa using h6
theorem take_mid {cs l : List Value} {o n : Nat} (h : (cs.drop o).take n = l) (hl : l.length = n) {j : Nat} (hj : j < n) : cs[o + j]? = l[j]? := by
  rw [← h, List.getElem?_take, if_pos hj, List.getElem?_drop]
theorem open_ent {fuel : Nat} {cs : List Value} {x : DataW H × List MemPlace} (h : DataW.trod enc Tryd.prog w base spare held fuel 56 cs = some x) : ∃ e : GEnt, cs = e.cells.toList := by
  obtain ⟨xs, m, rfl, hx, hlen, hn, hf⟩ := DataW.trod_struct Tryd.underlying56 h
  rw [cells_of56] at hlen
  have hn3 : xs.length = 3 := hn
  have h0 : DataW.trod enc Tryd.prog w base spare held m 3 ((cs.drop 0).take (Tryd.prog.cellsOf 3)) = xs[0]? := hf 0 _ rfl
  have h1 : DataW.trod enc Tryd.prog w base spare held m 39 ((cs.drop 1).take (Tryd.prog.cellsOf 39)) = xs[1]? := hf 1 _ rfl
  have h2 : DataW.trod enc Tryd.prog w base spare held m 3 ((cs.drop 33).take (Tryd.prog.cellsOf 3)) = xs[2]? := hf 2 _ rfl
  rw [cells_of3] at h0 h2
  rw [cells_of39] at h1
  rw [List.getElem?_eq_getElem (show 0 < xs.length by omega)] at h0
  rw [List.getElem?_eq_getElem (show 1 < xs.length by omega)] at h1
  rw [List.getElem?_eq_getElem (show 2 < xs.length by omega)] at h2
  obtain ⟨n0, e0, _, _⟩ := DataW.trod_int Tryd.underlying3 h0
  obtain ⟨g, e1⟩ := open_id h1
  obtain ⟨n2, e2, _, _⟩ := DataW.trod_int Tryd.underlying3 h2
  have c0 := take_one e0
  have c2 := take_one e2
  refine ⟨⟨n0, g, n2⟩, ?_⟩
  apply List.ext_getElem?
  intro i
  have hgs : g.cells.toList.length = 32 := by simp
  rcases Nat.lt_or_ge i 34 with hi | hi
  · rw [show (GEnt.cells ⟨n0, g, n2⟩).toList = [Value.int .i64 n0] ++ (g.cells.toList ++ [Value.int .i64 n2]) from by simp [GEnt.cells]]
    by_cases q0 : i = 0
    · subst q0; rw [c0]; rfl
    · rw [List.getElem?_append_right (by simp; omega)]
      by_cases q1 : i = 33
      · subst q1
        rw [c2, List.getElem?_append_right (by simp)]
        simp
      · obtain ⟨j, rfl⟩ : ∃ j, i = 1 + j := ⟨i - 1, by omega⟩
        have hj : j < 32 := by omega
        rw [take_mid e1 hgs hj, show 1 + j - [Value.int IntKind.i64 n0].length = j by simp, List.getElem?_append_left (by omega)]
  · rw [List.getElem?_eq_none (by omega), List.getElem?_eq_none (by simp; omega)]
theorem add_plain (b o n : Nat) : (⟨b, o, none⟩ : Addr).add n = ⟨b, o + n, none⟩ := by
  unfold Addr.add; split
  · rename_i h; subst h; rfl
  · rfl
theorem cell_spot {w : World} {a : Addr} {v : Value} (h : w.cell? a = some v) : a.spot = none ∧ a.block < w.heap.size := by
  unfold World.cell? at h
  cases hb : w.heap[a.block]? with
  | none => simp [hb] at h
  | some ob =>
    refine ⟨?_, (Array.getElem?_eq_some_iff.1 hb).1⟩
    cases ob with
    | cells c t f =>
      simp only [hb] at h
      cases hs : a.spot with
      | none => rfl
      | some x => simp [hs] at h
    | _ => simp [hb] at h
theorem open_rows {α : Type} {t e k fuel : Nat} (f : α → Array Value) (hfk : ∀ x, (f x).size = k) (hk : 0 < k) (ht : Tryd.prog.underlying t = some (.slice e)) (hc : Tryd.prog.cellsOf e = k) {Q : α → Prop}
    (hel : ∀ (n : Nat) (cs' : List Value) (y : DataW H × List MemPlace), DataW.trod enc Tryd.prog w base spare held n e cs' = some y → ∃ x, cs' = (f x).toList ∧ Q x)
    {cs : List Value} {x0 : DataW H × List MemPlace} (h : DataW.trod enc Tryd.prog w base spare held fuel t cs = some x0) :
    ∃ (s : SlV) (l : List α), cs = [s.val] ∧ Sl w w.heap.size k s (l.map f) ∧ ∀ x ∈ l, Q x := by
  rcases open_slice ht h with ⟨rfl, _⟩ | ⟨a, len, cap, m, n, D, Pl, rfl, hb, hl, hm, hmm, hx, hi⟩
  · exact ⟨⟨none, 0, 0⟩, [], rfl, Sl.nil _ _ _, by simp⟩
  · have hlm : len ≤ m := by rw [hmm]; split <;> omega
    rcases Nat.eq_zero_or_pos len with rfl | hpos
    · exact ⟨⟨some a, 0, cap⟩, [], rfl, ⟨rfl, Nat.zero_le _, fun h0 => absurd h0 (by simp)⟩, by simp⟩
    · have hrow : ∀ i, i < len → ∃ x : α, Q x ∧ ∀ j, j < k → w.cell? ((a.add (i * k)).add j) = (f x)[j]? := by
        intro i hil
        obtain ⟨cs', h1, h2⟩ := hi i (by omega)
        rw [hc] at h1
        obtain ⟨_, _, h3⟩ := World.cells?_some h1
        obtain ⟨x, rfl, hq⟩ := hel _ _ _ h2
        exact ⟨x, hq, fun j hj => by rw [h3 j hj, Array.getElem?_toList]⟩
      obtain ⟨x0, _, hx0⟩ := hrow 0 hpos
      have hc0 := hx0 0 hk
      rw [Array.getElem?_eq_getElem (show 0 < (f x0).size by rw [hfk]; exact hk)] at hc0
      have hz : (a.add (0 * k)).add 0 = a := by simp [Addr.add]
      rw [hz] at hc0
      obtain ⟨hsp, hbl⟩ := cell_spot hc0
      obtain ⟨b, o, spot⟩ := a
      have hsp' : spot = none := hsp
      subst hsp'
      obtain ⟨l, hll, hlq⟩ := list_of hrow
      refine ⟨⟨some ⟨b, o, none⟩, len, cap⟩, l, rfl, ⟨by simp [hll], hl, fun _ => ⟨b, o, rfl, hbl, fun i r hr => ?_⟩⟩, fun x hx => ?_⟩
      · rw [List.getElem?_map] at hr
        obtain ⟨x, hx1, rfl⟩ := Option.map_eq_some_iff.1 hr
        refine row_of_cells (hfk x) hk fun j hj => ?_
        have := (hlq i x hx1).2 j hj
        rw [add_plain, add_plain] at this
        exact this
      · obtain ⟨i, hi1⟩ := List.getElem?_of_mem hx
        exact (hlq i x hi1).1
theorem open_stack {fuel : Nat} {cs : List Value} {x : DataW H × List MemPlace} (h : DataW.trod enc Tryd.prog w base spare held fuel 40 cs = some x) :
    ∃ (s : SlV) (l : List GEnt), cs = [s.val] ∧ Sl w w.heap.size 34 s (l.map GEnt.cells) := by
  obtain ⟨s, l, h1, h2, _⟩ := open_rows (Q := fun _ => True) GEnt.cells GEnt.cells_size (by decide) Tryd.underlying40 cells_of56 (fun n cs' y h => by obtain ⟨e, he⟩ := open_ent h; exact ⟨e, he, trivial⟩) h
  exact ⟨s, l, h1, h2⟩
theorem open_act {fuel : Nat} {cs : List Value} {x : DataW H × List MemPlace} (h : DataW.trod enc Tryd.prog w base spare held fuel 42 cs = some x) :
    ∃ a : GAct, cs = a.cells.toList ∧ ∃ st : List GEnt, Sl w w.heap.size 34 a.stack (st.map GEnt.cells) := by
  obtain ⟨xs, m, rfl, hx, hlen, hn, hf⟩ := DataW.trod_struct Tryd.underlying42 h
  rw [cells_of42] at hlen
  have hn7 : xs.length = 7 := hn
  have h0 : DataW.trod enc Tryd.prog w base spare held m 3 ((cs.drop 0).take (Tryd.prog.cellsOf 3)) = xs[0]? := hf 0 _ rfl
  have h1 : DataW.trod enc Tryd.prog w base spare held m 3 ((cs.drop 1).take (Tryd.prog.cellsOf 3)) = xs[1]? := hf 1 _ rfl
  have h2 : DataW.trod enc Tryd.prog w base spare held m 3 ((cs.drop 2).take (Tryd.prog.cellsOf 3)) = xs[2]? := hf 2 _ rfl
  have h3 : DataW.trod enc Tryd.prog w base spare held m 3 ((cs.drop 3).take (Tryd.prog.cellsOf 3)) = xs[3]? := hf 3 _ rfl
  have h4 : DataW.trod enc Tryd.prog w base spare held m 39 ((cs.drop 4).take (Tryd.prog.cellsOf 39)) = xs[4]? := hf 4 _ rfl
  have h5 : DataW.trod enc Tryd.prog w base spare held m 40 ((cs.drop 36).take (Tryd.prog.cellsOf 40)) = xs[5]? := hf 5 _ rfl
  have h6 : DataW.trod enc Tryd.prog w base spare held m 9 ((cs.drop 37).take (Tryd.prog.cellsOf 9)) = xs[6]? := hf 6 _ rfl
  clear hf h hx hn
  rw [cells_of3, List.getElem?_eq_getElem (show 0 < xs.length by omega)] at h0
  rw [cells_of3, List.getElem?_eq_getElem (show 1 < xs.length by omega)] at h1
  rw [cells_of3, List.getElem?_eq_getElem (show 2 < xs.length by omega)] at h2
  rw [cells_of3, List.getElem?_eq_getElem (show 3 < xs.length by omega)] at h3
  rw [cells_of39, List.getElem?_eq_getElem (show 4 < xs.length by omega)] at h4
  rw [cells_of40, List.getElem?_eq_getElem (show 5 < xs.length by omega)] at h5
  rw [cells_of9, List.getElem?_eq_getElem (show 6 < xs.length by omega)] at h6
  obtain ⟨n0, e0, _, _⟩ := DataW.trod_int Tryd.underlying3 h0
  obtain ⟨n1, e1, _, _⟩ := DataW.trod_int Tryd.underlying3 h1
  obtain ⟨n2, e2, _, _⟩ := DataW.trod_int Tryd.underlying3 h2
  obtain ⟨n3, e3, _, _⟩ := DataW.trod_int Tryd.underlying3 h3
  obtain ⟨g, e4⟩ := open_id h4
  obtain ⟨s, st, e5, hst⟩ := open_stack h5
  obtain ⟨d, e6, _, _⟩ := DataW.trod_string Tryd.underlying9 h6
  clear h0 h1 h2 h3 h4 h5 h6
  have c0 := take_one e0
  have c1 := take_one e1
  have c2 := take_one e2
  have c3 := take_one e3
  have c5 := take_one e5
  have c6 := take_one e6
  have hgs : g.cells.toList.length = 32 := by simp
  refine ⟨⟨n0, n1, n2, n3, g, s, d⟩, ?_, st, hst⟩
  apply List.ext_getElem?
  intro i
  rcases Nat.lt_or_ge i 38 with hi | hi
  · rw [show (GAct.cells ⟨n0, n1, n2, n3, g, s, d⟩).toList = [Value.int .i64 n0, Value.int .i64 n1, Value.int .i64 n2, Value.int .i64 n3] ++ (g.cells.toList ++ [Value.slice s.a s.len s.cap, Value.string d]) from by simp [GAct.cells]]
    rcases Nat.lt_or_ge i 4 with q | q
    · have : i = 0 ∨ i = 1 ∨ i = 2 ∨ i = 3 := by omega
      rcases this with rfl | rfl | rfl | rfl
      · rw [c0]; rfl
      · rw [c1]; rfl
      · rw [c2]; rfl
      · rw [c3]; rfl
    · rw [List.getElem?_append_right (by simp; omega)]
      rcases Nat.lt_or_ge i 36 with q2 | q2
      · obtain ⟨j, rfl⟩ : ∃ j, i = 4 + j := ⟨i - 4, by omega⟩
        have hj : j < 32 := by omega
        rw [take_mid e4 hgs hj, show 4 + j - [Value.int IntKind.i64 n0, Value.int .i64 n1, Value.int .i64 n2, Value.int .i64 n3].length = j by simp, List.getElem?_append_left (by omega)]
      · have : i = 36 ∨ i = 37 := by omega
        rcases this with rfl | rfl
        · rw [c5, List.getElem?_append_right (by simp)]; simp
        · rw [c6, List.getElem?_append_right (by simp)]; simp
  · rw [List.getElem?_eq_none (by omega), List.getElem?_eq_none (by simp; omega)]
theorem open_acts {fuel : Nat} {cs : List Value} {x : DataW H × List MemPlace} (h : DataW.trod enc Tryd.prog w base spare held fuel 22 cs = some x) :
    ∃ (s : SlV) (l : List PAct), cs = [s.val] ∧ RdActs w w.heap.size s l := by
  obtain ⟨s, gs, h1, h2, h3⟩ := open_rows (Q := fun a : GAct => ∃ st : List GEnt, Sl w w.heap.size 34 a.stack (st.map GEnt.cells)) GAct.cells GAct.cells_size (by decide) Tryd.underlying22 cells_of42 (fun n cs' y h => open_act h) h
  have hp : ∀ i, i < gs.length → ∃ p : PAct, ∀ a, gs[i]? = some a → RdAct w w.heap.size a p := by
    intro i hi
    obtain ⟨st, hst⟩ := h3 gs[i] (List.getElem_mem hi)
    refine ⟨gs[i].p st, fun a ha => ?_⟩
    rw [List.getElem?_eq_getElem hi] at ha
    cases ha
    exact ⟨hst, rfl⟩
  obtain ⟨l, hl, hq⟩ := list_of hp
  exact ⟨s, l, h1, gs, h2, hl.symm, fun i a p ha hpp => hq i p hpp a ha⟩
end
end Go.Proofs.YthbgmmliijpemaaDoor
