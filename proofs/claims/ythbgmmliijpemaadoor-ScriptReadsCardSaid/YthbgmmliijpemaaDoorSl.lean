/- A slice that reads as rows of cells; what is kept of it. No program is in sight but for the struct kit's words. -/
import Derived.Test.YthbgmmliijpemaaDoorKit
import Derived.Maps.AppendAt
import Derived.Deep.AppendLies
import Derived.RegionTactic
import Derived.OwnWalk
set_option linter.unusedVariables false
namespace Go.Proofs.YthbgmmliijpemaaDoor
open Go Go.RowKit

theorem below_drewN {B : Nat} {a w : World} (h : Below B a w) (n : Nat) : Below B a (w.drewN n) := ⟨h.os, h.tape, h.output, h.size, h.block⟩

/-- The slice s reads, in world w, as rows of k cells each; it lies below block B. -/
structure Sl (w : World) (B k : Nat) (s : SlV) (rows : List (Array Value)) : Prop where
  len : s.len = rows.length
  cap : s.len ≤ s.cap
  ad : 0 < s.len → ∃ b o, s.a = some ⟨b, o, none⟩ ∧ b < B ∧ ∀ i r, rows[i]? = some r → w.row? b (o + i * k) k = some r

section
variable {w w' : World} {B B' k : Nat} {s : SlV} {rows : List (Array Value)}
theorem Sl.keep (h : Sl w B k s rows) (hk : ∀ b, b < B → w'.heap[b]? = w.heap[b]?) : Sl w' B k s rows :=
  ⟨h.len, h.cap, fun h0 => by
    obtain ⟨b, o, e, hb, hr⟩ := h.ad h0
    exact ⟨b, o, e, hb, fun i r hi => (World.row?_block (hk b hb)).trans (hr i r hi)⟩⟩
theorem Sl.below (h : Sl w B k s rows) (hb : Below B' w w') (hB : B ≤ B') : Sl w' B k s rows := h.keep fun b hlt => hb.block b (by omega)
theorem Sl.more (h : Sl w B k s rows) (hB : B ≤ B') : Sl w B' k s rows :=
  ⟨h.len, h.cap, fun h0 => by
    obtain ⟨b, o, e, hb, hr⟩ := h.ad h0
    exact ⟨b, o, e, by omega, hr⟩⟩
theorem Sl.alloc (h : Sl w B k s rows) (hB : B ≤ w.heap.size) (ob : Obj) : Sl (w.alloc ob) B k s rows := h.keep fun b hb => Below.heap_alloc w ob b (by omega)
theorem Sl.drewN (h : Sl w B k s rows) (n : Nat) : Sl (w.drewN n) B k s rows := h.keep fun _ _ => rfl
theorem Sl.drew (h : Sl w B k s rows) : Sl w.drew B k s rows := h.keep fun _ _ => rfl
theorem Sl.nil (w : World) (B k : Nat) : Sl w B k ⟨none, 0, 0⟩ [] := ⟨rfl, Nat.le_refl _, fun h => absurd h (by decide)⟩
/-- The slice cut to its first n. -/
theorem Sl.take (h : Sl w B k s rows) (n : Nat) (hn : n ≤ s.len) : Sl w B k ⟨s.a, n, s.cap⟩ (rows.take n) :=
  ⟨by have := h.len; simp; omega, by have := h.cap; show n ≤ s.cap; omega, fun h0 => by
    obtain ⟨b, o, e, hb, hr⟩ := h.ad (by have : 0 < n := h0; omega)
    exact ⟨b, o, e, hb, fun i r hi => hr i r (by rw [List.getElem?_take] at hi; split at hi; exact hi; cases hi)⟩⟩
end

/-- Block g is just these cells, none frozen. -/
def Box (w : World) (g : Nat) (t : TypeId) (cs : Array Value) : Prop := w.heap[g]? = some (.cells cs t (0, 0))
section
variable {w w' : World} {g : Nat} {t : TypeId} {cs : Array Value}
theorem Box.lt (h : Box w g t cs) : g < w.heap.size := by
  rcases Nat.lt_or_ge g w.heap.size with hlt | hge
  · exact hlt
  · unfold Box at h; rw [Array.getElem?_eq_none hge] at h; cases h
theorem Box.cell (h : Box w g t cs) (i : Nat) : w.cell? ⟨g, i, none⟩ = cs[i]? := cell_of_row w g i cs t (0, 0) h
theorem Box.frozen (h : Box w g t cs) (i : Nat) : w.frozen? ⟨g, i, none⟩ = false := by
  unfold Box at h
  simp [World.frozen?, h]
theorem Box.row (h : Box w g t cs) (o n : Nat) : w.row? g o n = if o + n ≤ cs.size then some (cs.extract o (o + n)) else none := by
  unfold Box at h
  simp only [World.row?, h]
theorem Box.canPut (h : Box w g t cs) (o n : Nat) : w.canPut g o n = decide (o + n ≤ cs.size) := by
  unfold Box at h
  simp [World.canPut, h]
theorem Box.new (w : World) (t : TypeId) (cs : Array Value) : Box (w.alloc (.cells cs t)) w.heap.size t cs := heap_alloc_last w _
theorem Box.alloc (h : Box w g t cs) (o : Obj) : Box (w.alloc o) g t cs := (Below.heap_alloc w o g h.lt).trans h
theorem Box.drew (h : Box w g t cs) : Box w.drew g t cs := h
theorem Box.below (h : Box w g t cs) (hb : Below w.heap.size w w') : Box w' g t cs := (hb.block g h.lt).trans h
theorem Box.set_ (h : Box w g t cs) (i : Nat) (u : Value) : Box (w.setCell ⟨g, i, none⟩ u) g t (cs.setIfInBounds i u) := by
  unfold Box at h ⊢
  simp [World.setCell, Array.getElem?_modify, h]
theorem Box.put (h : Box w g t cs) (o : Nat) (vs : Array Value) : Box (w.putRow g o vs) g t (splice cs o vs) := by
  unfold Box at h ⊢
  simp [World.putRow, Array.getElem?_modify, h]
theorem Box.far (h : Box w g t cs) {p : Addr} (hp : g ≠ p.block) (u : Value) : Box (w.setCell p u) g t cs := (Below.heap_setCell w p u g hp).trans h
theorem Box.farRow (h : Box w g t cs) {b o : Nat} (hp : g ≠ b) (vs : Array Value) : Box (w.putRow b o vs) g t cs := (World.heap_putRow vs g hp).trans h
end
/-- Rows laid end to end. -/
def flat (rows : List (Array Value)) : List Value := (rows.map Array.toList).flatten
theorem flat_length {k : Nat} {rows : List (Array Value)} (hr : ∀ r ∈ rows, r.size = k) : (flat rows).length = rows.length * k := by
  induction rows with
  | nil => simp [flat]
  | cons r l ih =>
    have h1 := hr r (by simp)
    have h2 := ih fun x hx => hr x (by simp [hx])
    simp only [flat, List.map_cons, List.flatten_cons, List.length_append, Array.length_toList, List.length_cons] at *
    rw [h1, h2, Nat.add_mul, Nat.one_mul, Nat.add_comm]
theorem flat_append (a b : List (Array Value)) : flat (a ++ b) = flat a ++ flat b := by simp [flat]
theorem flat_one (r : Array Value) : flat [r] = r.toList := by simp [flat]
theorem flat_row {k : Nat} {rows : List (Array Value)} (hr : ∀ r ∈ rows, r.size = k) {i : Nat} {r : Array Value} (h : rows[i]? = some r) :
    ((flat rows).drop (i * k)).take k = r.toList := by
  induction rows generalizing i with
  | nil => simp at h
  | cons x l ih =>
    have h1 := hr x (by simp)
    cases i with
    | zero =>
      simp at h; subst h
      simp [flat, ← h1]
    | succ i =>
      have h2 := ih (fun y hy => hr y (by simp [hy])) (i := i) (by simpa using h)
      simp only [flat, List.map_cons, List.flatten_cons] at *
      rw [List.drop_append, show (i + 1) * k - x.toList.length = i * k by rw [Array.length_toList, h1, Nat.add_mul]; omega,
        List.drop_eq_nil_of_le (by rw [Array.length_toList, h1, Nat.add_mul]; omega), List.nil_append]
      exact h2

/-- The slice s is the call's own (from block 'base' on) and holds just these rows of k cells. -/
structure Own (w : World) (base e k : Nat) (s : SlV) (rows : List (Array Value)) : Prop where
  row : w.ownsRow base e k s.val rows.length (flat rows)
  size : ∀ r ∈ rows, r.size = k
  len : s.len = rows.length

theorem Own.sl {w : World} {base e k : Nat} {s : SlV} {rows : List (Array Value)} (h : Own w base e k s rows) : Sl w w.heap.size k s rows := by
  obtain ⟨⟨hl, hc⟩, hr, hn⟩ := h
  refine ⟨hn, ?_, fun h0 => ?_⟩
  · rcases hc with ⟨hv, h1⟩ | ⟨g, cap, cur, hv, _, _, hnc, _⟩
    · injection hv with _ h1 h2; omega
    · injection hv with _ h1 h2; omega
  · rcases hc with ⟨hv, h1⟩ | ⟨g, cap, cur, hv, hg, hh, hnc, hcap, hcur, htake⟩
    · omega
    · injection hv with ha h1 h2
      refine ⟨g, 0, ha, ?_, fun i r hi => ?_⟩
      · rcases Nat.lt_or_ge g w.heap.size with hlt | hge
        · exact hlt
        · rw [Array.getElem?_eq_none hge] at hh; cases hh
      · have hil : i < rows.length := (List.getElem?_eq_some_iff.1 hi).1
        have hle : i * k + k ≤ rows.length * k := by
          have := Nat.mul_le_mul_right k (show i + 1 ≤ rows.length by omega)
          rw [Nat.add_mul] at this; omega
        have hle2 : rows.length * k ≤ cap * k := Nat.mul_le_mul_right k hnc
        simp only [World.row?, hh, Nat.zero_add]
        rw [if_pos (by omega)]
        congr 1
        apply Array.ext'
        rw [Array.toList_extract, ← flat_row hr hi, ← htake]
        simp [List.drop_take, List.take_take]
        omega
theorem Own.alloc {w : World} {base e k : Nat} {s : SlV} {rows : List (Array Value)} (h : Own w base e k s rows) (ob : Obj) : Own (w.alloc ob) base e k s rows := ⟨h.row.alloc ob, h.size, h.len⟩
theorem Own.nil (w : World) (base e k : Nat) : Own w base e k ⟨none, 0, 0⟩ [] := ⟨World.ownsRow_nil w base e k, by simp, rfl⟩
theorem Own.kept {w w' : World} {base e k : Nat} {s : SlV} {rows : List (Array Value)} (h : Own w base e k s rows) (hb : Below w.heap.size w w') : Own w' base e k s rows :=
  ⟨h.row.kept (row := none) ⟨hb.os, hb.tape, hb.output, hb.size, fun i hi _ => hb.block i hi⟩ (by cases s.val.ownBlock <;> simp), h.size, h.len⟩
theorem Own.drewN {w : World} {base e k : Nat} {s : SlV} {rows : List (Array Value)} (h : Own w base e k s rows) (n : Nat) : Own (w.drewN n) base e k s rows := h.kept (below_drewN (Below.refl _ _) n)
theorem Own.mono {w : World} {base base' e k : Nat} {s : SlV} {rows : List (Array Value)} (h : Own w base e k s rows) (hb : base' ≤ base) : Own w base' e k s rows := by
  refine ⟨⟨h.row.1, ?_⟩, h.size, h.len⟩
  rcases h.row.2 with h1 | ⟨g, cap, cur, r1, r2, r3⟩
  · exact .inl h1
  · exact .inr ⟨g, cap, cur, r1, by omega, r3⟩

/-! ### append onto a row of the call's own -/
theorem Sl.lit {w : World} {e k : Nat} {r : Array Value} (hr : r.size = k) : Sl (w.alloc (.cells r e)) (w.heap.size + 1) k ⟨some ⟨w.heap.size, 0, none⟩, 1, 1⟩ [r] :=
  ⟨rfl, Nat.le_refl _, fun _ => ⟨w.heap.size, 0, rfl, by omega, fun i x hi => by
    match i, hi with
    | 0, hi =>
      simp at hi; subst hi
      rw [World.row?_alloc_at _ _ rfl, if_pos (by omega)]
      simp [← hr]⟩⟩
theorem Sl.cells {w : World} {B k : Nat} {s : SlV} {rows : List (Array Value)} (h : Sl w B k s rows) (hr : ∀ r ∈ rows, r.size = k) (hk : 0 < k) (h0 : 0 < s.len) :
    ∃ b o, s.a = some ⟨b, o, none⟩ ∧ b < B ∧ ∀ j u, (flat rows)[j]? = some u → w.cell? ((⟨b, o, none⟩ : Addr).add j) = some u := by
  obtain ⟨b, o, e, hb, hrow⟩ := h.ad h0
  refine ⟨b, o, e, hb, fun j u hu => ?_⟩
  have hj : j < rows.length * k := by
    rw [← flat_length hr]
    exact (List.getElem?_eq_some_iff.1 hu).1
  have hi : j / k < rows.length := Nat.div_lt_of_lt_mul (by rw [Nat.mul_comm]; exact hj)
  have hget : rows[j / k]? = some rows[j / k] := List.getElem?_eq_getElem hi
  have hc := World.row?_cell (hrow _ _ hget) (j % k) (Nat.mod_lt _ hk)
  rw [Addr.add_mid, show o + j = o + j / k * k + j % k by rw [Nat.add_assoc, Nat.div_add_mod']]
  rw [hc]
  have hf := flat_row hr hget
  have hm := Nat.mod_lt j hk
  have h1 : (((flat rows).drop (j / k * k)).take k)[j % k]? = some u := by
    rw [List.getElem?_take, if_pos hm, List.getElem?_drop, Nat.div_add_mod']
    exact hu
  rw [hf] at h1
  simpa using h1

section
variable {P : Program} (w : World)
theorem run_append_of_nil (base : Nat) (t ty e : TypeId) (i : TypeInfo) (size : Nat) (ht : P.underlying t = some (.slice e)) (hi : P.info? e = some i)
    (v : Value) (n : Nat) (xs : List Value) (hown : w.ownsRow base e size v n xs) (c : Nat) : (Builtin.append_ #[t, t] ty #[v, .slice none 0 c]).run P w = .ok v w := by
  rcases hown.2 with ⟨rfl, rfl⟩ | ⟨g, cap, cur, rfl, _, _, hnc, _⟩
  · simp [Builtin.append_, run_underlying ht, sizeOf, typeInfo, hi, Builtin.lenOf, Builtin.firstCells]
  · simp [Builtin.append_, run_underlying ht, sizeOf, typeInfo, hi, Builtin.lenOf, Builtin.firstCells, hnc, storeCells]

/-- A slice type's element, told once: its zero value, how many cells, how many bytes. -/
structure Elem (P : Program) (t e k bytes : Nat) : Prop where
  under : P.underlying t = some (.slice e)
  info : ∃ z : Value, (P.info? e).map (fun i => (i.zero, i.size, i.bytes)) = some (some z, k, bytes) ∧ z.cells.size = k
  pos : 0 < k

/-- 'append(s, x...)', s the call's own, x whatever reads as rows. -/
theorem run_append_rows {base t ty e k bytes : Nat} (E : Elem P t e k bytes) {s : SlV} {rows : List (Array Value)} (hown : Own w base e k s rows)
    {B : Nat} {x : SlV} {news : List (Array Value)} (hx : Sl w B k x news) (hr : ∀ r ∈ news, r.size = k) (h1 : ∀ r ∈ news, r.all (·.oneCell') = true)
    (hbytes : (rows.length + news.length) * bytes ≤ 140737488355328) (h63 : rows.length + news.length ≤ 9223372036854775807) (hbase : base ≤ w.heap.size) :
    ∃ (s' : SlV) (w' : World), (Builtin.append_ #[t, t] ty #[s.val, x.val]).run P w = .ok s'.val w' ∧ Own w' base e k s' (rows ++ news) ∧ w.grownBy w' s.val.ownBlock := by
  obtain ⟨hu, ⟨z, hinfo, hzs⟩, hk⟩ := E
  obtain ⟨i, hi, hz0, hz1, hz2⟩ := info_parts hinfo
  have h1' : ∀ u ∈ flat news, u.oneCell' = true := by
    intro u hu'
    simp only [flat, List.mem_flatten, List.mem_map] at hu'
    obtain ⟨l, ⟨r, hr', rfl⟩, hul⟩ := hu'
    exact (Array.all_eq_true_iff_forall_mem.1 (h1 r hr')) u (by simpa using hul)
  have hs := hown.len
  have hxl := hx.len
  have hall : ∀ r ∈ rows ++ news, r.size = k := by
    intro r hr'
    rcases List.mem_append.1 hr' with h | h
    · exact hown.size r h
    · exact hr r h
  rcases Nat.eq_zero_or_pos x.len with h0 | h0
  · have hn : news = [] := List.eq_nil_of_length_eq_zero (by omega)
    subst hn
    obtain ⟨A, n, c⟩ := x
    have h0' : n = 0 := h0
    subst h0'
    cases A with
    | none => exact ⟨s, w, run_append_of_nil w base t ty e i k hu hi _ _ _ hown.row c, by simpa using hown, ⟨rfl, rfl, rfl, Nat.le_refl _, fun _ _ _ => rfl⟩⟩
    | some a =>
      obtain ⟨v', w', hrun, h2, h3, h4, h5⟩ := run_append_own_at (P := P) w base t ty e i z k bytes hu hi hz0 hz1 hz2 hzs hk s.val rows.length (flat rows) hown.row a 0 c [] (by simp) (by simp) (by simp) (by unfold maxLen; simp at h63; omega) (by simpa using hbytes) hbase
      have hv : ∃ s' : SlV, v' = s'.val ∧ s'.len = rows.length := by
        rcases h2.2 with ⟨h, hh⟩ | ⟨g, cap, cur, h, _⟩
        · exact ⟨⟨none, 0, 0⟩, h, by simpa using hh.symm⟩
        · exact ⟨⟨some ⟨g, 0, none⟩, _, cap⟩, h, rfl⟩
      obtain ⟨s', rfl, hl⟩ := hv
      exact ⟨s', w', hrun, ⟨by simpa using h2, by simpa using hown.size, by simpa using hl⟩, h3⟩
  · obtain ⟨b, o, ha, _, hc⟩ := hx.cells hr hk h0
    obtain ⟨A, n, c⟩ := x
    have ha' : A = some ⟨b, o, none⟩ := ha
    subst ha'
    have hn : n = news.length := hxl
    subst hn
    obtain ⟨v', w', hrun, h2, h3, h4, h5⟩ := run_append_own_at (P := P) w base t ty e i z k bytes hu hi hz0 hz1 hz2 hzs hk s.val rows.length (flat rows) hown.row ⟨b, o, none⟩ news.length c (flat news) (flat_length hr) hc h1' (by unfold maxLen; omega) hbytes hbase
    have hv : ∃ s' : SlV, v' = s'.val ∧ s'.len = rows.length + news.length := by
      rcases h2.2 with ⟨h, hh⟩ | ⟨g, cap, cur, h, _⟩
      · exact ⟨⟨none, 0, 0⟩, h, hh.symm⟩
      · exact ⟨⟨some ⟨g, 0, none⟩, _, cap⟩, h, rfl⟩
    obtain ⟨s', rfl, hl⟩ := hv
    refine ⟨s', w', hrun, ⟨?_, hall, by simpa using hl⟩, h3⟩
    rw [flat_append, List.length_append]
    exact h2

/-- What an append onto the call's own leaves: the world below 'base' stands, and each block but the row's. -/
structure Put (base : Nat) (s : SlV) (w w' : World) : Prop where
  below : Below base w w'
  others : ∀ g, g < w.heap.size → s.val.ownBlock ≠ some g → w'.heap[g]? = w.heap[g]?
theorem Put.of_grown {base e k : Nat} {s : SlV} {rows : List (Array Value)} {w' : World} (hown : Own w base e k s rows) (hg : w.grownBy w' s.val.ownBlock) (hb : base ≤ w.heap.size) : Put base s w w' :=
  ⟨(Below.refl base w).grown hg hb fun g h => (hown.row.lt g h).1, fun g hlt hne => hg.block g hlt fun e => hne e.symm⟩

theorem wpList_append_rows {ops : Array Oper} {rest : List Oper} {o : Oper} {a : Act} {Q : Exit → Act → World → Prop} (hgd : o.guard = none) (x y : Operand) (t : TypeId)
    (ho : o.op = .call { callee := .builtin .append, args := #[x, y], argTypes := #[t, t] })
    {base e k bytes : Nat} (E : Elem P t e k bytes) (s : SlV) (rows : List (Array Value)) (hs : a.eval x = s.val) (hown : Own w base e k s rows)
    (B : Nat) (xv : SlV) (news : List (Array Value)) (hxv : a.eval y = xv.val) (hx : Sl w B k xv news) (hr : ∀ r ∈ news, r.size = k) (h1 : ∀ r ∈ news, r.all (·.oneCell') = true)
    (hbytes : (rows.length + news.length) * bytes ≤ 140737488355328) (h63 : rows.length + news.length ≤ 9223372036854775807) (hbase : base ≤ w.heap.size)
    (h : ∀ (s' : SlV) (w' : World), Own w' base e k s' (rows ++ news) → Put base s w w' → wpList P ops Q rest (a.put o.dst s'.val) w') : wpList P ops Q (o :: rest) a w := by
  refine wpList_plain hgd fun K hK => ?_
  obtain ⟨s', w', hrun, h2, h3⟩ := run_append_rows (P := P) w (ty := o.type) E hown hx hr h1 hbytes h63 hbase
  unfold Oper.wp execOp
  simp only [ho, resolve, invoke, builtin, Sem.run_bind, Sem.run_pure, Result.andThen_ok, List.map_toArray, List.map_cons, List.map_nil, hs, hxv, hrun]
  exact hK _ _ (h s' w' h2 (Put.of_grown w hown h3 hbase))
end
end Go.Proofs.YthbgmmliijpemaaDoor
