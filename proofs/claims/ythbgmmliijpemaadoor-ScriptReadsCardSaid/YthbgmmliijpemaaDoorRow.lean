/- Rows of cells in memory (a struct's, an array's): loaded and stored whole, by rules of the walk's simp; no program is in sight. -/
import Derived.WalkKit
import Derived.Deep.MidRow
import Derived.Deep.WholeRow
import Derived.Deep.Draws
import Derived.Laws.StructEq
import Derived.Laws.ResultCell
namespace Go
open Go.RowKit

/-- The n cells of block b from o on, if they are there. -/
def World.row? (w : World) (b o n : Nat) : Option (Array Value) :=
  match w.heap[b]? with
  | some (.cells cs _ _) => if o + n ≤ cs.size then some (cs.extract o (o + n)) else none
  | _ => none

/-- May n cells of block b from o on be written? -/
def World.canPut (w : World) (b o n : Nat) : Bool :=
  match w.heap[b]? with
  | some (.cells cs _ fr) => fr == (0, 0) && decide (o + n ≤ cs.size)
  | _ => false

def splice (c : Array Value) (o : Nat) (vs : Array Value) : Array Value := c.extract 0 o ++ vs ++ c.extract (o + vs.size) c.size

/-- Cells written from o on. -/
def World.putRow (w : World) (b o : Nat) (vs : Array Value) : World :=
  { w with heap := w.heap.modify b fun | .cells cs t f => .cells (splice cs o vs) t f | x => x }

theorem splice_full (c vs : Array Value) (h : c.size = vs.size) : splice c 0 vs = vs := by
  simp [splice, h]

@[simp] theorem size_splice (c vs : Array Value) (o : Nat) (h : o + vs.size ≤ c.size) : (splice c o vs).size = c.size := by
  simp [splice]; omega

section
variable {w w' : World} {b o n : Nat}
@[go_sem] theorem World.row?_alloc_at (c : Array Value) (t : TypeId) (hn : b = w.heap.size) :
    (w.alloc (.cells c t)).row? b o n = if o + n ≤ c.size then some (c.extract o (o + n)) else none := by
  subst hn
  simp only [World.row?, _root_.Go.heap_alloc_last]
@[go_sem] theorem World.row?_alloc_past (ob : Obj) (h : b < w.heap.size) : (w.alloc ob).row? b o n = w.row? b o n := by
  simp only [World.row?, _root_.Go.heap_alloc_old w ob h]
@[go_sem] theorem World.row?_drew : w.drew.row? b o n = w.row? b o n := rfl
@[go_sem] theorem World.row?_drewN (k : Nat) : (w.drewN k).row? b o n = w.row? b o n := rfl
theorem World.row?_block (h : w'.heap[b]? = w.heap[b]?) : w'.row? b o n = w.row? b o n := by
  simp [World.row?, h]
theorem World.row?_below {B : Nat} (h : Below B w w') (hb : b < B) : w'.row? b o n = w.row? b o n := World.row?_block (h.block b hb)
theorem World.row?_lt {cs : Array Value} (h : w.row? b o n = some cs) : b < w.heap.size := by
  unfold World.row? at h
  by_cases hb : b < w.heap.size
  · exact hb
  · rw [Array.getElem?_eq_none (by omega)] at h; cases h
theorem World.row?_size {cs : Array Value} (h : w.row? b o n = some cs) : cs.size = n := by
  unfold World.row? at h
  split at h
  · split at h
    · simp at h; subst h; simp; omega
    · cases h
  · cases h
theorem World.row?_cell {cs : Array Value} (h : w.row? b o n = some cs) (j : Nat) (hj : j < n) : w.cell? ⟨b, o + j, none⟩ = cs[j]? := by
  have hs := World.row?_size h
  unfold World.row? at h
  split at h
  · rename_i c t f heq
    split at h
    · simp at h; subst h
      rw [cell_of_row w b (o + j) c t f heq]
      simp [Array.getElem?_extract]; omega
    · cases h
  · cases h
theorem World.row?_rangeAt {cs : Array Value} (h : w.row? b o n = some cs) : w.rangeAt b o cs.toList := by
  intro j v hv
  have hs := World.row?_size h
  have hj : j < n := by
    have := (List.getElem?_eq_some_iff.1 hv).1
    simp at this; omega
  rw [World.row?_cell h j hj]
  simpa using hv

@[go_sem] theorem World.canPut_alloc_at (c : Array Value) (t : TypeId) (hn : b = w.heap.size) : (w.alloc (.cells c t)).canPut b o n = decide (o + n ≤ c.size) := by
  subst hn
  simp only [World.canPut, _root_.Go.heap_alloc_last]
  simp
@[go_sem] theorem World.canPut_alloc_past (ob : Obj) (h : b < w.heap.size) : (w.alloc ob).canPut b o n = w.canPut b o n := by
  simp only [World.canPut, _root_.Go.heap_alloc_old w ob h]
@[go_sem] theorem World.canPut_drew : w.drew.canPut b o n = w.canPut b o n := rfl

@[go_sem] theorem World.putRow_alloc_at (c : Array Value) (t : TypeId) (vs : Array Value) (hn : b = w.heap.size) :
    (w.alloc (.cells c t)).putRow b o vs = w.alloc (.cells (splice c o vs) t) := by
  subst hn
  simp only [World.putRow, World.alloc]
  congr 1
  apply Array.ext_getElem?
  intro i
  rw [Array.getElem?_modify]
  by_cases h : w.heap.size = i
  · subst h; simp
  · have h' : ¬ i = w.heap.size := fun e => h e.symm
    simp [h, h', Array.getElem?_push]
@[go_sem] theorem World.putRow_alloc_past (ob : Obj) (vs : Array Value) (h : b < w.heap.size) :
    (w.alloc ob).putRow b o vs = (w.putRow b o vs).alloc ob := by
  simp only [World.putRow, World.alloc]
  congr 1
  apply Array.ext_getElem?
  intro i
  rw [Array.getElem?_modify]
  by_cases hi : i = w.heap.size
  · subst hi
    have h1 : ¬ b = w.heap.size := by omega
    rw [if_neg h1, Array.getElem?_push, Array.getElem?_push, if_pos rfl, if_pos (by simp)]
  · simp [hi, Array.getElem?_push, Array.getElem?_modify]
@[go_sem] theorem World.putRow_drew (vs : Array Value) : w.drew.putRow b o vs = (w.putRow b o vs).drew := rfl
theorem World.heap_putRow (vs : Array Value) (k : Nat) (h : k ≠ b) : (w.putRow b o vs).heap[k]? = w.heap[k]? := by
  simp only [World.putRow, Array.getElem?_modify]
  rw [if_neg (fun e => h e.symm)]
@[go_sem, simp] theorem World.size_putRow (vs : Array Value) : (w.putRow b o vs).heap.size = w.heap.size := by simp [World.putRow]
end

theorem setCells_eq_putRow (b : Nat) (vs : List Value) : ∀ (o : Nat) (w : World), w.canPut b o vs.length = true → w.setCells b o vs = w.putRow b o vs.toArray := by
  induction vs with
  | nil =>
    intro o w _
    have e : (w.heap.modify b fun x => match x with | .cells cs t f => .cells (splice cs o #[]) t f | x => x) = w.heap := by
      apply Array.ext_getElem?
      intro i
      rw [Array.getElem?_modify]
      split
      · rename_i h; subst h
        cases hb : w.heap[b]? with
        | none => rfl
        | some x => cases x <;> simp [splice] <;> omega
      · rfl
    simp only [World.setCells, World.putRow]
    exact (congrArg (fun h => { w with heap := h }) e).symm
  | cons v vs ih =>
    intro o w h
    rw [World.setCells]
    cases hb : w.heap[b]? with
    | none => simp [World.canPut, hb] at h
    | some x =>
      cases x with
      | cells cs t fr =>
        have hp : fr = (0, 0) ∧ o + (vs.length + 1) ≤ cs.size := by simpa [World.canPut, hb] using h
        obtain ⟨rfl, hle⟩ := hp
        have hh : (w.setCell ⟨b, o, none⟩ v).heap[b]? = some (.cells (cs.setIfInBounds o v) t (0, 0)) := heap_setCell_same w b o cs t v hb
        rw [ih (o + 1) (w.setCell ⟨b, o, none⟩ v) (by simp [World.canPut, hh]; omega)]
        have hw : (w.setCell ⟨b, o, none⟩ v) = { w with heap := (w.setCell ⟨b, o, none⟩ v).heap } := rfl
        rw [hw]
        simp only [World.putRow]
        congr 1
        apply Array.ext_getElem?
        intro i
        by_cases hi : b = i
        · subst hi
          rw [Array.getElem?_modify, Array.getElem?_modify, hh, hb]
          simp only [if_true, Option.map_some, Option.some.injEq, Obj.cells.injEq, and_true]
          apply Array.ext_getElem?
          intro k
          simp only [splice, Array.getElem?_append, Array.getElem?_extract, Array.size_append, Array.size_extract, Array.size_setIfInBounds, Array.getElem?_setIfInBounds, List.size_toArray, List.length_cons, List.getElem?_toArray]
          by_cases k1 : k < o
          · grind
          · by_cases k2 : k = o
            · subst k2; grind
            · grind
        · rw [Array.getElem?_modify, Array.getElem?_modify, if_neg hi, if_neg hi]
          exact heap_setCell_other w ⟨b, o, none⟩ i v (fun e => hi e.symm)
      | _ => simp [World.canPut, hb] at h

theorem World.there_of_canPut {w : World} {b o n : Nat} (h : w.canPut b o n = true) : w.there b o n := by
  intro j hj
  cases hb : w.heap[b]? with
  | none => simp [World.canPut, hb] at h
  | some x =>
    cases x with
    | cells cs t fr =>
      have hp : fr = (0, 0) ∧ o + n ≤ cs.size := by simpa [World.canPut, hb] using h
      obtain ⟨rfl, hle⟩ := hp
      refine ⟨?_, frozen_of_row w b (o + j) cs t hb⟩
      rw [cell_of_row w b (o + j) cs t (0, 0) hb]
      simp; omega
    | _ => simp [World.canPut, hb] at h

section
variable {P : Program} {ty : TypeId} {d : TypeDesc} {n : Nat}
/-- A whole row is loaded. -/
theorem run_loadAt_row (hu : P.underlying ty = some d) (hd : d.isRow = true) (hi : (P.info? ty).map (·.size) = some n) (w : World) (b o : Nat) (h : (w.row? b o n).isSome = true) :
    (Instr.loadAt ty (.pointer (some ⟨b, o, none⟩))).run P w = .ok (.agg ((w.row? b o n).getD #[])) w := by
  obtain ⟨cs, hcs⟩ := Option.isSome_iff_exists.1 h
  have := run_loadAt_mid (P := P) w b o ty cs.toList d (World.row?_rangeAt hcs) hu hd (by rw [hi]; simp [World.row?_size hcs])
  simpa [hcs] using this

/-- A whole row is stored. -/
theorem run_storeAt_row (hi : (P.info? ty).map (·.size) = some n) (w : World) (b o : Nat) (cs : Array Value) (hs : cs.size = n) (h : w.canPut b o n = true) (h1 : cs.all (·.oneCell') = true) :
    (Instr.storeAt ty (.pointer (some ⟨b, o, none⟩)) (.agg cs)).run P w = .ok () (w.putRow b o cs) := by
  have := run_storeAt_mid (P := P) w b o ty cs (World.there_of_canPut (by rw [hs]; exact h)) (by rw [hi, hs]) h1
  rw [this, setCells_eq_putRow b cs.toList o w (by simpa [hs] using h)]

/-- A new variable of a row's type. -/
theorem run_alloc_row {z : Array Value} (hz : ∀ w, (zeroValue ty).run P w = .ok (.agg z) w) (w : World) (heap : Bool) (u : Value) (hh : heap = true) :
    (Instr.alloc ty heap u).run P w = .ok (.pointer (some ⟨w.heap.size, 0, none⟩)) (w.alloc (.cells z ty)) := by
  subst hh
  simp [Instr.alloc, hz, go_sem, Value.cells]
end
end Go

/-! ### At the whole operation: rules that strike ahead of the operands -/
namespace Go
/-- A pointer's block and offset. -/
def Value.pb : Value → Nat | .pointer (some a) => a.block | _ => 0
def Value.po : Value → Nat | .pointer (some a) => a.off | _ => 0
/-- A pointer that is not nil and bears no spot. -/
def Value.isPtr : Value → Bool | .pointer (some a) => a.spot == none | _ => false
def Value.isAgg : Value → Bool | .agg _ => true | _ => false
/-- Each is one cell. -/
def allOne (c : Array Value) : Bool := c.all (·.oneCell')
@[go_sem] theorem Value.pb_mk (a : Addr) : (Value.pointer (some a)).pb = a.block := rfl
@[go_sem] theorem Value.po_mk (a : Addr) : (Value.pointer (some a)).po = a.off := rfl
@[go_sem] theorem Value.isPtr_mk (b o : Nat) : (Value.pointer (some ⟨b, o, none⟩)).isPtr = true := rfl
@[go_sem] theorem Value.isAgg_mk (c : Array Value) : (Value.agg c).isAgg = true := rfl
@[go_sem] theorem Value.cells_agg (c : Array Value) : (Value.agg c).cells = c := rfl

section
variable {P : Program} {ty : TypeId} {d : TypeDesc} {n : Nat}
theorem exec_load_row (hu : P.underlying ty = some d) (hd : d.isRow = true) (hi : (P.info? ty).map (·.size) = some n) (ρ : Operand → Value) (dst : Option Tmp) (x : Operand) (t : TypeId) (pos : String) (after : Array Edge) (g : Option (Nat × Bool)) (w : World)
    (hp : (ρ x).isPtr = true) (h : (w.row? (ρ x).pb (ρ x).po n).isSome = true) :
    (execOp ρ ⟨dst, .load ty x, t, pos, after, g⟩).run P w = .ok (.value (.agg ((w.row? (ρ x).pb (ρ x).po n).getD #[]))) w := by
  generalize hv : ρ x = v at *
  match v, hp with
  | .pointer (some ⟨b, o, none⟩), _ =>
    have := run_loadAt_row hu hd hi w b o h
    simp only [execOp, hv, Sem.run_bind, this, Result.andThen_ok]
    rfl
theorem exec_store_row (hi : (P.info? ty).map (·.size) = some n) (ρ : Operand → Value) (dst : Option Tmp) (x y : Operand) (t : TypeId) (pos : String) (after : Array Edge) (g : Option (Nat × Bool)) (w : World)
    (hp : (ρ x).isPtr = true) (hy : (ρ y).isAgg = true) (hs : (ρ y).cells.size = n) (h1 : allOne (ρ y).cells = true) (h : w.canPut (ρ x).pb (ρ x).po n = true) :
    (execOp ρ ⟨dst, .store ty x y, t, pos, after, g⟩).run P w = .ok .skip (w.putRow (ρ x).pb (ρ x).po (ρ y).cells) := by
  generalize hv : ρ x = v at *
  generalize hu : ρ y = u at *
  match v, hp, u, hy with
  | .pointer (some ⟨b, o, none⟩), _, .agg cs, _ =>
    have := run_storeAt_row hi w b o cs hs h h1
    simp only [execOp, hv, hu, Sem.run_bind, this, Result.andThen_ok]
    rfl
theorem exec_alloc_row {z : Array Value} (hz : ∀ w, (zeroValue ty).run P w = .ok (.agg z) w) (ρ : Operand → Value) (dst : Option Tmp) (t : TypeId) (pos : String) (after : Array Edge) (g : Option (Nat × Bool)) (w : World) :
    (execOp ρ ⟨dst, .alloc ty, t, pos, after, g⟩).run P w = .ok (.value (.pointer (some ⟨w.heap.size, 0, none⟩))) (w.alloc (.cells z ty)) := by
  have := run_alloc_row hz w true (.tuple #[]) rfl
  simp only [execOp, Sem.run_bind, this, Result.andThen_ok]
  rfl
end
end Go

/-! ### Values that are built; arrays and structs compared -/
namespace Go
open Instr
section
variable {P : Program} {ty : TypeId} {n : Nat}
theorem mapM_sizes (w : World) : ∀ (fs : List Field) (ns : List (Nat × Nat)), (fs.length = ns.length) → (∀ (i : Nat) (f : Field) (p : Nat × Nat), fs[i]? = some f → ns[i]? = some p → f.offset = p.1 ∧ (P.info? f.type).map (·.size) = some p.2) →
    (fs.mapM fun f => (do pure (f.offset, ← sizeOf f.type) : Sem (Nat × Nat))).run P w = .ok ns w
  | [], [], _, _ => by simp [List.mapM_nil]
  | [], _ :: _, h, _ => by simp at h
  | _ :: _, [], h, _ => by simp at h
  | f :: fs, p :: ns, h, hf => by
    have ih := mapM_sizes w fs ns (by simpa using h) fun i g q hg hq => hf (i + 1) g q (by simpa using hg) (by simpa using hq)
    obtain ⟨h1, h2⟩ := hf 0 f p rfl rfl
    cases hq : P.info? f.type with
    | none => simp [hq] at h2
    | some i =>
      have hs : i.size = p.2 := by simpa [hq] using h2
      have hso : (sizeOf f.type).run P w = .ok p.2 w := by simp [sizeOf, typeInfo, hq, hs]
      rw [List.mapM_cons]
      simp only [Sem.run_bind, hso, Result.andThen_ok, Sem.run_pure, ih, h1]
/-- A struct's literal: its parts are filled in, one by one. -/
theorem run_build_struct {fs : Array Field} {z c : Array Value} (hu : P.underlying ty = some (.struct fs)) (hz : ∀ w, (zeroValue ty).run P w = .ok (.agg z) w) (places : List (Nat × Nat)) (hl : fs.toList.length = places.length)
    (hp : ∀ (i : Nat) (f : Field) (p : Nat × Nat), fs.toList[i]? = some f → places[i]? = some p → f.offset = p.1 ∧ (P.info? f.type).map (·.size) = some p.2)
    (parts : Array (Nat × Value)) (hf : fill (places[·]?) z parts.toList = some c) (w : World) : (Instr.build ty parts).run P w = .ok (.agg c) w := by
  have hm := mapM_sizes (P := P) w fs.toList places hl hp
  have hm' : (fs.mapM fun f => (do pure (f.offset, ← sizeOf f.type) : Sem (Nat × Nat))).run P w = .ok places.toArray w := by
    rw [Array.mapM_eq_mapM_toList, ← bind_pure_comp, Sem.run_bind, hm]
    rfl
  have hf' : fill (fun x => places.toArray[x]?) z parts.toList = some c := by simpa using hf
  simp only [Instr.build, Sem.run_bind, hz, Result.andThen_ok, run_underlying hu, Value.cells]
  rw [hm']
  simp only [Result.andThen_ok, hf', Sem.run_pure]
theorem fill_nil (pl : Nat → Option (Nat × Nat)) (c : Array Value) : fill pl c [] = some c := rfl
/-- A part of one cell. -/
theorem fill_one {pl : Nat → Option (Nat × Nat)} {c : Array Value} {i off : Nat} {v : Value} {rest : List (Nat × Value)} (hp : pl i = some (off, 1)) (hv : v.cells = #[v]) (ho : off + 1 ≤ c.size) :
    fill pl c ((i, v) :: rest) = fill pl (c.setIfInBounds off v) rest := by
  simp only [fill, hp, hv]
  rw [if_neg (by simp; omega)]
  simp
theorem foldl_splice (off : Nat) : ∀ (vs : List Value) (j : Nat) (c : Array Value), off + j + vs.length ≤ c.size →
    (vs.zipIdx j).foldl (fun cs (x : Value × Nat) => cs.setIfInBounds (off + x.2) x.1) c = splice c (off + j) vs.toArray
  | [], j, c, h => by
    simp only [List.zipIdx_nil, List.foldl_nil, splice]
    apply Array.ext_getElem?
    intro i
    simp only [Array.getElem?_append, Array.getElem?_extract, Array.size_append, Array.size_extract]
    grind
  | v :: vs, j, c, h => by
    rw [List.zipIdx_cons, List.foldl_cons]
    have ih := foldl_splice off vs (j + 1) (c.setIfInBounds (off + j) v) (by simp at h ⊢; omega)
    rw [ih]
    apply Array.ext_getElem?
    intro k
    simp only [splice, Array.getElem?_append, Array.getElem?_extract, Array.size_append, Array.size_extract, Array.size_setIfInBounds, Array.getElem?_setIfInBounds, List.size_toArray, List.length_cons, List.getElem?_toArray]
    simp at h
    by_cases k1 : k < off + j
    · grind
    · by_cases k2 : k = off + j
      · subst k2; grind
      · grind
/-- A part of several cells. -/
theorem fill_agg {pl : Nat → Option (Nat × Nat)} {c vs : Array Value} {i off m : Nat} {rest : List (Nat × Value)} (hp : pl i = some (off, m)) (hv : vs.size = m) (ho : off + m ≤ c.size) :
    fill pl c ((i, .agg vs) :: rest) = fill pl (splice c off vs) rest := by
  rw [fill]
  simp only [hp]
  split
  · rename_i h
    exfalso
    simp [Value.cells, hv] at h
    omega
  · have := foldl_splice off vs.toList 0 c (by simp; omega)
    simp only [Nat.add_zero, Array.toArray_toList] at this
    rw [← this]
    simp only [Value.cells]
    rw [← Array.foldl_toList, Array.toList_zipIdx]
end
end Go

/-! ### Arrays of bytes compared -/
namespace Go
/-- Bytes as cells. -/
def bcells (l : List UInt8) : Array Value := (l.map fun b => Value.int .u8 (b.toNat : Int)).toArray
theorem run_equalIn_bytes {P : Program} (w : World) (d : Nat) {t e : TypeId} {len : Nat} {k' : IntKind} (ht : P.underlying t = some (.array len e)) (he : P.underlying e = some (.int k')) (hs : (P.info? e).map (·.size) = some 1) (xs ys : List UInt8) (hx : xs.length = len) (hy : ys.length = len) :
    (Op.equalIn (d + 2) t (.agg (bcells xs)) (.agg (bcells ys))).run P w = .ok (decide (xs = ys)) w := by
  have hso : (sizeOf e).run P w = .ok 1 w := by
    cases hq : P.info? e with
    | none => simp [hq] at hs
    | some i => simp [hq] at hs; simp [sizeOf, typeInfo, hq, hs]
  have hpart : ∀ (l : List UInt8) (i : Nat), i < l.length → (part e (bcells l) i).run P w = .ok (.int .u8 ((l.getD i 0).toNat : Int)) w := by
    intro l i hi
    have hagg : (isAgg e).run P w = .ok false w := by simp [isAgg, run_underlying he]
    simp [part, hagg, bcells, hi]
  have heq : ∀ (a b : UInt8), (Op.equalIn (d + 1) e (.int .u8 (a.toNat : Int)) (.int .u8 (b.toNat : Int))).run P w = .ok (decide (a = b)) w := by
    intro a b
    rw [run_equalIn_int w d e .u8 k' _ _ he]
    congr 1
    rw [Bool.eq_iff_iff]
    simp [← UInt8.toNat_inj]
    omega
  rw [Op.equalIn]
  simp only [Sem.run_bind, run_underlying ht, Result.andThen_ok, hso, Nat.mul_one]
  rw [Std.Legacy.Range.forIn_eq_forIn_range']
  have key : ∀ (n s : Nat), s + n = len → (Sem.run P (forIn (List.range' s n 1) ((none, ()) : Option Bool × Unit) fun i __s => do
            let __do_lift ← part e (bcells xs) i
            let __do_lift_1 ← part e (bcells ys) i
            let __do_lift ← Op.equalIn (d + 1) e __do_lift __do_lift_1
            if (!__do_lift) = true then pure (ForInStep.done (some false, ())) else pure (ForInStep.yield (none, ()))) w) = .ok ((if xs.drop s = ys.drop s then none else some false), ()) w := by
    intro n
    induction n with
    | zero =>
      intro s hsn
      rw [List.drop_eq_nil_of_le (by omega), List.drop_eq_nil_of_le (by omega)]
      simp
    | succ n ih =>
      intro s hsn
      have h1 : s < xs.length := by omega
      have h2 : s < ys.length := by omega
      have ih' := ih (s + 1) (by omega)
      rw [List.range'_succ, List.forIn_cons]
      simp only [Sem.run_bind, hpart xs s h1, hpart ys s h2, Result.andThen_ok, heq]
      rw [List.drop_eq_getElem_cons h1, List.drop_eq_getElem_cons h2]
      simp only [List.getD_eq_getElem?_getD, List.getElem?_eq_getElem h1, List.getElem?_eq_getElem h2, Option.getD_some]
      by_cases he : xs[s] = ys[s]
      · simp only [he, decide_true, Bool.not_true, Bool.false_eq_true, if_false, Sem.run_pure, Result.andThen_ok, List.cons.injEq, true_and]
        exact ih'
      · simp only [he, decide_false, Bool.not_false, if_true, Sem.run_pure, Result.andThen_ok, List.cons.injEq, false_and, if_false]
  have := key len 0 (by omega)
  simp only [List.drop_zero] at this
  simp only [Std.Legacy.Range.size, Nat.sub_zero, Nat.add_sub_cancel, Nat.div_one]
  rw [this]
  by_cases h : xs = ys <;> simp [h]
theorem ba_inj (a b : ByteArray) : (a.toList = b.toList) = (a = b) := by
  rw [ByteArray.toList_eq, ByteArray.toList_eq]
  obtain ⟨⟨x⟩⟩ := a
  obtain ⟨⟨y⟩⟩ := b
  simp
@[go_sem] theorem Value.cells_int (k : IntKind) (n : Int) : (Value.int k n).cells = #[.int k n] := rfl
@[go_sem] theorem Value.cells_string (s : ByteArray) : (Value.string s).cells = #[.string s] := rfl
@[go_sem] theorem Value.cells_bool (b : Bool) : (Value.bool b).cells = #[.bool b] := rfl
@[go_sem] theorem Value.cells_slice (a : Option Addr) (l c : Nat) : (Value.slice a l c).cells = #[.slice a l c] := rfl
end Go

/-! ### Results that lie in a cell -/
namespace Go
theorem results_cell2 {P : Program} {fn : Func} {p u : Tmp} {ty : TypeId} (h : fn.results = #[.cell p ty, .tmp u]) (tmps : Array Value) (w : World) {ad : Addr} {v : Value}
    (hp : tmps.getD p undef = .pointer (some ad)) (hl : (loadVar ty ad).run P w = .ok v w) : (results fn tmps).run P w = .ok (.tuple #[v, tmps.getD u undef]) w := by
  rw [results_cell_tmp h, hp]
  simp [asAddr, hl]
theorem results_cell1 {P : Program} {fn : Func} {p : Tmp} {ty : TypeId} (h : fn.results = #[.cell p ty]) (tmps : Array Value) (w : World) {ad : Addr} {v : Value}
    (hp : tmps.getD p undef = .pointer (some ad)) (hl : (loadVar ty ad).run P w = .ok v w) : (results fn tmps).run P w = .ok v w := by
  have hp' : tmps[p]?.getD undef = .pointer (some ad) := by simpa using hp
  simp [results, h, hp', asAddr, hl]
end Go
