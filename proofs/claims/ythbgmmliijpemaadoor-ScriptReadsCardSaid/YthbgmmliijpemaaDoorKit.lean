/- The struct kit, printed by wip/tools/skit.py: each struct type as a Lean structure, its cells, and the rules of the walk's simp. -/
import Derived.Test.YthbgmmliijpemaaDoorProg
import Derived.Test.YthbgmmliijpemaaDoorRow
import Derived.Laws.StructEq
set_option linter.unusedSimpArgs false
set_option linter.unusedVariables false
namespace Go.Proofs.YthbgmmliijpemaaDoor
open Go Go.RowKit

/-- A slice's three words. -/
structure SlV where
  a : Option Addr
  len : Nat
  cap : Nat
abbrev SlV.val (s : SlV) : Value := .slice s.a s.len s.cap
theorem extract_mid {α : Type} (a b c : Array α) (n m : Nat) (hn : a.size = n) (hm : b.size = m) : ((a ++ b) ++ c).extract n (n + m) = b := by
  subst hn; subst hm
  apply Array.ext_getElem?
  intro i
  simp only [Array.getElem?_extract, Array.getElem?_append, Array.size_append]
  grind
theorem splice_mid (a b b' c : Array Value) (n : Nat) (hn : a.size = n) (hm : b.size = b'.size) : splice ((a ++ b) ++ c) n b' = (a ++ b') ++ c := by
  subst hn
  apply Array.ext_getElem?
  intro i
  simp only [splice, Array.getElem?_extract, Array.getElem?_append, Array.size_append, Array.size_extract]
  grind


/-- posthouse/api.Id: 32 bytes. -/
structure GId where
  l : List UInt8
  h : l.length = 32
deriving DecidableEq
theorem GId.ext' {x y : GId} (h : x.l = y.l) : x = y := by cases x; cases y; simp_all
def GId.cells (x : GId) : Array Value := bcells x.l
@[go_sem, simp] theorem GId.cells_size (x : GId) : x.cells.size = 32 := by simp [GId.cells, bcells, x.h]
@[go_sem] theorem GId.cells_all (x : GId) : x.cells.extract 0 32 = x.cells := by
  have := x.cells_size
  rw [← this]; simp
@[go_sem] theorem GId.splice_all (x y : GId) : splice x.cells 0 y.cells = y.cells := splice_full _ _ (by simp)
@[go_sem] theorem GId.oneCell (x : GId) : x.cells.all (·.oneCell') = true := by
  simp only [GId.cells, bcells, List.all_toArray, List.all_map, List.all_eq_true]
  intro v _; rfl
@[go_sem] theorem GId.ones (x : GId) : allOne x.cells = true := x.oneCell
def GId.zero : GId := ⟨List.replicate 32 0, by simp⟩
/-- A byte. -/
def GId.at (x : GId) (i : Nat) : UInt8 := x.l.getD i 0
theorem GId.cells_at (x : GId) (i : Nat) (h : i < 32) : x.cells[i]? = some (.int .u8 ((x.at i).toNat : Int)) := by
  have := x.h
  simp [GId.cells, bcells, GId.at, List.getD, show i < x.l.length by omega]
@[go_sem] theorem GId.cells_get (x : GId) (i : Nat) (h : i < x.cells.size) : x.cells[i]'h = .int .u8 ((x.at i).toNat : Int) := by
  have h2 := x.cells_at i (by simpa using h)
  rw [Array.getElem?_eq_getElem h] at h2
  exact Option.some.inj h2
def GId.set (x : GId) (i : Nat) (b : UInt8) : GId := ⟨x.l.set i b, by simp [x.h]⟩
theorem GId.cells_set (x : GId) (i : Nat) (b : UInt8) : x.cells.setIfInBounds i (.int .u8 (b.toNat : Int)) = (x.set i b).cells := by
  simp [GId.cells, bcells, GId.set, List.map_set]
theorem GId.at_set (x : GId) (i j : Nat) (b : UInt8) (h : j < 32) : (x.set i b).at j = if i = j then b else x.at j := by
  have := x.h
  simp only [GId.at, GId.set, List.getD, List.getElem?_set]
  split
  · rename_i e; subst e; simp [show i < x.l.length by omega]
  · rfl
theorem GId.ext_at {x y : GId} (h : ∀ i, i < 32 → x.at i = y.at i) : x = y := by
  apply GId.ext'
  have hx := x.h
  have hy := y.h
  apply List.ext_getElem (by omega)
  intro i h1 h2
  have := h i (by omega)
  simpa [GId.at, List.getD, h1, h2] using this

theorem GId.zero_cells : (#[Value.int .u8 0, Value.int .u8 0, Value.int .u8 0, Value.int .u8 0, Value.int .u8 0, Value.int .u8 0, Value.int .u8 0, Value.int .u8 0, Value.int .u8 0, Value.int .u8 0, Value.int .u8 0, Value.int .u8 0, Value.int .u8 0, Value.int .u8 0, Value.int .u8 0, Value.int .u8 0, Value.int .u8 0, Value.int .u8 0, Value.int .u8 0, Value.int .u8 0, Value.int .u8 0, Value.int .u8 0, Value.int .u8 0, Value.int .u8 0, Value.int .u8 0, Value.int .u8 0, Value.int .u8 0, Value.int .u8 0, Value.int .u8 0, Value.int .u8 0, Value.int .u8 0, Value.int .u8 0] : Array Value) = GId.zero.cells := by rfl
theorem GId.info : (Tryd.prog.info? 39).map (fun i => (i.zero, i.size)) = some (some (.agg GId.zero.cells), 32) := by kernel_rfl
theorem GId.size_ : (Tryd.prog.info? 39).map (·.size) = some 32 := (zero_of_info GId.info).2
theorem GId.zero_ (w : World) : (zeroValue 39).run Tryd.prog w = .ok (.agg GId.zero.cells) w := (zero_of_info GId.info).1 w
theorem GId.run_load (w : World) (b o : Nat) (h : (w.row? b o 32).isSome = true) :
    (loadVar 39 ⟨b, o, none⟩).run Tryd.prog w = .ok (.agg ((w.row? b o 32).getD #[])) w := by
  have := run_loadAt_row Tryd.underlying39 rfl GId.size_ w b o h
  simpa [Instr.loadAt, Instr.sureAddr, Sem.run_bind] using this
theorem GId.load_row {w : World} {b o : Nat} {cs : Array Value} (h : w.row? b o 32 = some cs) : (loadVar 39 ⟨b, o, none⟩).run Tryd.prog w = .ok (.agg cs) w := by
  have := GId.run_load w b o (by rw [h]; rfl)
  rw [h] at this
  exact this
@[go_sem ↓] theorem GId.exec_load (ρ : Operand → Value) (dst : Option Tmp) (x : Operand) (t : TypeId) (pos : String) (after : Array Edge) (g : Option (Nat × Bool)) (w : World)
    (hp : (ρ x).isPtr = true) (h : (w.row? (ρ x).pb (ρ x).po 32).isSome = true) :
    (execOp ρ ⟨dst, .load 39 x, t, pos, after, g⟩).run Tryd.prog w = .ok (.value (.agg ((w.row? (ρ x).pb (ρ x).po 32).getD #[]))) w :=
  exec_load_row Tryd.underlying39 rfl GId.size_ ρ dst x t pos after g w hp h
@[go_sem ↓] theorem GId.exec_store (ρ : Operand → Value) (dst : Option Tmp) (x y : Operand) (t : TypeId) (pos : String) (after : Array Edge) (g : Option (Nat × Bool)) (w : World)
    (hp : (ρ x).isPtr = true) (hy : (ρ y).isAgg = true) (hs : (ρ y).cells.size = 32) (h1 : allOne (ρ y).cells = true) (h : w.canPut (ρ x).pb (ρ x).po 32 = true) :
    (execOp ρ ⟨dst, .store 39 x y, t, pos, after, g⟩).run Tryd.prog w = .ok .skip (w.putRow (ρ x).pb (ρ x).po (ρ y).cells) :=
  exec_store_row GId.size_ ρ dst x y t pos after g w hp hy hs h1 h
@[go_sem ↓] theorem GId.exec_alloc (ρ : Operand → Value) (dst : Option Tmp) (t : TypeId) (pos : String) (after : Array Edge) (g : Option (Nat × Bool)) (w : World) :
    (execOp ρ ⟨dst, .alloc 39, t, pos, after, g⟩).run Tryd.prog w = .ok (.value (.pointer (some ⟨w.heap.size, 0, none⟩))) (w.alloc (.cells GId.zero.cells 39)) :=
  exec_alloc_row GId.zero_ ρ dst t pos after g w

/-- posthouse/api.Entry -/
structure GEnt where
  kind : Int
  id : GId
  host : Int
deriving DecidableEq
def GEnt.cells (x : GEnt) : Array Value := #[Value.int .i64 x.kind] ++ x.id.cells ++ #[Value.int .i64 x.host]
@[go_sem, simp] theorem GEnt.cells_size (x : GEnt) : x.cells.size = 34 := by simp [GEnt.cells]
@[go_sem] theorem GEnt.cells_all (x : GEnt) : x.cells.extract 0 34 = x.cells := by
  have := x.cells_size
  rw [← this]; simp
@[go_sem] theorem GEnt.splice_all (x y : GEnt) : splice x.cells 0 y.cells = y.cells := splice_full _ _ (by simp)
@[go_sem] theorem GEnt.get_kind (x : GEnt) (h : 0 < x.cells.size) : x.cells[0] = Value.int .i64 x.kind := by
  have := Array.getElem?_eq_getElem h
  rw [show x.cells[0]? = some (Value.int .i64 x.kind) by simp [GEnt.cells, Array.getElem?_append, -Array.append_singleton]] at this
  exact (Option.some.inj this).symm
@[go_sem] theorem GEnt.cells_kind (x : GEnt) : x.cells[0]? = some (Value.int .i64 x.kind) := by simp [GEnt.cells, Array.getElem?_append, -Array.append_singleton]
@[go_sem] theorem GEnt.set_kind (x : GEnt) (v : Int) : x.cells.setIfInBounds 0 (Value.int .i64 v) = ({ x with kind := v } : GEnt).cells := by simp [GEnt.cells, Array.setIfInBounds_append, -Array.append_singleton]
theorem GEnt.cells_mid_id (x : GEnt) : x.cells = (((#[Value.int .i64 x.kind]) ++ x.id.cells) ++ (#[Value.int .i64 x.host])) := by simp [GEnt.cells]
@[go_sem] theorem GEnt.cells_id (x : GEnt) : x.cells.extract 1 33 = x.id.cells := by rw [x.cells_mid_id]; exact extract_mid _ _ _ 1 32 (by simp) (by simp)
@[go_sem] theorem GEnt.set_id (x : GEnt) (y : GId) : splice x.cells 1 y.cells = ({ x with id := y } : GEnt).cells := by
  rw [x.cells_mid_id, splice_mid _ _ _ _ 1 (by simp) (by simp), ({ x with id := y } : GEnt).cells_mid_id]
@[go_sem] theorem GEnt.get_host (x : GEnt) (h : 33 < x.cells.size) : x.cells[33] = Value.int .i64 x.host := by
  have := Array.getElem?_eq_getElem h
  rw [show x.cells[33]? = some (Value.int .i64 x.host) by simp [GEnt.cells, Array.getElem?_append, -Array.append_singleton]] at this
  exact (Option.some.inj this).symm
@[go_sem] theorem GEnt.cells_host (x : GEnt) : x.cells[33]? = some (Value.int .i64 x.host) := by simp [GEnt.cells, Array.getElem?_append, -Array.append_singleton]
@[go_sem] theorem GEnt.set_host (x : GEnt) (v : Int) : x.cells.setIfInBounds 33 (Value.int .i64 v) = ({ x with host := v } : GEnt).cells := by simp [GEnt.cells, Array.setIfInBounds_append, -Array.append_singleton]
@[go_sem] theorem GEnt.oneCell (x : GEnt) : x.cells.all (·.oneCell') = true := by
  simp only [GEnt.cells, Array.all_append, GId.oneCell, Bool.true_and, Bool.and_true]
  simp [Value.oneCell']
@[go_sem] theorem GEnt.ones (x : GEnt) : allOne x.cells = true := x.oneCell
def GEnt.zero : GEnt := { kind := 0, id := GId.zero, host := 0 }
theorem GEnt.info : (Tryd.prog.info? 56).map (fun i => (i.zero, i.size)) = some (some (.agg GEnt.zero.cells), 34) := by kernel_rfl
theorem GEnt.size_ : (Tryd.prog.info? 56).map (·.size) = some 34 := (zero_of_info GEnt.info).2
theorem GEnt.zero_ (w : World) : (zeroValue 56).run Tryd.prog w = .ok (.agg GEnt.zero.cells) w := (zero_of_info GEnt.info).1 w
theorem GEnt.run_load (w : World) (b o : Nat) (h : (w.row? b o 34).isSome = true) :
    (loadVar 56 ⟨b, o, none⟩).run Tryd.prog w = .ok (.agg ((w.row? b o 34).getD #[])) w := by
  have := run_loadAt_row Tryd.underlying56 rfl GEnt.size_ w b o h
  simpa [Instr.loadAt, Instr.sureAddr, Sem.run_bind] using this
theorem GEnt.load_row {w : World} {b o : Nat} {cs : Array Value} (h : w.row? b o 34 = some cs) : (loadVar 56 ⟨b, o, none⟩).run Tryd.prog w = .ok (.agg cs) w := by
  have := GEnt.run_load w b o (by rw [h]; rfl)
  rw [h] at this
  exact this
@[go_sem ↓] theorem GEnt.exec_load (ρ : Operand → Value) (dst : Option Tmp) (x : Operand) (t : TypeId) (pos : String) (after : Array Edge) (g : Option (Nat × Bool)) (w : World)
    (hp : (ρ x).isPtr = true) (h : (w.row? (ρ x).pb (ρ x).po 34).isSome = true) :
    (execOp ρ ⟨dst, .load 56 x, t, pos, after, g⟩).run Tryd.prog w = .ok (.value (.agg ((w.row? (ρ x).pb (ρ x).po 34).getD #[]))) w :=
  exec_load_row Tryd.underlying56 rfl GEnt.size_ ρ dst x t pos after g w hp h
@[go_sem ↓] theorem GEnt.exec_store (ρ : Operand → Value) (dst : Option Tmp) (x y : Operand) (t : TypeId) (pos : String) (after : Array Edge) (g : Option (Nat × Bool)) (w : World)
    (hp : (ρ x).isPtr = true) (hy : (ρ y).isAgg = true) (hs : (ρ y).cells.size = 34) (h1 : allOne (ρ y).cells = true) (h : w.canPut (ρ x).pb (ρ x).po 34 = true) :
    (execOp ρ ⟨dst, .store 56 x y, t, pos, after, g⟩).run Tryd.prog w = .ok .skip (w.putRow (ρ x).pb (ρ x).po (ρ y).cells) :=
  exec_store_row GEnt.size_ ρ dst x y t pos after g w hp hy hs h1 h
@[go_sem ↓] theorem GEnt.exec_alloc (ρ : Operand → Value) (dst : Option Tmp) (t : TypeId) (pos : String) (after : Array Edge) (g : Option (Nat × Bool)) (w : World) :
    (execOp ρ ⟨dst, .alloc 56, t, pos, after, g⟩).run Tryd.prog w = .ok (.value (.pointer (some ⟨w.heap.size, 0, none⟩))) (w.alloc (.cells GEnt.zero.cells 56)) :=
  exec_alloc_row GEnt.zero_ ρ dst t pos after g w

/-- posthouse/api.Act -/
structure GAct where
  kind : Int
  no : Int
  to : Int
  n : Int
  id : GId
  stack : SlV
  data : ByteArray
def GAct.cells (x : GAct) : Array Value := #[Value.int .i64 x.kind, Value.int .i64 x.no, Value.int .i64 x.to, Value.int .i64 x.n] ++ x.id.cells ++ #[Value.slice x.stack.a x.stack.len x.stack.cap, Value.string x.data]
@[go_sem, simp] theorem GAct.cells_size (x : GAct) : x.cells.size = 38 := by simp [GAct.cells]
@[go_sem] theorem GAct.cells_all (x : GAct) : x.cells.extract 0 38 = x.cells := by
  have := x.cells_size
  rw [← this]; simp
@[go_sem] theorem GAct.splice_all (x y : GAct) : splice x.cells 0 y.cells = y.cells := splice_full _ _ (by simp)
@[go_sem] theorem GAct.get_kind (x : GAct) (h : 0 < x.cells.size) : x.cells[0] = Value.int .i64 x.kind := by
  have := Array.getElem?_eq_getElem h
  rw [show x.cells[0]? = some (Value.int .i64 x.kind) by simp [GAct.cells, Array.getElem?_append, -Array.append_singleton]] at this
  exact (Option.some.inj this).symm
@[go_sem] theorem GAct.cells_kind (x : GAct) : x.cells[0]? = some (Value.int .i64 x.kind) := by simp [GAct.cells, Array.getElem?_append, -Array.append_singleton]
@[go_sem] theorem GAct.set_kind (x : GAct) (v : Int) : x.cells.setIfInBounds 0 (Value.int .i64 v) = ({ x with kind := v } : GAct).cells := by simp [GAct.cells, Array.setIfInBounds_append, -Array.append_singleton]
@[go_sem] theorem GAct.get_no (x : GAct) (h : 1 < x.cells.size) : x.cells[1] = Value.int .i64 x.no := by
  have := Array.getElem?_eq_getElem h
  rw [show x.cells[1]? = some (Value.int .i64 x.no) by simp [GAct.cells, Array.getElem?_append, -Array.append_singleton]] at this
  exact (Option.some.inj this).symm
@[go_sem] theorem GAct.cells_no (x : GAct) : x.cells[1]? = some (Value.int .i64 x.no) := by simp [GAct.cells, Array.getElem?_append, -Array.append_singleton]
@[go_sem] theorem GAct.set_no (x : GAct) (v : Int) : x.cells.setIfInBounds 1 (Value.int .i64 v) = ({ x with no := v } : GAct).cells := by simp [GAct.cells, Array.setIfInBounds_append, -Array.append_singleton]
@[go_sem] theorem GAct.get_to (x : GAct) (h : 2 < x.cells.size) : x.cells[2] = Value.int .i64 x.to := by
  have := Array.getElem?_eq_getElem h
  rw [show x.cells[2]? = some (Value.int .i64 x.to) by simp [GAct.cells, Array.getElem?_append, -Array.append_singleton]] at this
  exact (Option.some.inj this).symm
@[go_sem] theorem GAct.cells_to (x : GAct) : x.cells[2]? = some (Value.int .i64 x.to) := by simp [GAct.cells, Array.getElem?_append, -Array.append_singleton]
@[go_sem] theorem GAct.set_to (x : GAct) (v : Int) : x.cells.setIfInBounds 2 (Value.int .i64 v) = ({ x with to := v } : GAct).cells := by simp [GAct.cells, Array.setIfInBounds_append, -Array.append_singleton]
@[go_sem] theorem GAct.get_n (x : GAct) (h : 3 < x.cells.size) : x.cells[3] = Value.int .i64 x.n := by
  have := Array.getElem?_eq_getElem h
  rw [show x.cells[3]? = some (Value.int .i64 x.n) by simp [GAct.cells, Array.getElem?_append, -Array.append_singleton]] at this
  exact (Option.some.inj this).symm
@[go_sem] theorem GAct.cells_n (x : GAct) : x.cells[3]? = some (Value.int .i64 x.n) := by simp [GAct.cells, Array.getElem?_append, -Array.append_singleton]
@[go_sem] theorem GAct.set_n (x : GAct) (v : Int) : x.cells.setIfInBounds 3 (Value.int .i64 v) = ({ x with n := v } : GAct).cells := by simp [GAct.cells, Array.setIfInBounds_append, -Array.append_singleton]
theorem GAct.cells_mid_id (x : GAct) : x.cells = (((#[Value.int .i64 x.kind, Value.int .i64 x.no, Value.int .i64 x.to, Value.int .i64 x.n]) ++ x.id.cells) ++ (#[Value.slice x.stack.a x.stack.len x.stack.cap, Value.string x.data])) := by simp [GAct.cells]
@[go_sem] theorem GAct.cells_id (x : GAct) : x.cells.extract 4 36 = x.id.cells := by rw [x.cells_mid_id]; exact extract_mid _ _ _ 4 32 (by simp) (by simp)
@[go_sem] theorem GAct.set_id (x : GAct) (y : GId) : splice x.cells 4 y.cells = ({ x with id := y } : GAct).cells := by
  rw [x.cells_mid_id, splice_mid _ _ _ _ 4 (by simp) (by simp), ({ x with id := y } : GAct).cells_mid_id]
@[go_sem] theorem GAct.get_stack (x : GAct) (h : 36 < x.cells.size) : x.cells[36] = Value.slice x.stack.a x.stack.len x.stack.cap := by
  have := Array.getElem?_eq_getElem h
  rw [show x.cells[36]? = some (Value.slice x.stack.a x.stack.len x.stack.cap) by simp [GAct.cells, Array.getElem?_append, -Array.append_singleton]] at this
  exact (Option.some.inj this).symm
@[go_sem] theorem GAct.cells_stack (x : GAct) : x.cells[36]? = some (Value.slice x.stack.a x.stack.len x.stack.cap) := by simp [GAct.cells, Array.getElem?_append, -Array.append_singleton]
@[go_sem] theorem GAct.set_stack (x : GAct) (a : Option Addr) (l c : Nat) : x.cells.setIfInBounds 36 (.slice a l c) = ({ x with stack := ⟨a, l, c⟩ } : GAct).cells := by simp [GAct.cells, Array.setIfInBounds_append, -Array.append_singleton]
@[go_sem] theorem GAct.get_data (x : GAct) (h : 37 < x.cells.size) : x.cells[37] = Value.string x.data := by
  have := Array.getElem?_eq_getElem h
  rw [show x.cells[37]? = some (Value.string x.data) by simp [GAct.cells, Array.getElem?_append, -Array.append_singleton]] at this
  exact (Option.some.inj this).symm
@[go_sem] theorem GAct.cells_data (x : GAct) : x.cells[37]? = some (Value.string x.data) := by simp [GAct.cells, Array.getElem?_append, -Array.append_singleton]
@[go_sem] theorem GAct.set_data (x : GAct) (v : ByteArray) : x.cells.setIfInBounds 37 (Value.string v) = ({ x with data := v } : GAct).cells := by simp [GAct.cells, Array.setIfInBounds_append, -Array.append_singleton]
@[go_sem] theorem GAct.oneCell (x : GAct) : x.cells.all (·.oneCell') = true := by
  simp only [GAct.cells, Array.all_append, GId.oneCell, Bool.true_and, Bool.and_true]
  simp [Value.oneCell']
@[go_sem] theorem GAct.ones (x : GAct) : allOne x.cells = true := x.oneCell
def GAct.zero : GAct := { kind := 0, no := 0, to := 0, n := 0, id := GId.zero, stack := ⟨none, 0, 0⟩, data := ⟨#[]⟩ }
theorem GAct.info : (Tryd.prog.info? 42).map (fun i => (i.zero, i.size)) = some (some (.agg GAct.zero.cells), 38) := by kernel_rfl
theorem GAct.size_ : (Tryd.prog.info? 42).map (·.size) = some 38 := (zero_of_info GAct.info).2
theorem GAct.zero_ (w : World) : (zeroValue 42).run Tryd.prog w = .ok (.agg GAct.zero.cells) w := (zero_of_info GAct.info).1 w
theorem GAct.run_load (w : World) (b o : Nat) (h : (w.row? b o 38).isSome = true) :
    (loadVar 42 ⟨b, o, none⟩).run Tryd.prog w = .ok (.agg ((w.row? b o 38).getD #[])) w := by
  have := run_loadAt_row Tryd.underlying42 rfl GAct.size_ w b o h
  simpa [Instr.loadAt, Instr.sureAddr, Sem.run_bind] using this
theorem GAct.load_row {w : World} {b o : Nat} {cs : Array Value} (h : w.row? b o 38 = some cs) : (loadVar 42 ⟨b, o, none⟩).run Tryd.prog w = .ok (.agg cs) w := by
  have := GAct.run_load w b o (by rw [h]; rfl)
  rw [h] at this
  exact this
@[go_sem ↓] theorem GAct.exec_load (ρ : Operand → Value) (dst : Option Tmp) (x : Operand) (t : TypeId) (pos : String) (after : Array Edge) (g : Option (Nat × Bool)) (w : World)
    (hp : (ρ x).isPtr = true) (h : (w.row? (ρ x).pb (ρ x).po 38).isSome = true) :
    (execOp ρ ⟨dst, .load 42 x, t, pos, after, g⟩).run Tryd.prog w = .ok (.value (.agg ((w.row? (ρ x).pb (ρ x).po 38).getD #[]))) w :=
  exec_load_row Tryd.underlying42 rfl GAct.size_ ρ dst x t pos after g w hp h
@[go_sem ↓] theorem GAct.exec_store (ρ : Operand → Value) (dst : Option Tmp) (x y : Operand) (t : TypeId) (pos : String) (after : Array Edge) (g : Option (Nat × Bool)) (w : World)
    (hp : (ρ x).isPtr = true) (hy : (ρ y).isAgg = true) (hs : (ρ y).cells.size = 38) (h1 : allOne (ρ y).cells = true) (h : w.canPut (ρ x).pb (ρ x).po 38 = true) :
    (execOp ρ ⟨dst, .store 42 x y, t, pos, after, g⟩).run Tryd.prog w = .ok .skip (w.putRow (ρ x).pb (ρ x).po (ρ y).cells) :=
  exec_store_row GAct.size_ ρ dst x y t pos after g w hp hy hs h1 h
@[go_sem ↓] theorem GAct.exec_alloc (ρ : Operand → Value) (dst : Option Tmp) (t : TypeId) (pos : String) (after : Array Edge) (g : Option (Nat × Bool)) (w : World) :
    (execOp ρ ⟨dst, .alloc 42, t, pos, after, g⟩).run Tryd.prog w = .ok (.value (.pointer (some ⟨w.heap.size, 0, none⟩))) (w.alloc (.cells GAct.zero.cells 42)) :=
  exec_alloc_row GAct.zero_ ρ dst t pos after g w

/-- posthouse/script.shape -/
structure GShape where
  word : ByteArray
  has : ByteArray
deriving DecidableEq
def GShape.cells (x : GShape) : Array Value := #[Value.string x.word, Value.string x.has]
@[go_sem, simp] theorem GShape.cells_size (x : GShape) : x.cells.size = 2 := by simp [GShape.cells]
@[go_sem] theorem GShape.cells_all (x : GShape) : x.cells.extract 0 2 = x.cells := by
  have := x.cells_size
  rw [← this]; simp
@[go_sem] theorem GShape.splice_all (x y : GShape) : splice x.cells 0 y.cells = y.cells := splice_full _ _ (by simp)
@[go_sem] theorem GShape.get_word (x : GShape) (h : 0 < x.cells.size) : x.cells[0] = Value.string x.word := by
  have := Array.getElem?_eq_getElem h
  rw [show x.cells[0]? = some (Value.string x.word) by simp [GShape.cells, Array.getElem?_append, -Array.append_singleton]] at this
  exact (Option.some.inj this).symm
@[go_sem] theorem GShape.cells_word (x : GShape) : x.cells[0]? = some (Value.string x.word) := by simp [GShape.cells, Array.getElem?_append, -Array.append_singleton]
@[go_sem] theorem GShape.set_word (x : GShape) (v : ByteArray) : x.cells.setIfInBounds 0 (Value.string v) = ({ x with word := v } : GShape).cells := by simp [GShape.cells, Array.setIfInBounds_append, -Array.append_singleton]
@[go_sem] theorem GShape.get_has (x : GShape) (h : 1 < x.cells.size) : x.cells[1] = Value.string x.has := by
  have := Array.getElem?_eq_getElem h
  rw [show x.cells[1]? = some (Value.string x.has) by simp [GShape.cells, Array.getElem?_append, -Array.append_singleton]] at this
  exact (Option.some.inj this).symm
@[go_sem] theorem GShape.cells_has (x : GShape) : x.cells[1]? = some (Value.string x.has) := by simp [GShape.cells, Array.getElem?_append, -Array.append_singleton]
@[go_sem] theorem GShape.set_has (x : GShape) (v : ByteArray) : x.cells.setIfInBounds 1 (Value.string v) = ({ x with has := v } : GShape).cells := by simp [GShape.cells, Array.setIfInBounds_append, -Array.append_singleton]
@[go_sem] theorem GShape.oneCell (x : GShape) : x.cells.all (·.oneCell') = true := by
  simp only [GShape.cells, Array.all_append, Bool.true_and, Bool.and_true]
  simp [Value.oneCell']
@[go_sem] theorem GShape.ones (x : GShape) : allOne x.cells = true := x.oneCell
def GShape.zero : GShape := { word := ⟨#[]⟩, has := ⟨#[]⟩ }
theorem GShape.info : (Tryd.prog.info? 65).map (fun i => (i.zero, i.size)) = some (some (.agg GShape.zero.cells), 2) := by kernel_rfl
theorem GShape.size_ : (Tryd.prog.info? 65).map (·.size) = some 2 := (zero_of_info GShape.info).2
theorem GShape.zero_ (w : World) : (zeroValue 65).run Tryd.prog w = .ok (.agg GShape.zero.cells) w := (zero_of_info GShape.info).1 w
theorem GShape.run_load (w : World) (b o : Nat) (h : (w.row? b o 2).isSome = true) :
    (loadVar 65 ⟨b, o, none⟩).run Tryd.prog w = .ok (.agg ((w.row? b o 2).getD #[])) w := by
  have := run_loadAt_row Tryd.underlying65 rfl GShape.size_ w b o h
  simpa [Instr.loadAt, Instr.sureAddr, Sem.run_bind] using this
theorem GShape.load_row {w : World} {b o : Nat} {cs : Array Value} (h : w.row? b o 2 = some cs) : (loadVar 65 ⟨b, o, none⟩).run Tryd.prog w = .ok (.agg cs) w := by
  have := GShape.run_load w b o (by rw [h]; rfl)
  rw [h] at this
  exact this
@[go_sem ↓] theorem GShape.exec_load (ρ : Operand → Value) (dst : Option Tmp) (x : Operand) (t : TypeId) (pos : String) (after : Array Edge) (g : Option (Nat × Bool)) (w : World)
    (hp : (ρ x).isPtr = true) (h : (w.row? (ρ x).pb (ρ x).po 2).isSome = true) :
    (execOp ρ ⟨dst, .load 65 x, t, pos, after, g⟩).run Tryd.prog w = .ok (.value (.agg ((w.row? (ρ x).pb (ρ x).po 2).getD #[]))) w :=
  exec_load_row Tryd.underlying65 rfl GShape.size_ ρ dst x t pos after g w hp h
@[go_sem ↓] theorem GShape.exec_store (ρ : Operand → Value) (dst : Option Tmp) (x y : Operand) (t : TypeId) (pos : String) (after : Array Edge) (g : Option (Nat × Bool)) (w : World)
    (hp : (ρ x).isPtr = true) (hy : (ρ y).isAgg = true) (hs : (ρ y).cells.size = 2) (h1 : allOne (ρ y).cells = true) (h : w.canPut (ρ x).pb (ρ x).po 2 = true) :
    (execOp ρ ⟨dst, .store 65 x y, t, pos, after, g⟩).run Tryd.prog w = .ok .skip (w.putRow (ρ x).pb (ρ x).po (ρ y).cells) :=
  exec_store_row GShape.size_ ρ dst x y t pos after g w hp hy hs h1 h
@[go_sem ↓] theorem GShape.exec_alloc (ρ : Operand → Value) (dst : Option Tmp) (t : TypeId) (pos : String) (after : Array Edge) (g : Option (Nat × Bool)) (w : World) :
    (execOp ρ ⟨dst, .alloc 65, t, pos, after, g⟩).run Tryd.prog w = .ok (.value (.pointer (some ⟨w.heap.size, 0, none⟩))) (w.alloc (.cells GShape.zero.cells 65)) :=
  exec_alloc_row GShape.zero_ ρ dst t pos after g w

/-- posthouse/posthouseref21.T -/
structure GT21 where
  a : GAct
  ok : Bool
def GT21.cells (x : GT21) : Array Value := x.a.cells ++ #[Value.bool x.ok]
@[go_sem, simp] theorem GT21.cells_size (x : GT21) : x.cells.size = 39 := by simp [GT21.cells]
@[go_sem] theorem GT21.cells_all (x : GT21) : x.cells.extract 0 39 = x.cells := by
  have := x.cells_size
  rw [← this]; simp
@[go_sem] theorem GT21.splice_all (x y : GT21) : splice x.cells 0 y.cells = y.cells := splice_full _ _ (by simp)
theorem GT21.cells_mid_a (x : GT21) : x.cells = (((#[]) ++ x.a.cells) ++ (#[Value.bool x.ok])) := by simp [GT21.cells]
@[go_sem] theorem GT21.cells_a (x : GT21) : x.cells.extract 0 38 = x.a.cells := by rw [x.cells_mid_a]; exact extract_mid _ _ _ 0 38 (by simp) (by simp)
@[go_sem] theorem GT21.set_a (x : GT21) (y : GAct) : splice x.cells 0 y.cells = ({ x with a := y } : GT21).cells := by
  rw [x.cells_mid_a, splice_mid _ _ _ _ 0 (by simp) (by simp), ({ x with a := y } : GT21).cells_mid_a]
@[go_sem] theorem GT21.get_ok (x : GT21) (h : 38 < x.cells.size) : x.cells[38] = Value.bool x.ok := by
  have := Array.getElem?_eq_getElem h
  rw [show x.cells[38]? = some (Value.bool x.ok) by simp [GT21.cells, Array.getElem?_append, -Array.append_singleton]] at this
  exact (Option.some.inj this).symm
@[go_sem] theorem GT21.cells_ok (x : GT21) : x.cells[38]? = some (Value.bool x.ok) := by simp [GT21.cells, Array.getElem?_append, -Array.append_singleton]
@[go_sem] theorem GT21.set_ok (x : GT21) (v : Bool) : x.cells.setIfInBounds 38 (Value.bool v) = ({ x with ok := v } : GT21).cells := by simp [GT21.cells, Array.setIfInBounds_append, -Array.append_singleton]
@[go_sem] theorem GT21.oneCell (x : GT21) : x.cells.all (·.oneCell') = true := by
  simp only [GT21.cells, Array.all_append, GAct.oneCell, Bool.true_and, Bool.and_true]
  simp [Value.oneCell']
@[go_sem] theorem GT21.ones (x : GT21) : allOne x.cells = true := x.oneCell
def GT21.zero : GT21 := { a := GAct.zero, ok := false }
theorem GT21.info : (Tryd.prog.info? 92).map (fun i => (i.zero, i.size)) = some (some (.agg GT21.zero.cells), 39) := by kernel_rfl
theorem GT21.size_ : (Tryd.prog.info? 92).map (·.size) = some 39 := (zero_of_info GT21.info).2
theorem GT21.zero_ (w : World) : (zeroValue 92).run Tryd.prog w = .ok (.agg GT21.zero.cells) w := (zero_of_info GT21.info).1 w
theorem GT21.run_load (w : World) (b o : Nat) (h : (w.row? b o 39).isSome = true) :
    (loadVar 92 ⟨b, o, none⟩).run Tryd.prog w = .ok (.agg ((w.row? b o 39).getD #[])) w := by
  have := run_loadAt_row Tryd.underlying92 rfl GT21.size_ w b o h
  simpa [Instr.loadAt, Instr.sureAddr, Sem.run_bind] using this
theorem GT21.load_row {w : World} {b o : Nat} {cs : Array Value} (h : w.row? b o 39 = some cs) : (loadVar 92 ⟨b, o, none⟩).run Tryd.prog w = .ok (.agg cs) w := by
  have := GT21.run_load w b o (by rw [h]; rfl)
  rw [h] at this
  exact this
@[go_sem ↓] theorem GT21.exec_load (ρ : Operand → Value) (dst : Option Tmp) (x : Operand) (t : TypeId) (pos : String) (after : Array Edge) (g : Option (Nat × Bool)) (w : World)
    (hp : (ρ x).isPtr = true) (h : (w.row? (ρ x).pb (ρ x).po 39).isSome = true) :
    (execOp ρ ⟨dst, .load 92 x, t, pos, after, g⟩).run Tryd.prog w = .ok (.value (.agg ((w.row? (ρ x).pb (ρ x).po 39).getD #[]))) w :=
  exec_load_row Tryd.underlying92 rfl GT21.size_ ρ dst x t pos after g w hp h
@[go_sem ↓] theorem GT21.exec_store (ρ : Operand → Value) (dst : Option Tmp) (x y : Operand) (t : TypeId) (pos : String) (after : Array Edge) (g : Option (Nat × Bool)) (w : World)
    (hp : (ρ x).isPtr = true) (hy : (ρ y).isAgg = true) (hs : (ρ y).cells.size = 39) (h1 : allOne (ρ y).cells = true) (h : w.canPut (ρ x).pb (ρ x).po 39 = true) :
    (execOp ρ ⟨dst, .store 92 x y, t, pos, after, g⟩).run Tryd.prog w = .ok .skip (w.putRow (ρ x).pb (ρ x).po (ρ y).cells) :=
  exec_store_row GT21.size_ ρ dst x y t pos after g w hp hy hs h1 h
@[go_sem ↓] theorem GT21.exec_alloc (ρ : Operand → Value) (dst : Option Tmp) (t : TypeId) (pos : String) (after : Array Edge) (g : Option (Nat × Bool)) (w : World) :
    (execOp ρ ⟨dst, .alloc 92, t, pos, after, g⟩).run Tryd.prog w = .ok (.value (.pointer (some ⟨w.heap.size, 0, none⟩))) (w.alloc (.cells GT21.zero.cells 92)) :=
  exec_alloc_row GT21.zero_ ρ dst t pos after g w

/-- posthouse/posthouseref04.T -/
structure GT04 where
  l : SlV
  used : Int
  e : Int
def GT04.cells (x : GT04) : Array Value := #[Value.slice x.l.a x.l.len x.l.cap, Value.int .i64 x.used, Value.int .i64 x.e]
@[go_sem, simp] theorem GT04.cells_size (x : GT04) : x.cells.size = 3 := by simp [GT04.cells]
@[go_sem] theorem GT04.cells_all (x : GT04) : x.cells.extract 0 3 = x.cells := by
  have := x.cells_size
  rw [← this]; simp
@[go_sem] theorem GT04.splice_all (x y : GT04) : splice x.cells 0 y.cells = y.cells := splice_full _ _ (by simp)
@[go_sem] theorem GT04.get_l (x : GT04) (h : 0 < x.cells.size) : x.cells[0] = Value.slice x.l.a x.l.len x.l.cap := by
  have := Array.getElem?_eq_getElem h
  rw [show x.cells[0]? = some (Value.slice x.l.a x.l.len x.l.cap) by simp [GT04.cells, Array.getElem?_append, -Array.append_singleton]] at this
  exact (Option.some.inj this).symm
@[go_sem] theorem GT04.cells_l (x : GT04) : x.cells[0]? = some (Value.slice x.l.a x.l.len x.l.cap) := by simp [GT04.cells, Array.getElem?_append, -Array.append_singleton]
@[go_sem] theorem GT04.set_l (x : GT04) (a : Option Addr) (l c : Nat) : x.cells.setIfInBounds 0 (.slice a l c) = ({ x with l := ⟨a, l, c⟩ } : GT04).cells := by simp [GT04.cells, Array.setIfInBounds_append, -Array.append_singleton]
@[go_sem] theorem GT04.get_used (x : GT04) (h : 1 < x.cells.size) : x.cells[1] = Value.int .i64 x.used := by
  have := Array.getElem?_eq_getElem h
  rw [show x.cells[1]? = some (Value.int .i64 x.used) by simp [GT04.cells, Array.getElem?_append, -Array.append_singleton]] at this
  exact (Option.some.inj this).symm
@[go_sem] theorem GT04.cells_used (x : GT04) : x.cells[1]? = some (Value.int .i64 x.used) := by simp [GT04.cells, Array.getElem?_append, -Array.append_singleton]
@[go_sem] theorem GT04.set_used (x : GT04) (v : Int) : x.cells.setIfInBounds 1 (Value.int .i64 v) = ({ x with used := v } : GT04).cells := by simp [GT04.cells, Array.setIfInBounds_append, -Array.append_singleton]
@[go_sem] theorem GT04.get_e (x : GT04) (h : 2 < x.cells.size) : x.cells[2] = Value.int .i64 x.e := by
  have := Array.getElem?_eq_getElem h
  rw [show x.cells[2]? = some (Value.int .i64 x.e) by simp [GT04.cells, Array.getElem?_append, -Array.append_singleton]] at this
  exact (Option.some.inj this).symm
@[go_sem] theorem GT04.cells_e (x : GT04) : x.cells[2]? = some (Value.int .i64 x.e) := by simp [GT04.cells, Array.getElem?_append, -Array.append_singleton]
@[go_sem] theorem GT04.set_e (x : GT04) (v : Int) : x.cells.setIfInBounds 2 (Value.int .i64 v) = ({ x with e := v } : GT04).cells := by simp [GT04.cells, Array.setIfInBounds_append, -Array.append_singleton]
@[go_sem] theorem GT04.oneCell (x : GT04) : x.cells.all (·.oneCell') = true := by
  simp only [GT04.cells, Array.all_append, Bool.true_and, Bool.and_true]
  simp [Value.oneCell']
@[go_sem] theorem GT04.ones (x : GT04) : allOne x.cells = true := x.oneCell
def GT04.zero : GT04 := { l := ⟨none, 0, 0⟩, used := 0, e := 0 }
theorem GT04.info : (Tryd.prog.info? 107).map (fun i => (i.zero, i.size)) = some (some (.agg GT04.zero.cells), 3) := by kernel_rfl
theorem GT04.size_ : (Tryd.prog.info? 107).map (·.size) = some 3 := (zero_of_info GT04.info).2
theorem GT04.zero_ (w : World) : (zeroValue 107).run Tryd.prog w = .ok (.agg GT04.zero.cells) w := (zero_of_info GT04.info).1 w
theorem GT04.run_load (w : World) (b o : Nat) (h : (w.row? b o 3).isSome = true) :
    (loadVar 107 ⟨b, o, none⟩).run Tryd.prog w = .ok (.agg ((w.row? b o 3).getD #[])) w := by
  have := run_loadAt_row Tryd.underlying107 rfl GT04.size_ w b o h
  simpa [Instr.loadAt, Instr.sureAddr, Sem.run_bind] using this
theorem GT04.load_row {w : World} {b o : Nat} {cs : Array Value} (h : w.row? b o 3 = some cs) : (loadVar 107 ⟨b, o, none⟩).run Tryd.prog w = .ok (.agg cs) w := by
  have := GT04.run_load w b o (by rw [h]; rfl)
  rw [h] at this
  exact this
@[go_sem ↓] theorem GT04.exec_load (ρ : Operand → Value) (dst : Option Tmp) (x : Operand) (t : TypeId) (pos : String) (after : Array Edge) (g : Option (Nat × Bool)) (w : World)
    (hp : (ρ x).isPtr = true) (h : (w.row? (ρ x).pb (ρ x).po 3).isSome = true) :
    (execOp ρ ⟨dst, .load 107 x, t, pos, after, g⟩).run Tryd.prog w = .ok (.value (.agg ((w.row? (ρ x).pb (ρ x).po 3).getD #[]))) w :=
  exec_load_row Tryd.underlying107 rfl GT04.size_ ρ dst x t pos after g w hp h
@[go_sem ↓] theorem GT04.exec_store (ρ : Operand → Value) (dst : Option Tmp) (x y : Operand) (t : TypeId) (pos : String) (after : Array Edge) (g : Option (Nat × Bool)) (w : World)
    (hp : (ρ x).isPtr = true) (hy : (ρ y).isAgg = true) (hs : (ρ y).cells.size = 3) (h1 : allOne (ρ y).cells = true) (h : w.canPut (ρ x).pb (ρ x).po 3 = true) :
    (execOp ρ ⟨dst, .store 107 x y, t, pos, after, g⟩).run Tryd.prog w = .ok .skip (w.putRow (ρ x).pb (ρ x).po (ρ y).cells) :=
  exec_store_row GT04.size_ ρ dst x y t pos after g w hp hy hs h1 h
@[go_sem ↓] theorem GT04.exec_alloc (ρ : Operand → Value) (dst : Option Tmp) (t : TypeId) (pos : String) (after : Array Edge) (g : Option (Nat × Bool)) (w : World) :
    (execOp ρ ⟨dst, .alloc 107, t, pos, after, g⟩).run Tryd.prog w = .ok (.value (.pointer (some ⟨w.heap.size, 0, none⟩))) (w.alloc (.cells GT04.zero.cells 107)) :=
  exec_alloc_row GT04.zero_ ρ dst t pos after g w
theorem eqg39 : Tryd.prog.eqGuardType Tryd.prog.depth 39 = false := by kernel_rfl
attribute [go_sem] eqg39
theorem elem39 : (Tryd.prog.info? 5).map (·.size) = some 1 := by kernel_rfl
@[go_sem] theorem GId.run_index (x : GId) (kd : IntKind) (i : Int) (w : World) (h0 : 0 ≤ i) (h1 : i < 32) : (Instr.index 39 (.agg x.cells) (.int kd i)).run Tryd.prog w = .ok (.int .u8 ((x.at i.toNat).toNat : Int)) w := by
  have hagg : (isAgg 5).run Tryd.prog w = .ok false w := by simp [isAgg, run_underlying Tryd.underlying5]
  have hso : (sizeOf 5).run Tryd.prog w = .ok 1 w := by
    have h := elem39
    cases hq : Tryd.prog.info? 5 with
    | none => simp [hq] at h
    | some i => simp [hq] at h; simp [sizeOf, typeInfo, hq, h]
  have hc := x.cells_at i.toNat (by omega)
  simp [Instr.index, asIntOf, Sem.run_bind, run_underlying Tryd.underlying39, h0, h1, hso, part, hagg, hc, GId.cells_get]
@[go_sem high] theorem GId.run_equalIn (x y : GId) (d : Nat) (w : World) : (Op.equalIn (d + 2) 39 (.agg x.cells) (.agg y.cells)).run Tryd.prog w = .ok (decide (x = y)) w := by
  have := run_equalIn_bytes w d Tryd.underlying39 Tryd.underlying5 elem39 x.l y.l x.h y.h
  rw [show decide (x = y) = decide (x.l = y.l) by rw [decide_eq_decide]; exact ⟨fun h => by rw [h], GId.ext'⟩]
  exact this
@[go_sem high] theorem GId.run_eql (x y : GId) (w : World) : (binOp .eql 39 (.agg x.cells) (.agg y.cells)).run Tryd.prog w = .ok (.bool (decide (x = y))) w := by
  rw [run_eql_struct w 39 _ _, show (10000 : Nat) = 9992 + 8 from rfl, GId.run_equalIn]; rfl
@[go_sem high] theorem GId.run_neq (x y : GId) (w : World) : (binOp .neq 39 (.agg x.cells) (.agg y.cells)).run Tryd.prog w = .ok (.bool (!decide (x = y))) w := by
  rw [run_neq_struct w 39 _ _, show (10000 : Nat) = 9992 + 8 from rfl, GId.run_equalIn]; rfl
theorem eqg56 : Tryd.prog.eqGuardType Tryd.prog.depth 56 = false := by kernel_rfl
attribute [go_sem] eqg56
theorem stood56 : Tryd.prog.stoodInHeld 56 = false := by kernel_rfl
@[go_sem high] theorem GEnt.run_equalIn (x y : GEnt) (d : Nat) (w : World) : (Op.equalIn (d + 8) 56 (.agg x.cells) (.agg y.cells)).run Tryd.prog w = .ok (decide (x = y)) w := by
  rw [run_equalIn_struct w (d + 7) 56 _ _ (by simp [Program.fieldsOf, Tryd.underlying56]) stood56]
  simp only [Program.fieldsOf, Tryd.underlying56]
  simp [go_sem, Tryd.underlying3, Tryd.underlying39]
  cases x; cases y
  simp
  (repeat' split) <;> simp_all [ba_inj]
@[go_sem high] theorem GEnt.run_eql (x y : GEnt) (w : World) : (binOp .eql 56 (.agg x.cells) (.agg y.cells)).run Tryd.prog w = .ok (.bool (decide (x = y))) w := by
  rw [run_eql_struct w 56 _ _, show (10000 : Nat) = 9992 + 8 from rfl, GEnt.run_equalIn]; rfl
@[go_sem high] theorem GEnt.run_neq (x y : GEnt) (w : World) : (binOp .neq 56 (.agg x.cells) (.agg y.cells)).run Tryd.prog w = .ok (.bool (!decide (x = y))) w := by
  rw [run_neq_struct w 56 _ _, show (10000 : Nat) = 9992 + 8 from rfl, GEnt.run_equalIn]; rfl
theorem eqg65 : Tryd.prog.eqGuardType Tryd.prog.depth 65 = false := by kernel_rfl
attribute [go_sem] eqg65
theorem stood65 : Tryd.prog.stoodInHeld 65 = false := by kernel_rfl
@[go_sem high] theorem GShape.run_equalIn (x y : GShape) (d : Nat) (w : World) : (Op.equalIn (d + 8) 65 (.agg x.cells) (.agg y.cells)).run Tryd.prog w = .ok (decide (x = y)) w := by
  rw [run_equalIn_struct w (d + 7) 65 _ _ (by simp [Program.fieldsOf, Tryd.underlying65]) stood65]
  simp only [Program.fieldsOf, Tryd.underlying65]
  simp [go_sem, Tryd.underlying9]
  cases x; cases y
  simp
  (repeat' split) <;> simp_all [ba_inj]
@[go_sem high] theorem GShape.run_eql (x y : GShape) (w : World) : (binOp .eql 65 (.agg x.cells) (.agg y.cells)).run Tryd.prog w = .ok (.bool (decide (x = y))) w := by
  rw [run_eql_struct w 65 _ _, show (10000 : Nat) = 9992 + 8 from rfl, GShape.run_equalIn]; rfl
@[go_sem high] theorem GShape.run_neq (x y : GShape) (w : World) : (binOp .neq 65 (.agg x.cells) (.agg y.cells)).run Tryd.prog w = .ok (.bool (!decide (x = y))) w := by
  rw [run_neq_struct w 65 _ _, show (10000 : Nat) = 9992 + 8 from rfl, GShape.run_equalIn]; rfl
@[go_sem ↓] theorem GId.exec_build (ρ : Operand → Value) (dst : Option Tmp) (t : TypeId) (pos : String) (after : Array Edge) (g : Option (Nat × Bool)) (w : World) :
    (execOp ρ ⟨dst, .build 39 #[], t, pos, after, g⟩).run Tryd.prog w = .ok (.value (.agg GId.zero.cells)) w := by
  have : (Instr.build 39 #[]).run Tryd.prog w = .ok (.agg GId.zero.cells) w := by
    have hso : (sizeOf 5).run Tryd.prog w = .ok 1 w := by
      have h := elem39
      cases hq : Tryd.prog.info? 5 with
      | none => simp [hq] at h
      | some i => simp [hq] at h; simp [sizeOf, typeInfo, hq, h]
    simp [Instr.build, GId.zero_, Sem.run_bind, run_underlying Tryd.underlying39, hso, Instr.fill, Value.cells]
    try rfl
  simp [execOp, Sem.run_bind, this]
theorem GEnt.places : ∀ (i : Nat) (f : Field) (p : Nat × Nat), (Tryd.prog.fieldsOf 56).toList[i]? = some f → ([(0, 1), (1, 32), (33, 1)] : List (Nat × Nat))[i]? = some p → f.offset = p.1 ∧ (Tryd.prog.info? f.type).map (·.size) = some p.2 := by
  simp only [Program.fieldsOf, Tryd.underlying56]
  intro i f p hf hp
  rcases i with _ | i
  · simp at hf hp; subst hf; subst hp; exact ⟨rfl, by kernel_rfl⟩
  rcases i with _ | i
  · simp at hf hp; subst hf; subst hp; exact ⟨rfl, by kernel_rfl⟩
  rcases i with _ | i
  · simp at hf hp; subst hf; subst hp; exact ⟨rfl, by kernel_rfl⟩
  simp at hf
@[go_sem ↓] theorem GEnt.exec_build_0 (ρ : Operand → Value) (dst : Option Tmp) (t : TypeId) (pos : String) (after : Array Edge) (g : Option (Nat × Bool)) (w : World) (x0 : Operand) (h0 : (ρ x0).cells = #[ρ x0]) :
    (execOp ρ ⟨dst, .build 56 #[(0, x0)], t, pos, after, g⟩).run Tryd.prog w = .ok (.value (.agg (GEnt.zero.cells.setIfInBounds 0 (ρ x0)))) w := by
  generalize e0 : ρ x0 = v0 at *
  have hb : (Instr.build 56 #[(0, v0)]).run Tryd.prog w = .ok (.agg (GEnt.zero.cells.setIfInBounds 0 v0)) w := by
    refine run_build_struct (fs := Tryd.prog.fieldsOf 56) (by simp [Program.fieldsOf, Tryd.underlying56]) GEnt.zero_ [(0, 1), (1, 32), (33, 1)] (by simp [Program.fieldsOf, Tryd.underlying56]) GEnt.places _ ?_ w
    rw [fill_one (off := 0) (by simp) h0 (by simp)]
    exact fill_nil _ _
  simp [execOp, Sem.run_bind, hb, Value.cells, e0]
@[go_sem ↓] theorem GEnt.exec_build_0_2 (ρ : Operand → Value) (dst : Option Tmp) (t : TypeId) (pos : String) (after : Array Edge) (g : Option (Nat × Bool)) (w : World) (x0 x2 : Operand) (h0 : (ρ x0).cells = #[ρ x0]) (h2 : (ρ x2).cells = #[ρ x2]) :
    (execOp ρ ⟨dst, .build 56 #[(0, x0), (2, x2)], t, pos, after, g⟩).run Tryd.prog w = .ok (.value (.agg ((GEnt.zero.cells.setIfInBounds 0 (ρ x0)).setIfInBounds 33 (ρ x2)))) w := by
  generalize e0 : ρ x0 = v0 at *
  generalize e2 : ρ x2 = v2 at *
  have hb : (Instr.build 56 #[(0, v0), (2, v2)]).run Tryd.prog w = .ok (.agg ((GEnt.zero.cells.setIfInBounds 0 v0).setIfInBounds 33 v2)) w := by
    refine run_build_struct (fs := Tryd.prog.fieldsOf 56) (by simp [Program.fieldsOf, Tryd.underlying56]) GEnt.zero_ [(0, 1), (1, 32), (33, 1)] (by simp [Program.fieldsOf, Tryd.underlying56]) GEnt.places _ ?_ w
    rw [fill_one (off := 0) (by simp) h0 (by simp)]
    rw [fill_one (off := 33) (by simp) h2 (by simp)]
    exact fill_nil _ _
  simp [execOp, Sem.run_bind, hb, Value.cells, e0, e2]
theorem GAct.places : ∀ (i : Nat) (f : Field) (p : Nat × Nat), (Tryd.prog.fieldsOf 42).toList[i]? = some f → ([(0, 1), (1, 1), (2, 1), (3, 1), (4, 32), (36, 1), (37, 1)] : List (Nat × Nat))[i]? = some p → f.offset = p.1 ∧ (Tryd.prog.info? f.type).map (·.size) = some p.2 := by
  simp only [Program.fieldsOf, Tryd.underlying42]
  intro i f p hf hp
  rcases i with _ | i
  · simp at hf hp; subst hf; subst hp; exact ⟨rfl, by kernel_rfl⟩
  rcases i with _ | i
  · simp at hf hp; subst hf; subst hp; exact ⟨rfl, by kernel_rfl⟩
  rcases i with _ | i
  · simp at hf hp; subst hf; subst hp; exact ⟨rfl, by kernel_rfl⟩
  rcases i with _ | i
  · simp at hf hp; subst hf; subst hp; exact ⟨rfl, by kernel_rfl⟩
  rcases i with _ | i
  · simp at hf hp; subst hf; subst hp; exact ⟨rfl, by kernel_rfl⟩
  rcases i with _ | i
  · simp at hf hp; subst hf; subst hp; exact ⟨rfl, by kernel_rfl⟩
  rcases i with _ | i
  · simp at hf hp; subst hf; subst hp; exact ⟨rfl, by kernel_rfl⟩
  simp at hf
@[go_sem ↓] theorem GAct.exec_build (ρ : Operand → Value) (dst : Option Tmp) (t : TypeId) (pos : String) (after : Array Edge) (g : Option (Nat × Bool)) (w : World)  :
    (execOp ρ ⟨dst, .build 42 #[], t, pos, after, g⟩).run Tryd.prog w = .ok (.value (.agg GAct.zero.cells)) w := by
  have hb : (Instr.build 42 #[]).run Tryd.prog w = .ok (.agg GAct.zero.cells) w := by
    refine run_build_struct (fs := Tryd.prog.fieldsOf 42) (by simp [Program.fieldsOf, Tryd.underlying42]) GAct.zero_ [(0, 1), (1, 1), (2, 1), (3, 1), (4, 32), (36, 1), (37, 1)] (by simp [Program.fieldsOf, Tryd.underlying42]) GAct.places _ ?_ w
    exact fill_nil _ _
  simp [execOp, Sem.run_bind, hb, Value.cells]
@[go_sem ↓] theorem GAct.exec_build_0 (ρ : Operand → Value) (dst : Option Tmp) (t : TypeId) (pos : String) (after : Array Edge) (g : Option (Nat × Bool)) (w : World) (x0 : Operand) (h0 : (ρ x0).cells = #[ρ x0]) :
    (execOp ρ ⟨dst, .build 42 #[(0, x0)], t, pos, after, g⟩).run Tryd.prog w = .ok (.value (.agg (GAct.zero.cells.setIfInBounds 0 (ρ x0)))) w := by
  generalize e0 : ρ x0 = v0 at *
  have hb : (Instr.build 42 #[(0, v0)]).run Tryd.prog w = .ok (.agg (GAct.zero.cells.setIfInBounds 0 v0)) w := by
    refine run_build_struct (fs := Tryd.prog.fieldsOf 42) (by simp [Program.fieldsOf, Tryd.underlying42]) GAct.zero_ [(0, 1), (1, 1), (2, 1), (3, 1), (4, 32), (36, 1), (37, 1)] (by simp [Program.fieldsOf, Tryd.underlying42]) GAct.places _ ?_ w
    rw [fill_one (off := 0) (by simp) h0 (by simp)]
    exact fill_nil _ _
  simp [execOp, Sem.run_bind, hb, Value.cells, e0]
@[go_sem ↓] theorem GAct.exec_build_0_1_5_6 (ρ : Operand → Value) (dst : Option Tmp) (t : TypeId) (pos : String) (after : Array Edge) (g : Option (Nat × Bool)) (w : World) (x0 x1 x5 x6 : Operand) (h0 : (ρ x0).cells = #[ρ x0]) (h1 : (ρ x1).cells = #[ρ x1]) (h5 : (ρ x5).cells = #[ρ x5]) (h6 : (ρ x6).cells = #[ρ x6]) :
    (execOp ρ ⟨dst, .build 42 #[(0, x0), (1, x1), (5, x5), (6, x6)], t, pos, after, g⟩).run Tryd.prog w = .ok (.value (.agg ((((GAct.zero.cells.setIfInBounds 0 (ρ x0)).setIfInBounds 1 (ρ x1)).setIfInBounds 36 (ρ x5)).setIfInBounds 37 (ρ x6)))) w := by
  generalize e0 : ρ x0 = v0 at *
  generalize e1 : ρ x1 = v1 at *
  generalize e5 : ρ x5 = v5 at *
  generalize e6 : ρ x6 = v6 at *
  have hb : (Instr.build 42 #[(0, v0), (1, v1), (5, v5), (6, v6)]).run Tryd.prog w = .ok (.agg ((((GAct.zero.cells.setIfInBounds 0 v0).setIfInBounds 1 v1).setIfInBounds 36 v5).setIfInBounds 37 v6)) w := by
    refine run_build_struct (fs := Tryd.prog.fieldsOf 42) (by simp [Program.fieldsOf, Tryd.underlying42]) GAct.zero_ [(0, 1), (1, 1), (2, 1), (3, 1), (4, 32), (36, 1), (37, 1)] (by simp [Program.fieldsOf, Tryd.underlying42]) GAct.places _ ?_ w
    rw [fill_one (off := 0) (by simp) h0 (by simp)]
    rw [fill_one (off := 1) (by simp) h1 (by simp)]
    rw [fill_one (off := 36) (by simp) h5 (by simp)]
    rw [fill_one (off := 37) (by simp) h6 (by simp)]
    exact fill_nil _ _
  simp [execOp, Sem.run_bind, hb, Value.cells, e0, e1, e5, e6]
theorem GShape.places : ∀ (i : Nat) (f : Field) (p : Nat × Nat), (Tryd.prog.fieldsOf 65).toList[i]? = some f → ([(0, 1), (1, 1)] : List (Nat × Nat))[i]? = some p → f.offset = p.1 ∧ (Tryd.prog.info? f.type).map (·.size) = some p.2 := by
  simp only [Program.fieldsOf, Tryd.underlying65]
  intro i f p hf hp
  rcases i with _ | i
  · simp at hf hp; subst hf; subst hp; exact ⟨rfl, by kernel_rfl⟩
  rcases i with _ | i
  · simp at hf hp; subst hf; subst hp; exact ⟨rfl, by kernel_rfl⟩
  simp at hf
@[go_sem ↓] theorem GShape.exec_build (ρ : Operand → Value) (dst : Option Tmp) (t : TypeId) (pos : String) (after : Array Edge) (g : Option (Nat × Bool)) (w : World)  :
    (execOp ρ ⟨dst, .build 65 #[], t, pos, after, g⟩).run Tryd.prog w = .ok (.value (.agg GShape.zero.cells)) w := by
  have hb : (Instr.build 65 #[]).run Tryd.prog w = .ok (.agg GShape.zero.cells) w := by
    refine run_build_struct (fs := Tryd.prog.fieldsOf 65) (by simp [Program.fieldsOf, Tryd.underlying65]) GShape.zero_ [(0, 1), (1, 1)] (by simp [Program.fieldsOf, Tryd.underlying65]) GShape.places _ ?_ w
    exact fill_nil _ _
  simp [execOp, Sem.run_bind, hb, Value.cells]
@[go_sem ↓] theorem GShape.exec_build_0_1 (ρ : Operand → Value) (dst : Option Tmp) (t : TypeId) (pos : String) (after : Array Edge) (g : Option (Nat × Bool)) (w : World) (x0 x1 : Operand) (h0 : (ρ x0).cells = #[ρ x0]) (h1 : (ρ x1).cells = #[ρ x1]) :
    (execOp ρ ⟨dst, .build 65 #[(0, x0), (1, x1)], t, pos, after, g⟩).run Tryd.prog w = .ok (.value (.agg ((GShape.zero.cells.setIfInBounds 0 (ρ x0)).setIfInBounds 1 (ρ x1)))) w := by
  generalize e0 : ρ x0 = v0 at *
  generalize e1 : ρ x1 = v1 at *
  have hb : (Instr.build 65 #[(0, v0), (1, v1)]).run Tryd.prog w = .ok (.agg ((GShape.zero.cells.setIfInBounds 0 v0).setIfInBounds 1 v1)) w := by
    refine run_build_struct (fs := Tryd.prog.fieldsOf 65) (by simp [Program.fieldsOf, Tryd.underlying65]) GShape.zero_ [(0, 1), (1, 1)] (by simp [Program.fieldsOf, Tryd.underlying65]) GShape.places _ ?_ w
    rw [fill_one (off := 0) (by simp) h0 (by simp)]
    rw [fill_one (off := 1) (by simp) h1 (by simp)]
    exact fill_nil _ _
  simp [execOp, Sem.run_bind, hb, Value.cells, e0, e1]
theorem GT21.places : ∀ (i : Nat) (f : Field) (p : Nat × Nat), (Tryd.prog.fieldsOf 92).toList[i]? = some f → ([(0, 38), (38, 1)] : List (Nat × Nat))[i]? = some p → f.offset = p.1 ∧ (Tryd.prog.info? f.type).map (·.size) = some p.2 := by
  simp only [Program.fieldsOf, Tryd.underlying92]
  intro i f p hf hp
  rcases i with _ | i
  · simp at hf hp; subst hf; subst hp; exact ⟨rfl, by kernel_rfl⟩
  rcases i with _ | i
  · simp at hf hp; subst hf; subst hp; exact ⟨rfl, by kernel_rfl⟩
  simp at hf
@[go_sem ↓] theorem GT21.exec_build_0_1 (ρ : Operand → Value) (dst : Option Tmp) (t : TypeId) (pos : String) (after : Array Edge) (g : Option (Nat × Bool)) (w : World) (x0 x1 : Operand) (h0 : (ρ x0).isAgg = true) (k0 : (ρ x0).cells.size = 38) (h1 : (ρ x1).cells = #[ρ x1]) :
    (execOp ρ ⟨dst, .build 92 #[(0, x0), (1, x1)], t, pos, after, g⟩).run Tryd.prog w = .ok (.value (.agg ((splice GT21.zero.cells 0 (ρ x0).cells).setIfInBounds 38 (ρ x1)))) w := by
  generalize e0 : ρ x0 = v0 at *
  cases v0 <;> simp [Value.isAgg] at h0
  rename_i c0
  simp only [Value.cells] at k0
  generalize e1 : ρ x1 = v1 at *
  have hb : (Instr.build 92 #[(0, .agg c0), (1, v1)]).run Tryd.prog w = .ok (.agg ((splice GT21.zero.cells 0 c0).setIfInBounds 38 v1)) w := by
    refine run_build_struct (fs := Tryd.prog.fieldsOf 92) (by simp [Program.fieldsOf, Tryd.underlying92]) GT21.zero_ [(0, 38), (38, 1)] (by simp [Program.fieldsOf, Tryd.underlying92]) GT21.places _ ?_ w
    rw [fill_agg (off := 0) (m := 38) (by simp) k0 (by simp [k0])]
    rw [fill_one (off := 38) (by simp) h1 (by simp [k0])]
    exact fill_nil _ _
  simp [execOp, Sem.run_bind, hb, Value.cells, e0, e1]
theorem GT04.places : ∀ (i : Nat) (f : Field) (p : Nat × Nat), (Tryd.prog.fieldsOf 107).toList[i]? = some f → ([(0, 1), (1, 1), (2, 1)] : List (Nat × Nat))[i]? = some p → f.offset = p.1 ∧ (Tryd.prog.info? f.type).map (·.size) = some p.2 := by
  simp only [Program.fieldsOf, Tryd.underlying107]
  intro i f p hf hp
  rcases i with _ | i
  · simp at hf hp; subst hf; subst hp; exact ⟨rfl, by kernel_rfl⟩
  rcases i with _ | i
  · simp at hf hp; subst hf; subst hp; exact ⟨rfl, by kernel_rfl⟩
  rcases i with _ | i
  · simp at hf hp; subst hf; subst hp; exact ⟨rfl, by kernel_rfl⟩
  simp at hf
@[go_sem ↓] theorem GT04.exec_build_1 (ρ : Operand → Value) (dst : Option Tmp) (t : TypeId) (pos : String) (after : Array Edge) (g : Option (Nat × Bool)) (w : World) (x1 : Operand) (h1 : (ρ x1).cells = #[ρ x1]) :
    (execOp ρ ⟨dst, .build 107 #[(1, x1)], t, pos, after, g⟩).run Tryd.prog w = .ok (.value (.agg (GT04.zero.cells.setIfInBounds 1 (ρ x1)))) w := by
  generalize e1 : ρ x1 = v1 at *
  have hb : (Instr.build 107 #[(1, v1)]).run Tryd.prog w = .ok (.agg (GT04.zero.cells.setIfInBounds 1 v1)) w := by
    refine run_build_struct (fs := Tryd.prog.fieldsOf 107) (by simp [Program.fieldsOf, Tryd.underlying107]) GT04.zero_ [(0, 1), (1, 1), (2, 1)] (by simp [Program.fieldsOf, Tryd.underlying107]) GT04.places _ ?_ w
    rw [fill_one (off := 1) (by simp) h1 (by simp)]
    exact fill_nil _ _
  simp [execOp, Sem.run_bind, hb, Value.cells, e1]
@[go_sem ↓] theorem GT04.exec_build_2 (ρ : Operand → Value) (dst : Option Tmp) (t : TypeId) (pos : String) (after : Array Edge) (g : Option (Nat × Bool)) (w : World) (x2 : Operand) (h2 : (ρ x2).cells = #[ρ x2]) :
    (execOp ρ ⟨dst, .build 107 #[(2, x2)], t, pos, after, g⟩).run Tryd.prog w = .ok (.value (.agg (GT04.zero.cells.setIfInBounds 2 (ρ x2)))) w := by
  generalize e2 : ρ x2 = v2 at *
  have hb : (Instr.build 107 #[(2, v2)]).run Tryd.prog w = .ok (.agg (GT04.zero.cells.setIfInBounds 2 v2)) w := by
    refine run_build_struct (fs := Tryd.prog.fieldsOf 107) (by simp [Program.fieldsOf, Tryd.underlying107]) GT04.zero_ [(0, 1), (1, 1), (2, 1)] (by simp [Program.fieldsOf, Tryd.underlying107]) GT04.places _ ?_ w
    rw [fill_one (off := 2) (by simp) h2 (by simp)]
    exact fill_nil _ _
  simp [execOp, Sem.run_bind, hb, Value.cells, e2]
end Go.Proofs.YthbgmmliijpemaaDoor
