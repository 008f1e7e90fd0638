/- Bytes: a slice of the call's own that holds these bytes; digits. -/
import Derived.Test.YthbgmmliijpemaaDoorW7
import Derived.Lib.BufferRead
import Derived.Lib.SlBytesRow
set_option linter.unusedVariables false
set_option linter.unusedSimpArgs false
namespace Go.Proofs.YthbgmmliijpemaaDoor
open Go Go.RowKit
/-- A byte's cell. -/
def cellB (b : UInt8) : Array Value := #[.int .u8 (b.toNat : Int)]
def rowsB (l : List UInt8) : List (Array Value) := l.map cellB
theorem rowsB_size {l : List UInt8} : ∀ r ∈ rowsB l, r.size = 1 := by intro r hr; simp [rowsB] at hr; obtain ⟨b, _, rfl⟩ := hr; rfl
theorem rowsB_one {l : List UInt8} : ∀ r ∈ rowsB l, r.all (·.oneCell') = true := by intro r hr; simp [rowsB] at hr; obtain ⟨b, _, rfl⟩ := hr; simp [cellB, Value.oneCell']
@[simp] theorem rowsB_len (l : List UInt8) : (rowsB l).length = l.length := by simp [rowsB]
theorem rowsB_app (l m : List UInt8) : rowsB l ++ rowsB m = rowsB (l ++ m) := by simp [rowsB]
theorem flat_rowsB (l : List UInt8) : flat (rowsB l) = Lib.byteCells l := by
  induction l with
  | nil => rfl
  | cons b l ih => 
    show flat (cellB b :: rowsB l) = _
    rw [show flat (cellB b :: rowsB l) = (cellB b).toList ++ flat (rowsB l) from by simp [flat], ih]
    rfl
theorem elem44 : Elem Tryd.prog 44 5 1 1 := ⟨Tryd.underlying44, ⟨.int .u8 0, by kernel_rfl, rfl⟩, by decide⟩
/-- A literal's row. -/
theorem own_lit (w : World) (base : Nat) (l : List UInt8) (hb : base ≤ w.heap.size) (hl : l.length ≤ 1000) :
    Own (w.alloc (.cells (Lib.byteCells l).toArray 5)) base 5 1 ⟨some ⟨w.heap.size, 0, none⟩, l.length, l.length⟩ (rowsB l) := by
  refine ⟨⟨?_, .inr ⟨w.heap.size, l.length, (Lib.byteCells l).toArray, by rw [rowsB_len], hb, heap_alloc_last w _, by simp, by unfold maxLen; omega, by simp [Lib.byteCells], ?_⟩⟩, rowsB_size, by simp⟩
  · rw [flat_rowsB]; simp [Lib.byteCells]
  · rw [flat_rowsB]
    have : (Lib.byteCells l).length = l.length := by simp [Lib.byteCells]
    simp only [rowsB_len, Nat.mul_one]
    rw [← this]; exact List.take_length
theorem sl_lit (w : World) (l : List UInt8) :
    Sl (w.alloc (.cells (Lib.byteCells l).toArray 5)) (w.heap.size + 1) 1 ⟨some ⟨w.heap.size, 0, none⟩, l.length, l.length⟩ (rowsB l) := by
  refine ⟨by simp, Nat.le_refl _, fun _ => ⟨w.heap.size, 0, rfl, by omega, fun i r hi => ?_⟩⟩
  have hlt : i < l.length := by simpa using (List.getElem?_eq_some_iff.1 hi).1
  rw [World.row?_alloc_at _ _ rfl, if_pos (by simp [Lib.byteCells]; omega), ← hi]
  simp [rowsB, hlt, Lib.byteCells, cellB, Array.ext_iff]
  refine ⟨by omega, fun i1 h1 h2 => by subst h2; rfl⟩
/-- 'string(b)', b the call's own. -/
theorem Own.text {w : World} {base : Nat} {s : SlV} {l : List UInt8} (h : Own w base 5 1 s (rowsB l)) :
    (convert 44 9 s.val).run Tryd.prog w = .ok (strV l) w := by
  obtain ⟨⟨h1, h2⟩, _, hn⟩ := h
  rw [flat_rowsB] at h1 h2
  simp only [rowsB_len] at h2 hn
  rcases h2 with ⟨hv, h0⟩ | ⟨g, cap, cur, hv, _, hh, _, _, _, htake⟩
  · rw [hv]
    have : l = [] := List.length_eq_zero_iff.mp h0
    subst this
    exact Lib.run_convert_nil_bytes w 44 9 5 0 Tryd.underlying44 Tryd.underlying5 Tryd.underlying9
  · rw [hv]
    rw [Nat.mul_one] at htake
    have hb := Lib.bytes_of_row (l := l) hh htake
    exact Lib.run_convert_whole w 44 5 9 Tryd.underlying44 Tryd.underlying5 Tryd.underlying9 g 0 ⟨l.toArray⟩ (fun j hj => by have := hb j (by simpa [ByteArray.size] using hj); rw [show (⟨g, 0 + j, none⟩ : Addr) = (⟨g, 0, none⟩ : Addr).add j from by simp [Addr.add]]; exact this) cap
/-- A digit. -/
def hexs : List UInt8 := [48, 49, 50, 51, 52, 53, 54, 55, 56, 57, 97, 98, 99, 100, 101, 102]
def hexB (k : Nat) : UInt8 := hexs.getD k 0
def hexOf (l : List UInt8) : List UInt8 := l.flatMap fun c => [hexB (c.toNat / 16), hexB (c.toNat % 16)]
theorem hexOf_succ {l : List UInt8} {k : Nat} (hk : k < l.length) : hexOf (l.take (k + 1)) = hexOf (l.take k) ++ [hexB (l[k].toNat / 16), hexB (l[k].toNat % 16)] := by
  rw [List.take_succ_eq_append_getElem hk, hexOf, List.flatMap_append]; rfl
theorem hexOf_len (l : List UInt8) : (hexOf l).length = 2 * l.length := by
  induction l with
  | nil => rfl
  | cons c l ih => simp only [hexOf, List.flatMap_cons, List.length_append] at *; simp [ih]; omega
theorem hexB_low {n : Int} (h0 : 0 ≤ n) (h1 : n < 10) : ((hexB n.toNat).toNat : Int) = 48 + n := by
  have : n = 0 ∨ n = 1 ∨ n = 2 ∨ n = 3 ∨ n = 4 ∨ n = 5 ∨ n = 6 ∨ n = 7 ∨ n = 8 ∨ n = 9 := by omega
  rcases this with rfl | rfl | rfl | rfl | rfl | rfl | rfl | rfl | rfl | rfl <;> rfl
theorem hexB_high {n : Int} (h0 : 10 ≤ n) (h1 : n < 16) : ((hexB n.toNat).toNat : Int) = 87 + n := by
  have : n = 10 ∨ n = 11 ∨ n = 12 ∨ n = 13 ∨ n = 14 ∨ n = 15 := by omega
  rcases this with rfl | rfl | rfl | rfl | rfl | rfl <;> rfl
set_option maxRecDepth 20000 in
theorem digit86 (n : Int) (w : World) (h0 : 0 ≤ n) (h1 : n < 16) : Calls Tryd.prog 86 #[.int .u8 n] w fun x w' => x = .returned (.int .u8 ((hexB n.toNat).toNat : Int)) ∧ w' = w := by
  by_cases h : n < 10
  · have e := Lib.hid (hexB_low h0 h)
    go_enter Tryd.func86, Tryd.ntmps86
    go_wp2
    go_ret
    exact ⟨by rw [e.out]; rfl, rfl⟩
  · have e := Lib.hid (hexB_high (by omega) h1)
    go_enter Tryd.func86, Tryd.ntmps86
    go_wp2
    go_ret
    exact ⟨by rw [e.out, show 87 + n = 97 + n - 10 by omega]; rfl, rfl⟩
set_option maxRecDepth 20000 in
theorem digit87 (n : Int) (w : World) (h0 : 0 ≤ n) (h1 : n < 16) : Calls Tryd.prog 87 #[.int .u8 n] w fun x w' => x = .returned (.int .u8 ((hexB n.toNat).toNat : Int)) ∧ w' = w := by
  by_cases h : n < 10
  · have e := Lib.hid (hexB_low h0 h)
    go_enter Tryd.func87, Tryd.ntmps87
    go_wp2
    go_ret
    exact ⟨by rw [e.out]; rfl, rfl⟩
  · have e := Lib.hid (hexB_high (by omega) h1)
    go_enter Tryd.func87, Tryd.ntmps87
    go_wp2
    go_ret
    exact ⟨by rw [e.out, show 87 + n = 97 + n - 10 by omega]; rfl, rfl⟩
end Go.Proofs.YthbgmmliijpemaaDoor
