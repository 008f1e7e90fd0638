/- Walks: the law's alive. -/
import Derived.Test.YthbgmmliijpemaaDoorW20
set_option linter.unusedVariables false
set_option linter.unusedSimpArgs false
namespace Go.Proofs.YthbgmmliijpemaaDoor
open Go Go.RowKit
def aliveE : GEnt := { kind := 2, id := GId.zero, host := 4 }
def aliveP : PAct := ⟨10, 3, 0, 0, GId.zero, [aliveE], ⟨#[104, 105]⟩⟩
def aliveG (b : Nat) : GAct := ⟨10, 3, 0, 0, GId.zero, ⟨some ⟨b, 0, none⟩, 1, 1⟩, ⟨#[104, 105]⟩⟩
def aliveT : List UInt8 := [115, 101, 110, 100, 32, 51, 32, 120, 48, 49, 48, 50, 48, 52, 32, 120, 54, 56, 54, 57, 10]
theorem aliveE_lit : (#[.int .i64 2, .int .u8 0, .int .u8 0, .int .u8 0, .int .u8 0, .int .u8 0, .int .u8 0, .int .u8 0, .int .u8 0, .int .u8 0, .int .u8 0, .int .u8 0, .int .u8 0, .int .u8 0, .int .u8 0, .int .u8 0, .int .u8 0, .int .u8 0, .int .u8 0, .int .u8 0, .int .u8 0, .int .u8 0, .int .u8 0, .int .u8 0, .int .u8 0, .int .u8 0, .int .u8 0, .int .u8 0, .int .u8 0, .int .u8 0, .int .u8 0, .int .u8 0, .int .u8 0, .int .i64 4] : Array Value) = aliveE.cells := by
  show _ = #[Value.int .i64 2] ++ GId.zero.cells ++ #[Value.int .i64 4]
  rw [← GId.zero_cells]
  simp only [List.append_toArray, List.cons_append, List.nil_append]
theorem aliveG_lit (b : Nat) : (#[.int .i64 10, .int .i64 3, .int .i64 0, .int .i64 0, .int .u8 0, .int .u8 0, .int .u8 0, .int .u8 0, .int .u8 0, .int .u8 0, .int .u8 0, .int .u8 0, .int .u8 0, .int .u8 0, .int .u8 0, .int .u8 0, .int .u8 0, .int .u8 0, .int .u8 0, .int .u8 0, .int .u8 0, .int .u8 0, .int .u8 0, .int .u8 0, .int .u8 0, .int .u8 0, .int .u8 0, .int .u8 0, .int .u8 0, .int .u8 0, .int .u8 0, .int .u8 0, .int .u8 0, .int .u8 0, .int .u8 0, .int .u8 0, .slice (some ⟨b, 0, none⟩) 1 1, .string ⟨#[104, 105]⟩] : Array Value) = (aliveG b).cells := by
  show _ = #[Value.int .i64 10, Value.int .i64 3, Value.int .i64 0, Value.int .i64 0] ++ GId.zero.cells ++ #[Value.slice (some ⟨b, 0, none⟩) 1 1, Value.string ⟨#[104, 105]⟩]
  rw [← GId.zero_cells]
  simp only [List.append_toArray, List.cons_append, List.nil_append]
theorem alive_right : rightB [aliveP] = true := by decide
theorem alive_itoa : Lib.itoa 3 = [51] := by simp [Lib.itoa, Lib.decDigits]
theorem alive_text : textU [aliveP] = aliveT := by
  show (wordOf 10 ++ (fieldsOf 10).flatMap fun c => 32 :: fieldT aliveP c) ++ [10] ++ [] = _
  show ([115, 101, 110, 100] ++ ((32 :: Lib.itoa 3) ++ ((32 :: wordX (stackT [aliveE])) ++ ((32 :: wordX [104, 105]) ++ [])))) ++ [10] ++ [] = _
  rw [alive_itoa]
  rfl
theorem alive_acts (w : World) : RdActs ((w.alloc (.cells aliveE.cells 56)).alloc (.cells (aliveG w.heap.size).cells 42)) (w.heap.size + 2) ⟨some ⟨w.heap.size + 1, 0, none⟩, 1, 1⟩ [aliveP] := by
  have h1 := Sl.lit (w := w.alloc (.cells aliveE.cells 56)) (e := 42) (aliveG w.heap.size).cells_size
  have h2 := Sl.lit (w := w) (e := 56) aliveE.cells_size
  refine ⟨[aliveG w.heap.size], by simpa using h1, rfl, fun i a p ha hp => ?_⟩
  match i, ha, hp with
  | 0, ha, hp =>
    simp at ha hp
    subst ha; subst hp
    exact ⟨(h2.alloc (by simp) _).more (by omega), rfl⟩
set_option maxRecDepth 100000 in
set_option maxHeartbeats 4000000 in
theorem alive11 (w : World) (ht : TabW w.heap.size w) : Calls Tryd.prog 11 #[] w fun e w' => e = .returned (.bool true) ∧ Below w.heap.size w w' := by
  have hb0 : Below w.heap.size w ((w.alloc (.cells aliveE.cells 56)).alloc (.cells (aliveG w.heap.size).cells 42)) := ((Below.refl _ _).alloc (Nat.le_refl _) _).alloc (by simp) _
  have H8 := Lib.hid (print8 (some ⟨w.heap.size + 1, 0, none⟩) 1 1 [aliveP] ((w.alloc (.cells aliveE.cells 56)).alloc (.cells (aliveG w.heap.size).cells 42)) (by simpa using alive_acts w) (by decide) (by decide) ((ht.on hb0).more (by simp; omega)))
  rw [alive_right, if_pos rfl, alive_text, show strV aliveT = .string ⟨#[115, 101, 110, 100, 32, 51, 32, 120, 48, 49, 48, 50, 48, 52, 32, 120, 54, 56, 54, 57, 10]⟩ from rfl] at H8
  have HB0 := Lib.hid hb0
  clear ht hb0
  go_enter Tryd.func11, Tryd.ntmps11
  go_wp2_with (go_at_call 8; rw [aliveE_lit, aliveG_lit]; refine H8.out.mono ?_; rintro e w1 ⟨rfl, hb1⟩)
  go_ret
  exact ⟨rfl, HB0.out.trans (hb1.mono (by simp; omega))⟩
end Go.Proofs.YthbgmmliijpemaaDoor
