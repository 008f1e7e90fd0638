/- Walks: an identifier's text, the program's. -/
import Derived.Test.YthbgmmliijpemaaDoorW9
set_option linter.unusedVariables false
set_option linter.unusedSimpArgs false
namespace Go.Proofs.YthbgmmliijpemaaDoor
open Go Go.RowKit
theorem hexD_at (n : Nat) (h : n < (⟨#[48, 49, 50, 51, 52, 53, 54, 55, 56, 57, 97, 98, 99, 100, 101, 102]⟩ : ByteArray).size) :
    (⟨#[48, 49, 50, 51, 52, 53, 54, 55, 56, 57, 97, 98, 99, 100, 101, 102]⟩ : ByteArray)[n]'h = hexB n := by
  have h' : n < 16 := h
  have : n = 0 ∨ n = 1 ∨ n = 2 ∨ n = 3 ∨ n = 4 ∨ n = 5 ∨ n = 6 ∨ n = 7 ∨ n = 8 ∨ n = 9 ∨ n = 10 ∨ n = 11 ∨ n = 12 ∨ n = 13 ∨ n = 14 ∨ n = 15 := by omega
  rcases this with rfl | rfl | rfl | rfl | rfl | rfl | rfl | rfl | rfl | rfl | rfl | rfl | rfl | rfl | rfl | rfl <;> rfl
theorem byteCells_snoc2 (l : List UInt8) (a b : UInt8) : (Lib.byteCells l ++ [Value.int .u8 (a.toNat : Int)]) ++ [Value.int .u8 (b.toNat : Int)] = Lib.byteCells (l ++ [a, b]) := by simp [Lib.byteCells]
set_option maxRecDepth 100000 in
set_option maxHeartbeats 1000000 in
theorem text35 (x : GId) (w : World) : Calls Tryd.prog 35 #[.agg x.cells] w fun e w' => e = .returned (strV (hexOf x.l)) ∧ Below w.heap.size w w' := by
  go_enter Tryd.func35, Tryd.ntmps35
  go_wp2
  go_loopw [7] (fun i wr => ∃ (k : Nat), k ≤ 32 ∧ i = .int .i64 k ∧ Lib.IsBuilder 46 5 (w.heap.size + 1) (w.heap.size + 1) (Lib.byteCells (hexOf (x.l.take k))) wr ∧ Below (w.heap.size + 1) (w.alloc (.cells x.cells 39)) wr) (fun i _ => 32 - (intOf i).toNat)
  case atStart =>
    refine ⟨0, by omega, rfl, ?_, ?_⟩
    · have := Lib.fresh_isBuilder 46 5 (w.alloc (.cells x.cells 39))
      simpa [hexOf, Lib.byteCells] using this
    · exact (Below.refl _ _).alloc (by simp) _
  case round =>
    obtain ⟨k, hk, rfl, hbu, hb⟩ := hrel
    have HB := Lib.hid hbu
    have hbs := hb.size
    clear hbu
    by_cases hlt : k < 32
    · have h256 := (x.at k).toNat_lt
      have hxl := x.h
      have hln : (Lib.byteCells (hexOf (x.l.take k))).length ≤ 64 := by rw [Lib.byteCells_length, hexOf_len, List.length_take]; omega
      go_wp2_with (go_at_call 63; simp only [hexD_at]; first | (refine (writeByte (w.heap.size + 1) (w.heap.size + 1) _ _ _ HB2.out.1 (by simp only [List.length_append, List.length_cons, List.length_nil]; omega) HB2.out.2).mono ?_; rintro e w3 ⟨rfl, hbu3, hb3⟩) | (refine (writeByte (w.heap.size + 1) (w.heap.size + 1) _ _ _ HB.out (by omega) (by simpa using hbs)).mono ?_; rintro e w2 ⟨rfl, hbu2, hb2⟩; have HB2 := Lib.hid (And.intro hbu2 (Nat.le_trans (by simpa using hbs) hb2.size)); clear hbu2))
      rw [byteCells_snoc2, ← hexOf_at x hlt] at hbu3
      go_roundw
      case rel => exact ⟨k + 1, by omega, by go_num, hbu3, (hb.trans hb2).trans hb3⟩
      case measure => simp [intOf]; omega
    · have HS := Lib.hid (Tryd.Builder_String_any _ _ _ _ HB.out (by simpa using hbs))
      go_wp2_with (go_at_call 19; refine HS.out.mono ?_; rintro e w2 ⟨rfl, hb2⟩)
      go_ret
      exact ⟨by rw [List.take_of_length_le (by rw [x.h]; omega)]; rfl, below_box (Below.refl _ _) (by simpa using hb.trans hb2)⟩
end Go.Proofs.YthbgmmliijpemaaDoor
