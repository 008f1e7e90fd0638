/- Walks: the program's shapes, and which has what. -/
import Derived.Test.YthbgmmliijpemaaDoorW3
import Derived.Test.YthbgmmliijpemaaDoorSh
set_option linter.unusedVariables false
set_option linter.unusedSimpArgs false
namespace Go.Proofs.YthbgmmliijpemaaDoor
open Go Go.RowKit
def shapeG (k : Nat) : GShape := ⟨⟨(wordOf k).toArray⟩, ⟨(fieldsOf k).toArray⟩⟩
def shapesG : List GShape := (List.range 16).map shapeG
theorem shapesC_size : shapesC.size = 32 := rfl
theorem shapesC_at (j : Nat) (h : j ≤ 15) : shapesC.extract (j * 2) (j * 2 + 2) = (shapeG j).cells := by
  rcases kinds16 (k := (j : Int)) (by omega) (by omega) with e | e | e | e | e | e | e | e | e | e | e | e | e | e | e | e <;> (obtain rfl : j = _ := by exact_mod_cast e) <;> rfl
theorem shapes_rows (w : World) : Sl (w.alloc (.cells shapesC 65)) (w.heap.size + 1) 2 ⟨some ⟨w.heap.size, 0, none⟩, 16, 16⟩ (shapesG.map GShape.cells) := by
  refine ⟨by simp [shapesG], Nat.le_refl _, fun _ => ⟨w.heap.size, 0, rfl, by omega, fun i r hi => ?_⟩⟩
  have hlt : i < 16 := by
    have := (List.getElem?_eq_some_iff.1 hi).1
    simpa [shapesG] using this
  rw [World.row?_alloc_at _ _ rfl, if_pos (by rw [shapesC_size]; omega), Nat.zero_add, shapesC_at i (by omega), ← hi]
  simp [shapesG, hlt]
set_option maxRecDepth 20000 in
set_option maxHeartbeats 800000 in
theorem of33 (k : Int) (w : World) : Calls Tryd.prog 33 #[.int .i64 k] w fun x w' =>
    x = .returned (.tuple #[.agg (if 1 ≤ k ∧ k ≤ 15 then shapeG k.toNat else GShape.zero).cells, .bool (decide (1 ≤ k ∧ k ≤ 15))]) ∧ Below w.heap.size w w' := by
  have H := Lib.hid shapes53
  by_cases h1 : k < 1
  · have e1 : (if 1 ≤ k ∧ k ≤ 15 then shapeG k.toNat else GShape.zero) = GShape.zero := if_neg (by omega)
    have e2 : decide (1 ≤ k ∧ k ≤ 15) = false := by simp; omega
    rw [e1, e2]
    clear e1 e2
    go_enter Tryd.func33, Tryd.ntmps33
    go_wp2_with (go_at_call 53; refine (H.out _).mono ?_; rintro e w1 ⟨rfl, rfl⟩)
    exact bodyPost_ret (results_cell2 rfl _ _ rfl (GShape.load_row (cs := GShape.zero.cells) (by simp [go_sem]))) rfl ⟨rfl, ((Below.refl _ _).alloc (Nat.le_refl _) _).alloc (by simp) _⟩
  · by_cases h2 : k ≤ 15
    · rw [if_pos (show 1 ≤ k ∧ k ≤ 15 by omega), show decide (1 ≤ k ∧ k ≤ 15) = true by simp; omega]
      obtain ⟨j, rfl⟩ := Int.eq_ofNat_of_zero_le (show 0 ≤ k by omega)
      have hj : j ≤ 15 := by omega
      have hj2 : j * 2 + 2 ≤ 32 := by omega
      have hj3 : j * 2 ≤ 30 := by omega
      have e1 := shapesC_at j hj
      have e2 := shapesC_size
      go_enter Tryd.func33, Tryd.ntmps33
      go_wp2_with (go_at_call 53; refine (H.out _).mono ?_; rintro e w1 ⟨rfl, rfl⟩)
      exact bodyPost_ret (results_cell2 rfl _ _ rfl (GShape.load_row (cs := (shapeG j).cells) (by simp [go_sem]))) rfl ⟨rfl, ((Below.refl _ _).alloc (Nat.le_refl _) _).alloc (by simp) _⟩
    · have e1 : (if 1 ≤ k ∧ k ≤ 15 then shapeG k.toNat else GShape.zero) = GShape.zero := if_neg (by omega)
      have e2 : decide (1 ≤ k ∧ k ≤ 15) = false := by simp; omega
      rw [e1, e2]
      clear e1 e2
      go_enter Tryd.func33, Tryd.ntmps33
      go_wp2_with (go_at_call 53; refine (H.out _).mono ?_; rintro e w1 ⟨rfl, rfl⟩)
      exact bodyPost_ret (results_cell2 rfl _ _ rfl (GShape.load_row (cs := GShape.zero.cells) (by simp [go_sem]))) rfl ⟨rfl, ((Below.refl _ _).alloc (Nat.le_refl _) _).alloc (by simp) _⟩
end Go.Proofs.YthbgmmliijpemaaDoor
