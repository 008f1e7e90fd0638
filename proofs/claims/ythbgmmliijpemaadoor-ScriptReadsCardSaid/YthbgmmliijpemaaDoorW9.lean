/- Walks: an identifier's text, program and reference. -/
import Derived.Test.YthbgmmliijpemaaDoorW8
import Derived.Test.YthbgmmliijpemaaDoorW0
import Derived.Test.YthbgmmliijpemaaDoorShelf
set_option linter.unusedVariables false
set_option linter.unusedSimpArgs false
namespace Go.Proofs.YthbgmmliijpemaaDoor
open Go Go.RowKit
theorem at_l (x : GId) {k : Nat} (hk : k < x.l.length) : x.l[k] = x.at k := by simp [GId.at, List.getElem?_eq_getElem hk, hk]
theorem hexOf_at (x : GId) {k : Nat} (hk : k < 32) : hexOf (x.l.take (k + 1)) = hexOf (x.l.take k) ++ [hexB ((x.at k).toNat / 16), hexB ((x.at k).toNat % 16)] := by
  rw [hexOf_succ (by rw [x.h]; exact hk), at_l]
set_option maxRecDepth 100000 in
set_option maxHeartbeats 1000000 in
theorem text66 (x : GId) (w : World) : Calls Tryd.prog 66 #[.agg x.cells] w fun e w' => e = .returned (strV (hexOf x.l)) ∧ Below w.heap.size w w' := by
  have HD := Lib.hid digit86
  go_enter Tryd.func66, Tryd.ntmps66
  go_wp2
  go_loopw [3, 8] (fun b i wr => ∃ (k : Nat) (s : SlV), k ≤ 32 ∧ i = .int .i64 k ∧ b = s.val ∧ Own wr w.heap.size 5 1 s (rowsB (hexOf (x.l.take k))) ∧ Below w.heap.size w wr) (fun _ i _ => 32 - (intOf i).toNat)
  case atStart =>
    refine ⟨0, ⟨some ⟨w.heap.size + 1, 0, none⟩, 0, 0⟩, by omega, rfl, rfl, ?_, ?_⟩
    · have := own_lit (w.alloc (.cells x.cells 39)) w.heap.size [] (by simp) (by simp)
      simpa [hexOf, Lib.byteCells] using this
    · exact ((Below.refl _ _).alloc (Nat.le_refl _) _).alloc (by simp) _
  case round =>
    obtain ⟨k, s, hk, rfl, rfl, hown, hb⟩ := hrel
    have HO := Lib.hid hown
    have hbs := hb.size
    clear hown
    by_cases hlt : k < 32
    · have h256 := (x.at k).toNat_lt
      have hxl := x.h
      have hln : (rowsB (hexOf (x.l.take k))).length ≤ 64 := by rw [rowsB_len, hexOf_len, List.length_take]; omega
      go_wp2_with (first | (go_at_call 86; refine (HD.out _ _ (by omega) (by omega)).mono ?_; rintro e w' ⟨rfl, rfl⟩) | (at_builtin; refine wpList_append_rows _ rfl _ _ 44 rfl elem44 s _ rfl (HO.out.alloc _) _ ⟨some ⟨_, 0, none⟩, 2, 2⟩ _ rfl (sl_lit _ [hexB ((x.at k).toNat / 16), hexB ((x.at k).toNat % 16)]) rowsB_size rowsB_one (by simp only [rowsB_len, hexOf_len, List.length_take, List.length_cons, List.length_nil]; omega) (by simp only [rowsB_len, hexOf_len, List.length_take, List.length_cons, List.length_nil]; omega) (by simp; omega) ?_; intro s2 w2 hown2 hput))
      rw [rowsB_app, ← hexOf_at x hlt] at hown2
      go_roundw
      case rel => exact ⟨k + 1, s2, by omega, by go_num, rfl, hown2, (hb.alloc hbs _).trans hput.below⟩
      case measure => simp [intOf]; omega
    · have htx := HO.out.text
      go_wp2_with fail
      go_ret
      exact ⟨by rw [List.take_of_length_le (by rw [x.h]; omega)]; rfl, hb⟩
end Go.Proofs.YthbgmmliijpemaaDoor
