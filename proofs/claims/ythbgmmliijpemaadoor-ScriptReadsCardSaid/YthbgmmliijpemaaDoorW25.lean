/- Walks: an identifier that is parsed, the program's. -/
import Derived.Test.YthbgmmliijpemaaDoorSpec4
set_option linter.unusedVariables false
set_option linter.unusedSimpArgs false
namespace Go.Proofs.YthbgmmliijpemaaDoor
open Go Go.RowKit
/-- Two digits' byte. -/
def byteH (a b : UInt8) : UInt8 := UInt8.ofNat ((hexI a).toNat * 16 + (hexI b).toNat)
/-- Are the digits ahead of place k all digits? -/
def hexOk (l : List UInt8) (k : Nat) : Bool := (List.range k).all fun j => decide (0 ≤ hexI (l.getD (2 * j) 0)) && decide (0 ≤ hexI (l.getD (2 * j + 1) 0))
theorem hexOk_succ (l : List UInt8) (k : Nat) : hexOk l (k + 1) = (hexOk l k && (decide (0 ≤ hexI (l.getD (2 * k) 0)) && decide (0 ≤ hexI (l.getD (2 * k + 1) 0)))) := by
  simp [hexOk, List.range_succ]
theorem hexOk_at {l : List UInt8} {n k : Nat} (h : hexOk l n = true) (hk : k < n) : 0 ≤ hexI (l.getD (2 * k) 0) ∧ 0 ≤ hexI (l.getD (2 * k + 1) 0) := by
  have := List.all_eq_true.mp h k (List.mem_range.mpr hk)
  simpa using this
theorem hexOk_no {l : List UInt8} {n k : Nat} (hk : k < n) (h : hexI (l.getD (2 * k) 0) < 0 ∨ hexI (l.getD (2 * k + 1) 0) < 0) : hexOk l n = false := by
  cases he : hexOk l n
  · rfl
  · have := hexOk_at he hk; omega
/-- An identifier whose first k bytes are read. -/
def idU (l : List UInt8) (k : Nat) : GId := ⟨(List.range 32).map fun j => if j < k then byteH (l.getD (2 * j) 0) (l.getD (2 * j + 1) 0) else 0, by simp⟩
theorem idU_zero (l : List UInt8) : idU l 0 = GId.zero := by
  simp only [idU, GId.zero, GId.mk.injEq]
  rfl
theorem idU_succ (l : List UInt8) (k : Nat) (hk : k < 32) : idU l (k + 1) = (idU l k).set k (byteH (l.getD (2 * k) 0) (l.getD (2 * k + 1) 0)) := by
  simp only [idU, GId.set, GId.mk.injEq]
  apply List.ext_getElem
  · simp
  · intro i h1 h2
    simp only [List.getElem_map, List.getElem_range, List.getElem_set]
    by_cases h : k = i
    · subst h; simp
    · rw [if_neg h]
      by_cases h3 : i < k
      · rw [if_pos (by omega), if_pos h3]
      · rw [if_neg (by omega), if_neg h3]
/-- What is parsed of whatever text. -/
def idOk (l : List UInt8) : Bool := decide (l.length = 64) && hexOk l 32
def idF (l : List UInt8) : GId := if idOk l then idU l 32 else GId.zero
end Go.Proofs.YthbgmmliijpemaaDoor
