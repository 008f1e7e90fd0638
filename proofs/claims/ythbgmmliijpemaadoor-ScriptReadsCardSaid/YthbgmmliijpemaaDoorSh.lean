/- Walk: the shapes (a literal of sixteen structs), by the walk's own rules. -/
import Derived.Test.YthbgmmliijpemaaDoorProg
import Derived.WalkKit
set_option linter.unusedVariables false
set_option linter.unusedSimpArgs false
namespace Go.Proofs.YthbgmmliijpemaaDoor
open Go Go.RowKit
/-- The shapes' cells: a word and what it has, sixteen times. -/
def shapesC : Array Value := #[.string ⟨#[]⟩, .string ⟨#[]⟩, .string ⟨#[106, 111, 105, 110]⟩, .string ⟨#[111, 105, 100]⟩, .string ⟨#[108, 101, 97, 118, 101]⟩, .string ⟨#[111]⟩, .string ⟨#[102, 97, 105, 108]⟩, .string ⟨#[111]⟩, .string ⟨#[114, 111, 117, 110, 100]⟩, .string ⟨#[]⟩, .string ⟨#[112, 97, 115, 115]⟩, .string ⟨#[110]⟩, .string ⟨#[104, 111, 115, 116]⟩, .string ⟨#[111, 116]⟩, .string ⟨#[119, 97, 110, 116]⟩, .string ⟨#[111, 110, 105]⟩, .string ⟨#[117, 110, 119, 97, 110, 116]⟩, .string ⟨#[111, 105]⟩, .string ⟨#[97, 115, 107]⟩, .string ⟨#[111]⟩, .string ⟨#[115, 101, 110, 100]⟩, .string ⟨#[111, 115, 100]⟩, .string ⟨#[98, 114, 105, 110, 103]⟩, .string ⟨#[110]⟩, .string ⟨#[116, 119, 105, 99, 101]⟩, .string ⟨#[110]⟩, .string ⟨#[108, 111, 115, 101]⟩, .string ⟨#[110]⟩, .string ⟨#[108, 97, 115, 116]⟩, .string ⟨#[110]⟩, .string ⟨#[108, 105, 110, 107]⟩, .string ⟨#[111, 110, 105, 115]⟩]
set_option maxRecDepth 20000 in
set_option maxHeartbeats 2000000 in
theorem shapes53 (w : World) : Calls Tryd.prog 53 #[] w fun x w' => x = .returned (.slice (some ⟨w.heap.size, 0, none⟩) 16 16) ∧ w' = w.alloc (.cells shapesC 65) := by
  go_enter Tryd.func53, Tryd.ntmps53
  go_wp2
  go_ret
  exact ⟨rfl, rfl⟩
end Go.Proofs.YthbgmmliijpemaaDoor
