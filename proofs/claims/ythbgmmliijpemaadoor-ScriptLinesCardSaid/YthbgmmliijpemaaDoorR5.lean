/- The tied card of ScriptLines: for every two lists of acts the statement returns true, and its arguments read as they did; what its code reads of package-level variables is tied to the program's text. -/
import Derived.Test.YthbgmmliijpemaaDoorR4
import Derived.Test.YthbgmmliijpemaaDoorTie
import Derived.Test.YthbgmmliijpemaaDoorCards
import Derived.SevenTiedAt
namespace Go.Proofs.YthbgmmliijpemaaDoor
open Go
theorem lines_card : Rows.ScriptLinesCardSaid :=
  Claim7.holds_tied_plain_at .later [] [.data, .data, .data] true (true, "873e0a0e718c68c65f2a723f5768fd5cfaa5f8d78bb7a19895de44f802322ea4") false
    lines_holds (fun _ h => by cases h) (by kernel_rfl) (fun _ h => by cases h) scriptLines_row_tie rfl ⟨rfl, rfl⟩ (by kernel_rfl) rfl
    (fun f fn hf hfn => by
      obtain rfl : f = 4 := Option.some.inj ((show Tryd.prog.funcNamed "posthouse/posthouselaw21.ScriptLines" = some 4 by kernel_rfl).symm.trans hf) |>.symm
      obtain rfl : fn = Tryd.f4 := (Option.some.inj (Tryd.func4.symm.trans hfn)).symm
      exact ⟨by kernel_rfl, fun j t ht => by
        rw [Tryd.params4] at ht
        have hm : t ∈ [22] := by simpa using Array.mem_of_getElem? ht
        have hall : ([22].all fun u => !Tryd.prog.wantsStandIn u) = true := by kernel_rfl
        exact (show Tryd.prog.wantsStandIn t = false by simpa using List.all_eq_true.1 hall t hm)⟩)
    (by kernel_rfl)
#print axioms lines_card
end Go.Proofs.YthbgmmliijpemaaDoor
