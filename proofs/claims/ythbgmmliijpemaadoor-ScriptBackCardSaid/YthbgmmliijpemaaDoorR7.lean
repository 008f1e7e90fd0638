/- The tied card of ScriptBack: for every list of acts and every text the statement returns true, and its arguments read as they did; what its code reads of package-level variables is tied to the program's text. -/
import Derived.Test.YthbgmmliijpemaaDoorR6
import Derived.Test.YthbgmmliijpemaaDoorTie
import Derived.Test.YthbgmmliijpemaaDoorCards
import Derived.SevenTiedAt
namespace Go.Proofs.YthbgmmliijpemaaDoor
open Go
theorem back_card : Rows.ScriptBackCardSaid :=
  Claim7.holds_tied_plain_at .later [] [.data, .data, .data, .data, .pinned] true (true, "873e0a0e718c68c65f2a723f5768fd5cfaa5f8d78bb7a19895de44f802322ea4") false
    back_holds (fun _ h => by cases h) (by kernel_rfl) (fun _ h => by cases h) scriptBack_row_tie rfl ⟨rfl, rfl⟩ (by kernel_rfl) rfl
    (fun f fn hf hfn => by
      obtain rfl : f = 6 := Option.some.inj ((show Tryd.prog.funcNamed "posthouse/posthouselaw21.ScriptBack" = some 6 by kernel_rfl).symm.trans hf) |>.symm
      obtain rfl : fn = Tryd.f6 := (Option.some.inj (Tryd.func6.symm.trans hfn)).symm
      exact ⟨by kernel_rfl, fun j t ht => by
        rw [Tryd.params6] at ht
        have hm : t ∈ [22, 9] := by simpa using Array.mem_of_getElem? ht
        have hall : ([22, 9].all fun u => !Tryd.prog.wantsStandIn u) = true := by kernel_rfl
        exact (show Tryd.prog.wantsStandIn t = false by simpa using List.all_eq_true.1 hall t hm)⟩)
    (by kernel_rfl)
#print axioms back_card
end Go.Proofs.YthbgmmliijpemaaDoor
