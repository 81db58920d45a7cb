/-
  WholeDuties of the given program answers true and leaves its arguments as they were, whatever the state and the epoch:
  the card, its two listed variables (the hash's start and round words) tied to the program's text.
-/
import Derived.Test.YtfagmjlgpfnniaaDoorDuties
import Derived.Test.YtfagmjlgpfnniaaDoorTie
import Derived.Test.YtfagmjlgpfnniaaDoorCards
import Derived.SevenTiedAt
namespace Go.Proofs.YtfagmjlgpfnniaaDoor.wholeDuties
open Go

theorem card_holds : Rows.WholeDutiesCardSaid :=
  Claim7.holds_tied_plain_at .later [] [.data, .data] true (true, "2bf9533cc5f877b5745fbd7b47b65a366e0765ea5a24d57d7cb1db36cf02a224") false holds (fun _ h => by cases h) (by kernel_rfl) (fun _ h => by cases h) wholeDuties_row_tie rfl ⟨rfl, rfl⟩ (by kernel_rfl) rfl
    (fun f fn hf hfn => by
      obtain rfl : f = 3 := Option.some.inj ((show Tryd.prog.funcNamed "pharos/pharostop.WholeDuties" = some 3 by kernel_rfl).symm.trans hf) |>.symm
      obtain rfl : fn = Tryd.f3 := (Option.some.inj (Tryd.func3.symm.trans hfn)).symm
      exact ⟨by kernel_rfl, fun j t ht => by
        rw [Tryd.params3] at ht
        have hm : t ∈ [49, 22] := by simpa using Array.mem_of_getElem? ht
        have hall : ([49, 22].all fun u => !Tryd.prog.wantsStandIn u) = true := by kernel_rfl
        exact (show Tryd.prog.wantsStandIn t = false by simpa using List.all_eq_true.1 hall t hm)⟩)
    (by kernel_rfl)
#print axioms card_holds
end Go.Proofs.YtfagmjlgpfnniaaDoor.wholeDuties
