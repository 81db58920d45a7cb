/- WholeDuties: the witness (the zero state, epoch 0) is well typed. -/
import Derived.Test.YtfagmjlgpfnniaaDoorZero
import Derived.Test.YtfagmjlgpfnniaaDoorRows
import Derived.WalkKit
import Derived.ProofKit
import Derived.OpenShut
import Derived.LaidMore
import Derived.Lay
import Derived.Stop.Joined
import Derived.ChangeOld
import Derived.Below
namespace Go.Proofs.YtfagmjlgpfnniaaDoor.wholeDuties
open Go.ChangeShapes Go.WideShapes Go.ChangeAt Go.RowKit

set_option maxRecDepth 100000
/-- The witness's argument is well typed: one pass. -/
noncomputable def TS : List TypeId := (Tryd.prog.cellTypes Tryd.prog.depth 49).getD []
theorem TS_eq : Tryd.prog.cellTypes Tryd.prog.depth 49 = some TS := by kernel_rfl
theorem TS_len : TS.length = 1957 := by kernel_rfl
theorem Z0_typed (W : World) : ((Z0.zip TS).all fun p => Cell.okWideB Tryd.prog W p.2 p.1) = true := by kernel_rfl
theorem Z0_row (W : World) (base : Nat) : Row.okWide Tryd.prog W .any base 49 Z0.toArray := by
  refine ⟨TS, TS_eq, ⟨1, by rw [TS_len, List.size_toArray, Z0_len]⟩, fun i v hv => ?_⟩
  rw [List.getElem?_toArray] at hv
  have hi : i < 1957 := by
    rcases Nat.lt_or_ge i 1957 with h | h
    · exact h
    · rw [List.getElem?_eq_none (by rw [Z0_len]; exact h)] at hv; cases hv
  have hi2 : i < TS.length := by rw [TS_len]; exact hi
  refine ⟨TS[i], by rw [Nat.mod_eq_of_lt hi2, List.getElem?_eq_getElem hi2], Cell.okWide_of_okWideB (List.all_eq_true.1 (Z0_typed W) (v, TS[i]) ?_)⟩
  rw [List.mem_iff_getElem?]
  exact ⟨i, by rw [List.getElem?_zip_eq_some]; exact ⟨hv, List.getElem?_eq_getElem hi2⟩⟩
theorem wit_ok (W : World) (base : Nat) : Input.okWide Tryd.prog W .any base 3 ⟨#[], #[.agg Z0.toArray, .int .u64 0], []⟩ := by
  refine ⟨by simp, by simp, by kernel_rfl, Tryd.f3, Tryd.func3, by kernel_rfl, by kernel_rfl, by kernel_rfl, by kernel_rfl, ?_⟩
  intro j t v ht hv
  rw [Tryd.params3] at ht
  match j with
  | 0 =>
    obtain rfl : 49 = t := by simpa using ht
    obtain rfl : Value.agg Z0.toArray = v := by simpa using hv
    unfold Value.okWide
    rw [Tryd.underlying49]
    exact ⟨_, rfl, by rw [List.size_toArray, Z0_len]; exact (show Tryd.prog.cellsOf 49 = 1957 by kernel_rfl).symm, Z0_row W base⟩
  | 1 =>
    obtain rfl : 22 = t := by simpa using ht
    obtain rfl : Value.int .u64 0 = v := by simpa using hv
    exact Value.okWide_of_okWideB (by kernel_rfl)
  | j + 2 => simp at ht
end Go.Proofs.YtfagmjlgpfnniaaDoor.wholeDuties
