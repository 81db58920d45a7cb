/- The zero state. -/
import Derived.Test.YtfagmjlgpfnniaaDoorRight2
namespace Go.Proofs.YtfagmjlgpfnniaaDoor
open Go.RowKit

/-- The zero state's cells. -/
noncomputable def Z0 : List Value := match (Tryd.prog.info? 49).bind (·.zero) with
  | some (.agg cs) => cs.toList
  | _ => []
theorem Z0_len : Z0.length = 1957 := by kernel_rfl
theorem Z0_one' : Z0.all (·.oneCell') = true := by kernel_rfl
theorem Z0_slot : Z0[33]? = some (.int .u64 ((0 : Nat) : Int)) := by kernel_rfl
theorem Z0_vals : Z0[721]? = some (.slice none 0 0) := by kernel_rfl
theorem Z0_mix' : (Z0.drop 723).take 256 = nums .u8 (fun _ => 0) 256 := by kernel_rfl
theorem Z0_built : Tryd.prog.built 49 [] = some Z0.toArray := by kernel_rfl
theorem Z0_zero : (Tryd.prog.info? 49).map (fun i => (i.zero, i.size)) = some (some (.agg Z0.toArray), 1957) := by kernel_rfl
theorem Z0_one : ∀ v ∈ Z0, v.oneCell' = true := List.all_eq_true.1 Z0_one'
theorem Z0_mix (i : Nat) (h : i < 256) : Z0[723 + i]? = some (.int .u8 ((0 : Nat) : Int)) := by
  have e : ((Z0.drop 723).take 256)[i]? = Z0[723 + i]? := by rw [List.getElem?_take_of_lt h, List.getElem?_drop]
  rw [← e, Z0_mix', nums_get _ _ _ _ h]
def D0 : SD := { slot := 0, nv := 0, A := none, vcap := 0, vb := 0, vo := 0, act := fun _ => 0, ext := fun _ => 0, eff := fun _ => 0, key := fun _ _ => 0, mix := fun _ => 0, val := fun _ => [] }
theorem St.zero (w : World) : St w Z0 D0 :=
  ⟨Z0_len, Z0_one, Z0_slot, by decide, Z0_vals, fun h => absurd h (Nat.lt_irrefl 0), Nat.le_refl _, Nat.zero_le _, fun i h => absurd h (Nat.not_lt_zero i), fun _ => by show (0 : Nat) < _; omega, fun _ => by show (0 : Nat) < _; omega, fun _ => by show (0 : Nat) < _; omega, fun i h => Z0_mix i h, fun _ => by show (0 : Nat) < _; omega⟩
theorem propR_zero : propR D0 = none := by
  have h : activesF D0 (D0.slot / 4) D0.nv = [] := rfl
  unfold propR drawR
  rw [h, shufF_nil]
  rfl
theorem countF_zero : countF (activesF D0 0 D0.nv).length = 1 := rfl
end Go.Proofs.YtfagmjlgpfnniaaDoor