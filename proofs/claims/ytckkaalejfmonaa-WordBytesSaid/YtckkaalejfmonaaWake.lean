/- Contracts of Join at 3 and 4, and of awake. -/
import Derived.Test.YtckkaalejfmonaaLdiv
import Derived.Test.YtckkaalejfmonaaRoot
import Derived.Below
namespace Go.Proofs.Ytckkaalejfmonaa
open Go.RowKit Go.Shelf

set_option maxHeartbeats 800000 in
theorem join34 (w : World) : Calls Try.prog 26 #[.int .u64 3, .int .u64 4] w fun e w' => e = .returned (.tuple #[.complex .f64 4613937818241073152 4616189618054758400, .int .i64 0]) ∧ w = w' := by
  go_enter Try.func26, Try.ntmps26
  go_wp2
  have e3 : floatOfInt .f64 3 = 4613937818241073152 := by decide +kernel
  have e4 : floatOfInt .f64 4 = 4616189618054758400 := by decide +kernel
  rw [e3, e4]
  go_ret2
  exact ⟨rfl, rfl⟩
theorem wake_add (w : World) : Calls Try.prog 14 #[.int .u64 2, .int .u64 3] w fun e w' => e = .returned (.tuple #[.int .u64 5, .int .i64 0]) ∧ w = w' :=
  add_any 2 3 ⟨by omega, by omega⟩ ⟨by omega, by omega⟩ w
theorem wake_sub (w : World) : Calls Try.prog 16 #[.int .u64 3, .int .u64 5] w fun e w' => e = .returned (.tuple #[.int .u64 0, .int .i64 2]) ∧ w = w' :=
  sub_any 3 5 ⟨by omega, by omega⟩ ⟨by omega, by omega⟩ w
theorem wake_div (w : World) : Calls Try.prog 11 #[.int .u64 9223372036854775808, .int .u64 3, .int .u64 4] w fun e w' => e = .returned (.tuple #[.int .u64 6917529027641081856, .int .i64 0]) ∧ ∃ n, w' = w.drewN n := by
  have h := muldiv_any 9223372036854775808 3 4 (by omega) (by omega) (by omega) w
  have e : mulDivS 9223372036854775808 3 4 = (6917529027641081856, 0) := by decide +kernel
  rw [e] at h
  exact h
theorem wake_root (w : World) : Calls Try.prog 13 #[.int .u64 16] w fun e w' => e = .returned (.int .u64 4) ∧ w = w' := by
  refine (root_any 16 (by omega) w).mono ?_
  rintro e w' ⟨⟨r, rfl, hr, _⟩, rfl⟩
  have : r = 4 := isRoot_eq hr ⟨by omega, by omega⟩
  subst this
  exact ⟨rfl, rfl⟩
set_option maxHeartbeats 1600000 in
theorem wake_any (w : World) : Calls Try.prog 10 #[] w fun e w' => e = .returned (.bool true) ∧ ∃ n, w' = w.drewN n := by
  go_enter Try.func10, Try.ntmps10
  go_wp2_with fail
  refine (wake_add _).mono ?_
  rintro e w1 ⟨rfl, rfl⟩
  go_wp2_with fail
  refine (wake_div _).mono ?_
  rintro e w2 ⟨rfl, n, rfl⟩
  go_wp2_with fail
  refine (wake_sub _).mono ?_
  rintro e w1 ⟨rfl, rfl⟩
  go_wp2_with fail
  refine (join34 _).mono ?_
  rintro e w1 ⟨rfl, rfl⟩
  go_wp2_with fail
  refine (wake_root _).mono ?_
  rintro e w1 ⟨rfl, rfl⟩
  go_wp2
  go_ret
  exact ⟨rfl, n, rfl⟩
end Go.Proofs.Ytckkaalejfmonaa
