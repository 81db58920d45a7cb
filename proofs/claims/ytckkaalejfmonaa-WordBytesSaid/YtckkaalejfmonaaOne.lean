/- Contracts of layer 1: sums, differences, products, and their references. -/
import Derived.Test.YtckkaalejfmonaaRows
import Derived.Test.YtckkaalejfmonaaShelf
import Derived.Shelf.Spec.BitsCarry
import Derived.WalkKit
import Derived.WalkSpells
import Derived.WalkLawsBesides
import Derived.Lib.Hide
namespace Go.Proofs.Ytckkaalejfmonaa
open Go.RowKit Go.Shelf

theorem add64 (x y : Int) (hx : 0 ≤ x) (hy : 0 ≤ y) (w : World) : (callFunc 33 #[.int .u64 x, .int .u64 y, .int .u64 0]).run Try.prog w =
    .ok (.value (.tuple #[.int .u64 ((x + y) % 18446744073709551616), .int .u64 ((x + y) / 18446744073709551616)])) w := by
  obtain ⟨x, rfl⟩ := Int.eq_ofNat_of_zero_le hx
  obtain ⟨y, rfl⟩ := Int.eq_ofNat_of_zero_le hy
  have := run_callFunc_extern (P := Try.prog) (f := 33) (args := #[.int .u64 (x : Int), .int .u64 (y : Int), .int .u64 0]) (w := w) Try.func33 (by kernel_rfl) (by kernel_rfl) (by kernel_rfl) (e := add64Entry) (by kernel_rfl)
  rw [this, run_add64 (x : Int) (y : Int) 0 (by omega) (by omega) (by omega) (by omega)]
  simp only [Result.andThen]
  congr 5 <;> omega
theorem sub64 (x y : Int) (hx : 0 ≤ x) (hy : 0 ≤ y) (hy' : y < 18446744073709551616) (w : World) : (callFunc 34 #[.int .u64 x, .int .u64 y, .int .u64 0]).run Try.prog w =
    .ok (.value (.tuple #[.int .u64 ((x - y) % 18446744073709551616), .int .u64 (if x < y then 1 else 0)])) w := by
  obtain ⟨x, rfl⟩ := Int.eq_ofNat_of_zero_le hx
  obtain ⟨y, rfl⟩ := Int.eq_ofNat_of_zero_le hy
  have := run_callFunc_extern (P := Try.prog) (f := 34) (args := #[.int .u64 (x : Int), .int .u64 (y : Int), .int .u64 ((0 : Nat) : Int)]) (w := w) Try.func34 (by kernel_rfl) (by kernel_rfl) (by kernel_rfl) (e := sub64Entry) (by kernel_rfl)
  rw [run_sub64 x y 0 (by omega)] at this
  refine Eq.trans this ?_
  simp only [Result.andThen, Nat.add_zero]
  have e1 : (((x + 18446744073709551616 - y - 0) % 18446744073709551616 : Nat) : Int) = ((x : Int) - y) % 18446744073709551616 := by omega
  have e2 : ((if x < y then 1 else 0 : Nat) : Int) = if (x : Int) < y then 1 else 0 := by split <;> split <;> omega
  rw [← e1, ← e2]

/-- A word. -/
def Word (x : Int) : Prop := 0 ≤ x ∧ x < 18446744073709551616
def addS (a b : Int) : Int × Int := if a + b < 18446744073709551616 then (a + b, 0) else (0, 2)
def subS (a b : Int) : Int × Int := if b ≤ a then (a - b, 0) else (0, 2)
def mulS (a b : Int) : Int × Int := if a * b < 18446744073709551616 then (a * b, 0) else (0, 2)
def lessS (a b : Int) : Int := if b ≤ a then a - b else 0
def Pair (w : World) (p : Int × Int) (e : Ending) (w' : World) : Prop := e = .returned (.tuple #[.int .u64 p.1, .int .i64 p.2]) ∧ w = w'

set_option maxHeartbeats 400000 in
theorem add_any (a b : Int) (ha : Word a) (hb : Word b) (w : World) : Calls Try.prog 14 #[.int .u64 a, .int .u64 b] w (Pair w (addS a b)) := by
  obtain ⟨a1, a2⟩ := ha
  obtain ⟨b1, b2⟩ := hb
  by_cases h : a + b < 18446744073709551616
  · have e0 : Hid (addS a b = (a + b, 0)) := by show _ = _; unfold addS; rw [if_pos h]
    have e1 : (a + b) / 18446744073709551616 = 0 := by omega
    have e2 : (a + b) % 18446744073709551616 = a + b := by omega
    have A64 := fun w => add64 a b a1 b1 w
    simp only [e1, e2] at A64
    clear e1 e2
    go_enter Try.func14, Try.ntmps14
    go_wp2_with (first | simp only [A64])
    go_ret2
    exact ⟨by rw [e0.out]; rfl, rfl⟩
  · have e0 : Hid (addS a b = (0, 2)) := by show _ = _; unfold addS; rw [if_neg h]
    have e1 : (a + b) / 18446744073709551616 = 1 := by omega
    have A64 := fun w => add64 a b a1 b1 w
    simp only [e1] at A64
    clear e1
    go_enter Try.func14, Try.ntmps14
    go_wp2_with (first | simp only [A64])
    go_ret2
    exact ⟨by rw [e0.out]; rfl, rfl⟩
set_option maxHeartbeats 400000 in
theorem sub_any (a b : Int) (ha : Word a) (hb : Word b) (w : World) : Calls Try.prog 16 #[.int .u64 a, .int .u64 b] w (Pair w (subS a b)) := by
  obtain ⟨a1, a2⟩ := ha
  obtain ⟨b1, b2⟩ := hb
  by_cases h : b ≤ a
  · have e0 : Hid (subS a b = (a - b, 0)) := by show _ = _; unfold subS; rw [if_pos h]
    have e2 : (a - b) % 18446744073709551616 = a - b := by omega
    have A64 := fun w => sub64 a b a1 b1 b2 w
    simp only [e2, if_neg (show ¬ a < b from by omega)] at A64
    clear e2
    go_enter Try.func16, Try.ntmps16
    go_wp2_with (first | simp only [A64])
    go_ret2
    exact ⟨by rw [e0.out]; rfl, rfl⟩
  · have e0 : Hid (subS a b = (0, 2)) := by show _ = _; unfold subS; rw [if_neg h]
    have A64 := fun w => sub64 a b a1 b1 b2 w
    simp only [if_pos (show a < b from by omega)] at A64
    go_enter Try.func16, Try.ntmps16
    go_wp2_with (first | simp only [A64])
    go_ret2
    exact ⟨by rw [e0.out]; rfl, rfl⟩
theorem mul64 (a b : Int) (ha : Word a) (hb : Word b) (w : World) : Calls Try.prog 29 #[.int .u64 a, .int .u64 b] w fun e w' => e = .returned (.tuple #[.int .u64 (a * b / 18446744073709551616), .int .u64 (a * b % 18446744073709551616)]) ∧ w = w' := by
  obtain ⟨a1, a2⟩ := ha
  obtain ⟨b1, b2⟩ := hb
  obtain ⟨x, rfl⟩ := Int.eq_ofNat_of_zero_le a1
  obtain ⟨y, rfl⟩ := Int.eq_ofNat_of_zero_le b1
  refine (Try.bits_Mul64 x y (by omega) (by omega) w).mono ?_
  rintro e w' ⟨rfl, rfl⟩
  exact ⟨by simp, rfl⟩
theorem mul_nonneg' (a b : Int) (ha : 0 ≤ a) (hb : 0 ≤ b) : 0 ≤ a * b := Int.mul_nonneg ha hb
set_option maxHeartbeats 400000 in
theorem mul_any (a b : Int) (ha : Word a) (hb : Word b) (w : World) : Calls Try.prog 18 #[.int .u64 a, .int .u64 b] w (Pair w (mulS a b)) := by
  have M := mul64 a b ha hb w
  have hp := mul_nonneg' a b ha.1 hb.1
  obtain ⟨p, hq⟩ : ∃ p, p = a * b := ⟨_, rfl⟩
  have e0 : Hid (mulS a b = if p < 18446744073709551616 then (p, 0) else (0, 2)) := by show _ = _; rw [hq]; rfl
  rw [← hq] at M hp
  clear hq
  by_cases h : p < 18446744073709551616
  · have e1 : Hid (mulS a b = (p, 0)) := by show _ = _; rw [e0.out, if_pos h]
    rw [show p / 18446744073709551616 = 0 from by omega, show p % 18446744073709551616 = p from by omega] at M
    have HM := Lib.hid M
    clear M
    go_enter Try.func18, Try.ntmps18
    go_wp2_with fail
    refine HM.out.mono ?_
    rintro e w' ⟨rfl, rfl⟩
    go_wp2
    go_ret2
    exact ⟨by rw [e1.out]; rfl, rfl⟩
  · have e1 : Hid (mulS a b = (0, 2)) := by show _ = _; rw [e0.out, if_neg h]
    have hne : (p / 18446744073709551616 == 0) = false := by simp; omega
    have hne' : (p / 18446744073709551616 != 0) = true := by simp; omega
    have HM := Lib.hid M
    clear M
    go_enter Try.func18, Try.ntmps18
    go_wp2_with fail
    refine HM.out.mono ?_
    rintro e w' ⟨rfl, rfl⟩
    go_wp2
    go_ret2
    exact ⟨by rw [e1.out]; rfl, rfl⟩
theorem ret_u64 {a b : Int} (h : a = b) : Ending.returned (.int .u64 a) = .returned (.int .u64 b) := by rw [h]
set_option maxHeartbeats 400000 in
theorem less_any (a b : Int) (ha : Word a) (hb : Word b) (w : World) : Calls Try.prog 20 #[.int .u64 a, .int .u64 b] w fun e w' => e = .returned (.int .u64 (lessS a b)) ∧ w = w' := by
  obtain ⟨a1, a2⟩ := ha
  obtain ⟨b1, b2⟩ := hb
  have e0 : Hid (a - min a b = lessS a b) := by show _ = _; unfold lessS; split <;> omega
  by_cases h : b ≤ a
  · go_enter Try.func20, Try.ntmps20
    go_wp2
    go_ret
    exact ⟨ret_u64 e0.out, rfl⟩
  · go_enter Try.func20, Try.ntmps20
    go_wp2
    go_ret
    exact ⟨ret_u64 e0.out, rfl⟩
set_option maxHeartbeats 400000 in
theorem radd_any (a b : Int) (ha : Word a) (hb : Word b) (w : World) : Calls Try.prog 15 #[.int .u64 a, .int .u64 b] w (Pair w (addS a b)) := by
  obtain ⟨a1, a2⟩ := ha
  obtain ⟨b1, b2⟩ := hb
  by_cases h : a + b < 18446744073709551616
  · have e0 : Hid (addS a b = (a + b, 0)) := by show _ = _; unfold addS; rw [if_pos h]
    go_enter Try.func15, Try.ntmps15
    go_wp2
    go_ret2
    exact ⟨by rw [e0.out]; rfl, rfl⟩
  · have e0 : Hid (addS a b = (0, 2)) := by show _ = _; unfold addS; rw [if_neg h]
    have e1 : IntKind.u64.wrap (a + b) = a + b - 18446744073709551616 := by rw [IntKind.wrap_u64]; omega
    go_enter Try.func15, Try.ntmps15
    go_wp2
    go_ret2
    exact ⟨by rw [e0.out]; rfl, rfl⟩
set_option maxHeartbeats 400000 in
theorem rsub_any (a b : Int) (ha : Word a) (hb : Word b) (w : World) : Calls Try.prog 17 #[.int .u64 a, .int .u64 b] w (Pair w (subS a b)) := by
  obtain ⟨a1, a2⟩ := ha
  obtain ⟨b1, b2⟩ := hb
  by_cases h : b ≤ a
  · have e0 : Hid (subS a b = (a - b, 0)) := by show _ = _; unfold subS; rw [if_pos h]
    go_enter Try.func17, Try.ntmps17
    go_wp2
    go_ret2
    exact ⟨by rw [e0.out]; rfl, rfl⟩
  · have e0 : Hid (subS a b = (0, 2)) := by show _ = _; unfold subS; rw [if_neg h]
    go_enter Try.func17, Try.ntmps17
    go_wp2
    go_ret2
    exact ⟨by rw [e0.out]; rfl, rfl⟩
set_option maxHeartbeats 400000 in
theorem rless_any (a b : Int) (ha : Word a) (hb : Word b) (w : World) : Calls Try.prog 21 #[.int .u64 a, .int .u64 b] w fun e w' => e = .returned (.int .u64 (lessS a b)) ∧ w = w' := by
  obtain ⟨a1, a2⟩ := ha
  obtain ⟨b1, b2⟩ := hb
  by_cases h : b ≤ a
  · have e0 : Hid (a - b = lessS a b) := by show _ = _; unfold lessS; rw [if_pos h]
    go_enter Try.func21, Try.ntmps21
    go_wp2
    go_ret
    exact ⟨ret_u64 e0.out, rfl⟩
  · have e0 : Hid (0 = lessS a b) := by show _ = _; unfold lessS; rw [if_neg h]
    go_enter Try.func21, Try.ntmps21
    go_wp2
    go_ret
    exact ⟨ret_u64 e0.out, rfl⟩
end Go.Proofs.Ytckkaalejfmonaa
