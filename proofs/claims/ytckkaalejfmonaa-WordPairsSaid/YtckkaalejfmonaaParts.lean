/- Contracts of IsNaN, Trunc, part and both Parts. -/
import Derived.Test.YtckkaalejfmonaaFlo2
import Derived.Handy
namespace Go.Proofs.Ytckkaalejfmonaa
open Go.RowKit Go.Shelf flo

theorem beq_of {x : Option Ordering} {o : Ordering} (h : x = some o) (p : Ordering) : (x == some p) = decide (o = p) := by rw [h]; cases o <;> cases p <;> rfl
theorem nan_any (a : Nat) (w : World) : Calls Try.prog 35 #[.float .f64 a] w fun e w' => e = .returned (.bool (FloatKind.f64.format.order a a != some Ordering.eq)) ∧ w = w' := by
  go_enter Try.func35, Try.ntmps35
  go_wp2
  go_ret
  exact ⟨rfl, rfl⟩
section
attribute [local irreducible] FloatKind.decode FloatKind.encode
theorem int_run (a : Nat) {s : Bool} {m : Nat} {i : Int} (hd : FloatKind.f64.decode a = .number s m i) : Go.Extern.MathFloor.toIntegral "math.archTrunc" .zero #[.float .f64 a] = pure (.float .f64 (FloatKind.f64.encode ((Ieee.Datum.number s m i).integral .zero))) := by
  conv => lhs; whnf
  rw [hd]
end
theorem arch_run (a : Nat) {s : Bool} {m : Nat} {i : Int} (h : Ieee.double.read a = .number s m i) (w : World) : (callFunc 39 #[.float .f64 a]).run Try.prog w =
    .ok (.value (.float .f64 (Ieee.double.write ((Ieee.Datum.number s m i).integral .zero)))) w := by
  have := run_callFunc_extern (P := Try.prog) (f := 39) (args := #[.float .f64 a]) (w := w) Try.func39 (by kernel_rfl) (by kernel_rfl) (by kernel_rfl) (e := Go.Extern.MathFloor.toIntegral "math.archTrunc" .zero) (by kernel_rfl)
  rw [this]
  have hd : FloatKind.f64.decode a = .number s m i := h
  have ht := int_run a hd
  rw [ht]
  rfl
theorem trunc_mid (a T : Nat) (wh : Bool) (h : Mid a T wh) (w : World) : ∃ X, (FloatKind.f64.format.order a X = some (if wh then .eq else .gt)) ∧
    ∀ w : World, Calls Try.prog 36 #[.float .f64 a] w fun e w' => e = .returned (.float .f64 X) ∧ w = w' := by
  obtain ⟨_, ⟨s, m, i, h1, h2, _, h3⟩, _⟩ := h
  have hA := arch_run a h1
  rw [h2] at hA
  refine ⟨Ieee.double.nearest s T 0, h3, fun w => ?_⟩
  have hA' : ∀ w, (callFunc 39 #[.float .f64 a]).run Try.prog w = .ok (.value (.float .f64 (Ieee.double.nearest s T 0))) w := hA
  clear hA h1 h2 h3
  generalize Ieee.double.nearest s T 0 = X at *
  go_enter Try.func36, Try.ntmps36
  go_wp2_with (first | simp only [hA'])
  go_ret
  exact ⟨rfl, rfl⟩
theorem conv_mid (a T : Nat) (wh : Bool) (h : Mid a T wh) (w : World) : (convert 43 22 (.float .f64 a)).run Try.prog w = .ok (.int .u64 (T : Int)) w := by
  obtain ⟨hT, ⟨s, m, i, h1, h2, h4, _⟩, _⟩ := h
  refine run_convert_float_int (P := Try.prog) w _ _ .f64 .u64 a T (by rw [Try.underlying43]; rfl) Try.underlying22 ?_
  have hd : FloatKind.f64.decode a = .number s m i := h1
  unfold floatToIntVal Ieee.Datum.toInt
  rw [hd, h2]
  simp only [h4]
  rw [if_pos]
  simp only [IntKind.min, IntKind.max, IntKind.signed, IntKind.bits]
  constructor
  · simp
  · simp; omega
/-- Not whole, or out of reach. -/
def PB (a : Nat) : Prop := (Ieee.double.order a a = none ∧ Ieee.double.order a 0 = none) ∨ (Ieee.double.order a a = some .eq ∧ Ieee.double.order a 0 = some .lt) ∨
    (Ieee.double.order a a = some .eq ∧ Ieee.double.order a 0 = some .gt ∧ Ieee.double.order a C0 = some .gt) ∨ (Ieee.double.order a a = some .eq ∧ ∃ T, Mid a T false)
def PG (a T : Nat) : Prop := Ieee.double.order a a = some .eq ∧ Mid a T true
theorem pb_or (a : Nat) : PB a ∨ ∃ T, PG a T := by
  rcases cls a with h | h | h | ⟨h, T, wh, hm⟩
  · exact .inl (.inl h)
  · exact .inl (.inr (.inl h))
  · exact .inl (.inr (.inr (.inl h)))
  · cases wh
    · exact .inl (.inr (.inr (.inr ⟨h, T, hm⟩)))
    · exact .inr ⟨T, h, hm⟩
set_option maxHeartbeats 800000 in
theorem part_mid (a T : Nat) (wh : Bool) (h : Mid a T wh) (w : World) : Calls Try.prog 37 #[.float .f64 a] w fun e w' => e = .returned (.tuple #[.int .u64 (T : Int), .bool wh]) ∧ w = w' := by
  have hc := fun w => conv_mid a T wh h w
  obtain ⟨hT, _, h5, h6, h7⟩ := h
  have h5' : FloatKind.f64.format.order (floatOfInt .f64 (T : Int)) a = some (if wh then .eq else .lt) := h5
  have h6' : FloatKind.f64.format.order a 0 = some .gt ∨ FloatKind.f64.format.order a 0 = some .eq := h6
  have h7' : FloatKind.f64.format.order a 4845873199050653696 = some .lt ∨ FloatKind.f64.format.order a 4845873199050653696 = some .eq := h7
  have b5 : (FloatKind.f64.format.order (floatOfInt .f64 (T : Int)) a == some Ordering.eq) = wh := by rw [h5']; cases wh <;> decide
  clear h5 h6 h7 h5'
  have HT := Lib.hid hT
  clear hT
  rcases h6' with h6 | h6 <;> rcases h7' with h7 | h7
  all_goals (
    have b1 := beq_of h6 .gt
    have b2 := beq_of h6 .eq
    have b3 := beq_of h7 .lt
    have b4 := beq_of h7 .eq
    simp only [reduceCtorEq, decide_true, decide_false, eq_self] at b1 b2 b3 b4
    clear h6 h7
    go_enter Try.func37, Try.ntmps37
    go_wp2_with (first | simp only [hc])
    go_ret2
    exact ⟨rfl, rfl⟩)
end Go.Proofs.Ytckkaalejfmonaa
