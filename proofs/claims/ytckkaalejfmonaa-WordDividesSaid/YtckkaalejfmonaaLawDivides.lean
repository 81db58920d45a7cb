/- 'pharoslaw01.WordDivides' returns true for every input, and each argument reads behind the call as it read before. No condition. -/
import Derived.Test.YtckkaalejfmonaaWake
import Derived.WalkKit
import Derived.ProofKit
import Derived.OpenShut
import Derived.ChangeOld
import Derived.Below
namespace Go.Proofs.Ytckkaalejfmonaa.wordDivides
open Go.ChangeShapes Go.WideShapes Go.ChangeAt Go.RowKit
set_option linter.unusedVariables false

theorem mulDiv_self (a c : Nat) (ha : a < 18446744073709551616) (hc : 0 < c) : mulDivS a c c = (a, 0) := by
  unfold mulDivS
  have h : a * c < 18446744073709551616 * c := Nat.mul_lt_mul_of_pos_right ha hc
  rw [if_neg (by omega), if_neg (by
    have : a * c / 18446744073709551616 < c := Nat.div_lt_of_lt_mul h
    omega), Nat.mul_div_cancel _ hc]
theorem u64_nat {x : Int} (h : (Lit.int .u64 x).wf = true) : ∃ n : Nat, x = n ∧ n < 18446744073709551616 := by
  have h2 : 0 ≤ x ∧ x ≤ 18446744073709551615 := by simpa [Lit.wf, IntKind.min, IntKind.max, IntKind.signed, IntKind.bits] using h
  exact ⟨x.toNat, by omega, by omega⟩
set_option maxHeartbeats 1600000 in
theorem walk (a b c : Int) (W : World) (w0 : (Lit.int .u64 a).wf = true) (w1 : (Lit.int .u64 b).wf = true) (w2 : (Lit.int .u64 c).wf = true) :
    Calls Try.prog 3 #[.int .u64 a, .int .u64 b, .int .u64 c] W fun e w' => e = .returned (.bool true) ∧ Below W.heap.size W w' := by
  obtain ⟨a, rfl, ha⟩ := u64_nat w0
  obtain ⟨b, rfl, hb⟩ := u64_nat w1
  obtain ⟨c, rfl, hc⟩ := u64_nat w2
  have H1 := Lib.hid (muldiv_any a b c ha hb hc)
  have H2 := Lib.hid (rmuldiv_any a b c ha hb hc)
  have H3 := Lib.hid (muldiv_any a c c ha hc hc)
  unfold PairN at H1 H2 H3
  generalize mulDivS a b c = p at H1 H2
  obtain ⟨p1, p2⟩ := p
  clear w0 w1 w2
  by_cases hc0 : c = 0
  · have e3 : mulDivS a c c = (0, 3) := by unfold mulDivS; rw [if_pos hc0]
    rw [e3] at H3
    subst hc0
    go_enter Try.func3, Try.ntmps3
    go_wp2_with fail
    refine (wake_any W).mono ?_
    rintro e W1 ⟨rfl, n1, rfl⟩
    go_wp2_with fail
    refine (H1.out _).mono ?_
    rintro e W1 ⟨rfl, n2, rfl⟩
    go_wp2_with fail
    refine (H2.out _).mono ?_
    rintro e W1 ⟨rfl, n3, rfl⟩
    go_wp2_with fail
    refine (H3.out _).mono ?_
    rintro e W1 ⟨rfl, n4, rfl⟩
    go_wp2
    go_ret
    exact ⟨by simp, below_drewN (Below.refl _ _) _⟩
  · have e3 := mulDiv_self a c ha (by omega)
    rw [e3] at H3
    go_enter Try.func3, Try.ntmps3
    go_wp2_with fail
    refine (wake_any W).mono ?_
    rintro e W1 ⟨rfl, n1, rfl⟩
    go_wp2_with fail
    refine (H1.out _).mono ?_
    rintro e W1 ⟨rfl, n2, rfl⟩
    go_wp2_with fail
    refine (H2.out _).mono ?_
    rintro e W1 ⟨rfl, n3, rfl⟩
    go_wp2_with fail
    refine (H3.out _).mono ?_
    rintro e W1 ⟨rfl, n4, rfl⟩
    go_wp2
    go_ret
    exact ⟨by simp, below_drewN (Below.refl _ _) _⟩
theorem own : ownKnob Try.prog.godebug = none := by kernel_rfl
theorem laidOut : laidOutB Try.prog = true := by kernel_rfl

set_option maxRecDepth 100000 in
theorem lifted (os : Os) (started : os.Started) (H : Type) (enc : TypeId × Value → H) :
    ReturnsInHanded {} Try.checked os 3 .any (Rows.wordDividesSpec.pre6 enc Try.prog Try.f3 Rows.wordDividesRow.domain false) (Rows.wordDividesSpec.post enc Try.prog Try.f3 false true false false) := by
  refine returnsInHanded_of_change (C := Try.checked) own started (by kernel_rfl) Try.func3
    (ChangeSpec.witness6 (enc := enc) (C := Try.checked) false ⟨#[], #[.int .u64 0, .int .u64 0, .int .u64 0], []⟩ 8 (by kernel_rfl) (by kernel_rfl) (by kernel_rfl) (by kernel_rfl)) ?_
  intro W base args ds gs before hval0 hW hcnd _
  have hval : ∀ (j : Nat) t v, Try.f3.params[j]? = some t → args[j]? = some v → Value.okWide Try.prog W .any base t v := hval0
  have hW' := hW
  obtain ⟨p, q, hA0, hV, rfl, hfz, hnd⟩ := hW
  have hA : DataW.TrodAll enc Try.prog W 0 (fun _ => true) true Try.f3.params.toList args.toList ds p := hA0
  rw [Try.params3] at hA hval
  obtain ⟨v0, vs0, d0, ds0, p0, q0, hargs, rfl, rfl, h0, r0⟩ := trodAll_cons hA
  obtain ⟨v1, vs1, d1, ds1, p1, q1, rfl, rfl, rfl, h1, r1⟩ := trodAll_cons r0
  obtain ⟨v2, vs2, d2, ds2, p2, q2, rfl, rfl, rfl, h2, r2⟩ := trodAll_cons r1
  obtain ⟨rfl, rfl, rfl⟩ := trodAll_nil r2
  obtain rfl : args = #[v0, v1, v2] := by cases args; simp_all
  obtain ⟨rfl, rfl⟩ := trodVars_none hV
  obtain ⟨a0, rfl, rfl, rfl, w0⟩ := open_int Try.underlying22 (hval 0 22 v0 rfl rfl) h0
  obtain ⟨a1, rfl, rfl, rfl, w1⟩ := open_int Try.underlying22 (hval 1 22 v1 rfl rfl) h1
  obtain ⟨a2, rfl, rfl, rfl, w2⟩ := open_int Try.underlying22 (hval 2 22 v2 rfl rfl) h2
  clear hA0 hval0
  refine (walk _ _ _ W w0 w1 w2).mono fun e W' ⟨he, bel⟩ => ?_
  subst he
  exact ⟨_, rfl, _, _, _, [], _, [], hW', trodAll_mk1 (shut_bool Try.underlying4 _), (trodAll_cons_mk (shut_int Try.underlying22 w0) (trodAll_cons_mk (shut_int Try.underlying22 w1) (trodAll_cons_mk (shut_int Try.underlying22 w2) trodAll_mk0))), rfl, bel.frame _, fun h => by cases h⟩

theorem over : Rows.wordDividesRow.holds Try.pinned (OpenSpec.ofChange Rows.wordDividesSpec) :=
  OpenClaim.holds_of_wide 3 Try.f3 rfl rfl rfl rfl rfl rfl rfl ⟨rfl, rfl, rfl, rfl, rfl⟩ rfl rfl rfl rfl rfl (by kernel_rfl) Try.func3 (by kernel_rfl)
    (of_decide_eq_true (by kernel_rfl)) (by unfold Func.isWrapper; first | (rw [if_pos (by decide +kernel)]; kernel_rfl) | (rw [if_neg (by decide +kernel)]; exact ⟨rfl, rfl⟩))
    (fun os started H enc _ => lifted os started H enc)

theorem proved : Rows.WordDividesSaid := over
end Go.Proofs.Ytckkaalejfmonaa.wordDivides
