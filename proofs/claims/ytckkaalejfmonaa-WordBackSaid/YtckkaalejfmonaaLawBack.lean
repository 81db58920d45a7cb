/- 'pharoslaw01.WordBack' returns true for every input, and each argument reads behind the call as it read before. No condition. -/
import Derived.Test.YtckkaalejfmonaaSums
import Derived.WalkKit
import Derived.ProofKit
import Derived.OpenShut
import Derived.ChangeOld
import Derived.Below
namespace Go.Proofs.Ytckkaalejfmonaa.wordBack
open Go.ChangeShapes Go.WideShapes Go.ChangeAt Go.RowKit
set_option linter.unusedVariables false

theorem u64_nat {x : Int} (h : (Lit.int .u64 x).wf = true) : ∃ n : Nat, x = n ∧ n < 18446744073709551616 := by
  have h2 : 0 ≤ x ∧ x ≤ 18446744073709551615 := by simpa [Lit.wf, IntKind.min, IntKind.max, IntKind.signed, IntKind.bits] using h
  exact ⟨x.toNat, by omega, by omega⟩
theorem subS_add (a b S : Int) (h : S = a + b) (ha : 0 ≤ a) : subS S b = (a, 0) := by
  unfold subS
  rw [if_pos (by omega), show S - b = a from by omega]
theorem lessS_add (a b S : Int) (h : S = a + b) (hb : 0 ≤ b) : lessS S a = b := by
  unfold lessS
  rw [if_pos (by omega)]
  omega
theorem two_of_big {a b : Nat} (ha : a < 18446744073709551616) (h : ¬ a * b < 18446744073709551616) : 1 < b := by
  apply Nat.lt_of_not_le
  intro hb
  have := Nat.mul_le_mul_left a hb
  omega
theorem div_back {P a b : Nat} (hP : P = a * b) (h : P < 18446744073709551616) (ha : 0 < a) : mulDivS P 1 a = (b, 0) := by
  unfold mulDivS
  rw [if_neg (by omega), Nat.mul_one, if_neg (by rw [Nat.div_eq_of_lt h]; omega), hP, Nat.mul_div_cancel_left _ ha]
set_option maxHeartbeats 3200000 in
theorem walk (a b : Int) (W : World) (w0 : (Lit.int .u64 a).wf = true) (w1 : (Lit.int .u64 b).wf = true) :
    Calls Try.prog 6 #[.int .u64 a, .int .u64 b] W fun e w' => e = .returned (.bool true) ∧ Below W.heap.size W w' := by
  obtain ⟨a, rfl, ha⟩ := u64_nat w0
  obtain ⟨b, rfl, hb⟩ := u64_nat w1
  have wa : Word a := ⟨by omega, by omega⟩
  have wb : Word b := ⟨by omega, by omega⟩
  have h1 := add_any a b wa wb
  have h5 := mul_any a b wa wb
  have h6 := muldiv_any a b 1 ha hb (by omega)
  obtain ⟨P, hP⟩ : ∃ P, P = a * b := ⟨_, rfl⟩
  unfold Pair at h1 h5
  unfold PairN at h6
  clear w0 w1
  by_cases hf : (a : Int) + (b : Int) < 18446744073709551616
  · obtain ⟨S, hS⟩ : ∃ S, S = a + b := ⟨_, rfl⟩
    have ws : Word S := ⟨by omega, by omega⟩
    have e1 : addS a b = ((S : Int), 0) := by unfold addS; rw [if_pos hf, hS, Int.natCast_add]
    have e2 : subS S b = ((a : Int), 0) := subS_add a b S (by omega) (by omega)
    have e3 : lessS S a = (b : Int) := lessS_add a b S (by omega) (by omega)
    have h2 := sub_any S b ws wb
    have h3 := less_any S a ws wa
    unfold Pair at h2
    rw [e1] at h1
    rw [e2] at h2
    rw [e3] at h3
    have H1 := Lib.hid h1
    have H2 := Lib.hid h2
    have H3 := Lib.hid h3
    clear h1 h2 h3 e1 e2 e3 hS ws hf
    by_cases hm : (P : Int) < 18446744073709551616
    · by_cases ha1 : a = 0
      · have e5 : mulS a b = ((P : Int), 0) := by unfold mulS; rw [if_pos (by rw [← Int.natCast_mul, ← hP]; exact hm), hP, Int.natCast_mul]
        have e6 : mulDivS a b 1 = (P, 0) := by unfold mulDivS; rw [if_neg (by omega), ← hP, if_neg (by omega), Nat.div_one]
        rw [e5] at h5
        rw [e6] at h6
        have H5 := Lib.hid h5
        have H6 := Lib.hid h6
        subst ha1
        clear h5 h6 e5 e6 hP
        go_enter Try.func6, Try.ntmps6
        go_wp2_with fail
        refine (wake_any W).mono ?_
        rintro e W1 ⟨rfl, n1, rfl⟩
        go_wp2_with fail
        refine (H1.out _).mono ?_
        rintro e W1 ⟨rfl, rfl⟩
        go_wp2_with fail
        refine (H2.out _).mono ?_
        rintro e W1 ⟨rfl, rfl⟩
        go_wp2_with fail
        refine (H3.out _).mono ?_
        rintro e W1 ⟨rfl, rfl⟩
        go_wp2_with fail
        refine (H5.out _).mono ?_
        rintro e W1 ⟨rfl, rfl⟩
        go_wp2_with fail
        refine (H6.out _).mono ?_
        rintro e W1 ⟨rfl, n2, rfl⟩
        go_wp2
        go_ret
        exact ⟨by simp, below_drewN (Below.refl _ _) _⟩
      · by_cases hb1 : b = 0
        · have e5 : mulS a b = ((P : Int), 0) := by unfold mulS; rw [if_pos (by rw [← Int.natCast_mul, ← hP]; exact hm), hP, Int.natCast_mul]
          have e6 : mulDivS a b 1 = (P, 0) := by unfold mulDivS; rw [if_neg (by omega), ← hP, if_neg (by omega), Nat.div_one]
          rw [e5] at h5
          rw [e6] at h6
          have H5 := Lib.hid h5
          have H6 := Lib.hid h6
          have ha0 : ((a : Int) == 0) = false := by simp; omega
          subst hb1
          clear h5 h6 e5 e6 hP
          go_enter Try.func6, Try.ntmps6
          go_wp2_with fail
          refine (wake_any W).mono ?_
          rintro e W1 ⟨rfl, n1, rfl⟩
          go_wp2_with fail
          refine (H1.out _).mono ?_
          rintro e W1 ⟨rfl, rfl⟩
          go_wp2_with fail
          refine (H2.out _).mono ?_
          rintro e W1 ⟨rfl, rfl⟩
          go_wp2_with fail
          refine (H3.out _).mono ?_
          rintro e W1 ⟨rfl, rfl⟩
          go_wp2_with fail
          refine (H5.out _).mono ?_
          rintro e W1 ⟨rfl, rfl⟩
          go_wp2_with fail
          refine (H6.out _).mono ?_
          rintro e W1 ⟨rfl, n2, rfl⟩
          go_wp2
          go_ret
          exact ⟨by simp, below_drewN (Below.refl _ _) _⟩
        · have e5 : mulS a b = ((P : Int), 0) := by unfold mulS; rw [if_pos (by rw [← Int.natCast_mul, ← hP]; exact hm), hP, Int.natCast_mul]
          have e6 : mulDivS a b 1 = (P, 0) := by unfold mulDivS; rw [if_neg (by omega), ← hP, if_neg (by omega), Nat.div_one]
          rw [e5] at h5
          rw [e6] at h6
          have H5 := Lib.hid h5
          have H6 := Lib.hid h6
          have h7 := muldiv_any P 1 a (by omega) (by omega) ha
          have h8 := muldiv_any P 1 b (by omega) (by omega) hb
          rw [div_back hP (by omega) (by omega)] at h7
          rw [div_back (hP.trans (Nat.mul_comm _ _)) (by omega) (by omega)] at h8
          unfold PairN at h7 h8
          have H7 := Lib.hid h7
          have H8 := Lib.hid h8
          clear h7 h8
          have ha0 : ((a : Int) == 0) = false := by simp; omega
          have hb0 : ((b : Int) == 0) = false := by simp; omega
          clear h5 h6 e5 e6 hP
          go_enter Try.func6, Try.ntmps6
          go_wp2_with fail
          refine (wake_any W).mono ?_
          rintro e W1 ⟨rfl, n1, rfl⟩
          go_wp2_with fail
          refine (H1.out _).mono ?_
          rintro e W1 ⟨rfl, rfl⟩
          go_wp2_with fail
          refine (H2.out _).mono ?_
          rintro e W1 ⟨rfl, rfl⟩
          go_wp2_with fail
          refine (H3.out _).mono ?_
          rintro e W1 ⟨rfl, rfl⟩
          go_wp2_with fail
          refine (H5.out _).mono ?_
          rintro e W1 ⟨rfl, rfl⟩
          go_wp2_with fail
          refine (H6.out _).mono ?_
          rintro e W1 ⟨rfl, n2, rfl⟩
          go_wp2_with fail
          refine (H7.out _).mono ?_
          rintro e W1 ⟨rfl, n3, rfl⟩
          go_wp2_with fail
          refine (H8.out _).mono ?_
          rintro e W1 ⟨rfl, n4, rfl⟩
          go_wp2
          go_ret
          exact ⟨by simp, below_drewN (Below.refl _ _) _⟩
    · have e5 : mulS a b = (0, 2) := by unfold mulS; rw [if_neg (by rw [← Int.natCast_mul, ← hP]; exact hm)]
      have e6 : mulDivS a b 1 = (0, 2) := by unfold mulDivS; rw [if_neg (by omega), ← hP, if_pos (by omega)]
      have hb1 : 1 < b := two_of_big ha (by omega)
      have ha1 : 1 < a := two_of_big hb (by rw [Nat.mul_comm]; omega)
      rw [e5] at h5
      rw [e6] at h6
      have H5 := Lib.hid h5
      have H6 := Lib.hid h6
      clear h5 h6 e5 e6 hP hm
      go_enter Try.func6, Try.ntmps6
      go_wp2_with fail
      refine (wake_any W).mono ?_
      rintro e W1 ⟨rfl, n1, rfl⟩
      go_wp2_with fail
      refine (H1.out _).mono ?_
      rintro e W1 ⟨rfl, rfl⟩
      go_wp2_with fail
      refine (H2.out _).mono ?_
      rintro e W1 ⟨rfl, rfl⟩
      go_wp2_with fail
      refine (H3.out _).mono ?_
      rintro e W1 ⟨rfl, rfl⟩
      go_wp2_with fail
      refine (H5.out _).mono ?_
      rintro e W1 ⟨rfl, rfl⟩
      go_wp2_with fail
      refine (H6.out _).mono ?_
      rintro e W1 ⟨rfl, n2, rfl⟩
      go_wp2
      go_ret
      exact ⟨by simp, below_drewN (Below.refl _ _) _⟩
  · have e1 : addS a b = (0, 2) := by unfold addS; rw [if_neg hf]
    rw [e1] at h1
    have H1 := Lib.hid h1
    clear h1 e1 hf
    by_cases hm : (P : Int) < 18446744073709551616
    · by_cases ha1 : a = 0
      · have e5 : mulS a b = ((P : Int), 0) := by unfold mulS; rw [if_pos (by rw [← Int.natCast_mul, ← hP]; exact hm), hP, Int.natCast_mul]
        have e6 : mulDivS a b 1 = (P, 0) := by unfold mulDivS; rw [if_neg (by omega), ← hP, if_neg (by omega), Nat.div_one]
        rw [e5] at h5
        rw [e6] at h6
        have H5 := Lib.hid h5
        have H6 := Lib.hid h6
        subst ha1
        clear h5 h6 e5 e6 hP
        go_enter Try.func6, Try.ntmps6
        go_wp2_with fail
        refine (wake_any W).mono ?_
        rintro e W1 ⟨rfl, n1, rfl⟩
        go_wp2_with fail
        refine (H1.out _).mono ?_
        rintro e W1 ⟨rfl, rfl⟩
        go_wp2_with fail
        refine (H5.out _).mono ?_
        rintro e W1 ⟨rfl, rfl⟩
        go_wp2_with fail
        refine (H6.out _).mono ?_
        rintro e W1 ⟨rfl, n2, rfl⟩
        go_wp2
        go_ret
        exact ⟨by simp, below_drewN (Below.refl _ _) _⟩
      · by_cases hb1 : b = 0
        · have e5 : mulS a b = ((P : Int), 0) := by unfold mulS; rw [if_pos (by rw [← Int.natCast_mul, ← hP]; exact hm), hP, Int.natCast_mul]
          have e6 : mulDivS a b 1 = (P, 0) := by unfold mulDivS; rw [if_neg (by omega), ← hP, if_neg (by omega), Nat.div_one]
          rw [e5] at h5
          rw [e6] at h6
          have H5 := Lib.hid h5
          have H6 := Lib.hid h6
          have ha0 : ((a : Int) == 0) = false := by simp; omega
          subst hb1
          clear h5 h6 e5 e6 hP
          go_enter Try.func6, Try.ntmps6
          go_wp2_with fail
          refine (wake_any W).mono ?_
          rintro e W1 ⟨rfl, n1, rfl⟩
          go_wp2_with fail
          refine (H1.out _).mono ?_
          rintro e W1 ⟨rfl, rfl⟩
          go_wp2_with fail
          refine (H5.out _).mono ?_
          rintro e W1 ⟨rfl, rfl⟩
          go_wp2_with fail
          refine (H6.out _).mono ?_
          rintro e W1 ⟨rfl, n2, rfl⟩
          go_wp2
          go_ret
          exact ⟨by simp, below_drewN (Below.refl _ _) _⟩
        · have e5 : mulS a b = ((P : Int), 0) := by unfold mulS; rw [if_pos (by rw [← Int.natCast_mul, ← hP]; exact hm), hP, Int.natCast_mul]
          have e6 : mulDivS a b 1 = (P, 0) := by unfold mulDivS; rw [if_neg (by omega), ← hP, if_neg (by omega), Nat.div_one]
          rw [e5] at h5
          rw [e6] at h6
          have H5 := Lib.hid h5
          have H6 := Lib.hid h6
          have h7 := muldiv_any P 1 a (by omega) (by omega) ha
          have h8 := muldiv_any P 1 b (by omega) (by omega) hb
          rw [div_back hP (by omega) (by omega)] at h7
          rw [div_back (hP.trans (Nat.mul_comm _ _)) (by omega) (by omega)] at h8
          unfold PairN at h7 h8
          have H7 := Lib.hid h7
          have H8 := Lib.hid h8
          clear h7 h8
          have ha0 : ((a : Int) == 0) = false := by simp; omega
          have hb0 : ((b : Int) == 0) = false := by simp; omega
          clear h5 h6 e5 e6 hP
          go_enter Try.func6, Try.ntmps6
          go_wp2_with fail
          refine (wake_any W).mono ?_
          rintro e W1 ⟨rfl, n1, rfl⟩
          go_wp2_with fail
          refine (H1.out _).mono ?_
          rintro e W1 ⟨rfl, rfl⟩
          go_wp2_with fail
          refine (H5.out _).mono ?_
          rintro e W1 ⟨rfl, rfl⟩
          go_wp2_with fail
          refine (H6.out _).mono ?_
          rintro e W1 ⟨rfl, n2, rfl⟩
          go_wp2_with fail
          refine (H7.out _).mono ?_
          rintro e W1 ⟨rfl, n3, rfl⟩
          go_wp2_with fail
          refine (H8.out _).mono ?_
          rintro e W1 ⟨rfl, n4, rfl⟩
          go_wp2
          go_ret
          exact ⟨by simp, below_drewN (Below.refl _ _) _⟩
    · have e5 : mulS a b = (0, 2) := by unfold mulS; rw [if_neg (by rw [← Int.natCast_mul, ← hP]; exact hm)]
      have e6 : mulDivS a b 1 = (0, 2) := by unfold mulDivS; rw [if_neg (by omega), ← hP, if_pos (by omega)]
      have hb1 : 1 < b := two_of_big ha (by omega)
      have ha1 : 1 < a := two_of_big hb (by rw [Nat.mul_comm]; omega)
      rw [e5] at h5
      rw [e6] at h6
      have H5 := Lib.hid h5
      have H6 := Lib.hid h6
      clear h5 h6 e5 e6 hP hm
      go_enter Try.func6, Try.ntmps6
      go_wp2_with fail
      refine (wake_any W).mono ?_
      rintro e W1 ⟨rfl, n1, rfl⟩
      go_wp2_with fail
      refine (H1.out _).mono ?_
      rintro e W1 ⟨rfl, rfl⟩
      go_wp2_with fail
      refine (H5.out _).mono ?_
      rintro e W1 ⟨rfl, rfl⟩
      go_wp2_with fail
      refine (H6.out _).mono ?_
      rintro e W1 ⟨rfl, n2, rfl⟩
      go_wp2
      go_ret
      exact ⟨by simp, below_drewN (Below.refl _ _) _⟩
theorem own : ownKnob Try.prog.godebug = none := by kernel_rfl
theorem laidOut : laidOutB Try.prog = true := by kernel_rfl

set_option maxRecDepth 100000 in
theorem lifted (os : Os) (started : os.Started) (H : Type) (enc : TypeId × Value → H) :
    ReturnsInHanded {} Try.checked os 6 .any (Rows.wordBackSpec.pre6 enc Try.prog Try.f6 Rows.wordBackRow.domain false) (Rows.wordBackSpec.post enc Try.prog Try.f6 false true false false) := by
  refine returnsInHanded_of_change (C := Try.checked) own started (by kernel_rfl) Try.func6
    (ChangeSpec.witness6 (enc := enc) (C := Try.checked) false ⟨#[], #[.int .u64 0, .int .u64 0], []⟩ 8 (by kernel_rfl) (by kernel_rfl) (by kernel_rfl) (by kernel_rfl)) ?_
  intro W base args ds gs before hval0 hW hcnd _
  have hval : ∀ (j : Nat) t v, Try.f6.params[j]? = some t → args[j]? = some v → Value.okWide Try.prog W .any base t v := hval0
  have hW' := hW
  obtain ⟨p, q, hA0, hV, rfl, hfz, hnd⟩ := hW
  have hA : DataW.TrodAll enc Try.prog W 0 (fun _ => true) true Try.f6.params.toList args.toList ds p := hA0
  rw [Try.params6] at hA hval
  obtain ⟨v0, vs0, d0, ds0, p0, q0, hargs, rfl, rfl, h0, r0⟩ := trodAll_cons hA
  obtain ⟨v1, vs1, d1, ds1, p1, q1, rfl, rfl, rfl, h1, r1⟩ := trodAll_cons r0
  obtain ⟨rfl, rfl, rfl⟩ := trodAll_nil r1
  obtain rfl : args = #[v0, v1] := by cases args; simp_all
  obtain ⟨rfl, rfl⟩ := trodVars_none hV
  obtain ⟨a0, rfl, rfl, rfl, w0⟩ := open_int Try.underlying22 (hval 0 22 v0 rfl rfl) h0
  obtain ⟨a1, rfl, rfl, rfl, w1⟩ := open_int Try.underlying22 (hval 1 22 v1 rfl rfl) h1
  clear hA0 hval0
  refine (walk _ _ W w0 w1).mono fun e W' ⟨he, bel⟩ => ?_
  subst he
  exact ⟨_, rfl, _, _, _, [], _, [], hW', trodAll_mk1 (shut_bool Try.underlying4 _), (trodAll_cons_mk (shut_int Try.underlying22 w0) (trodAll_cons_mk (shut_int Try.underlying22 w1) trodAll_mk0)), rfl, bel.frame _, fun h => by cases h⟩

theorem over : Rows.wordBackRow.holds Try.pinned (OpenSpec.ofChange Rows.wordBackSpec) :=
  OpenClaim.holds_of_wide 6 Try.f6 rfl rfl rfl rfl rfl rfl rfl ⟨rfl, rfl, rfl, rfl, rfl⟩ rfl rfl rfl rfl rfl (by kernel_rfl) Try.func6 (by kernel_rfl)
    (of_decide_eq_true (by kernel_rfl)) (by unfold Func.isWrapper; first | (rw [if_pos (by decide +kernel)]; kernel_rfl) | (rw [if_neg (by decide +kernel)]; exact ⟨rfl, rfl⟩))
    (fun os started H enc _ => lifted os started H enc)

theorem proved : Rows.WordBackSaid := over
end Go.Proofs.Ytckkaalejfmonaa.wordBack
