/- 'pharoslaw01.WordPairs' returns true for every input, and each argument reads behind the call as it read before. No condition. -/
import Derived.Test.YtckkaalejfmonaaFlo3
import Derived.WalkKit
import Derived.ProofKit
import Derived.OpenShut
import Derived.ChangeOld
import Derived.Below
namespace Go.Proofs.Ytckkaalejfmonaa.wordPairs
open Go.ChangeShapes Go.WideShapes Go.ChangeAt Go.RowKit flo
set_option linter.unusedVariables false

theorem u64_nat {x : Int} (h : (Lit.int .u64 x).wf = true) : ∃ n : Nat, x = n ∧ n < 18446744073709551616 := by
  have h2 : 0 ≤ x ∧ x ≤ 18446744073709551615 := by simpa [Lit.wf, IntKind.min, IntKind.max, IntKind.signed, IntKind.bits] using h
  exact ⟨x.toNat, by omega, by omega⟩
set_option maxHeartbeats 800000 in
theorem join_ok (a b : Nat) (ha : a ≤ 9007199254740992) (hb : b ≤ 9007199254740992) (w : World) : Calls Try.prog 26 #[.int .u64 a, .int .u64 b] w fun e w' => e = .returned (.tuple #[.complex .f64 (Ieee.double.nearest false a 0) (Ieee.double.nearest false b 0), .int .i64 0]) ∧ w = w' := by
  have ea := f_nat a
  have eb := f_nat b
  have h1 : decide ((9007199254740992 : Int) < (a : Int)) = false := decide_eq_false (by omega)
  have h2 : decide ((9007199254740992 : Int) < (b : Int)) = false := decide_eq_false (by omega)
  rw [← ea, ← eb]
  clear ea eb
  generalize hfa : floatOfInt .f64 (a : Int) = fa
  generalize hfb : floatOfInt .f64 (b : Int) = fb
  go_enter Try.func26, Try.ntmps26
  go_wp2
  go_ret2
  exact ⟨by first | rfl | (rw [hfa, hfb]; rfl), rfl⟩
set_option maxHeartbeats 800000 in
theorem join_bad (a b : Nat) (h : 9007199254740992 < a ∨ 9007199254740992 < b) (w : World) : Calls Try.prog 26 #[.int .u64 a, .int .u64 b] w fun e w' => e = .returned (.tuple #[.complex .f64 0 0, .int .i64 2]) ∧ w = w' := by
  by_cases ha : 9007199254740992 < a
  · have h1 : decide ((9007199254740992 : Int) < (a : Int)) = true := decide_eq_true (by omega)
    clear h
    go_enter Try.func26, Try.ntmps26
    go_wp2
    go_ret2
    exact ⟨rfl, rfl⟩
  · have h1 : decide ((9007199254740992 : Int) < (a : Int)) = false := decide_eq_false (by omega)
    have h2 : decide ((9007199254740992 : Int) < (b : Int)) = true := decide_eq_true (by omega)
    clear h
    go_enter Try.func26, Try.ntmps26
    go_wp2
    go_ret2
    exact ⟨rfl, rfl⟩
set_option maxHeartbeats 3200000 in
theorem walk (a b c d : Int) (W : World) (w0 : (Lit.int .u64 a).wf = true) (w1 : (Lit.int .u64 b).wf = true) (w2 : (Lit.int .u64 c).wf = true) (w3 : (Lit.int .u64 d).wf = true) :
    Calls Try.prog 8 #[.int .u64 a, .int .u64 b, .int .u64 c, .int .u64 d] W fun e w' => e = .returned (.bool true) ∧ Below W.heap.size W w' := by
  obtain ⟨a, rfl, ha⟩ := u64_nat w0
  obtain ⟨b, rfl, hb⟩ := u64_nat w1
  obtain ⟨c, rfl, hc⟩ := u64_nat w2
  obtain ⟨d, rfl, hd⟩ := u64_nat w3
  clear w0 w1 w2 w3
  by_cases hab : 9007199254740992 < a ∨ 9007199254740992 < b
  · have H1 := Lib.hid (join_bad a b hab)
    have q0 : (FloatKind.f64.format.order 0 0 == some Ordering.eq) = true := by decide
    by_cases h1 : 9007199254740992 < a
    · have d1 : decide ((9007199254740992 : Int) < (a : Int)) = true := decide_eq_true (by omega)
      clear hab h1
      go_enter Try.func8, Try.ntmps8
      go_wp2_with fail
      refine (wake_any W).mono ?_
      rintro e W1 ⟨rfl, n1, rfl⟩
      go_wp2_with fail
      refine (H1.out _).mono ?_
      rintro e W1 ⟨rfl, rfl⟩
      go_wp2
      go_ret
      exact ⟨by simp, below_drewN (Below.refl _ _) _⟩
    · have d1 : decide ((9007199254740992 : Int) < (a : Int)) = false := decide_eq_false (by omega)
      have d2 : decide ((9007199254740992 : Int) < (b : Int)) = true := decide_eq_true (by omega)
      clear hab h1
      go_enter Try.func8, Try.ntmps8
      go_wp2_with fail
      refine (wake_any W).mono ?_
      rintro e W1 ⟨rfl, n1, rfl⟩
      go_wp2_with fail
      refine (H1.out _).mono ?_
      rintro e W1 ⟨rfl, rfl⟩
      go_wp2
      go_ret
      exact ⟨by simp, below_drewN (Below.refl _ _) _⟩
  · have ha2 : a ≤ 9007199254740992 := by omega
    have hb2 : b ≤ 9007199254740992 := by omega
    have H1 := Lib.hid (join_ok a b ha2 hb2)
    have H2 := Lib.hid (parts_good _ _ a b (pg_nat a ha2) (pg_nat b hb2))
    have ea : floatOfInt .f64 (a : Int) = Ieee.double.nearest false a 0 := f_nat a
    have eb : floatOfInt .f64 (b : Int) = Ieee.double.nearest false b 0 := f_nat b
    have qa : (FloatKind.f64.format.order (Ieee.double.nearest false a 0) (Ieee.double.nearest false a 0) != some Ordering.eq) = false := (bne_of (x := FloatKind.f64.format.order (Ieee.double.nearest false a 0) (Ieee.double.nearest false a 0)) (pg_nat a ha2).1 .eq).trans rfl
    have qb : (FloatKind.f64.format.order (Ieee.double.nearest false b 0) (Ieee.double.nearest false b 0) != some Ordering.eq) = false := (bne_of (x := FloatKind.f64.format.order (Ieee.double.nearest false b 0) (Ieee.double.nearest false b 0)) (pg_nat b hb2).1 .eq).trans rfl
    have d1 : decide ((9007199254740992 : Int) < (a : Int)) = false := decide_eq_false (by omega)
    have d2 : decide ((9007199254740992 : Int) < (b : Int)) = false := decide_eq_false (by omega)
    unfold PartsPost at H2
    by_cases hcd : 9007199254740992 < c ∨ 9007199254740992 < d
    · have H3 := Lib.hid (join_bad c d hcd)
      generalize Ieee.double.nearest false a 0 = fa at *
      generalize Ieee.double.nearest false b 0 = fb at *
      by_cases h3 : 9007199254740992 < c
      · have d3 : decide ((9007199254740992 : Int) < (c : Int)) = true := decide_eq_true (by omega)
        clear hab hcd h3 ha2 hb2
        go_enter Try.func8, Try.ntmps8
        go_wp2_with fail
        refine (wake_any W).mono ?_
        rintro e W1 ⟨rfl, n1, rfl⟩
        go_wp2_with fail
        refine (H1.out _).mono ?_
        rintro e W1 ⟨rfl, rfl⟩
        go_wp2_with fail
        refine (H2.out _).mono ?_
        rintro e W1 ⟨rfl, rfl⟩
        go_wp2_with fail
        refine (H3.out _).mono ?_
        rintro e W1 ⟨rfl, rfl⟩
        go_wp2
        go_ret
        exact ⟨by simp, below_drewN (Below.refl _ _) _⟩
      · have d3 : decide ((9007199254740992 : Int) < (c : Int)) = false := decide_eq_false (by omega)
        have d4 : decide ((9007199254740992 : Int) < (d : Int)) = true := decide_eq_true (by omega)
        clear hab hcd h3 ha2 hb2
        go_enter Try.func8, Try.ntmps8
        go_wp2_with fail
        refine (wake_any W).mono ?_
        rintro e W1 ⟨rfl, n1, rfl⟩
        go_wp2_with fail
        refine (H1.out _).mono ?_
        rintro e W1 ⟨rfl, rfl⟩
        go_wp2_with fail
        refine (H2.out _).mono ?_
        rintro e W1 ⟨rfl, rfl⟩
        go_wp2_with fail
        refine (H3.out _).mono ?_
        rintro e W1 ⟨rfl, rfl⟩
        go_wp2
        go_ret
        exact ⟨by simp, below_drewN (Below.refl _ _) _⟩
    · have hc2 : c ≤ 9007199254740992 := by omega
      have hd2 : d ≤ 9007199254740992 := by omega
      have H3 := Lib.hid (join_ok c d hc2 hd2)
      have wac : IntKind.u64.wrap ((a : Int) + (c : Int)) = ((a + c : Nat) : Int) := by rw [wrap_id _ (by omega) (by omega)]; omega
      have wbd : IntKind.u64.wrap ((b : Int) + (d : Int)) = ((b + d : Nat) : Int) := by rw [wrap_id _ (by omega) (by omega)]; omega
      have vac : (a : Int) + (c : Int) = ((a + c : Nat) : Int) := by omega
      have vbd : (b : Int) + (d : Int) = ((b + d : Nat) : Int) := by omega
      obtain ⟨s, hs⟩ : ∃ s, s = a + c := ⟨_, rfl⟩
      obtain ⟨t, ht⟩ : ∃ t, t = b + d := ⟨_, rfl⟩
      rw [← hs] at wac vac
      rw [← ht] at wbd vbd
      have ws : IntKind.u64.wrap (s : Int) = (s : Int) := wrap_id _ (by omega) (by omega)
      have wt : IntKind.u64.wrap (t : Int) = (t : Int) := wrap_id _ (by omega) (by omega)
      by_cases h5 : 9007199254740992 < s
      · have d5 : decide ((9007199254740992 : Int) < (s : Int)) = true := decide_eq_true (by omega)
        clear hab hcd ha2 hb2 hc2 hd2 hs ht
        clear h5
        generalize Ieee.double.nearest false a 0 = fa at *
        generalize Ieee.double.nearest false b 0 = fb at *
        generalize Ieee.double.nearest false c 0 = fc at *
        generalize Ieee.double.nearest false d 0 = fd at *
        go_enter Try.func8, Try.ntmps8
        go_wp2_with fail
        refine (wake_any W).mono ?_
        rintro e W1 ⟨rfl, n1, rfl⟩
        go_wp2_with fail
        refine (H1.out _).mono ?_
        rintro e W1 ⟨rfl, rfl⟩
        go_wp2_with fail
        refine (H2.out _).mono ?_
        rintro e W1 ⟨rfl, rfl⟩
        go_wp2_with fail
        refine (H3.out _).mono ?_
        rintro e W1 ⟨rfl, rfl⟩
        go_wp2
        go_ret
        exact ⟨by simp, below_drewN (Below.refl _ _) _⟩
      · have d5 : decide ((9007199254740992 : Int) < (s : Int)) = false := decide_eq_false (by omega)
        by_cases h6 : 9007199254740992 < t
        · have d6 : decide ((9007199254740992 : Int) < (t : Int)) = true := decide_eq_true (by omega)
          clear hab hcd ha2 hb2 hc2 hd2 hs ht
          clear h5 h6
          generalize Ieee.double.nearest false a 0 = fa at *
          generalize Ieee.double.nearest false b 0 = fb at *
          generalize Ieee.double.nearest false c 0 = fc at *
          generalize Ieee.double.nearest false d 0 = fd at *
          go_enter Try.func8, Try.ntmps8
          go_wp2_with fail
          refine (wake_any W).mono ?_
          rintro e W1 ⟨rfl, n1, rfl⟩
          go_wp2_with fail
          refine (H1.out _).mono ?_
          rintro e W1 ⟨rfl, rfl⟩
          go_wp2_with fail
          refine (H2.out _).mono ?_
          rintro e W1 ⟨rfl, rfl⟩
          go_wp2_with fail
          refine (H3.out _).mono ?_
          rintro e W1 ⟨rfl, rfl⟩
          go_wp2
          go_ret
          exact ⟨by simp, below_drewN (Below.refl _ _) _⟩
        · have d6 : decide ((9007199254740992 : Int) < (t : Int)) = false := decide_eq_false (by omega)
          have S1 := add_exact a c (by omega)
          have S2 := add_exact b d (by omega)
          rw [← hs] at S1
          rw [← ht] at S2
          have HS : ∀ w : World, (binOp .add 38 (.complex .f64 (Ieee.double.nearest false a 0) (Ieee.double.nearest false b 0)) (.complex .f64 (Ieee.double.nearest false c 0) (Ieee.double.nearest false d 0))).run Try.prog w = .ok (.complex .f64 (Ieee.double.nearest false s 0) (Ieee.double.nearest false t 0)) w := fun w => run_complex_sum w .add (.inl rfl) _ .f64 _ _ _ _ _ _ (by
            have e1 : floatBits .add .f64 (Ieee.double.nearest false a 0) (Ieee.double.nearest false c 0) = some (Ieee.double.nearest false s 0) := S1
            have e2 : floatBits .add .f64 (Ieee.double.nearest false b 0) (Ieee.double.nearest false d 0) = some (Ieee.double.nearest false t 0) := S2
            unfold cSumBits
            rw [e1, e2]
            rfl)
          have H4 := Lib.hid (parts_good _ _ s t (pg_nat s (by omega)) (pg_nat t (by omega)))
          unfold PartsPost at H4
          clear S1 S2
          clear hab hcd ha2 hb2 hc2 hd2 hs ht
          clear h5 h6
          generalize Ieee.double.nearest false a 0 = fa at *
          generalize Ieee.double.nearest false b 0 = fb at *
          generalize Ieee.double.nearest false c 0 = fc at *
          generalize Ieee.double.nearest false d 0 = fd at *
          generalize Ieee.double.nearest false s 0 = fs at *
          generalize Ieee.double.nearest false t 0 = ft at *
          go_enter Try.func8, Try.ntmps8
          go_wp2_with fail
          refine (wake_any W).mono ?_
          rintro e W1 ⟨rfl, n1, rfl⟩
          go_wp2_with fail
          refine (H1.out _).mono ?_
          rintro e W1 ⟨rfl, rfl⟩
          go_wp2_with fail
          refine (H2.out _).mono ?_
          rintro e W1 ⟨rfl, rfl⟩
          go_wp2_with fail
          refine (H3.out _).mono ?_
          rintro e W1 ⟨rfl, rfl⟩
          go_wp2_with (first | simp only [HS])
          refine (H4.out _).mono ?_
          rintro e W1 ⟨rfl, rfl⟩
          go_wp2
          go_ret
          exact ⟨by simp, below_drewN (Below.refl _ _) _⟩
theorem own : ownKnob Try.prog.godebug = none := by kernel_rfl
theorem laidOut : laidOutB Try.prog = true := by kernel_rfl

set_option maxRecDepth 100000 in
theorem lifted (os : Os) (started : os.Started) (H : Type) (enc : TypeId × Value → H) :
    ReturnsInHanded {} Try.checked os 8 .any (Rows.wordPairsSpec.pre6 enc Try.prog Try.f8 Rows.wordPairsRow.domain false) (Rows.wordPairsSpec.post enc Try.prog Try.f8 false true false false) := by
  refine returnsInHanded_of_change (C := Try.checked) own started (by kernel_rfl) Try.func8
    (ChangeSpec.witness6 (enc := enc) (C := Try.checked) false ⟨#[], #[.int .u64 0, .int .u64 0, .int .u64 0, .int .u64 0], []⟩ 8 (by kernel_rfl) (by kernel_rfl) (by kernel_rfl) (by kernel_rfl)) ?_
  intro W base args ds gs before hval0 hW hcnd _
  have hval : ∀ (j : Nat) t v, Try.f8.params[j]? = some t → args[j]? = some v → Value.okWide Try.prog W .any base t v := hval0
  have hW' := hW
  obtain ⟨p, q, hA0, hV, rfl, hfz, hnd⟩ := hW
  have hA : DataW.TrodAll enc Try.prog W 0 (fun _ => true) true Try.f8.params.toList args.toList ds p := hA0
  rw [Try.params8] at hA hval
  obtain ⟨v0, vs0, d0, ds0, p0, q0, hargs, rfl, rfl, h0, r0⟩ := trodAll_cons hA
  obtain ⟨v1, vs1, d1, ds1, p1, q1, rfl, rfl, rfl, h1, r1⟩ := trodAll_cons r0
  obtain ⟨v2, vs2, d2, ds2, p2, q2, rfl, rfl, rfl, h2, r2⟩ := trodAll_cons r1
  obtain ⟨v3, vs3, d3, ds3, p3, q3, rfl, rfl, rfl, h3, r3⟩ := trodAll_cons r2
  obtain ⟨rfl, rfl, rfl⟩ := trodAll_nil r3
  obtain rfl : args = #[v0, v1, v2, v3] := by cases args; simp_all
  obtain ⟨rfl, rfl⟩ := trodVars_none hV
  obtain ⟨a0, rfl, rfl, rfl, w0⟩ := open_int Try.underlying22 (hval 0 22 v0 rfl rfl) h0
  obtain ⟨a1, rfl, rfl, rfl, w1⟩ := open_int Try.underlying22 (hval 1 22 v1 rfl rfl) h1
  obtain ⟨a2, rfl, rfl, rfl, w2⟩ := open_int Try.underlying22 (hval 2 22 v2 rfl rfl) h2
  obtain ⟨a3, rfl, rfl, rfl, w3⟩ := open_int Try.underlying22 (hval 3 22 v3 rfl rfl) h3
  clear hA0 hval0
  refine (walk _ _ _ _ W w0 w1 w2 w3).mono fun e W' ⟨he, bel⟩ => ?_
  subst he
  exact ⟨_, rfl, _, _, _, [], _, [], hW', trodAll_mk1 (shut_bool Try.underlying4 _), (trodAll_cons_mk (shut_int Try.underlying22 w0) (trodAll_cons_mk (shut_int Try.underlying22 w1) (trodAll_cons_mk (shut_int Try.underlying22 w2) (trodAll_cons_mk (shut_int Try.underlying22 w3) trodAll_mk0)))), rfl, bel.frame _, fun h => by cases h⟩

theorem over : Rows.wordPairsRow.holds Try.pinned (OpenSpec.ofChange Rows.wordPairsSpec) :=
  OpenClaim.holds_of_wide 8 Try.f8 rfl rfl rfl rfl rfl rfl rfl ⟨rfl, rfl, rfl, rfl, rfl⟩ rfl rfl rfl rfl rfl (by kernel_rfl) Try.func8 (by kernel_rfl)
    (of_decide_eq_true (by kernel_rfl)) (by unfold Func.isWrapper; first | (rw [if_pos (by decide +kernel)]; kernel_rfl) | (rw [if_neg (by decide +kernel)]; exact ⟨rfl, rfl⟩))
    (fun os started H enc _ => lifted os started H enc)

theorem proved : Rows.WordPairsSaid := over
end Go.Proofs.Ytckkaalejfmonaa.wordPairs
