/- 'pharoslaw01.WordRoots' returns true for every input, and each argument reads behind the call as it read before. No condition. -/
import Derived.Test.YtckkaalejfmonaaWake
import Derived.WalkKit
import Derived.ProofKit
import Derived.OpenShut
import Derived.ChangeOld
import Derived.Below
namespace Go.Proofs.Ytckkaalejfmonaa.wordRoots
open Go.ChangeShapes Go.WideShapes Go.ChangeAt Go.RowKit
set_option linter.unusedVariables false

theorem u64_nat {x : Int} (h : (Lit.int .u64 x).wf = true) : ∃ n : Nat, x = n ∧ n < 18446744073709551616 := by
  have h2 : 0 ≤ x ∧ x ≤ 18446744073709551615 := by simpa [Lit.wf, IntKind.min, IntKind.max, IntKind.signed, IntKind.bits] using h
  exact ⟨x.toNat, by omega, by omega⟩
theorem root_is (n r : Nat) (h : IsRoot n r) (hn : n < 18446744073709551616) (w : World) : Calls Try.prog 13 #[.int .u64 n] w fun e w' => e = .returned (.int .u64 r) ∧ w = w' := by
  refine (root_any n hn w).mono ?_
  rintro e w' ⟨⟨s, rfl, hs, _⟩, rfl⟩
  rw [isRoot_eq hs h]
  exact ⟨rfl, rfl⟩
theorem root_sq (r : Nat) : IsRoot (r * r) r := ⟨Nat.le_refl _, by rw [Nat.mul_add, Nat.add_mul]; omega⟩
theorem root_below (s : Nat) : IsRoot ((s + 1) * (s + 1) - 1) s := by
  refine ⟨?_, ?_⟩
  · rw [Nat.mul_add, Nat.add_mul]
    omega
  · have : 0 < (s + 1) * (s + 1) := Nat.mul_pos (by omega) (by omega)
    omega
set_option maxHeartbeats 1600000 in
theorem walk (n : Int) (W : World) (w0 : (Lit.int .u64 n).wf = true) :
    Calls Try.prog 4 #[.int .u64 n] W fun e w' => e = .returned (.bool true) ∧ Below W.heap.size W w' := by
  obtain ⟨n, rfl, hn⟩ := u64_nat w0
  obtain ⟨r, hr⟩ := isRoot_ex n
  have hrl := isRoot_lt hr hn
  have H1 := Lib.hid (root_is n r hr hn)
  obtain ⟨S, hS⟩ : ∃ S, S = r * r := ⟨_, rfl⟩
  have hSn : S ≤ n := by rw [hS]; exact hr.1
  have H2 := Lib.hid (root_is S r (by rw [hS]; exact root_sq r) (by omega))
  have eS : IntKind.u64.wrap ((r : Int) * (r : Int)) = (S : Int) := wrap_mul _ _ _ hS.symm (by omega)
  have eS' : (r : Int) * (r : Int) = (S : Int) := by rw [hS, Int.natCast_mul]
  have hd1 : decide ((4294967295 : Int) < (r : Int)) = false := decide_eq_false (by omega)
  have hd2 : decide ((n : Int) < (S : Int)) = false := decide_eq_false (by omega)
  have hrn := Lib.hid hr.2
  have eW : IntKind.u64.wrap (S : Int) = (S : Int) := wrap_id _ (by omega) (by omega)
  have HSN := Lib.hid hSn
  have HS := Lib.hid hS
  clear hSn hS
  clear w0 hr
  go_enter Try.func4, Try.ntmps4
  go_wp2_with fail
  refine (wake_any W).mono ?_
  rintro e W1 ⟨rfl, n1, rfl⟩
  go_wp2_with fail
  refine (H1.out _).mono ?_
  rintro e W1 ⟨rfl, rfl⟩
  go_wp2_with fail
  refine (H2.out _).mono ?_
  rintro e W1 ⟨rfl, rfl⟩
  by_cases hm : (r : Int) = 4294967295
  · have hd : ((r : Int) == 4294967295) = true := by simp; omega
    go_wp2
    go_ret
    exact ⟨by simp, below_drewN (Below.refl _ _) _⟩
  · have hd : ((r : Int) == 4294967295) = false := by simp; omega
    obtain ⟨Q, hQ⟩ : ∃ Q, Q = (r + 1) * (r + 1) := ⟨_, rfl⟩
    have hQl : Q < 18446744073709551616 := by
      rw [hQ]
      have : (r + 1) * (r + 1) ≤ 4294967295 * 4294967295 := Nat.mul_le_mul (by omega) (by omega)
      omega
    have eQ : IntKind.u64.wrap (((r : Int) + 1) * ((r : Int) + 1)) = (Q : Int) := by
      have e9 := wrap_mul (r + 1) (r + 1) Q hQ.symm hQl
      rw [Int.natCast_add] at e9
      exact e9
    have eQ' : ((r : Int) + 1) * ((r : Int) + 1) = (Q : Int) := by rw [hQ, Int.natCast_mul]; rfl
    have hrn := hrn.out
    have hSn := HSN.out
    have hS := HS.out
    rw [← hQ] at hrn
    have eW2 : IntKind.u64.wrap (Q : Int) = (Q : Int) := wrap_id _ (by omega) (by omega)
    have hd3 : decide ((n : Int) < (Q : Int)) = true := decide_eq_true (by omega)
    by_cases h0 : r = 0
    · subst h0
      clear hS hQ hSn
      go_wp2
      go_ret
      exact ⟨by simp, below_drewN (Below.refl _ _) _⟩
    · obtain ⟨s, hs⟩ : ∃ s, r = s + 1 := ⟨r - 1, by omega⟩
      obtain ⟨S', hS'⟩ : ∃ s, S = s + 1 := ⟨S - 1, by have : 0 < S := by rw [hS]; exact Nat.mul_pos (by omega) (by omega)
                                                      omega⟩
      have h3 : IsRoot S' s := by
        have := root_below s
        rw [← hs, ← hS, hS', Nat.add_sub_cancel] at this
        exact this
      have H3 := Lib.hid (root_is S' s h3 (by have := HSN.out; omega))
      have e3 : (S : Int) - 1 = (S' : Int) := by omega
      have e4 : (r : Int) - 1 = (s : Int) := by omega
      have eW3 : IntKind.u64.wrap (S' : Int) = (S' : Int) := wrap_id _ (by omega) (by have := HSN.out; omega)
      have hd0 : ((r : Int) == 0) = false := by simp; omega
      clear hS hQ hSn hs hS' h3
      go_wp2_with fail
      refine (H3.out _).mono ?_
      rintro e W1 ⟨rfl, rfl⟩
      go_wp2
      go_ret
      exact ⟨by simp, below_drewN (Below.refl _ _) _⟩
theorem own : ownKnob Try.prog.godebug = none := by kernel_rfl
theorem laidOut : laidOutB Try.prog = true := by kernel_rfl

set_option maxRecDepth 100000 in
theorem lifted (os : Os) (started : os.Started) (H : Type) (enc : TypeId × Value → H) :
    ReturnsInHanded {} Try.checked os 4 .any (Rows.wordRootsSpec.pre6 enc Try.prog Try.f4 Rows.wordRootsRow.domain false) (Rows.wordRootsSpec.post enc Try.prog Try.f4 false true false false) := by
  refine returnsInHanded_of_change (C := Try.checked) own started (by kernel_rfl) Try.func4
    (ChangeSpec.witness6 (enc := enc) (C := Try.checked) false ⟨#[], #[.int .u64 0], []⟩ 8 (by kernel_rfl) (by kernel_rfl) (by kernel_rfl) (by kernel_rfl)) ?_
  intro W base args ds gs before hval0 hW hcnd _
  have hval : ∀ (j : Nat) t v, Try.f4.params[j]? = some t → args[j]? = some v → Value.okWide Try.prog W .any base t v := hval0
  have hW' := hW
  obtain ⟨p, q, hA0, hV, rfl, hfz, hnd⟩ := hW
  have hA : DataW.TrodAll enc Try.prog W 0 (fun _ => true) true Try.f4.params.toList args.toList ds p := hA0
  rw [Try.params4] at hA hval
  obtain ⟨v0, vs0, d0, ds0, p0, q0, hargs, rfl, rfl, h0, r0⟩ := trodAll_cons hA
  obtain ⟨rfl, rfl, rfl⟩ := trodAll_nil r0
  obtain rfl : args = #[v0] := by cases args; simp_all
  obtain ⟨rfl, rfl⟩ := trodVars_none hV
  obtain ⟨a0, rfl, rfl, rfl, w0⟩ := open_int Try.underlying22 (hval 0 22 v0 rfl rfl) h0
  clear hA0 hval0
  refine (walk _ W w0).mono fun e W' ⟨he, bel⟩ => ?_
  subst he
  exact ⟨_, rfl, _, _, _, [], _, [], hW', trodAll_mk1 (shut_bool Try.underlying4 _), (trodAll_cons_mk (shut_int Try.underlying22 w0) trodAll_mk0), rfl, bel.frame _, fun h => by cases h⟩

theorem over : Rows.wordRootsRow.holds Try.pinned (OpenSpec.ofChange Rows.wordRootsSpec) :=
  OpenClaim.holds_of_wide 4 Try.f4 rfl rfl rfl rfl rfl rfl rfl ⟨rfl, rfl, rfl, rfl, rfl⟩ rfl rfl rfl rfl rfl (by kernel_rfl) Try.func4 (by kernel_rfl)
    (of_decide_eq_true (by kernel_rfl)) (by unfold Func.isWrapper; first | (rw [if_pos (by decide +kernel)]; kernel_rfl) | (rw [if_neg (by decide +kernel)]; exact ⟨rfl, rfl⟩))
    (fun os started H enc _ => lifted os started H enc)

theorem proved : Rows.WordRootsSaid := over
end Go.Proofs.Ytckkaalejfmonaa.wordRoots
