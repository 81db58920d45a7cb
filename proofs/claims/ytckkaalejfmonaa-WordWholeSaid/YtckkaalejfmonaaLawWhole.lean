/- 'pharoslaw01.WordWhole' returns true for every input, and each argument reads behind the call as it read before. No condition. -/
import Derived.Test.YtckkaalejfmonaaParts2
import Derived.WalkKit
import Derived.ProofKit
import Derived.OpenShut
import Derived.ChangeOld
import Derived.Below
import Derived.Laws.Cover2
namespace Go.Proofs.Ytckkaalejfmonaa.wordWhole
open Go.ChangeShapes Go.WideShapes Go.ChangeAt Go.RowKit
set_option linter.unusedVariables false

theorem both (a b : Nat) : ∃ (p q : Nat) (c : Int), (c = 0 ∨ c = 1 ∧ p = 0 ∧ q = 0) ∧ (∀ w, Calls Try.prog 27 #[.complex .f64 a b] w (PartsPost w p q c)) ∧ (∀ w, Calls Try.prog 28 #[.complex .f64 a b] w (PartsPost w p q c)) := by
  rcases pb_or a with ha | ⟨T, ha⟩
  · exact ⟨0, 0, 1, .inr ⟨rfl, rfl, rfl⟩, parts_bad1 a b ha, rparts_bad1 a b ha⟩
  · rcases pb_or b with hb | ⟨S, hb⟩
    · exact ⟨0, 0, 1, .inr ⟨rfl, rfl, rfl⟩, parts_bad2 a b T ha hb, rparts_bad2 a b T ha hb⟩
    · exact ⟨T, S, 0, .inl rfl, parts_good a b T S ha hb, rparts_good a b T S ha hb⟩
set_option maxHeartbeats 1600000 in
theorem walk (a b : Nat) (W : World) (w0 : (Lit.float .f64 a).wf = true) (w1 : (Lit.float .f64 b).wf = true) :
    Calls Try.prog 9 #[.float .f64 a, .float .f64 b] W fun e w' => e = .returned (.bool true) ∧ Below W.heap.size W w' := by
  obtain ⟨p, q, c, hc, h1, h2⟩ := both a b
  have H1 := Lib.hid h1
  have H2 := Lib.hid h2
  clear w0 w1 h1 h2
  rcases hc with rfl | ⟨rfl, rfl, rfl⟩
  all_goals (
    go_enter Try.func9, Try.ntmps9
    go_wp2_with fail
    refine (wake_any W).mono ?_
    rintro e W1 ⟨rfl, n1, rfl⟩
    go_wp2_with fail
    refine (H1.out _).mono ?_
    rintro e W1 ⟨rfl, rfl⟩
    go_wp2_with fail
    refine (H2.out _).mono ?_
    rintro e W1 ⟨rfl, rfl⟩
    go_wp2
    go_ret
    exact ⟨by simp, below_drewN (Below.refl _ _) _⟩)
theorem own : ownKnob Try.prog.godebug = none := by kernel_rfl
theorem laidOut : laidOutB Try.prog = true := by kernel_rfl

set_option maxRecDepth 100000 in
theorem lifted (os : Os) (started : os.Started) (H : Type) (enc : TypeId × Value → H) :
    ReturnsInHanded {} Try.checked os 9 .any (Rows.wordWholeSpec.pre6 enc Try.prog Try.f9 Rows.wordWholeRow.domain false) (Rows.wordWholeSpec.post enc Try.prog Try.f9 false true false false) := by
  refine returnsInHanded_of_change (C := Try.checked) own started (by kernel_rfl) Try.func9
    (ChangeSpec.witness6 (enc := enc) (C := Try.checked) false ⟨#[], #[.float .f64 0, .float .f64 0], []⟩ 8 (by kernel_rfl) (by kernel_rfl) (by kernel_rfl) (by kernel_rfl)) ?_
  intro W base args ds gs before hval0 hW hcnd _
  have hval : ∀ (j : Nat) t v, Try.f9.params[j]? = some t → args[j]? = some v → Value.okWide Try.prog W .any base t v := hval0
  have hW' := hW
  obtain ⟨p, q, hA0, hV, rfl, hfz, hnd⟩ := hW
  have hA : DataW.TrodAll enc Try.prog W 0 (fun _ => true) true Try.f9.params.toList args.toList ds p := hA0
  rw [Try.params9] at hA hval
  obtain ⟨v0, vs0, d0, ds0, p0, q0, hargs, rfl, rfl, h0, r0⟩ := trodAll_cons hA
  obtain ⟨v1, vs1, d1, ds1, p1, q1, rfl, rfl, rfl, h1, r1⟩ := trodAll_cons r0
  obtain ⟨rfl, rfl, rfl⟩ := trodAll_nil r1
  obtain rfl : args = #[v0, v1] := by cases args; simp_all
  obtain ⟨rfl, rfl⟩ := trodVars_none hV
  obtain ⟨a0, rfl, rfl, rfl, w0⟩ := open_float Try.underlying43 (hval 0 43 v0 rfl rfl) h0
  obtain ⟨a1, rfl, rfl, rfl, w1⟩ := open_float Try.underlying43 (hval 1 43 v1 rfl rfl) h1
  clear hA0 hval0
  refine (walk _ _ W w0 w1).mono fun e W' ⟨he, bel⟩ => ?_
  subst he
  exact ⟨_, rfl, _, _, _, [], _, [], hW', trodAll_mk1 (shut_bool Try.underlying4 _), (trodAll_cons_mk (shut_float Try.underlying43 w0) (trodAll_cons_mk (shut_float Try.underlying43 w1) trodAll_mk0)), rfl, bel.frame _, fun h => by cases h⟩

theorem over : Rows.wordWholeRow.holds Try.pinned (OpenSpec.ofChange Rows.wordWholeSpec) :=
  OpenClaim.holds_of_wide 9 Try.f9 rfl rfl rfl rfl rfl rfl rfl ⟨rfl, rfl, rfl, rfl, rfl⟩ rfl rfl rfl rfl rfl (by kernel_rfl) Try.func9 (by kernel_rfl)
    (of_decide_eq_true (by kernel_rfl)) (by unfold Func.isWrapper; first | (rw [if_pos (by decide +kernel)]; kernel_rfl) | (rw [if_neg (by decide +kernel)]; exact ⟨rfl, rfl⟩))
    (fun os started H enc _ => lifted os started H enc)

theorem proved : Rows.WordWholeSaid := over
end Go.Proofs.Ytckkaalejfmonaa.wordWhole
