/- 'pharoslaw03.SszLays' returns true, and each argument reads behind the call as it read before, wherever the arguments' bulk is at most 1048576 (the given second form). -/
import Derived.Test.YtamfceklddbldaaOpen
import Derived.Deep.RegionHeld3
import Derived.Deep.DeepCutAuto
import Derived.Test.YtamfceklddbldaaLay2
import Derived.Test.YtamfceklddbldaaCut1
namespace Go.Proofs.Ytamfceklddbldaa.sszLays
open Go.ChangeShapes Go.WideShapes Go.ChangeAt Go.RowKit
set_option linter.unusedVariables false

set_option maxHeartbeats 1600000 in
theorem walk (v0 : Value) (ps : List Bs) (v1 : Value) (z : List Int) (W : World) (w0 : RV W 0 v0 ps) (w1 : IV W 0 v1 z) (hb : ps.flatten.length ≤ 1048576) :
    Calls Try.prog 6 #[v0, v1] W (TruePost W) := by
  have HP := Lib.hid w0
  have HZ := Lib.hid w1
  clear w0 w1
  go_enter Try.func6, Try.ntmps6
  go_wp2_with fail
  refine (awake_any W).mono ?_
  rintro e W1 ⟨rfl, b1⟩
  have B1 := Lib.hid b1
  clear b1
  go_wp2_with fail
  refine (lay_any _ _ ps z W1 (HP.out.below B1.out (Nat.le_refl _)) (Sl.below HZ.out B1.out (Nat.le_refl _)) (by omega)).mono ?_
  rintro e W2 ⟨v2, rfl, o2, b2⟩
  have O2 := Lib.hid o2
  have B2 : Hid (Below W.heap.size W W2) := B1.out.trans (b2.mono B1.out.size)
  clear o2 b2
  go_wp2_with fail
  refine (rlay_any _ _ ps z W2 (HP.out.below B2.out (Nat.le_refl _)) (Sl.below HZ.out B2.out (Nat.le_refl _)) (by omega)).mono ?_
  rintro e W3 ⟨v3, rfl, o3, b3⟩
  have O3 := Lib.hid o3
  have B3 : Hid (Below W.heap.size W W3) := B2.out.trans (b3.mono B2.out.size)
  have O2' : Hid (OB W3 W1.heap.size v2 (lay ps z).1) := O2.out.below b3
  clear o3 b3 O2
  rcases lay_or ps z with h | h | ⟨h1, h2, h⟩
  · rw [h] at O2' O3 ⊢
    clear h
    obtain ⟨A2, c2, rfl⟩ := O2'.out.form
    have q2 := Try.conv_str (OB.toBV O2'.out)
    have q3 := Try.conv_str (OB.toBV O3.out)
    rw [List.length_nil] at q2
    go_wp2_with fail
    go_ret
    exact ⟨rfl, B3.out⟩
  · rw [h] at O2' O3 ⊢
    clear h
    obtain ⟨A2, c2, rfl⟩ := O2'.out.form
    have q2 := Try.conv_str (OB.toBV O2'.out)
    have q3 := Try.conv_str (OB.toBV O3.out)
    rw [List.length_nil] at q2
    go_wp2_with fail
    go_ret
    exact ⟨rfl, B3.out⟩
  · have hlen := laid_le ps z h1 h2
    have HC := Lib.hid (cut_lay ps z h1 h2 (by omega))
    rw [h] at O2' O3 ⊢
    clear h h1 h2
    generalize laid ps (nats z) = l at *
    have q2 := Try.conv_str (OB.toBV O2'.out)
    have q3 := Try.conv_str (OB.toBV O3.out)
    go_wp2_with fail
    refine (cut_any _ _ l z W3 (Sl.lower (OB.toBV O2'.out) (Nat.zero_le _)) (Sl.below HZ.out B3.out (Nat.le_refl _)) (by omega)).mono ?_
    rintro e W4 ⟨v4, rfl, o4, b4⟩
    rw [HC.out] at o4 ⊢
    have O4 : Hid (RO W4 W3.heap.size v4 ps) := o4
    have B4 : Hid (Below W.heap.size W W4) := B3.out.trans (b4.mono B3.out.size)
    clear o4 b4 q2 q3
    go_wp2_with fail
    refine (same_any _ _ ps ps W4 (RV.low0 O4.out.toRV) (HP.out.below B4.out (Nat.le_refl _))).mono ?_
    rintro e W5 ⟨rfl, n5, rfl⟩
    rw [decide_eq_true rfl]
    go_wp2_with fail
    go_ret
    exact ⟨rfl, below_drewN B4.out n5⟩
theorem own : ownKnob Try.prog.godebug = none := by kernel_rfl
theorem laidOut : laidOutB Try.prog = true := by kernel_rfl

set_option maxRecDepth 100000 in
theorem lifted (os : Os) (started : os.Started) (H : Type) (enc : TypeId × Value → H) (F : Stop.Interp) :
    ReturnsInHanded {} Try.checked os 6 .any ((Rows.OpenSpec.upto Rows.sszLaysSpec).pre6 enc Try.prog Try.f6 Rows.sszLaysUptoRow.domain false) (((Rows.OpenSpec.upto Rows.sszLaysSpec).at F).post enc Try.prog Try.f6 false true false false) := by
  refine returnsInHanded_of_cond (C := Try.checked) (s := Rows.OpenSpec.upto Rows.sszLaysSpec) (k := Rows.uptoSmall) rfl own started (by kernel_rfl) Try.func6
    (OpenSpec.witness (enc := enc) (C := Try.checked) (s := Rows.OpenSpec.upto Rows.sszLaysSpec) (k := Rows.uptoSmall) rfl false ⟨#[], #[.slice none 0 0, .slice none 0 0], []⟩ 8 (by kernel_rfl) (by kernel_rfl) (by kernel_rfl)
      (x := ([.nil, .nil], [], [])) (by kernel_rfl) rfl (by kernel_rfl)) ?_
  intro W base args ds gs before hval0 hW _ hk _
  have hval : ∀ (j : Nat) t v, Try.f6.params[j]? = some t → args[j]? = some v → Value.okWide Try.prog W .any base t v := hval0
  have hW' := hW
  obtain ⟨p, q, hA0, hV, rfl, hfz, hnd⟩ := hW
  have hA : DataW.TrodAll enc Try.prog W 0 (fun _ => true) true Try.f6.params.toList args.toList ds p := hA0
  rw [Try.params6] at hA hval
  obtain ⟨v0, vs0, d0, ds0, p0, q0, hargs, rfl, rfl, h0, r0⟩ := trodAll_cons hA
  obtain ⟨v1, vs1, d1, ds1, p1, q1, rfl, rfl, rfl, h1, r1⟩ := trodAll_cons r0
  obtain ⟨rfl, rfl, rfl⟩ := trodAll_nil r1
  obtain rfl : args = #[v0, v1] := by cases args; simp_all
  obtain ⟨rfl, rfl⟩ := trodVars_none hV
  have hbk : Rows.uptoBulkAll [d0, d1] ≤ 1048576 := by have h : Rows.uptoBulkAll ([d0, d1] ++ []) ≤ 1048576 := of_decide_eq_true hk; rwa [List.append_nil] at h
  simp only [Rows.uptoBulkAll] at hbk
  have k0 := h0
  have lt0 : ∀ x ∈ p0, x.block < W.heap.size := by obtain ⟨m, hm⟩ := k0; exact DataW.trod_lt m _ _ _ hm
  obtain ⟨l0, w0, b0⟩ := rows_in (hval 0 28 v0 rfl rfl) h0
  have k1 := h1
  have lt1 : ∀ x ∈ p1, x.block < W.heap.size := by obtain ⟨m, hm⟩ := k1; exact DataW.trod_lt m _ _ _ hm
  obtain ⟨a1, len1, cap1, zs1, rfl, x1, b1⟩ := ints_in Try.underlying36 Try.underlying3 (by kernel_rfl) (hval 1 36 v1 rfl rfl) h1
  obtain ⟨w1, y1, z1⟩ := row_iv x1
  clear hA0 hval0
  refine (walk _ _ _ _ W w0 w1 (by omega)).mono fun e W' ⟨he, bel⟩ => ?_
  subst he
  exact ⟨_, rfl, _, _, _, [], _, [], hW', trodAll_mk1 (shut_bool Try.underlying4 _), (trodAll_cons_mk (Below.trod laidOut (by kernel_rfl) (of_decide_eq_true (by kernel_rfl)) k0 bel lt0) (trodAll_cons_mk (Below.trod laidOut (by kernel_rfl) (of_decide_eq_true (by kernel_rfl)) k1 bel lt1) trodAll_mk0)), rfl, bel.frame _, fun h => by cases h⟩

theorem over : Rows.sszLaysUptoRow.holds Try.pinned (Rows.OpenSpec.upto Rows.sszLaysSpec) :=
  OpenClaim.holds_of_cond 6 Try.f6 rfl rfl rfl rfl rfl rfl rfl ⟨rfl, rfl, rfl, rfl, rfl⟩ rfl rfl rfl rfl rfl (by kernel_rfl) Try.func6 (by kernel_rfl)
    (of_decide_eq_true (by kernel_rfl)) (by unfold Func.isWrapper; first | (rw [if_pos (by decide +kernel)]; kernel_rfl) | (rw [if_neg (by decide +kernel)]; exact ⟨rfl, rfl⟩))
    (fun os started H enc _ F => lifted os started H enc F)

theorem proved : Rows.SszLaysUptoSaid := over
end Go.Proofs.Ytamfceklddbldaa.sszLays
