/- 'pharoslaw03.SszMany' returns true, and each argument reads behind the call as it read before, wherever the arguments' bulk is at most 1048576 (the given second form). -/
import Derived.Test.YtamfceklddbldaaOpen
import Derived.Test.YtamfceklddbldaaMany2
import Derived.Deep.RegionHeld3
import Derived.Deep.DeepCutAuto
namespace Go.Proofs.Ytamfceklddbldaa.sszMany
open Go.ChangeShapes Go.WideShapes Go.ChangeAt Go.RowKit
set_option linter.unusedVariables false

theorem Sl_lower0 {w : World} {B : Nat} {v : Value} {ls : List Bs} (h : RV w B v ls) : RV w 0 v ls := by
  obtain ⟨vs, h1, h2, h3⟩ := h
  exact ⟨vs, Sl.lower h1 (Nat.zero_le _), h2, fun j u l hu hl => Sl.lower (h3 j u l hu hl) (Nat.zero_le _)⟩
theorem flat_le (ls : List Bs) (B : Nat) (h : ls.flatten.length + ls.length ≤ B) (hB : B ≤ 1048576) : (layMany ls).length < 4294967296 := by
  rw [layMany_len]; omega
set_option maxHeartbeats 1600000 in
theorem walk (v0 : Value) (ps : List Bs) (most : Int) (W : World) (w0 : RV W 0 v0 ps) (w1 : (Lit.int .i64 most).wf = true) (hb : ps.flatten.length + ps.length ≤ 1048576) :
    Calls Try.prog 4 #[v0, .int .i64 most] W (TruePost W) := by
  have HP := Lib.hid w0
  obtain ⟨A, c, rfl, h1, h2⟩ := w0.form
  have hl := flat_le ps _ hb (Nat.le_refl _)
  have HL := Lib.hid hl
  have HM := Lib.hid (fun m => many_lay ps m hl)
  have hlen : (layMany ps).length ≤ 8388608 := by rw [layMany_len]; omega
  have HLN := Lib.hid hlen
  clear w0 hl hlen
  unfold maxLen at h2
  go_enter Try.func4, Try.ntmps4
  go_wp2_with fail
  refine (awake_any W).mono ?_
  rintro e W1 ⟨rfl, b1⟩
  have B1 := Lib.hid b1
  clear b1
  go_wp2_with fail
  refine (layMany_any _ ps W1 (HP.out.below B1.out (Nat.le_refl _)) HL.out).mono ?_
  rintro e W2 ⟨v2, rfl, o2, b2⟩
  have O2 := Lib.hid o2
  have B2 : Hid (Below W.heap.size W W2) := B1.out.trans (b2.mono B1.out.size)
  clear o2 b2
  have q2' : (convert 22 9 v2).run Try.prog W2.drew = .ok (.string (str (layMany ps))) W2.drew := Try.conv_str (w := W2.drew) (lo := W1.heap.size) (OB.toBV O2.out)
  have t0 : ((str (layMany ps)).toList == (str (layMany ps)).toList) = true := by simp
  go_upto_region 4 with fail
  go_cut [27] (fun b wx => b = .bool false ∧ Below W2.heap.size W2 wx)
  case first =>
    go_region_with (first | (go_at_call 14; refine (rlayMany_any _ ps _ (HP.out.below B2.out.drew (Nat.le_refl _)) HL.out).mono ?_; rintro e W3 ⟨v3, rfl, o3, b3⟩; have q3 := Try.conv_str o3.toBV; have B3 : Hid (Below W2.heap.size W2 W3) := ((Below.refl _ W2).drew).trans b3; have q4 := Try.conv_str (OB.toBV (O2.out.below B3.out)); clear o3 b3; dsimp only))
    all_goals (go_wp2_with fail; go_meet; exact ⟨rfl, B3.out⟩)
  case rest =>
    obtain ⟨rfl, hb3⟩ := hcut
    clear q2' t0
    have B3 : Hid (Below W.heap.size W wc) := B2.out.trans (hb3.mono B2.out.size)
    have O3 : Hid (OB wc W1.heap.size v2 (layMany ps)) := O2.out.below hb3
    have e1 : Hid (many (layMany ps) (ps.length : Int) = (ps, 0)) := by show _ = _; rw [HM.out, if_neg (by omega), if_neg (by omega)]
    clear hb3 O2 B2
    go_wp2_with fail
    refine (many_any _ (layMany ps) _ wc (Sl.lower (OB.toBV O3.out) (Nat.zero_le _)) (by have := HLN.out; omega)).mono ?_
    rintro e W4 ⟨v4, rfl, o4, b4⟩
    rw [e1.out] at o4 ⊢
    have O4 : Hid (RO W4 wc.heap.size v4 ps) := o4
    have B4 : Hid (Below W.heap.size W W4) := B3.out.trans (b4.mono B3.out.size)
    have O5 : Hid (OB W4 W1.heap.size v2 (layMany ps)) := O3.out.below b4
    clear o4 b4 O3 B3
    go_wp2_with fail
    refine (same_any _ _ ps ps W4 (Sl_lower0 O4.out.toRV) (HP.out.below B4.out (Nat.le_refl _))).mono ?_
    rintro e W5 ⟨rfl, n5, rfl⟩
    rw [decide_eq_true rfl]
    go_wp2_with fail
    refine (many_any _ (layMany ps) most (W4.drewN n5) (Sl.lower (OB.toBV O5.out) (Nat.zero_le _)) (by have := HLN.out; omega)).mono ?_
    rintro e W6 ⟨v6, rfl, o6, b6⟩
    have B6 : Hid (Below W.heap.size W W6) := (below_drewN B4.out n5).trans (b6.mono B4.out.size)
    rw [HM.out]
    clear o6 b6
    by_cases u1 : most < 0
    · rw [if_pos u1]
      go_wp2
      go_ret
      exact ⟨rfl, B6.out⟩
    · rw [if_neg u1]
      by_cases u2 : most < (ps.length : Int)
      · rw [if_pos u2]
        have u3 : ¬ (ps.length : Int) ≤ most := by omega
        go_wp2
        go_ret
        exact ⟨by simp <;> omega, B6.out⟩
      · rw [if_neg u2]
        have u3 : (ps.length : Int) ≤ most := by omega
        go_wp2
        go_ret
        exact ⟨by simp <;> omega, B6.out⟩
theorem own : ownKnob Try.prog.godebug = none := by kernel_rfl
theorem laidOut : laidOutB Try.prog = true := by kernel_rfl

set_option maxRecDepth 100000 in
theorem lifted (os : Os) (started : os.Started) (H : Type) (enc : TypeId × Value → H) (F : Stop.Interp) :
    ReturnsInHanded {} Try.checked os 4 .any ((Rows.OpenSpec.upto Rows.sszManySpec).pre6 enc Try.prog Try.f4 Rows.sszManyUptoRow.domain false) (((Rows.OpenSpec.upto Rows.sszManySpec).at F).post enc Try.prog Try.f4 false true false false) := by
  refine returnsInHanded_of_cond (C := Try.checked) (s := Rows.OpenSpec.upto Rows.sszManySpec) (k := Rows.uptoSmall) rfl own started (by kernel_rfl) Try.func4
    (OpenSpec.witness (enc := enc) (C := Try.checked) (s := Rows.OpenSpec.upto Rows.sszManySpec) (k := Rows.uptoSmall) rfl false ⟨#[], #[.slice none 0 0, .int .i64 0], []⟩ 8 (by kernel_rfl) (by kernel_rfl) (by kernel_rfl)
      (x := ([.nil, .lit (.int .i64 0)], [], [])) (by kernel_rfl) rfl (by kernel_rfl)) ?_
  intro W base args ds gs before hval0 hW _ hk _
  have hval : ∀ (j : Nat) t v, Try.f4.params[j]? = some t → args[j]? = some v → Value.okWide Try.prog W .any base t v := hval0
  have hW' := hW
  obtain ⟨p, q, hA0, hV, rfl, hfz, hnd⟩ := hW
  have hA : DataW.TrodAll enc Try.prog W 0 (fun _ => true) true Try.f4.params.toList args.toList ds p := hA0
  rw [Try.params4] at hA hval
  obtain ⟨v0, vs0, d0, ds0, p0, q0, hargs, rfl, rfl, h0, r0⟩ := trodAll_cons hA
  obtain ⟨v1, vs1, d1, ds1, p1, q1, rfl, rfl, rfl, h1, r1⟩ := trodAll_cons r0
  obtain ⟨rfl, rfl, rfl⟩ := trodAll_nil r1
  obtain rfl : args = #[v0, v1] := by cases args; simp_all
  obtain ⟨rfl, rfl⟩ := trodVars_none hV
  have hbk : Rows.uptoBulkAll [d0, d1] ≤ 1048576 := by have h : Rows.uptoBulkAll ([d0, d1] ++ []) ≤ 1048576 := of_decide_eq_true hk; rwa [List.append_nil] at h
  simp only [Rows.uptoBulkAll] at hbk
  have k0 := h0
  have lt0 : ∀ x ∈ p0, x.block < W.heap.size := by obtain ⟨m, hm⟩ := k0; exact DataW.trod_lt m _ _ _ hm
  obtain ⟨l0, w0, b0⟩ := rows_in (hval 0 28 v0 rfl rfl) h0
  obtain ⟨a1, rfl, rfl, rfl, w1⟩ := open_int Try.underlying3 (hval 1 3 v1 rfl rfl) h1
  clear hA0 hval0
  refine (walk _ _ _ W w0 w1 (by omega)).mono fun e W' ⟨he, bel⟩ => ?_
  subst he
  exact ⟨_, rfl, _, _, _, [], _, [], hW', trodAll_mk1 (shut_bool Try.underlying4 _), (trodAll_cons_mk (Below.trod laidOut (by kernel_rfl) (of_decide_eq_true (by kernel_rfl)) k0 bel lt0) (trodAll_cons_mk (shut_int Try.underlying3 w1) trodAll_mk0)), rfl, bel.frame _, fun h => by cases h⟩

theorem over : Rows.sszManyUptoRow.holds Try.pinned (Rows.OpenSpec.upto Rows.sszManySpec) :=
  OpenClaim.holds_of_cond 4 Try.f4 rfl rfl rfl rfl rfl rfl rfl ⟨rfl, rfl, rfl, rfl, rfl⟩ rfl rfl rfl rfl rfl (by kernel_rfl) Try.func4 (by kernel_rfl)
    (of_decide_eq_true (by kernel_rfl)) (by unfold Func.isWrapper; first | (rw [if_pos (by decide +kernel)]; kernel_rfl) | (rw [if_neg (by decide +kernel)]; exact ⟨rfl, rfl⟩))
    (fun os started H enc _ F => lifted os started H enc F)

theorem proved : Rows.SszManyUptoSaid := over
end Go.Proofs.Ytamfceklddbldaa.sszMany
