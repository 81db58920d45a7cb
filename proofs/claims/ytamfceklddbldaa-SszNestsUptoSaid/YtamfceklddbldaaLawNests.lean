/- 'pharoslaw03.SszNests' returns true, and each argument reads behind the call as it read before, wherever the arguments' bulk is at most 1048576 (the given second form). -/
import Derived.Test.YtamfceklddbldaaOpen
import Derived.Test.YtamfceklddbldaaLay2
import Derived.Deep.RegionHeld3
import Derived.Deep.DeepCutAuto
namespace Go.Proofs.Ytamfceklddbldaa.sszNests
open Go.ChangeShapes Go.WideShapes Go.ChangeAt Go.RowKit
set_option linter.unusedVariables false

theorem nest_new (w : World) (x y : Value) (a t : Bs) (hx : BV w 0 x a) (hy : BV w 0 y t) :
    RV ((w.alloc (.cells #[x, y, y] 22)).alloc (.cells #[.int .i64 0, .int .i64 0, .int .i64 0] 3)) 0 (.slice (some ⟨w.heap.size, 0, none⟩) 3 3) [a, t, t] ∧
    IV ((w.alloc (.cells #[x, y, y] 22)).alloc (.cells #[.int .i64 0, .int .i64 0, .int .i64 0] 3)) 0 (.slice (some ⟨w.heap.size + 1, 0, none⟩) 3 3) [0, 0, 0] ∧
    Below w.heap.size w ((w.alloc (.cells #[x, y, y] 22)).alloc (.cells #[.int .i64 0, .int .i64 0, .int .i64 0] 3)) := by
  refine ⟨⟨[x, y, y], Sl.alloc (Sl.lower (sl_new w [x, y, y] 22 (by simp [maxLen])) (Nat.zero_le _)) _, rfl, fun j u l hu hl => ?_⟩, ?_, ((Below.refl _ w).alloc (Nat.le_refl _) _).alloc (by simp) _⟩
  · match j with
    | 0 => simp only [List.getElem?_cons_zero, Option.some.injEq] at hu hl; subst hu hl; exact Sl.alloc (Sl.alloc hx _) _
    | 1 => simp only [List.getElem?_cons_succ, List.getElem?_cons_zero, Option.some.injEq] at hu hl; subst hu hl; exact Sl.alloc (Sl.alloc hy _) _
    | 2 => simp only [List.getElem?_cons_succ, List.getElem?_cons_zero, Option.some.injEq] at hu hl; subst hu hl; exact Sl.alloc (Sl.alloc hy _) _
    | j + 3 => simp at hu
  · have := iv_new (w.alloc (.cells #[x, y, y] 22)) [0, 0, 0] (by simp) _ rfl _ rfl
    simpa [iv] using this
theorem ints_new (w : World) : IV (w.alloc (.cells #[.int .i64 0, .int .i64 0, .int .i64 0] 3)) 0 (.slice (some ⟨w.heap.size, 0, none⟩) 3 3) [0, 0, 0] ∧ Below w.heap.size w (w.alloc (.cells #[.int .i64 0, .int .i64 0, .int .i64 0] 3)) := by
  refine ⟨?_, (Below.refl _ w).alloc (Nat.le_refl _) _⟩
  have := iv_new w [0, 0, 0] (by simp) _ rfl _ rfl
  simpa [iv] using this
/-- The bytes of a container of three. -/
def outer (a t : Bs) : Bs := laid [a, t, t] (nats [0, 0, 0])
theorem outer_fits (a t : Bs) : fits [a, t, t] (nats [0, 0, 0]) = true := by simp [nats, fits]
theorem outer_lay (a t : Bs) : lay [a, t, t] [0, 0, 0] = (outer a t, 0) := by
  unfold lay outer
  rw [if_neg (by rw [show sizesOk [0, 0, 0] = true from rfl]; simp), if_neg (by rw [outer_fits]; simp)]
theorem outer_len (a t : Bs) : (outer a t).length = 12 + a.length + 2 * t.length := by
  unfold outer laid
  rw [List.length_append, front_len _ _ _ (outer_fits a t), show headLen (nats [0, 0, 0]) = 12 from rfl]
  simp [nats, behind]; omega
theorem outer_cut (a t : Bs) (h : (outer a t).length < 4294967296) : cut (outer a t) [0, 0, 0] = ([a, t, t], 0) := cut_lay [a, t, t] [0, 0, 0] rfl (outer_fits a t) h
set_option maxHeartbeats 1600000 in
theorem walk (v0 : Value) (ps : List Bs) (v1 : Value) (z : List Int) (v2 : Value) (t : Bs) (W : World) (w0 : RV W 0 v0 ps) (w1 : IV W 0 v1 z) (w2 : BV W 0 v2 t) (hb : ps.flatten.length + t.length ≤ 1048576) :
    Calls Try.prog 8 #[v0, v1, v2] W (TruePost W) := by
  have HP := Lib.hid w0
  have HZ := Lib.hid w1
  have HT := Lib.hid w2
  obtain ⟨At, ct, rfl, ht1, ht2⟩ := w2.form
  have HN := Lib.hid nest_new
  have HI := Lib.hid ints_new
  unfold maxLen at ht2
  clear w0 w1 w2
  go_enter Try.func8, Try.ntmps8
  go_wp2_with fail
  refine (awake_any W).mono ?_
  rintro e W1 ⟨rfl, b1⟩
  have B1 := Lib.hid b1
  clear b1
  go_wp2_with fail
  refine (lay_any _ _ ps z W1 (HP.out.below B1.out (Nat.le_refl _)) (Sl.below HZ.out B1.out (Nat.le_refl _)) (by omega)).mono ?_
  rintro e W2 ⟨v3, rfl, o2, b2⟩
  have B2 : Hid (Below W.heap.size W W2) := B1.out.trans (b2.mono B1.out.size)
  have O2 := Lib.hid o2
  clear o2 b2
  rcases lay_or ps z with h | h | ⟨h1, h2, h⟩
  · rw [h] at O2 ⊢
    clear h
    go_wp2_with fail
    go_ret
    exact ⟨rfl, B2.out⟩
  · rw [h] at O2 ⊢
    clear h
    go_wp2_with fail
    go_ret
    exact ⟨rfl, B2.out⟩
  · have hlen := laid_le ps z h1 h2
    have HC := Lib.hid (cut_lay ps z h1 h2 (by omega))
    rw [h] at O2 ⊢
    clear h h1 h2
    generalize laid ps (nats z) = a at *
    obtain ⟨A3, c3, rfl⟩ := O2.out.form
    have tl : ((((outer a t).length : Nat) : Int) != 12 + (a.length : Int) + 2 * (t.length : Int)) = false := by rw [outer_len]; simp
    have hol : (outer a t).length ≤ 12 + a.length + 2 * t.length := Nat.le_of_eq (outer_len a t)
    have HO := Lib.hid (outer_lay a t)
    have HOC := Lib.hid (outer_cut a t (by omega))
    generalize outer a t = L at *
    have BT2 : Hid (BV W2 0 (.slice At t.length ct) t) := Sl.below HT.out B2.out (Nat.le_refl _)
    go_wp2_with fail
    obtain ⟨f1, f2, f3⟩ := HN.out W2 _ _ a t (Sl.lower (OB.toBV O2.out) (Nat.zero_le _)) BT2.out
    refine (lay_any _ _ [a, t, t] [0, 0, 0] _ f1 f2 (by simp; omega)).mono ?_
    rintro e W3 ⟨v4, rfl, o3, b3⟩
    rw [HO.out] at o3 ⊢
    have B23 : Hid (Below W2.heap.size W2 W3) := f3.trans (b3.mono f3.size)
    have B3 : Hid (Below W.heap.size W W3) := B2.out.trans (B23.out.mono B2.out.size)
    have O2' : Hid (OB W3 W1.heap.size (.slice A3 a.length c3) a) := O2.out.below B23.out
    have O3 : Hid (BV W3 0 v4 L) := Sl.lower (OB.toBV o3) (Nat.zero_le _)
    obtain ⟨A4, c4, rfl, hc1, hc2⟩ := O3.out.form
    unfold maxLen at hc2
    clear f1 f2 f3 o3 b3 O2 BT2 B2 B23
    go_wp2_with fail
    obtain ⟨f1, f2⟩ := HI.out W3
    refine (cut_any _ _ L [0, 0, 0] _ (Sl.alloc O3.out _) f1 (by omega)).mono ?_
    rintro e W4 ⟨v5, rfl, r4, b4⟩
    rw [HOC.out] at r4 ⊢
    have B34 : Hid (Below W3.heap.size W3 W4) := f2.trans (b4.mono f2.size)
    have B4 : Hid (Below W.heap.size W W4) := B3.out.trans (B34.out.mono B3.out.size)
    have O2 : Hid (OB W4 W1.heap.size (.slice A3 a.length c3) a) := O2'.out.below B34.out
    have R4 : Hid (RO W4 (W3.alloc (.cells #[.int .i64 0, .int .i64 0, .int .i64 0] 3)).heap.size v5 [a, t, t]) := r4
    obtain ⟨A5, c5, rfl⟩ := R4.out.form
    obtain ⟨g5, rfl, _, hc⟩ := R4.out.at2 (by simp)
    obtain ⟨u0, k0, m0⟩ := hc 0 (by simp)
    obtain ⟨u1, k1, m1⟩ := hc 1 (by simp)
    obtain ⟨u2, k2, m2⟩ := hc 2 (by simp)
    simp only [List.getD_cons_succ, List.getD_cons_zero] at m0 m1 m2
    have M0 := Lib.hid m0
    have K0 := Lib.hid k0
    have n0 := m0.toBV
    have n1 := m1.toBV
    have n2 := m2.toBV
    have n3 : BV W4 0 (.slice At t.length ct) t := Sl.below HT.out B4.out (Nat.le_refl _)
    have n4 := O2.out.toBV
    have q0 := fun m => Try.conv_str (n0.drewN m)
    have q1 := fun m => Try.conv_str (n1.drewN m)
    have q2 := fun m => Try.conv_str (n2.drewN m)
    have q3 := fun m => Try.conv_str (n3.drewN m)
    have q4 := fun m => Try.conv_str (n4.drewN m)
    have e1 : ((str a).toList == (str a).toList) = true := by simp
    have e2 : ((str t).toList == (str t).toList) = true := by simp
    clear hc r4 f1 f2 b4 n0 n1 n2 n3 n4 m0 m1 m2 R4 O2' O3 B34 B3
    go_upto_region 10 with fail
    go_quiet (fail)
    have K0' : (W4.drewN nq).cell? ⟨g5, 0, none⟩ = some u0 := K0.out
    have M0' : Hid (BV (W4.drewN nq) 0 u0 a) := Sl.lower ((OB.toBV M0.out).drewN nq) (Nat.zero_le _)
    have B5 : Hid (Below W.heap.size W (W4.drewN nq)) := below_drewN B4.out nq
    generalize hwd : W4.drewN nq = W5 at *
    clear hwd q0 q1 q2 q3 q4 e1 e2 k0 k1 k2 K0 M0 B4
    go_wp2_with fail
    refine (cut_any _ _ a z W5 M0'.out (Sl.below HZ.out B5.out (Nat.le_refl _)) (by omega)).mono ?_
    rintro e W6 ⟨v6, rfl, r6, b6⟩
    rw [HC.out] at r6 ⊢
    have R6 : Hid (RO W6 W5.heap.size v6 ps) := r6
    have B6 : Hid (Below W.heap.size W W6) := B5.out.trans (b6.mono B5.out.size)
    clear r6 b6
    go_wp2_with fail
    refine (same_any _ _ ps ps W6 (RV.low0 R6.out.toRV) (HP.out.below B6.out (Nat.le_refl _))).mono ?_
    rintro e W7 ⟨rfl, n7, rfl⟩
    rw [decide_eq_true rfl]
    go_wp2_with fail
    go_ret
    exact ⟨rfl, below_drewN B6.out n7⟩
theorem own : ownKnob Try.prog.godebug = none := by kernel_rfl
theorem laidOut : laidOutB Try.prog = true := by kernel_rfl

set_option maxRecDepth 100000 in
theorem lifted (os : Os) (started : os.Started) (H : Type) (enc : TypeId × Value → H) (F : Stop.Interp) :
    ReturnsInHanded {} Try.checked os 8 .any ((Rows.OpenSpec.upto Rows.sszNestsSpec).pre6 enc Try.prog Try.f8 Rows.sszNestsUptoRow.domain false) (((Rows.OpenSpec.upto Rows.sszNestsSpec).at F).post enc Try.prog Try.f8 false true false false) := by
  refine returnsInHanded_of_cond (C := Try.checked) (s := Rows.OpenSpec.upto Rows.sszNestsSpec) (k := Rows.uptoSmall) rfl own started (by kernel_rfl) Try.func8
    (OpenSpec.witness (enc := enc) (C := Try.checked) (s := Rows.OpenSpec.upto Rows.sszNestsSpec) (k := Rows.uptoSmall) rfl false ⟨#[], #[.slice none 0 0, .slice none 0 0, .slice none 0 0], []⟩ 8 (by kernel_rfl) (by kernel_rfl) (by kernel_rfl)
      (x := ([.nil, .nil, .nil], [], [])) (by kernel_rfl) rfl (by kernel_rfl)) ?_
  intro W base args ds gs before hval0 hW _ hk _
  have hval : ∀ (j : Nat) t v, Try.f8.params[j]? = some t → args[j]? = some v → Value.okWide Try.prog W .any base t v := hval0
  have hW' := hW
  obtain ⟨p, q, hA0, hV, rfl, hfz, hnd⟩ := hW
  have hA : DataW.TrodAll enc Try.prog W 0 (fun _ => true) true Try.f8.params.toList args.toList ds p := hA0
  rw [Try.params8] at hA hval
  obtain ⟨v0, vs0, d0, ds0, p0, q0, hargs, rfl, rfl, h0, r0⟩ := trodAll_cons hA
  obtain ⟨v1, vs1, d1, ds1, p1, q1, rfl, rfl, rfl, h1, r1⟩ := trodAll_cons r0
  obtain ⟨v2, vs2, d2, ds2, p2, q2, rfl, rfl, rfl, h2, r2⟩ := trodAll_cons r1
  obtain ⟨rfl, rfl, rfl⟩ := trodAll_nil r2
  obtain rfl : args = #[v0, v1, v2] := by cases args; simp_all
  obtain ⟨rfl, rfl⟩ := trodVars_none hV
  have hbk : Rows.uptoBulkAll [d0, d1, d2] ≤ 1048576 := by have h : Rows.uptoBulkAll ([d0, d1, d2] ++ []) ≤ 1048576 := of_decide_eq_true hk; rwa [List.append_nil] at h
  simp only [Rows.uptoBulkAll] at hbk
  have k0 := h0
  have lt0 : ∀ x ∈ p0, x.block < W.heap.size := by obtain ⟨m, hm⟩ := k0; exact DataW.trod_lt m _ _ _ hm
  obtain ⟨l0, w0, b0⟩ := rows_in (hval 0 28 v0 rfl rfl) h0
  have k1 := h1
  have lt1 : ∀ x ∈ p1, x.block < W.heap.size := by obtain ⟨m, hm⟩ := k1; exact DataW.trod_lt m _ _ _ hm
  obtain ⟨a1, len1, cap1, zs1, rfl, x1, b1⟩ := ints_in Try.underlying36 Try.underlying3 (by kernel_rfl) (hval 1 36 v1 rfl rfl) h1
  obtain ⟨w1, y1, z1⟩ := row_iv x1
  have k2 := h2
  have lt2 : ∀ x ∈ p2, x.block < W.heap.size := by obtain ⟨m, hm⟩ := k2; exact DataW.trod_lt m _ _ _ hm
  obtain ⟨a2, len2, cap2, zs2, rfl, x2, b2⟩ := ints_in Try.underlying22 Try.underlying5 (by kernel_rfl) (hval 2 22 v2 rfl rfl) h2
  obtain ⟨w2, y2, z2⟩ := row_bv x2
  clear hA0 hval0
  refine (walk _ _ _ _ _ _ W w0 w1 w2 (by omega)).mono fun e W' ⟨he, bel⟩ => ?_
  subst he
  exact ⟨_, rfl, _, _, _, [], _, [], hW', trodAll_mk1 (shut_bool Try.underlying4 _), (trodAll_cons_mk (Below.trod laidOut (by kernel_rfl) (of_decide_eq_true (by kernel_rfl)) k0 bel lt0) (trodAll_cons_mk (Below.trod laidOut (by kernel_rfl) (of_decide_eq_true (by kernel_rfl)) k1 bel lt1) (trodAll_cons_mk (Below.trod laidOut (by kernel_rfl) (of_decide_eq_true (by kernel_rfl)) k2 bel lt2) trodAll_mk0))), rfl, bel.frame _, fun h => by cases h⟩

theorem over : Rows.sszNestsUptoRow.holds Try.pinned (Rows.OpenSpec.upto Rows.sszNestsSpec) :=
  OpenClaim.holds_of_cond 8 Try.f8 rfl rfl rfl rfl rfl rfl rfl ⟨rfl, rfl, rfl, rfl, rfl⟩ rfl rfl rfl rfl rfl (by kernel_rfl) Try.func8 (by kernel_rfl)
    (of_decide_eq_true (by kernel_rfl)) (by unfold Func.isWrapper; first | (rw [if_pos (by decide +kernel)]; kernel_rfl) | (rw [if_neg (by decide +kernel)]; exact ⟨rfl, rfl⟩))
    (fun os started H enc _ F => lifted os started H enc F)

theorem proved : Rows.SszNestsUptoSaid := over
end Go.Proofs.Ytamfceklddbldaa.sszNests
