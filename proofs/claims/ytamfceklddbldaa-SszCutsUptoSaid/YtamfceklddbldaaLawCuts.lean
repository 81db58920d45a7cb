/- 'pharoslaw03.SszCuts' returns true, and each argument reads behind the call as it read before, wherever the arguments' bulk is at most 1048576 (the given second form). -/
import Derived.Test.YtamfceklddbldaaOpen
import Derived.Test.YtamfceklddbldaaLay2
import Derived.Test.YtamfceklddbldaaCut2
import Derived.Test.YtamfceklddbldaaWipe
import Derived.Deep.RegionHeld3
import Derived.Deep.DeepCutAuto
namespace Go.Proofs.Ytamfceklddbldaa.sszCuts
open Go.ChangeShapes Go.WideShapes Go.ChangeAt Go.RowKit
set_option linter.unusedVariables false

theorem cut_or (b : Bs) (z : List Int) : ((cut b z).1 = [] ∧ (cut b z).2 ≠ 0) ∨ (∃ ls, cut b z = (ls, 0)) := by
  unfold cut
  split
  · exact .inl ⟨rfl, by simp⟩
  split
  · exact .inl ⟨rfl, by simp⟩
  split
  · exact .inl ⟨rfl, by simp⟩
  split
  · exact .inl ⟨rfl, by simp⟩
  · exact .inr ⟨_, rfl⟩
theorem lay_of_cut {b : Bs} {z : List Int} {ls : List Bs} (h : cut b z = (ls, 0)) : lay ls z = (b, 0) ∧ ls.length ≤ 64 := by
  obtain ⟨h1, h2, h3, h4⟩ := lay_cut h
  refine ⟨?_, by have := sizesOk_len z h1; omega⟩
  unfold lay
  rw [if_neg (by simp [h1, h2]), if_neg (by simp [h3]), h4]
theorem flat_le (ls : List Bs) (p : Bs) (h : p ∈ ls) : p.length ≤ ls.flatten.length := by
  induction ls with
  | nil => cases h
  | cons q r ih =>
    rw [List.flatten_cons, List.length_append]
    rcases List.mem_cons.1 h with h | h
    · subst h; omega
    · have := ih h; omega
theorem flat_laid (ps : List Bs) (ss : List Nat) (n : Nat) (h : fits ps ss = true) : ps.flatten.length ≤ (front ps ss n).length + (behind ps ss).length := by
  induction ps generalizing ss n with
  | nil => simp
  | cons p ps ih => cases ss with
    | nil => simp [fits] at h
    | cons s ss =>
      simp only [fits, Bool.and_eq_true, Bool.or_eq_true, beq_iff_eq] at h
      by_cases hs : s = 0
      · have := ih ss (n + p.length) h.2
        simp only [front, behind, hs, if_true, List.flatten_cons, List.length_append]
        omega
      · have := ih ss n h.2
        simp only [front, behind, hs, if_false, List.flatten_cons, List.length_append]
        omega
theorem cut_flat {b : Bs} {z : List Int} {ls : List Bs} (h : cut b z = (ls, 0)) : ls.flatten.length ≤ b.length := by
  obtain ⟨h1, h2, h3, h4⟩ := lay_cut h
  have := flat_laid ls (nats z) (headLen (nats z)) h3
  have h5 := congrArg List.length h4
  rw [laid, List.length_append] at h5
  omega
theorem ro_re {w : World} {B : Nat} {v : Value} {ls : List Bs} (h : RO w B v ls) : ∃ vs, RE w B v ls.length vs 0 ls.flatten.length := by
  obtain ⟨vs, h1, h2⟩ := h
  refine ⟨vs, h1, fun j u hu => ?_⟩
  have hl : vs.length = ls.length := by have := h1.1; omega
  obtain ⟨hj, _⟩ := List.getElem?_eq_some_iff.1 hu
  have hj' : j < ls.length := by omega
  exact ⟨_, (h2 j u _ hu (List.getElem?_eq_getElem hj')).toEB, fun _ => flat_le ls _ (List.getElem_mem hj')⟩
set_option maxHeartbeats 1600000 in
set_option maxRecDepth 100000 in
theorem walk (v0 : Value) (b : Bs) (v1 : Value) (z : List Int) (W : World) (w0 : BV W 0 v0 b) (w1 : IV W 0 v1 z) (hb : b.length + z.length ≤ 1048576) :
    Calls Try.prog 5 #[v0, v1] W (TruePost W) := by
  obtain ⟨i0, hi, hz0, hz1, hz2⟩ := info_parts Try.info_u8
  obtain ⟨i1, hj, hy0, hy1, hy2⟩ := info_parts Try.info_int
  have HB := Lib.hid w0
  have HZ := Lib.hid w1
  clear w0 w1
  go_enter Try.func5, Try.ntmps5
  go_wp2_with fail
  refine (awake_any W).mono ?_
  rintro e W1 ⟨rfl, b1⟩
  have B1 := Lib.hid b1
  clear b1
  go_wp2_with (at_builtin; refine wpList_append_sl _ rfl _ _ 22 rfl W1.heap.size 0 5 i0 (.int .u8 0) 1 Try.underlying22 hi hz0 hz1 hz2 rfl _ 0 [] rfl (World.ownsRow_made W1 #[] 0 (Nat.le_refl _) (Nat.zero_le _) rfl) _ (b.map bv) rfl (Sl.alloc (Sl.below HB.out B1.out (Nat.le_refl _)) _) (bv_one b) ?c3 ?c4 ?c5 ?_)
  case c3 => rw [List.length_map]; unfold maxLen; omega
  case c4 => rw [List.length_map]; omega
  case c5 => simp
  intro v2 W2 hown hgrow hmv
  have O2 : Hid (OB W2 W1.heap.size v2 b) := OB.mk hown (by simp) rfl
  have B12 : Hid (Below W1.heap.size W1 W2) := ((Below.refl _ W1).alloc (Nat.le_refl _) _).grown hgrow (by simp) (by intro k hk; simp [Value.ownBlock] at hk; omega)
  have B2 : Hid (Below W.heap.size W W2) := B1.out.trans (B12.out.mono B1.out.size)
  clear hown hgrow hmv B12
  go_wp2_with (at_builtin; refine wpList_append_sl _ rfl _ _ 36 rfl W2.heap.size 0 3 i1 (.int .i64 0) 8 Try.underlying36 hj hy0 hy1 hy2 rfl _ 0 [] rfl (World.ownsRow_made W2 #[] 0 (Nat.le_refl _) (Nat.zero_le _) rfl) _ (z.map iv) rfl (Sl.alloc (Sl.below HZ.out B2.out (Nat.le_refl _)) _) (iv_one z) ?c3 ?c4 ?c5 ?_)
  case c3 => rw [List.length_map]; unfold maxLen; omega
  case c4 => rw [List.length_map]; omega
  case c5 => simp
  intro v3 W3 hown hgrow hmv
  have O3 : Hid (OI W3 W2.heap.size v3 z) := OI.mk hown (by simp) rfl
  have B23 : Hid (Below W2.heap.size W2 W3) := ((Below.refl _ W2).alloc (Nat.le_refl _) _).grown hgrow (by simp) (by intro k hk; simp [Value.ownBlock] at hk; omega)
  have B3 : Hid (Below W.heap.size W W3) := B2.out.trans (B23.out.mono B2.out.size)
  have M3 : Hid (BV W3 0 v2 b) := Sl.lower (OB.toBV (O2.out.below B23.out)) (Nat.zero_le _)
  clear hown hgrow hmv B23 O2 B2
  go_wp2_with fail
  refine (cut_any _ _ b z W3 M3.out (Sl.lower (OI.toIV O3.out) (Nat.zero_le _)) (by omega)).mono ?_
  rintro e W4 ⟨v4, rfl, r4, b4⟩
  have R4 : Hid (RO W4 W3.heap.size v4 (cut b z).1) := r4
  have B34 : Hid (Below W3.heap.size W3 W4) := b4
  have B4 : Hid (Below W.heap.size W W4) := B3.out.trans (b4.mono B3.out.size)
  clear r4 b4 O3
  go_wp2_with fail
  refine (rcut_any _ _ b z W4 (Sl.below HB.out B4.out (Nat.le_refl _)) (Sl.below HZ.out B4.out (Nat.le_refl _)) (by omega)).mono ?_
  rintro e W5 ⟨v5, rfl, r5, b5⟩
  have R5 : Hid (RO W5 W4.heap.size v5 (cut b z).1) := r5
  have R4' : Hid (RO W5 W3.heap.size v4 (cut b z).1) := R4.out.below b5
  have B35 : Hid (Below W3.heap.size W3 W5) := B34.out.trans (b5.mono B34.out.size)
  have HO := Lib.hid (cut_or b z)
  clear r5 b5 R4 B34 B4
  generalize hq : cut b z = q at *
  have HQ := Lib.hid hq
  clear hq
  obtain ⟨ls, cd⟩ := q
  simp only at R5 R4' HO
  go_wp2_with fail
  refine (same_any _ _ ls ls W5 (RV.low0 R4'.out.toRV) (RV.low0 R5.out.toRV)).mono ?_
  rintro e W6 ⟨rfl, n6, rfl⟩
  rw [decide_eq_true rfl]
  have R6 : Hid (RO (W5.drewN n6) W3.heap.size v4 ls) := R4'.out.below (below_drewN (Below.refl _ _) n6)
  have B36 : Hid (Below W3.heap.size W3 (W5.drewN n6)) := below_drewN B35.out n6
  generalize W5.drewN n6 = W6 at *
  have M6 : Hid (BV W6 0 v2 b) := Sl.below M3.out B36.out (Nat.le_refl _)
  have B6 : Hid (Below W.heap.size W W6) := B3.out.trans (B36.out.mono B3.out.size)
  have N6 : Hid (BV W6 0 v0 b) := Sl.below HB.out B6.out (Nat.le_refl _)
  clear R5 R4' B35
  have q2 := Try.conv_str M6.out
  have q3 := Try.conv_str N6.out
  have t0 : ((str b).toList == (str b).toList) = true := by simp
  obtain ⟨A4, c4, rfl⟩ := R6.out.form
  rcases HO.out with ⟨rfl, hcd⟩ | ⟨ls', hls⟩
  · have hcd' : ((cd : Int) != 0) = true := by simp; omega
    rw [List.length_nil] at *
    go_wp2_with fail
    go_ret
    exact ⟨rfl, B6.out⟩
  · injection hls with e1 e2
    subst e1 e2
    obtain ⟨hlay, hl64⟩ := lay_of_cut HQ.out
    have hfl := cut_flat HQ.out
    have HL := Lib.hid hlay
    clear hlay HO
    go_wp2_with fail
    refine (lay_any _ _ ls z W6 (RV.low0 R6.out.toRV) (Sl.below HZ.out B6.out (Nat.le_refl _)) (by omega)).mono ?_
    rintro e W7 ⟨v7, rfl, o7, b7⟩
    rw [HL.out] at o7 ⊢
    have B37 : Hid (Below W3.heap.size W3 W7) := B36.out.trans (b7.mono B36.out.size)
    have R7 := R6.out.below b7
    have B7 : Hid (Below W.heap.size W W7) := B3.out.trans (B37.out.mono B3.out.size)
    have N7 : Hid (BV W7 0 v0 b) := Sl.below HB.out B7.out (Nat.le_refl _)
    have q7 := Try.conv_str (OB.toBV o7)
    have q8 := Try.conv_str N7.out
    obtain ⟨vs, hre⟩ := ro_re R7
    have HRE := Lib.hid hre
    have hs37 := B37.out.size
    clear hre R7 o7 b7 q2 q3 B36 B6 M6 N6 R6
    go_wp2_with fail
    refine (wipe_any _ ls.length W3.heap.size ls.flatten.length vs W7 HRE.out hs37 (by omega) (by omega)).mono ?_
    rintro e W8 ⟨⟨x, rfl⟩, b8⟩
    have B38 : Hid (Below W3.heap.size W3 W8) := B37.out.trans b8
    have B8 : Hid (Below W.heap.size W W8) := B3.out.trans (B38.out.mono B3.out.size)
    have M8 : Hid (BV W8 0 v2 b) := Sl.below M3.out B38.out (Nat.le_refl _)
    have N8 : Hid (BV W8 0 v0 b) := Sl.below HB.out B8.out (Nat.le_refl _)
    have q9 := Try.conv_str M8.out
    have q10 := Try.conv_str N8.out
    clear q7 q8 HRE b8
    go_wp2_with fail
    go_ret
    exact ⟨rfl, B8.out⟩
theorem own : ownKnob Try.prog.godebug = none := by kernel_rfl
theorem laidOut : laidOutB Try.prog = true := by kernel_rfl

set_option maxRecDepth 100000 in
theorem lifted (os : Os) (started : os.Started) (H : Type) (enc : TypeId × Value → H) (F : Stop.Interp) :
    ReturnsInHanded {} Try.checked os 5 .any ((Rows.OpenSpec.upto Rows.sszCutsSpec).pre6 enc Try.prog Try.f5 Rows.sszCutsUptoRow.domain false) (((Rows.OpenSpec.upto Rows.sszCutsSpec).at F).post enc Try.prog Try.f5 false true false false) := by
  refine returnsInHanded_of_cond (C := Try.checked) (s := Rows.OpenSpec.upto Rows.sszCutsSpec) (k := Rows.uptoSmall) rfl own started (by kernel_rfl) Try.func5
    (OpenSpec.witness (enc := enc) (C := Try.checked) (s := Rows.OpenSpec.upto Rows.sszCutsSpec) (k := Rows.uptoSmall) rfl false ⟨#[], #[.slice none 0 0, .slice none 0 0], []⟩ 8 (by kernel_rfl) (by kernel_rfl) (by kernel_rfl)
      (x := ([.nil, .nil], [], [])) (by kernel_rfl) rfl (by kernel_rfl)) ?_
  intro W base args ds gs before hval0 hW _ hk _
  have hval : ∀ (j : Nat) t v, Try.f5.params[j]? = some t → args[j]? = some v → Value.okWide Try.prog W .any base t v := hval0
  have hW' := hW
  obtain ⟨p, q, hA0, hV, rfl, hfz, hnd⟩ := hW
  have hA : DataW.TrodAll enc Try.prog W 0 (fun _ => true) true Try.f5.params.toList args.toList ds p := hA0
  rw [Try.params5] at hA hval
  obtain ⟨v0, vs0, d0, ds0, p0, q0, hargs, rfl, rfl, h0, r0⟩ := trodAll_cons hA
  obtain ⟨v1, vs1, d1, ds1, p1, q1, rfl, rfl, rfl, h1, r1⟩ := trodAll_cons r0
  obtain ⟨rfl, rfl, rfl⟩ := trodAll_nil r1
  obtain rfl : args = #[v0, v1] := by cases args; simp_all
  obtain ⟨rfl, rfl⟩ := trodVars_none hV
  have hbk : Rows.uptoBulkAll [d0, d1] ≤ 1048576 := by have h : Rows.uptoBulkAll ([d0, d1] ++ []) ≤ 1048576 := of_decide_eq_true hk; rwa [List.append_nil] at h
  simp only [Rows.uptoBulkAll] at hbk
  have k0 := h0
  have lt0 : ∀ x ∈ p0, x.block < W.heap.size := by obtain ⟨m, hm⟩ := k0; exact DataW.trod_lt m _ _ _ hm
  obtain ⟨a0, len0, cap0, zs0, rfl, x0, b0⟩ := ints_in Try.underlying22 Try.underlying5 (by kernel_rfl) (hval 0 22 v0 rfl rfl) h0
  obtain ⟨w0, y0, z0⟩ := row_bv x0
  have k1 := h1
  have lt1 : ∀ x ∈ p1, x.block < W.heap.size := by obtain ⟨m, hm⟩ := k1; exact DataW.trod_lt m _ _ _ hm
  obtain ⟨a1, len1, cap1, zs1, rfl, x1, b1⟩ := ints_in Try.underlying36 Try.underlying3 (by kernel_rfl) (hval 1 36 v1 rfl rfl) h1
  obtain ⟨w1, y1, z1⟩ := row_iv x1
  clear hA0 hval0
  refine (walk _ _ _ _ W w0 w1 (by omega)).mono fun e W' ⟨he, bel⟩ => ?_
  subst he
  exact ⟨_, rfl, _, _, _, [], _, [], hW', trodAll_mk1 (shut_bool Try.underlying4 _), (trodAll_cons_mk (Below.trod laidOut (by kernel_rfl) (of_decide_eq_true (by kernel_rfl)) k0 bel lt0) (trodAll_cons_mk (Below.trod laidOut (by kernel_rfl) (of_decide_eq_true (by kernel_rfl)) k1 bel lt1) trodAll_mk0)), rfl, bel.frame _, fun h => by cases h⟩

theorem over : Rows.sszCutsUptoRow.holds Try.pinned (Rows.OpenSpec.upto Rows.sszCutsSpec) :=
  OpenClaim.holds_of_cond 5 Try.f5 rfl rfl rfl rfl rfl rfl rfl ⟨rfl, rfl, rfl, rfl, rfl⟩ rfl rfl rfl rfl rfl (by kernel_rfl) Try.func5 (by kernel_rfl)
    (of_decide_eq_true (by kernel_rfl)) (by unfold Func.isWrapper; first | (rw [if_pos (by decide +kernel)]; kernel_rfl) | (rw [if_neg (by decide +kernel)]; exact ⟨rfl, rfl⟩))
    (fun os started H enc _ F => lifted os started H enc F)

theorem proved : Rows.SszCutsUptoSaid := over
end Go.Proofs.Ytamfceklddbldaa.sszCuts
