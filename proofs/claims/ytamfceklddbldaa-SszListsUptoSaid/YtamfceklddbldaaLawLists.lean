/- 'pharoslaw03.SszLists' returns true, and each argument reads behind the call as it read before, wherever the arguments' bulk is at most 1048576 (the given second form). -/
import Derived.Test.YtamfceklddbldaaOpen
import Derived.Test.YtamfceklddbldaaLay2
import Derived.Test.YtamfceklddbldaaEach2
import Derived.Test.YtamfceklddbldaaMany4
import Derived.Test.YtamfceklddbldaaWipe2
import Derived.Test.YtamfceklddbldaaAwake
import Derived.Deep.RegionHeld3
import Derived.Deep.DeepCutAuto
namespace Go.Proofs.Ytamfceklddbldaa.sszLists
open Go.ChangeShapes Go.WideShapes Go.ChangeAt Go.RowKit
set_option linter.unusedVariables false

theorem flat_le (ls : List Bs) : ∀ l ∈ ls, l.length ≤ ls.flatten.length := by
  induction ls with
  | nil => intro l h; cases h
  | cons a r ih =>
    intro l h
    rw [List.flatten_cons, List.length_append]
    rcases List.mem_cons.1 h with rfl | h
    · omega
    · have := ih l h; omega
theorem each_small (b : Bs) (size most : Int) : (each b size most).1.length ≤ b.length ∧ ∀ l ∈ (each b size most).1, l.length ≤ b.length := by
  unfold each
  split
  · simp
  · split
    · simp
    · split
      · simp
      · refine ⟨by rw [pieces_len]; exact Nat.div_le_self _ _, fun l hl => ?_⟩
        unfold pieces at hl
        obtain ⟨i, _, rfl⟩ := List.mem_map.1 hl
        simp only [List.length_take, List.length_drop]
        omega
theorem many_or (b : Bs) (most : Int) : (many b most).2 = 0 ∨ (many b most).1 = [] := by
  unfold many
  repeat' split
  all_goals first | exact .inl rfl | exact .inr rfl
theorem many_small (b : Bs) (most : Int) : (many b most).1.length ≤ b.length ∧ ∀ l ∈ (many b most).1, l.length ≤ b.length := by
  rcases many_or b most with h | h
  · obtain ⟨h1, h2⟩ := lay_many (l := (many b most).1) (by rw [← h])
    have h3 := layMany_len (many b most).1
    rw [h1] at h3
    refine ⟨by omega, fun l hl => ?_⟩
    have := flat_le _ l hl
    omega
  · rw [h]
    exact ⟨by simp, fun l hl => by cases hl⟩
theorem many_lay_back (b : Bs) (most : Int) (h : (many b most).2 = 0) : layMany (many b most).1 = b := (lay_many (l := (many b most).1) (by rw [← h])).1
theorem ro_re' {w : World} {B M : Nat} {v : Value} {ls : List Bs} (h : RO w B v ls) (hM : ∀ l ∈ ls, l.length ≤ M) : ∃ vs, RE w B v ls.length vs 0 M := by
  obtain ⟨vs, h1, h2⟩ := h
  refine ⟨vs, h1, fun j u hu => ?_⟩
  have hl : vs.length = ls.length := by have := h1.1; omega
  obtain ⟨hj, _⟩ := List.getElem?_eq_some_iff.1 hu
  have hj' : j < ls.length := by omega
  exact ⟨_, (h2 j u _ hu (List.getElem?_eq_getElem hj')).toEB, fun _ => hM _ (List.getElem_mem hj')⟩
/-- Lists that were made one behind the other lie apart. -/
theorem ro_apart {w w' : World} {B B' : Nat} {v u : Value} {ls ms : List Bs} (h : RO w B v ls) (h' : RO w' B' u ms) (hB : w.heap.size ≤ B') : Apart v u := by
  intro k hk hk2
  obtain ⟨vs, h1, _⟩ := h
  obtain ⟨us, h2, _⟩ := h'
  have := (World.ownsRow.lt h2 k hk2).1
  have := (World.ownsRow.lt h1 k hk).2
  omega
set_option maxHeartbeats 3200000 in
set_option maxRecDepth 100000 in
theorem walk (v0 : Value) (b : Bs) (size most : Int) (W : World) (w0 : BV W 0 v0 b) (w1 : (Lit.int .i64 size).wf = true) (w2 : (Lit.int .i64 most).wf = true) (hb : b.length ≤ 1048576) :
    Calls Try.prog 9 #[v0, .int .i64 size, .int .i64 most] W (TruePost W) := by
  obtain ⟨i0, hi, hz0, hz1, hz2⟩ := info_parts Try.info_u8
  have HB := Lib.hid w0
  have hsz : size < 9223372036854775808 := by
    have h : -9223372036854775808 ≤ size ∧ size ≤ 9223372036854775807 := by simpa [Lit.wf, IntKind.min, IntKind.max, IntKind.signed, IntKind.bits] using w1
    omega
  have hmo : most < 9223372036854775808 := by
    have h : -9223372036854775808 ≤ most ∧ most ≤ 9223372036854775807 := by simpa [Lit.wf, IntKind.min, IntKind.max, IntKind.signed, IntKind.bits] using w2
    omega
  have HE := Lib.hid (each_small b size most)
  have HM := Lib.hid (many_small b most)
  have HOR := Lib.hid (many_or b most)
  have HLB := Lib.hid (many_lay_back b most)
  clear w0 w1 w2
  go_enter Try.func9, Try.ntmps9
  go_wp2_with fail
  refine (awake_any W).mono ?_
  rintro e W1 ⟨rfl, b1⟩
  have B1 := Lib.hid b1
  clear b1
  go_wp2_with (at_builtin; refine wpList_append_sl _ rfl _ _ 22 rfl W1.heap.size 0 5 i0 (.int .u8 0) 1 Try.underlying22 hi hz0 hz1 hz2 rfl _ 0 [] rfl (World.ownsRow_made W1 #[] 0 (Nat.le_refl _) (Nat.zero_le _) rfl) _ (b.map bv) rfl (Sl.alloc (Sl.below HB.out B1.out (Nat.le_refl _)) _) (bv_one b) ?c3 ?c4 ?c5 ?_)
  case c3 => rw [List.length_map]; unfold maxLen; omega
  case c4 => rw [List.length_map]; omega
  case c5 => simp
  intro v2 W2 hown hgrow hmv
  have O2 : Hid (OB W2 W1.heap.size v2 b) := OB.mk hown (by simp) rfl
  have B12 : Hid (Below W1.heap.size W1 W2) := ((Below.refl _ W1).alloc (Nat.le_refl _) _).grown hgrow (by simp) (by intro k hk; simp [Value.ownBlock] at hk; omega)
  have B2 : Hid (Below W.heap.size W W2) := B1.out.trans (B12.out.mono B1.out.size)
  have M2 : Hid (BV W2 0 v2 b) := Sl.lower (OB.toBV O2.out) (Nat.zero_le _)
  clear hown hgrow hmv B12 O2
  go_wp2_with fail
  refine (each_any _ b size most W2 M2.out hmo (by omega)).mono ?_
  rintro e W3 ⟨v3, rfl, r3, b3⟩
  have R3 : Hid (RO W3 W2.heap.size v3 (each b size most).1) := r3
  have B23 : Hid (Below W2.heap.size W2 W3) := b3
  have B3 : Hid (Below W.heap.size W W3) := B2.out.trans (b3.mono B2.out.size)
  clear r3 b3
  go_wp2_with fail
  refine (reach_any _ b size most W3 (Sl.below HB.out B3.out (Nat.le_refl _)) hsz (by omega)).mono ?_
  rintro e W4 ⟨v4, rfl, r4, b4⟩
  have R4 : Hid (RO W4 W3.heap.size v4 (each b size most).1) := r4
  have R3' : Hid (RO W4 W2.heap.size v3 (each b size most).1) := R3.out.below b4
  have B24 : Hid (Below W2.heap.size W2 W4) := B23.out.trans (b4.mono B23.out.size)
  have hs34 := b4.size
  clear r4 b4 B3
  generalize hL : each b size most = q at *
  obtain ⟨ls, cd⟩ := q
  simp only at R4 R3' HE R3
  clear hL
  go_wp2_with fail
  refine (same_any _ _ ls ls W4 (RV.low0 R3'.out.toRV) (RV.low0 R4.out.toRV)).mono ?_
  rintro e W5 ⟨rfl, n5, rfl⟩
  rw [decide_eq_true rfl]
  have R5 : Hid (RO (W4.drewN n5) W2.heap.size v3 ls) := R3'.out.below (below_drewN (Below.refl _ _) n5)
  have B25 : Hid (Below W2.heap.size W2 (W4.drewN n5)) := below_drewN B24.out n5
  have hs35 : W3.heap.size ≤ (W4.drewN n5).heap.size := hs34
  generalize W4.drewN n5 = W5 at *
  have M5 : Hid (BV W5 0 v2 b) := Sl.below M2.out B25.out (Nat.le_refl _)
  have B5 : Hid (Below W.heap.size W W5) := B2.out.trans (B25.out.mono B2.out.size)
  clear R3' R4 B24 B23 hs34
  go_wp2_with fail
  refine (many_any _ b most W5 M5.out (by omega)).mono ?_
  rintro e W6 ⟨v6, rfl, r6, b6⟩
  have R6 : Hid (RO W6 W5.heap.size v6 (many b most).1) := r6
  have R56 : Hid (RO W6 W2.heap.size v3 ls) := R5.out.below b6
  have B26 : Hid (Below W2.heap.size W2 W6) := B25.out.trans (b6.mono B25.out.size)
  have B6 : Hid (Below W.heap.size W W6) := B2.out.trans (B26.out.mono B2.out.size)
  have hs25 : W2.heap.size ≤ W5.heap.size := B25.out.size
  clear r6 b6 R5 B25
  go_wp2_with fail
  refine (rmany_any _ b most W6 (Sl.below HB.out B6.out (Nat.le_refl _)) (by omega)).mono ?_
  rintro e W7 ⟨v7, rfl, r7, b7⟩
  have R7 : Hid (RO W7 W6.heap.size v7 (many b most).1) := r7
  have R67 : Hid (RO W7 W5.heap.size v6 (many b most).1) := R6.out.below b7
  have R57 : Hid (RO W7 W2.heap.size v3 ls) := R56.out.below b7
  have B27 : Hid (Below W2.heap.size W2 W7) := B26.out.trans (b7.mono B26.out.size)
  clear r7 b7 R56 B26 B6
  generalize hQ : many b most = q at *
  obtain ⟨ms, ce⟩ := q
  simp only at R7 R67 HM HOR HLB R6
  clear hQ
  go_wp2_with fail
  refine (same_any _ _ ms ms W7 (RV.low0 R67.out.toRV) (RV.low0 R7.out.toRV)).mono ?_
  rintro e W8 ⟨rfl, n8, rfl⟩
  rw [decide_eq_true rfl]
  have HAP := Lib.hid (ro_apart R3.out R6.out hs35)
  have R8 : Hid (RO (W7.drewN n8) W2.heap.size v3 ls) := R57.out.below (below_drewN (Below.refl _ _) n8)
  have R9 : Hid (RO (W7.drewN n8) W5.heap.size v6 ms) := R67.out.below (below_drewN (Below.refl _ _) n8)
  have B28 : Hid (Below W2.heap.size W2 (W7.drewN n8)) := below_drewN B27.out n8
  generalize W7.drewN n8 = W8 at *
  have B8 : Hid (Below W.heap.size W W8) := B2.out.trans (B28.out.mono B2.out.size)
  clear R57 R67 R7 B27
  have t0 : ((str b).toList == (str b).toList) = true := by simp
  by_cases hce : ce = 0
  · subst hce
    have hl : (layMany ms).length < 4294967296 := by rw [HLB.out (by simp)]; omega
    go_wp2_with fail
    refine (layMany_any _ ms W8 (RV.low0 R9.out.toRV) hl).mono ?_
    rintro e W9 ⟨v9, rfl, o9, b9⟩
    rw [HLB.out (by simp)] at o9
    have R8' := Lib.hid (R8.out.below b9)
    have R9' := Lib.hid (R9.out.below b9)
    have B29 : Hid (Below W2.heap.size W2 W9) := B28.out.trans (b9.mono B28.out.size)
    have B9 : Hid (Below W.heap.size W W9) := B2.out.trans (B29.out.mono B2.out.size)
    have N9 : Hid (BV W9 0 v0 b) := Sl.below HB.out B9.out (Nat.le_refl _)
    have q7 := Try.conv_str (OB.toBV o9)
    have q8 := Try.conv_str N9.out
    clear o9 b9 R8 R9 B28 B8
    obtain ⟨xs, hre⟩ := ro_re' R8'.out HE.out.2
    obtain ⟨ys, hse⟩ := ro_re' (R9'.out.lower hs25) HM.out.2
    have HRE := Lib.hid hre
    have HSE := Lib.hid hse
    have hsz2 := B29.out.size
    have hl1 := HE.out.1
    have hl2 := HM.out.1
    clear hre hse
    go_wp2_with fail
    refine (wipe2_any _ _ ls.length W2.heap.size b.length ms.length b.length xs ys W9 HRE.out HSE.out HAP.out hsz2 (by omega) (by omega)).mono ?_
    rintro e W11 ⟨⟨⟨x, rfl⟩, b11⟩, hse⟩
    have HSE2 := Lib.hid hse
    have B211 : Hid (Below W2.heap.size W2 W11) := B29.out.trans b11
    clear b11 hse HRE HSE
    go_wp2_with fail
    refine (wipe_any _ ms.length W2.heap.size b.length ys W11 HSE2.out B211.out.size (by omega) (by omega)).mono ?_
    rintro e W12 ⟨⟨y, rfl⟩, b12⟩
    have B212 : Hid (Below W2.heap.size W2 W12) := B211.out.trans b12
    have B12 : Hid (Below W.heap.size W W12) := B2.out.trans (B212.out.mono B2.out.size)
    have M12 : Hid (BV W12 0 v2 b) := Sl.below M2.out B212.out (Nat.le_refl _)
    have N12 : Hid (BV W12 0 v0 b) := Sl.below HB.out B12.out (Nat.le_refl _)
    have q9 := Try.conv_str M12.out
    have q10 := Try.conv_str N12.out
    clear b12
    go_wp2_with fail
    go_ret
    exact ⟨rfl, B12.out⟩
  · have hce' : ((ce : Int) == 0) = false := by simp; omega
    obtain ⟨xs, hre⟩ := ro_re' R8.out HE.out.2
    obtain ⟨ys, hse⟩ := ro_re' (R9.out.lower hs25) HM.out.2
    have HRE := Lib.hid hre
    have HSE := Lib.hid hse
    have hsz2 := B28.out.size
    have hl1 := HE.out.1
    have hl2 := HM.out.1
    clear hre hse
    go_wp2_with fail
    refine (wipe2_any _ _ ls.length W2.heap.size b.length ms.length b.length xs ys W8 HRE.out HSE.out HAP.out hsz2 (by omega) (by omega)).mono ?_
    rintro e W11 ⟨⟨⟨x, rfl⟩, b11⟩, hse⟩
    have HSE2 := Lib.hid hse
    have B211 : Hid (Below W2.heap.size W2 W11) := B28.out.trans b11
    clear b11 hse HRE HSE
    go_wp2_with fail
    refine (wipe_any _ ms.length W2.heap.size b.length ys W11 HSE2.out B211.out.size (by omega) (by omega)).mono ?_
    rintro e W12 ⟨⟨y, rfl⟩, b12⟩
    have B212 : Hid (Below W2.heap.size W2 W12) := B211.out.trans b12
    have B12 : Hid (Below W.heap.size W W12) := B2.out.trans (B212.out.mono B2.out.size)
    have M12 : Hid (BV W12 0 v2 b) := Sl.below M2.out B212.out (Nat.le_refl _)
    have N12 : Hid (BV W12 0 v0 b) := Sl.below HB.out B12.out (Nat.le_refl _)
    have q9 := Try.conv_str M12.out
    have q10 := Try.conv_str N12.out
    clear b12
    go_wp2_with fail
    go_ret
    exact ⟨rfl, B12.out⟩
theorem own : ownKnob Try.prog.godebug = none := by kernel_rfl
theorem laidOut : laidOutB Try.prog = true := by kernel_rfl

set_option maxRecDepth 100000 in
theorem lifted (os : Os) (started : os.Started) (H : Type) (enc : TypeId × Value → H) (F : Stop.Interp) :
    ReturnsInHanded {} Try.checked os 9 .any ((Rows.OpenSpec.upto Rows.sszListsSpec).pre6 enc Try.prog Try.f9 Rows.sszListsUptoRow.domain false) (((Rows.OpenSpec.upto Rows.sszListsSpec).at F).post enc Try.prog Try.f9 false true false false) := by
  refine returnsInHanded_of_cond (C := Try.checked) (s := Rows.OpenSpec.upto Rows.sszListsSpec) (k := Rows.uptoSmall) rfl own started (by kernel_rfl) Try.func9
    (OpenSpec.witness (enc := enc) (C := Try.checked) (s := Rows.OpenSpec.upto Rows.sszListsSpec) (k := Rows.uptoSmall) rfl false ⟨#[], #[.slice none 0 0, .int .i64 0, .int .i64 0], []⟩ 8 (by kernel_rfl) (by kernel_rfl) (by kernel_rfl)
      (x := ([.nil, .lit (.int .i64 0), .lit (.int .i64 0)], [], [])) (by kernel_rfl) rfl (by kernel_rfl)) ?_
  intro W base args ds gs before hval0 hW _ hk _
  have hval : ∀ (j : Nat) t v, Try.f9.params[j]? = some t → args[j]? = some v → Value.okWide Try.prog W .any base t v := hval0
  have hW' := hW
  obtain ⟨p, q, hA0, hV, rfl, hfz, hnd⟩ := hW
  have hA : DataW.TrodAll enc Try.prog W 0 (fun _ => true) true Try.f9.params.toList args.toList ds p := hA0
  rw [Try.params9] at hA hval
  obtain ⟨v0, vs0, d0, ds0, p0, q0, hargs, rfl, rfl, h0, r0⟩ := trodAll_cons hA
  obtain ⟨v1, vs1, d1, ds1, p1, q1, rfl, rfl, rfl, h1, r1⟩ := trodAll_cons r0
  obtain ⟨v2, vs2, d2, ds2, p2, q2, rfl, rfl, rfl, h2, r2⟩ := trodAll_cons r1
  obtain ⟨rfl, rfl, rfl⟩ := trodAll_nil r2
  obtain rfl : args = #[v0, v1, v2] := by cases args; simp_all
  obtain ⟨rfl, rfl⟩ := trodVars_none hV
  have hbk : Rows.uptoBulkAll [d0, d1, d2] ≤ 1048576 := by have h : Rows.uptoBulkAll ([d0, d1, d2] ++ []) ≤ 1048576 := of_decide_eq_true hk; rwa [List.append_nil] at h
  simp only [Rows.uptoBulkAll] at hbk
  have k0 := h0
  have lt0 : ∀ x ∈ p0, x.block < W.heap.size := by obtain ⟨m, hm⟩ := k0; exact DataW.trod_lt m _ _ _ hm
  obtain ⟨a0, len0, cap0, zs0, rfl, x0, b0⟩ := ints_in Try.underlying22 Try.underlying5 (by kernel_rfl) (hval 0 22 v0 rfl rfl) h0
  obtain ⟨w0, y0, z0⟩ := row_bv x0
  obtain ⟨a1, rfl, rfl, rfl, w1⟩ := open_int Try.underlying3 (hval 1 3 v1 rfl rfl) h1
  obtain ⟨a2, rfl, rfl, rfl, w2⟩ := open_int Try.underlying3 (hval 2 3 v2 rfl rfl) h2
  clear hA0 hval0
  refine (walk _ _ _ _ W w0 w1 w2 (by omega)).mono fun e W' ⟨he, bel⟩ => ?_
  subst he
  exact ⟨_, rfl, _, _, _, [], _, [], hW', trodAll_mk1 (shut_bool Try.underlying4 _), (trodAll_cons_mk (Below.trod laidOut (by kernel_rfl) (of_decide_eq_true (by kernel_rfl)) k0 bel lt0) (trodAll_cons_mk (shut_int Try.underlying3 w1) (trodAll_cons_mk (shut_int Try.underlying3 w2) trodAll_mk0))), rfl, bel.frame _, fun h => by cases h⟩

theorem over : Rows.sszListsUptoRow.holds Try.pinned (Rows.OpenSpec.upto Rows.sszListsSpec) :=
  OpenClaim.holds_of_cond 9 Try.f9 rfl rfl rfl rfl rfl rfl rfl ⟨rfl, rfl, rfl, rfl, rfl⟩ rfl rfl rfl rfl rfl (by kernel_rfl) Try.func9 (by kernel_rfl)
    (of_decide_eq_true (by kernel_rfl)) (by unfold Func.isWrapper; first | (rw [if_pos (by decide +kernel)]; kernel_rfl) | (rw [if_neg (by decide +kernel)]; exact ⟨rfl, rfl⟩))
    (fun os started H enc _ F => lifted os started H enc F)

theorem proved : Rows.SszListsUptoSaid := over
end Go.Proofs.Ytamfceklddbldaa.sszLists
