/- 'pharoslaw01.WordBytes' returns true, and each argument reads behind the call as it read before, for every input (the given first form). -/
import Derived.Test.YtckkaalejfmonaaEq8
import Derived.SizedLaws
import Derived.Deep.DeepCutAuto
import Derived.Deep.RegionHeld3
namespace Go.Proofs.Ytckkaalejfmonaa.wordBytesAll
open Go.ChangeShapes Go.WideShapes Go.ChangeAt Go.RowKit
set_option linter.unusedVariables false

theorem u64_nat {x : Int} (h : (Lit.int .u64 x).wf = true) : ∃ n : Nat, x = n ∧ n < 18446744073709551616 := by
  have h2 : 0 ≤ x ∧ x ≤ 18446744073709551615 := by simpa [Lit.wf, IntKind.min, IntKind.max, IntKind.signed, IntKind.bits] using h
  exact ⟨x.toNat, by omega, by omega⟩
def TruePost (w : World) (e : Ending) (w' : World) : Prop := e = .returned (.bool true) ∧ Below w.heap.size w w'
def le8 (n : Nat) : Bs := [UInt8.ofNat n, UInt8.ofNat (n / 256), UInt8.ofNat (n / 65536), UInt8.ofNat (n / 16777216), UInt8.ofNat (n / 4294967296), UInt8.ofNat (n / 1099511627776), UInt8.ofNat (n / 281474976710656), UInt8.ofNat (n / 72057594037927936)]
theorem le8_vals (n : Nat) (hn : n < 18446744073709551616) : byteVals n = ((le8 n).map bv).toArray := by
  have h : (n / 72057594037927936) % 256 = n / 72057594037927936 := by omega
  simp [byteVals, le8, bv, h]
theorem le8_val (n : Nat) (hn : n < 18446744073709551616) : val (le8 n) = n := by
  have e1 : n = n % 256 + 256 * (n / 256) := by omega
  simp only [le8, val, UInt8.toNat_ofNat']
  omega
theorem le8_read (n : Nat) (hn : n < 18446744073709551616) : readS (le8 n) = (n, 0) := by
  have h : (le8 n).length = 8 := rfl
  unfold readS
  rw [if_pos h, le8_val n hn]
theorem val_le8 (b : Bs) (h : b.length = 8) : le8 (val b) = b := by
  match b, h with
  | [a0, a1, a2, a3, a4, a5, a6, a7], _ =>
    have h0 := a0.toNat_lt
    have h1 := a1.toNat_lt
    have h2 := a2.toNat_lt
    have h3 := a3.toNat_lt
    have h4 := a4.toNat_lt
    have h5 := a5.toNat_lt
    have h6 := a6.toNat_lt
    have h7 := a7.toNat_lt
    simp only [le8, val, List.cons.injEq, and_true]
    refine ⟨?_, ?_, ?_, ?_, ?_, ?_, ?_, ?_⟩ <;> (apply UInt8.toNat.inj; rw [UInt8.toNat_ofNat']; omega)
theorem sl_new (w : World) (l : List Value) (t : TypeId) (h : l.length ≤ maxLen) : Sl (w.alloc (.cells l.toArray t)) w.heap.size (.slice (some ⟨w.heap.size, 0, none⟩) l.length l.length) l :=
  ⟨_, _, rfl, Nat.le_refl _, h, fun _ => ⟨_, 0, rfl, Nat.le_refl _, fun j u hu => by rw [Nat.zero_add, World.cell?_alloc_new, List.getElem?_toArray]; exact hu⟩⟩
theorem bv_new (w : World) (n : Nat) (hn : n < 18446744073709551616) (t : TypeId) : BV (w.alloc (.cells (byteVals n) t)) 0 (.slice (some ⟨w.heap.size, 0, none⟩) 8 8) (le8 n) := by
  rw [le8_vals n hn]
  exact Sl.lower (sl_new w ((le8 n).map bv) t (by simp [le8, maxLen])) (Nat.zero_le _)
theorem load8 (w : World) (X : Nat) (c : Array Value) (hs : c.size = 8) (h : ∀ j, j < 8 → w.cell? ⟨X, j, none⟩ = c[j]?) : (loadCellsFrom ⟨X, 0, none⟩ 0 8 #[]).run Try.prog w = .ok c w := by
  have := run_loadCells_list (P := Try.prog) w ⟨X, 0, none⟩ c.toList (fun j v hv => by
    have hadd : (⟨X, 0, none⟩ : Addr).add j = ⟨X, j, none⟩ := by unfold Addr.add; split <;> simp_all
    rw [Array.getElem?_toList] at hv
    have hj : j < c.size := (Array.getElem?_eq_some_iff.1 hv).1
    rw [hadd, h j (by omega)]
    exact hv)
  rw [Array.length_toList, hs] at this
  simpa [loadCells] using this
set_option maxHeartbeats 6400000 in
set_option maxRecDepth 100000 in
theorem walk (n : Int) (v1 : Value) (b : Bs) (W : World) (w0 : (Lit.int .u64 n).wf = true) (w1 : BV W 0 v1 b) (hb : b.length ≤ 140737488351232) :
    Calls Try.prog 7 #[.int .u64 n, v1] W (TruePost W) := by
  obtain ⟨i0, hi, hz0, hz1, hz2⟩ := info_parts Try.info_u8
  obtain ⟨n, rfl, hn⟩ := u64_nat w0
  have HB := Lib.hid w1
  have HN := Lib.hid hn
  clear w0 w1
  obtain ⟨c0, c1, c2, c3, c4, c5, c6, c7, hbv⟩ : ∃ c0 c1 c2 c3 c4 c5 c6 c7 : Int, byteVals n = #[.int .u8 c0, .int .u8 c1, .int .u8 c2, .int .u8 c3, .int .u8 c4, .int .u8 c5, .int .u8 c6, .int .u8 c7] := ⟨_, _, _, _, _, _, _, _, rfl⟩
  have HBV := Lib.hid hbv
  have HBY := Lib.hid (bytes_any n hn)
  have HRB := Lib.hid (rbytes_any n hn)
  unfold BytesPost at HBY HRB
  rw [hbv] at HBY HRB
  clear hbv
  go_enter Try.func7, Try.ntmps7
  go_wp2_with fail
  refine (wake_any W).mono ?_
  rintro e W1 ⟨rfl, n1, rfl⟩
  have B1 : Hid (Below W.heap.size W (W.drewN n1)) := below_drewN (Below.refl _ _) _
  generalize W.drewN n1 = W1 at *
  go_wp2_with fail
  refine (HBY.out W1).mono ?_
  rintro e W2 ⟨rfl, b2⟩
  have B2 : Hid (Below W.heap.size W W2) := B1.out.trans (b2.mono B1.out.size)
  clear b2
  go_wp2_with fail
  have X3 := bv_new W2 n hn 34
  rw [HBV.out] at X3
  have HX3 := Lib.hid X3
  have B3 : Hid (Below W.heap.size W (W2.alloc (.cells #[.int .u8 c0, .int .u8 c1, .int .u8 c2, .int .u8 c3, .int .u8 c4, .int .u8 c5, .int .u8 c6, .int .u8 c7] 34))) := B2.out.alloc B2.out.size _
  clear X3
  refine (read_any _ (le8 n) _ HX3.out).mono ?_
  rintro e W3 ⟨rfl, rfl⟩
  rw [le8_read n hn]
  have CX : Hid (∀ j, j < 8 → (W2.alloc (.cells #[.int .u8 c0, .int .u8 c1, .int .u8 c2, .int .u8 c3, .int .u8 c4, .int .u8 c5, .int .u8 c6, .int .u8 c7] 34)).cell? ⟨W2.heap.size, j, none⟩ = some (.int .u8 ([c0, c1, c2, c3, c4, c5, c6, c7].getD j 0))) := by
    show ∀ j, _
    intro j hj
    rw [World.cell?_alloc_new]
    match j, hj with
    | 0, _ => rfl
    | 1, _ => rfl
    | 2, _ => rfl
    | 3, _ => rfl
    | 4, _ => rfl
    | 5, _ => rfl
    | 6, _ => rfl
    | 7, _ => rfl
  have hX : W2.heap.size < (W2.alloc (.cells #[.int .u8 c0, .int .u8 c1, .int .u8 c2, .int .u8 c3, .int .u8 c4, .int .u8 c5, .int .u8 c6, .int .u8 c7] 34)).heap.size := by simp
  generalize W2.alloc (.cells #[.int .u8 c0, .int .u8 c1, .int .u8 c2, .int .u8 c3, .int .u8 c4, .int .u8 c5, .int .u8 c6, .int .u8 c7] 34) = W3 at *
  generalize W2.heap.size = X at *
  clear HX3 B2
  go_wp2_with (at_builtin; refine wpList_append_sl _ rfl _ _ 33 rfl W3.heap.size 0 5 i0 (.int .u8 0) 1 Try.underlying33 hi hz0 hz1 hz2 rfl _ 0 [] rfl (World.ownsRow_made W3 #[] 0 (Nat.le_refl _) (Nat.zero_le _) rfl) _ (b.map bv) rfl (Sl.alloc (Sl.below HB.out B3.out (Nat.le_refl _)) _) (bv_one b) ?c3 ?c4 ?c5 ?_)
  case c3 => rw [List.length_map]; unfold maxLen; omega
  case c4 => rw [List.length_map]; omega
  case c5 => simp
  intro v4 W4 hown hgrow hmv
  have O4 : Hid (OB W4 W3.heap.size v4 b) := OB.mk hown (by simp) rfl
  have B34 : Hid (Below W3.heap.size W3 W4) := ((Below.refl _ W3).alloc (Nat.le_refl _) _).grown hgrow (by simp) (by intro k hk; simp [Value.ownBlock] at hk; omega)
  have B4 : Hid (Below W.heap.size W W4) := B3.out.trans (B34.out.mono B3.out.size)
  have CX4 : Hid (∀ j, j < 8 → W4.cell? ⟨X, j, none⟩ = some (.int .u8 ([c0, c1, c2, c3, c4, c5, c6, c7].getD j 0))) := by
    show ∀ j, _
    intro j hj
    exact (B34.out.cell (p := ⟨X, j, none⟩) hX).trans (CX.out j hj)
  have hX4 : X < W4.heap.size := Nat.lt_of_lt_of_le hX B34.out.size
  clear hown hgrow hmv CX B34 B3 hX
  go_wp2_with fail
  refine (read_any _ b _ (Sl.lower (OB.toBV O4.out) (Nat.zero_le _))).mono ?_
  rintro e W5 ⟨rfl, rfl⟩
  have HRR := Lib.hid (rread_any _ b _ (Sl.below HB.out B4.out (Nat.le_refl _)))
  clear O4
  obtain ⟨z, f, hzf⟩ : ∃ z f, readS b = (z, f) := ⟨_, _, rfl⟩
  have HZF := Lib.hid hzf
  rw [hzf] at HRR ⊢
  clear hzf
  go_upto_region 6 with fail
  go_cut [8, 9, 10, 11] from 13 to 33 (fun s8 s9 s10 s11 wx => W4 = wx ∧ s8 = .int .u64 (z : Int) ∧ s9 = .int .i64 f ∧ s10 = .int .u64 (z : Int) ∧ s11 = .int .i64 f)
  case first =>
    go_wp2_with fail
    refine HRR.out.mono ?_
    rintro e W5 ⟨rfl, rfl⟩
    go_wp2_with fail
    go_meet
    exact ⟨rfl, rfl, rfl, rfl, rfl⟩
  obtain ⟨rfl, rfl, rfl, rfl, rfl⟩ := hcut
  clear HRR
  go_upto_region 7 with fail
  have heq := eq8 c0 c1 c2 c3 c4 c5 c6 c7
  obtain ⟨d0, d1, d2, d3, d4, d5, d6, d7, e0, e1, e2, e3, e4, e5, e6, e7⟩ : ∃ d0 d1 d2 d3 d4 d5 d6 d7 : Value, .int .u8 c0 = d0 ∧ .int .u8 c1 = d1 ∧ .int .u8 c2 = d2 ∧ .int .u8 c3 = d3 ∧ .int .u8 c4 = d4 ∧ .int .u8 c5 = d5 ∧ .int .u8 c6 = d6 ∧ .int .u8 c7 = d7 := ⟨_, _, _, _, _, _, _, _, rfl, rfl, rfl, rfl, rfl, rfl, rfl, rfl⟩
  have CD4 : Hid (W4.cell? ⟨X, 0, none⟩ = some d0 ∧ W4.cell? ⟨X, 1, none⟩ = some d1 ∧ W4.cell? ⟨X, 2, none⟩ = some d2 ∧ W4.cell? ⟨X, 3, none⟩ = some d3 ∧ W4.cell? ⟨X, 4, none⟩ = some d4 ∧ W4.cell? ⟨X, 5, none⟩ = some d5 ∧ W4.cell? ⟨X, 6, none⟩ = some d6 ∧ W4.cell? ⟨X, 7, none⟩ = some d7) := by
    show _ ∧ _
    rw [← e0, ← e1, ← e2, ← e3, ← e4, ← e5, ← e6, ← e7]
    exact ⟨CX4.out 0 (by omega), CX4.out 1 (by omega), CX4.out 2 (by omega), CX4.out 3 (by omega), CX4.out 4 (by omega), CX4.out 5 (by omega), CX4.out 6 (by omega), CX4.out 7 (by omega)⟩
  rw [e0, e1, e2, e3, e4, e5, e6, e7] at heq HRB
  have HX4 := Lib.hid hX4
  clear CX4 HBV hX4 e0 e1 e2 e3 e4 e5 e6 e7 HBY
  have hx0 : (W4.drew).cell? ⟨X, 0, none⟩ = some d0 := CD4.out.1
  have hx1 : (W4.drew).cell? ⟨X, 1, none⟩ = some d1 := CD4.out.2.1
  have hx2 : (W4.drew).cell? ⟨X, 2, none⟩ = some d2 := CD4.out.2.2.1
  have hx3 : (W4.drew).cell? ⟨X, 3, none⟩ = some d3 := CD4.out.2.2.2.1
  have hx4 : (W4.drew).cell? ⟨X, 4, none⟩ = some d4 := CD4.out.2.2.2.2.1
  have hx5 : (W4.drew).cell? ⟨X, 5, none⟩ = some d5 := CD4.out.2.2.2.2.2.1
  have hx6 : (W4.drew).cell? ⟨X, 6, none⟩ = some d6 := CD4.out.2.2.2.2.2.2.1
  have hx7 : (W4.drew).cell? ⟨X, 7, none⟩ = some d7 := CD4.out.2.2.2.2.2.2.2
  go_cut [56] (fun s56 wx => s56 = .bool false ∧ Below W.heap.size W wx)
  case first =>
    refine wp_region_any (by kernel_rfl) ?_
    change wpAny _ _ _ _ _ _ _ (World.drew _)
    refine wpAny_take (i := 1) (v := ?v1x1) rfl (by kernel_rfl) (by kernel_rfl) (by kernel_rfl) (fun _ _ _ h => h) (Or.inl ⟨by rfl, ?h1x1⟩) ?r1x1
    case h1x1 => (intro w; go_simp; with_reducible rfl)
    try go_simp
    refine wpAny_ready (rs := [0, 2]) (by kernel_rfl) (by simp) ?_
    refine AllReady.cons rfl (fun K hK => ?_) (AllReady.cons rfl (fun K hK => ?_) AllReady.nil)
    · go_simp
      refine hK _ _ ?_
      clear hK K
      refine wpAny_ready (rs := [2]) (by kernel_rfl) (by simp) ?_
      refine AllReady.cons rfl (fun K hK => ?_) AllReady.nil
      go_simp
      go_wp2_with (refine (HRB.out _).mono ?_; rintro e W6 ⟨rfl, b6⟩; have B6 : Hid (Below W.heap.size W W6) := (below_drewN B4.out 1).trans (b6.mono B4.out.size); have hy0 : W6.cell? ⟨X, 0, none⟩ = some d0 := (b6.cell (p := ⟨X, 0, none⟩) (by show X < W4.heap.size; exact HX4.out)).trans hx0; have hy1 : W6.cell? ⟨X, 1, none⟩ = some d1 := (b6.cell (p := ⟨X, 1, none⟩) (by show X < W4.heap.size; exact HX4.out)).trans hx1; have hy2 : W6.cell? ⟨X, 2, none⟩ = some d2 := (b6.cell (p := ⟨X, 2, none⟩) (by show X < W4.heap.size; exact HX4.out)).trans hx2; have hy3 : W6.cell? ⟨X, 3, none⟩ = some d3 := (b6.cell (p := ⟨X, 3, none⟩) (by show X < W4.heap.size; exact HX4.out)).trans hx3; have hy4 : W6.cell? ⟨X, 4, none⟩ = some d4 := (b6.cell (p := ⟨X, 4, none⟩) (by show X < W4.heap.size; exact HX4.out)).trans hx4; have hy5 : W6.cell? ⟨X, 5, none⟩ = some d5 := (b6.cell (p := ⟨X, 5, none⟩) (by show X < W4.heap.size; exact HX4.out)).trans hx5; have hy6 : W6.cell? ⟨X, 6, none⟩ = some d6 := (b6.cell (p := ⟨X, 6, none⟩) (by show X < W4.heap.size; exact HX4.out)).trans hx6; have hy7 : W6.cell? ⟨X, 7, none⟩ = some d7 := (b6.cell (p := ⟨X, 7, none⟩) (by show X < W4.heap.size; exact HX4.out)).trans hx7; clear b6 hx0 hx1 hx2 hx3 hx4 hx5 hx6 hx7 HRB)
      first | (refine hK _ _ ?_; clear hK K) | skip
      clear hy0 hy1 hy2 hy3 hy4 hy5 hy6 hy7
      refine wpAny_ready (rs := [3]) (by kernel_rfl) (by simp) ?_
      refine AllReady.cons rfl (fun K hK => ?_) AllReady.nil
      go_simp
      refine hK _ _ ?_
      clear hK K
      clear heq
      refine wpAny_ready (rs := [4]) (by kernel_rfl) (by simp) ?_
      refine AllReady.cons rfl (fun K hK => ?_) AllReady.nil
      go_simp
      refine hK _ _ ?_
      clear hK K
      refine wpAny_take (i := 5) (v := ?v5x2) rfl (by kernel_rfl) (by kernel_rfl) (by kernel_rfl) (fun _ _ _ h => h) (Or.inl ⟨by rfl, ?h5x2⟩) ?r5x2
      case h5x2 => (intro w; go_simp; with_reducible rfl)
      try go_simp
      refine wpAny_ready (rs := [6]) (by kernel_rfl) (by simp) ?_
      refine AllReady.cons rfl (fun K hK => ?_) AllReady.nil
      go_simp
      refine hK _ _ ?_
      clear hK K
      refine wpAny_ready (rs := [7]) (by kernel_rfl) (by simp) ?_
      refine AllReady.cons rfl (fun K hK => ?_) AllReady.nil
      go_simp
      refine hK _ _ ?_
      clear hK K
      refine wpAny_ready (rs := [8]) (by kernel_rfl) (by simp) ?_
      refine AllReady.cons rfl (fun K hK => ?_) AllReady.nil
      go_simp
      refine hK _ _ ?_
      clear hK K
      refine wpAny_ready (rs := [9]) (by kernel_rfl) (by simp) ?_
      refine AllReady.cons rfl (fun K hK => ?_) AllReady.nil
      go_simp
      refine hK _ _ ?_
      clear hK K
      refine wpAny_ready (rs := [10]) (by kernel_rfl) (by simp) ?_
      refine AllReady.cons rfl (fun K hK => ?_) AllReady.nil
      go_simp
      refine hK _ _ ?_
      clear hK K
      refine wpAny_ready (rs := [11]) (by kernel_rfl) (by simp) ?_
      refine AllReady.cons rfl (fun K hK => ?_) AllReady.nil
      go_simp
      refine hK _ _ ?_
      clear hK K
      refine wpAny_ready (rs := [12]) (by kernel_rfl) (by simp) ?_
      refine AllReady.cons rfl (fun K hK => ?_) AllReady.nil
      go_simp
      refine hK _ _ ?_
      clear hK K
      refine wpAny_ready (rs := [13]) (by kernel_rfl) (by simp) ?_
      refine AllReady.cons rfl (fun K hK => ?_) AllReady.nil
      go_simp
      refine hK _ _ ?_
      clear hK K
      refine wpAny_take (i := 14) (v := ?v14x3) rfl (by kernel_rfl) (by kernel_rfl) (by kernel_rfl) (fun _ _ _ h => h) (Or.inl ⟨by rfl, ?h14x3⟩) ?r14x3
      case h14x3 => (intro w; go_simp; with_reducible rfl)
      try go_simp
      refine wpAny_ready (rs := [15]) (by kernel_rfl) (by simp) ?_
      refine AllReady.cons rfl (fun K hK => ?_) AllReady.nil
      go_simp
      refine hK _ _ ?_
      clear hK K
      refine wpAny_ready (rs := [16]) (by kernel_rfl) (by simp) ?_
      refine AllReady.cons rfl (fun K hK => ?_) AllReady.nil
      go_simp
      refine hK _ _ ?_
      clear hK K
      refine wpAny_ready (rs := [17]) (by kernel_rfl) (by simp) ?_
      refine AllReady.cons rfl (fun K hK => ?_) AllReady.nil
      go_simp
      refine hK _ _ ?_
      clear hK K
      refine wpAny_ready (rs := [18]) (by kernel_rfl) (by simp) ?_
      refine AllReady.cons rfl (fun K hK => ?_) AllReady.nil
      go_simp
      refine hK _ _ ?_
      clear hK K
      refine wpAny_take (i := 19) (v := ?v19x4) rfl (by kernel_rfl) (by kernel_rfl) (by kernel_rfl) (fun _ _ _ h => h) (Or.inl ⟨by rfl, ?h19x4⟩) ?r19x4
      case h19x4 => (intro w; go_simp; with_reducible rfl)
      try go_simp
      refine wpAny_ready (rs := [20]) (by kernel_rfl) (by simp) ?_
      refine AllReady.cons rfl (fun K hK => ?_) AllReady.nil
      go_simp
      refine hK _ _ ?_
      clear hK K
      refine wpAny_ready (rs := [21]) (by kernel_rfl) (by simp) ?_
      refine AllReady.cons rfl (fun K hK => ?_) AllReady.nil
      go_simp
      refine hK _ _ ?_
      clear hK K
      refine wpAny_ready (rs := [22]) (by kernel_rfl) (by simp) ?_
      refine AllReady.cons rfl (fun K hK => ?_) AllReady.nil
      go_simp
      refine hK _ _ ?_
      clear hK K
      refine wpAny_done (by kernel_rfl) ?_ _
      go_wp2_with fail
      go_meet
      exact ⟨rfl, B6.out⟩
    · go_simp
      go_wp2_with (refine (HRB.out _).mono ?_; rintro e W6 ⟨rfl, b6⟩; have B6 : Hid (Below W.heap.size W W6) := (below_drewN B4.out 1).trans (b6.mono B4.out.size); have hy0 : W6.cell? ⟨X, 0, none⟩ = some d0 := (b6.cell (p := ⟨X, 0, none⟩) (by show X < W4.heap.size; exact HX4.out)).trans hx0; have hy1 : W6.cell? ⟨X, 1, none⟩ = some d1 := (b6.cell (p := ⟨X, 1, none⟩) (by show X < W4.heap.size; exact HX4.out)).trans hx1; have hy2 : W6.cell? ⟨X, 2, none⟩ = some d2 := (b6.cell (p := ⟨X, 2, none⟩) (by show X < W4.heap.size; exact HX4.out)).trans hx2; have hy3 : W6.cell? ⟨X, 3, none⟩ = some d3 := (b6.cell (p := ⟨X, 3, none⟩) (by show X < W4.heap.size; exact HX4.out)).trans hx3; have hy4 : W6.cell? ⟨X, 4, none⟩ = some d4 := (b6.cell (p := ⟨X, 4, none⟩) (by show X < W4.heap.size; exact HX4.out)).trans hx4; have hy5 : W6.cell? ⟨X, 5, none⟩ = some d5 := (b6.cell (p := ⟨X, 5, none⟩) (by show X < W4.heap.size; exact HX4.out)).trans hx5; have hy6 : W6.cell? ⟨X, 6, none⟩ = some d6 := (b6.cell (p := ⟨X, 6, none⟩) (by show X < W4.heap.size; exact HX4.out)).trans hx6; have hy7 : W6.cell? ⟨X, 7, none⟩ = some d7 := (b6.cell (p := ⟨X, 7, none⟩) (by show X < W4.heap.size; exact HX4.out)).trans hx7; clear b6 hx0 hx1 hx2 hx3 hx4 hx5 hx6 hx7 HRB)
      first | (refine hK _ _ ?_; clear hK K) | skip
      refine wpAny_ready (rs := [0]) (by kernel_rfl) (by simp) ?_
      refine AllReady.cons rfl (fun K hK => ?_) AllReady.nil
      go_simp
      refine hK _ _ ?_
      clear hK K
      clear hy0 hy1 hy2 hy3 hy4 hy5 hy6 hy7
      refine wpAny_ready (rs := [3]) (by kernel_rfl) (by simp) ?_
      refine AllReady.cons rfl (fun K hK => ?_) AllReady.nil
      go_simp
      refine hK _ _ ?_
      clear hK K
      clear heq
      refine wpAny_ready (rs := [4]) (by kernel_rfl) (by simp) ?_
      refine AllReady.cons rfl (fun K hK => ?_) AllReady.nil
      go_simp
      refine hK _ _ ?_
      clear hK K
      refine wpAny_take (i := 5) (v := ?v5x5) rfl (by kernel_rfl) (by kernel_rfl) (by kernel_rfl) (fun _ _ _ h => h) (Or.inl ⟨by rfl, ?h5x5⟩) ?r5x5
      case h5x5 => (intro w; go_simp; with_reducible rfl)
      try go_simp
      refine wpAny_ready (rs := [6]) (by kernel_rfl) (by simp) ?_
      refine AllReady.cons rfl (fun K hK => ?_) AllReady.nil
      go_simp
      refine hK _ _ ?_
      clear hK K
      refine wpAny_ready (rs := [7]) (by kernel_rfl) (by simp) ?_
      refine AllReady.cons rfl (fun K hK => ?_) AllReady.nil
      go_simp
      refine hK _ _ ?_
      clear hK K
      refine wpAny_ready (rs := [8]) (by kernel_rfl) (by simp) ?_
      refine AllReady.cons rfl (fun K hK => ?_) AllReady.nil
      go_simp
      refine hK _ _ ?_
      clear hK K
      refine wpAny_ready (rs := [9]) (by kernel_rfl) (by simp) ?_
      refine AllReady.cons rfl (fun K hK => ?_) AllReady.nil
      go_simp
      refine hK _ _ ?_
      clear hK K
      refine wpAny_ready (rs := [10]) (by kernel_rfl) (by simp) ?_
      refine AllReady.cons rfl (fun K hK => ?_) AllReady.nil
      go_simp
      refine hK _ _ ?_
      clear hK K
      refine wpAny_ready (rs := [11]) (by kernel_rfl) (by simp) ?_
      refine AllReady.cons rfl (fun K hK => ?_) AllReady.nil
      go_simp
      refine hK _ _ ?_
      clear hK K
      refine wpAny_ready (rs := [12]) (by kernel_rfl) (by simp) ?_
      refine AllReady.cons rfl (fun K hK => ?_) AllReady.nil
      go_simp
      refine hK _ _ ?_
      clear hK K
      refine wpAny_ready (rs := [13]) (by kernel_rfl) (by simp) ?_
      refine AllReady.cons rfl (fun K hK => ?_) AllReady.nil
      go_simp
      refine hK _ _ ?_
      clear hK K
      refine wpAny_take (i := 14) (v := ?v14x6) rfl (by kernel_rfl) (by kernel_rfl) (by kernel_rfl) (fun _ _ _ h => h) (Or.inl ⟨by rfl, ?h14x6⟩) ?r14x6
      case h14x6 => (intro w; go_simp; with_reducible rfl)
      try go_simp
      refine wpAny_ready (rs := [15]) (by kernel_rfl) (by simp) ?_
      refine AllReady.cons rfl (fun K hK => ?_) AllReady.nil
      go_simp
      refine hK _ _ ?_
      clear hK K
      refine wpAny_ready (rs := [16]) (by kernel_rfl) (by simp) ?_
      refine AllReady.cons rfl (fun K hK => ?_) AllReady.nil
      go_simp
      refine hK _ _ ?_
      clear hK K
      refine wpAny_ready (rs := [17]) (by kernel_rfl) (by simp) ?_
      refine AllReady.cons rfl (fun K hK => ?_) AllReady.nil
      go_simp
      refine hK _ _ ?_
      clear hK K
      refine wpAny_ready (rs := [18]) (by kernel_rfl) (by simp) ?_
      refine AllReady.cons rfl (fun K hK => ?_) AllReady.nil
      go_simp
      refine hK _ _ ?_
      clear hK K
      refine wpAny_take (i := 19) (v := ?v19x7) rfl (by kernel_rfl) (by kernel_rfl) (by kernel_rfl) (fun _ _ _ h => h) (Or.inl ⟨by rfl, ?h19x7⟩) ?r19x7
      case h19x7 => (intro w; go_simp; with_reducible rfl)
      try go_simp
      refine wpAny_ready (rs := [20]) (by kernel_rfl) (by simp) ?_
      refine AllReady.cons rfl (fun K hK => ?_) AllReady.nil
      go_simp
      refine hK _ _ ?_
      clear hK K
      refine wpAny_ready (rs := [21]) (by kernel_rfl) (by simp) ?_
      refine AllReady.cons rfl (fun K hK => ?_) AllReady.nil
      go_simp
      refine hK _ _ ?_
      clear hK K
      refine wpAny_ready (rs := [22]) (by kernel_rfl) (by simp) ?_
      refine AllReady.cons rfl (fun K hK => ?_) AllReady.nil
      go_simp
      refine hK _ _ ?_
      clear hK K
      refine wpAny_done (by kernel_rfl) ?_ _
      go_wp2_with fail
      go_meet
      exact ⟨rfl, B6.out⟩
  case rest =>
    obtain ⟨rfl, bc⟩ := hcut
    have BC := Lib.hid bc
    clear bc heq
    by_cases hb8 : b.length = 8
    · have hz : (z, f) = (val b, 0) := by rw [← HZF.out]; unfold readS; rw [if_pos hb8]
      injection hz with hz hf
      subst hf
      have hzl : z < 18446744073709551616 := by
        have h := val_lt b
        rw [hb8] at h
        rw [hz]
        exact h
      have HLE : Hid (le8 z = b) := by show _ = _; rw [hz]; exact val_le8 b hb8
      have HBZ := Lib.hid (bytes_any z hzl)
      unfold BytesPost at HBZ
      obtain ⟨d0, d1, d2, d3, d4, d5, d6, d7, hbz⟩ : ∃ c0 c1 c2 c3 c4 c5 c6 c7 : Int, byteVals z = #[.int .u8 c0, .int .u8 c1, .int .u8 c2, .int .u8 c3, .int .u8 c4, .int .u8 c5, .int .u8 c6, .int .u8 c7] := ⟨_, _, _, _, _, _, _, _, rfl⟩
      rw [hbz] at HBZ
      have HBZV := Lib.hid hbz
      have HZL := Lib.hid hzl
      clear hbz hz hzl
      go_wp2_with fail
      refine (HBZ.out _).mono ?_
      rintro e W7 ⟨rfl, b7⟩
      have B7 : Hid (Below W.heap.size W W7) := BC.out.trans (b7.mono BC.out.size)
      clear b7
      go_upto_region 12 with fail
      have X8 := bv_new W7 z HZL.out 34
      rw [HBZV.out, HLE.out] at X8
      have B8 : Hid (Below W.heap.size W (W7.alloc (.cells #[.int .u8 d0, .int .u8 d1, .int .u8 d2, .int .u8 d3, .int .u8 d4, .int .u8 d5, .int .u8 d6, .int .u8 d7] 34))) := B7.out.alloc B7.out.size _
      generalize W7.alloc (.cells #[.int .u8 d0, .int .u8 d1, .int .u8 d2, .int .u8 d3, .int .u8 d4, .int .u8 d5, .int .u8 d6, .int .u8 d7] 34) = W8 at *
      generalize W7.heap.size = Y at *
      have q1 := Try.conv_str (show BV W8.drew 0 _ b from X8)
      have q2 := Try.conv_str (show BV W8.drew 0 v1 b from Sl.below HB.out (below_drewN B8.out 1) (Nat.le_refl _))
      have t0 : ((str b).toList == (str b).toList) = true := by simp
      have B9 : Hid (Below W.heap.size W W8.drew) := below_drewN B8.out 1
      clear X8 B7 B8 HBZ HBZV BC HRB CD4 HX4
      go_region
      all_goals go_wp2_with fail
      all_goals go_ret
      all_goals exact ⟨by simp, B9.out⟩
    · have hz : (z, f) = (0, 4) := by rw [← HZF.out]; unfold readS; rw [if_neg hb8]
      injection hz with hz hf
      subst hf
      subst hz
      obtain ⟨A1, k1, rfl, _, _, _⟩ := HB.out
      have h8 : (((b.map bv).length : Int) != 8) = true := by rw [List.length_map]; simp; omega
      generalize (b.map bv).length = nb at *
      go_wp2
      go_ret
      exact ⟨by simp, BC.out⟩
/-- The argument's row, and what the form's reach says of its length. -/
theorem ints_sized {H : Type} {enc : TypeId × Value → H} {W : World} {t e : TypeId} {k : IntKind} (ht : Try.prog.underlying t = some (.slice e)) (he : Try.prog.underlying e = some (.int k)) (hc : Try.prog.cellsOf e = 1) {v : Value} {d : DataW H} {p : List MemPlace} {r : Reach} {base : Nat}
    (hv : Value.okWide Try.prog W r base t v) (h0 : DataW.Trod enc Try.prog W 0 (fun _ => true) true t v d p) :
    ∃ a len cap zs, v = .slice a len cap ∧ IsRow k W a len cap zs ∧ ∀ N, (d.weights Try.prog t).all (· ≤ N) = true → zs.length * Try.prog.bytesOf e ≤ N := by
  obtain ⟨a0, len0, cap0, rfl⟩ := okWide_slice ht hv
  obtain ⟨fuel, hf⟩ := h0
  rcases open_ints ht he hc hf with ⟨hcs, hx⟩ | ⟨x, l, c, zs, hcs, _, hl, hm, hz, hx, hcell, hwz⟩
  · simp [Value.cells] at hcs
    obtain ⟨rfl, rfl, rfl⟩ := hcs
    exact ⟨_, _, _, [], rfl, .inl ⟨rfl, rfl, rfl, rfl⟩, fun N _ => by simp⟩
  · simp [Value.cells] at hcs
    obtain ⟨rfl, rfl, rfl⟩ := hcs
    refine ⟨_, _, _, zs, rfl, .inr ⟨_, rfl, hl, hm, by simpa using hz, hcell, hwz⟩, fun N hN => ?_⟩
    simp only [Prod.mk.injEq] at hx
    rw [hx.1] at hN
    have h1 : ((lits (H := H) k (zs.take len0)).length + (lits (H := H) k (zs.drop len0)).length) * Try.prog.bytesOf e ≤ N := by
      have := List.all_eq_true.1 hN (((lits (H := H) k (zs.take len0)).length + (lits (H := H) k (zs.drop len0)).length) * Try.prog.bytesOf e) (by simp [DataW.weights, ht])
      simpa using this
    simp only [lits, List.length_map, List.length_take, List.length_drop] at h1
    rw [show min len0 zs.length + (zs.length - len0) = zs.length by omega] at h1
    exact h1
theorem bytes8 : Try.prog.bytesOf 5 = 1 := by kernel_rfl
theorem own : ownKnob Try.prog.godebug = none := by kernel_rfl
theorem laidOut : laidOutB Try.prog = true := by kernel_rfl

set_option maxRecDepth 100000 in
theorem lifted (os : Os) (started : os.Started) (H : Type) (enc : TypeId × Value → H) :
    ReturnsInHanded {} Try.checked os 7 .any (Rows.wordBytesSpec.pre6 enc Try.prog Try.f7 Rows.wordBytesRow.domain false) (Rows.wordBytesSpec.post enc Try.prog Try.f7 false true false false) := by
  refine returnsInHanded_of_change_sized (C := Try.checked) own started (by kernel_rfl) Try.func7
    (ChangeSpec.witness6 (enc := enc) (C := Try.checked) false ⟨#[], #[.int .u64 0, .slice none 0 0], []⟩ 8 (by kernel_rfl) (by kernel_rfl) (by kernel_rfl) (by kernel_rfl)) ?_
  intro W base args ds gs before hval0 hW hcnd hsz0 _
  have hval : ∀ (j : Nat) t v, Try.f7.params[j]? = some t → args[j]? = some v → Value.okWide Try.prog W .any base t v := hval0
  have hW' := hW
  obtain ⟨p, q, hA0, hV, rfl, hfz, hnd⟩ := hW
  have hA : DataW.TrodAll enc Try.prog W 0 (fun _ => true) true Try.f7.params.toList args.toList ds p := hA0
  have hsz : (DataW.weightsEach Try.prog (Try.f7.params.toList ++ Rows.wordBytesSpec.plain.varTypes Try.prog) (ds ++ gs)).all (· ≤ reachBytes) = true := hsz0
  rw [Try.params7] at hA hval hsz
  obtain ⟨v0, vs0, d0, ds0, p0, q0, hargs, rfl, rfl, h0, r0⟩ := trodAll_cons hA
  obtain ⟨v1, vs1, d1, ds1, p1, q1, rfl, rfl, rfl, h1, r1⟩ := trodAll_cons r0
  obtain ⟨rfl, rfl, rfl⟩ := trodAll_nil r1
  obtain rfl : args = #[v0, v1] := by cases args; simp_all
  obtain ⟨rfl, rfl⟩ := trodVars_none hV
  obtain ⟨a0, rfl, rfl, rfl, w0⟩ := open_int Try.underlying22 (hval 0 22 v0 rfl rfl) h0
  have k1 := h1
  have lt1 : ∀ x ∈ p1, x.block < W.heap.size := by obtain ⟨m, hm⟩ := k1; exact DataW.trod_lt m _ _ _ hm
  obtain ⟨a1, len1, cap1, zs1, rfl, x1, b1⟩ := ints_sized Try.underlying33 Try.underlying5 (by kernel_rfl) (hval 1 33 v1 rfl rfl) h1
  obtain ⟨w1, y1, z1⟩ := row_bv x1
  have hb1 : zs1.length * Try.prog.bytesOf 5 ≤ reachBytes := b1 _ (List.all_eq_true.2 fun n hn => List.all_eq_true.1 hsz n (DataW.weights_mem_each (j := 1) (t := 33) rfl rfl n hn))
  rw [bytes8, Nat.mul_one] at hb1
  have hb2 : zs1.length ≤ 140737488351232 := hb1
  clear hA0 hval0 hsz0 hsz
  refine (walk _ _ _ W w0 w1 (by omega)).mono fun e W' ⟨he, bel⟩ => ?_
  subst he
  exact ⟨_, rfl, _, _, _, [], _, [], hW', trodAll_mk1 (shut_bool Try.underlying4 _), (trodAll_cons_mk (shut_int Try.underlying22 w0) (trodAll_cons_mk (Below.trod laidOut (by kernel_rfl) (of_decide_eq_true (by kernel_rfl)) k1 bel lt1) trodAll_mk0)), rfl, bel.frame _, fun h => by cases h⟩

theorem over : Rows.wordBytesRow.holds Try.pinned (OpenSpec.ofChange Rows.wordBytesSpec) :=
  OpenClaim.holds_of_wide 7 Try.f7 rfl rfl rfl rfl rfl rfl rfl ⟨rfl, rfl, rfl, rfl, rfl⟩ rfl rfl rfl rfl rfl (by kernel_rfl) Try.func7 (by kernel_rfl)
    (of_decide_eq_true (by kernel_rfl)) (by unfold Func.isWrapper; first | (rw [if_pos (by decide +kernel)]; kernel_rfl) | (rw [if_neg (by decide +kernel)]; exact ⟨rfl, rfl⟩))
    (fun os started H enc _ => lifted os started H enc)

theorem proved : Rows.WordBytesSaid := over
end Go.Proofs.Ytckkaalejfmonaa.wordBytesAll
