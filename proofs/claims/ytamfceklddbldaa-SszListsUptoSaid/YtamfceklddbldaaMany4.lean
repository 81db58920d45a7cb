/- Contract of the reference's Many. -/
import Derived.Test.YtamfceklddbldaaCut2
namespace Go.Proofs.Ytamfceklddbldaa
open Go.RowKit

theorem parts_snocz (b : Bs) (M k : Nat) (hk : k < M) :
    (cutParts b (zeros M)).take (k + 1) = (cutParts b (zeros M)).take k ++ [(b.take ((offs (zeros M) b ++ [b.length]).getD (k + 1) 0)).drop ((offs (zeros M) b ++ [b.length]).getD k 0)] := by
  have h := fill_zeros_get b M b (offs (zeros M) b ++ [b.length]) k hk
  have hl : k < (cutParts b (zeros M)).length := by rw [parts_len]; simpa [zeros] using hk
  rw [List.take_succ_eq_append_getElem hl]
  congr 2
  have := List.getElem?_eq_getElem hl
  unfold cutParts at this ⊢
  rw [h] at this
  injection this with this
  exact this.symm
theorem risesR_zeros (b : Bs) (M : Nat) (hM : 0 < M) : risesR (b.length : Int) (off4 b : Int) (ints (offs (zeros M) b)) = rises b.length (off4 b) (offs (zeros M) b) := by
  have h := risesZ_nat b.length (off4 b) (offs (zeros M) b)
  unfold risesR ints
  rw [h]
  obtain ⟨m, rfl⟩ : ∃ m, M = m + 1 := ⟨M - 1, by omega⟩
  rw [zeros_succ]
  simp [offs]
theorem wrap_small2 (n : Int) (h0 : 0 ≤ n) (h : n < 4294967296) : IntKind.i64.wrap n = n := by
  simp only [IntKind.wrap, IntKind.bits, IntKind.signed]
  simp
  omega
set_option maxHeartbeats 3200000 in
set_option maxRecDepth 100000 in
theorem rmany_any (v : Value) (b : Bs) (most : Int) (w : World) (h : BV w 0 v b) (hbl : b.length ≤ 140737488355328) :
    Calls Try.prog 24 #[v, .int .i64 most] w (ManyPost w (many b most)) := by
  obtain ⟨i0, hi, hz0, hz1, hz2⟩ := info_parts Try.info_int
  obtain ⟨i1, hj, hy0, hy1, hy2⟩ := info_parts Try.info_bs
  obtain ⟨i2, hu8, hx0, hx1, hx2⟩ := info_parts Try.info_u8
  have HB := Lib.hid h
  obtain ⟨A, c, rfl, h1, h2⟩ := h.form
  clear h
  unfold maxLen at h2
  by_cases t1 : most < 0
  · have HE : Hid (many b most = ([], 1)) := by show _ = _; unfold many; rw [if_pos t1]
    rw [HE.out]
    go_enter Try.func24, Try.ntmps24
    go_wp2
    go_ret2
    exact ⟨_, rfl, RO.nil_ _ _, Below.refl _ _⟩
  by_cases t2 : b = []
  · subst t2
    have HE : Hid (many [] most = ([], 0)) := by show _ = _; unfold many; rw [if_neg t1, if_pos rfl]
    rw [HE.out]
    go_enter Try.func24, Try.ntmps24
    go_wp2
    go_ret2
    exact ⟨_, rfl, RO.nil_ _ _, Below.refl _ _⟩
  have t2' : ((b.length : Int) == 0) = false := by simp [t2]
  by_cases t3 : b.length < 4
  · have HE : Hid (many b most = ([], 4)) := by show _ = _; unfold many; rw [if_neg t1, if_neg t2, if_pos t3]
    rw [HE.out]
    clear t2
    go_enter Try.func24, Try.ntmps24
    go_wp2
    go_ret2
    exact ⟨_, rfl, RO.nil_ _ _, Below.refl _ _⟩
  have hoff := off4_lt b
  obtain ⟨bb, off, hA⟩ : ∃ bb off, A = some ⟨bb, off, none⟩ := by
    obtain ⟨bb, off, c', e, _⟩ := HB.out.at_ t2
    injection e with e _ _
    exact ⟨bb, off, e⟩
  subst hA
  have HC0 := roffset_any (.slice (some ⟨bb, off, none⟩) 4 c) (b.take 4) w (BV.upto HB.out (by omega)) (by rw [List.length_take]; omega)
  rw [off4_take b 4 (Nat.le_refl _)] at HC0
  have HC := Lib.hid HC0
  clear HC0
  by_cases t4 : off4 b = 0 ∨ off4 b % 4 ≠ 0 ∨ b.length < off4 b
  · have HE : Hid (many b most = ([], 5)) := by show _ = _; unfold many; rw [if_neg t1, if_neg t2, if_neg t3, if_pos t4]
    rw [HE.out]
    have HT := Lib.hid t4
    clear t2 t4
    generalize off4 b = o at *
    by_cases u1 : o = 0
    · subst u1
      go_enter Try.func24, Try.ntmps24
      go_wp2_with fail
      refine HC.out.mono ?_
      rintro e w1 ⟨rfl, n, rfl⟩
      go_wp2_with fail
      go_ret2
      exact ⟨_, rfl, RO.nil_ _ _, below_drewN (Below.refl _ _) _⟩
    have u1' : ((o : Int) == 0) = false := by simp [u1]
    by_cases u2 : o % 4 = 0
    · have u3 : b.length < o := by rcases HT.out with h | h | h; exact absurd h u1; exact absurd u2 h; exact h
      have u2' : ((o : Int) % 4 != 0) = false := by simp; omega
      go_enter Try.func24, Try.ntmps24
      go_wp2_with fail
      refine HC.out.mono ?_
      rintro e w1 ⟨rfl, n, rfl⟩
      go_wp2_with fail
      go_ret2
      exact ⟨_, rfl, RO.nil_ _ _, below_drewN (Below.refl _ _) _⟩
    · have u2' : ((o : Int) % 4 != 0) = true := by simp; omega
      go_enter Try.func24, Try.ntmps24
      go_wp2_with fail
      refine HC.out.mono ?_
      rintro e w1 ⟨rfl, n, rfl⟩
      go_wp2_with fail
      go_ret2
      exact ⟨_, rfl, RO.nil_ _ _, below_drewN (Below.refl _ _) _⟩
  have g1 : off4 b ≠ 0 := fun h => t4 (.inl h)
  have g2 : off4 b % 4 = 0 := by rcases Nat.decEq (off4 b % 4) 0 with h | h; exact absurd (.inr (.inl h)) t4; exact h
  have g3 : off4 b ≤ b.length := by rcases Nat.lt_or_ge b.length (off4 b) with h | h; exact absurd (.inr (.inr h)) t4; exact h
  by_cases t5 : most < ((off4 b / 4 : Nat) : Int)
  · have HE : Hid (many b most = ([], 6)) := by show _ = _; unfold many; rw [if_neg t1, if_neg t2, if_neg t3, if_neg t4, if_pos t5]
    rw [HE.out]
    clear t2 t4
    generalize off4 b = o at *
    have u1' : ((o : Int) == 0) = false := by simp [g1]
    have u2' : ((o : Int) % 4 != 0) = false := by simp; omega
    have t5' : most < (o : Int) / 4 := by omega
    go_enter Try.func24, Try.ntmps24
    go_wp2_with fail
    refine HC.out.mono ?_
    rintro e w1 ⟨rfl, n, rfl⟩
    go_wp2_with fail
    go_ret2
    exact ⟨_, rfl, RO.nil_ _ _, below_drewN (Below.refl _ _) _⟩
  obtain ⟨M, hM⟩ : ∃ M, off4 b = 4 * M := ⟨off4 b / 4, by omega⟩
  have hM0 : 0 < M := by omega
  have hMb : 4 * M ≤ b.length := by omega
  have hMx : M < 1073741824 := by omega
  have HE : Hid (many b most = if rises b.length (off4 b) (offs (zeros M) b) = false then ([], 5) else (cutParts b (zeros M), 0)) := by
    show _ = _; unfold many; rw [if_neg t1, if_neg t2, if_neg t3, if_neg t4, if_neg t5, show off4 b / 4 = M from by omega]
  have HRC := Lib.hid (risesR_zeros b M hM0)
  have u1' : ((off4 b : Int) == 0) = false := by simp [g1]
  have u2' : ((off4 b : Int) % 4 != 0) = false := by simp; omega
  have u5 : (off4 b : Int) / 4 ≤ most := by omega
  have HM := Lib.hid hM
  have hd3 : decide (b.length < 4) = false := by simp; omega
  have hd4 : decide (b.length < off4 b) = false := by simp; omega
  have hd5 : decide (most < (off4 b : Int) / 4) = false := by simp; omega
  have ho1 : off4 b ≤ 4 * M := by omega
  have ho2 : 4 * M ≤ off4 b := by omega
  have hq : offs (zeros M) b = offs (zeros M) b := rfl
  clear t2 t4 hM g1 g2 t5 hoff hq
  generalize off4 b = o at *
  go_enter Try.func24, Try.ntmps24
  go_wp2_with fail
  refine HC.out.mono ?_
  rintro e w1 ⟨rfl, n1, rfl⟩
  go_wp2_with fail
  go_loopw [7, 8] (fun s i wr => ∃ k p : Nat, k ≤ M ∧ p = 4 * k ∧ i = .int .i64 (p : Int) ∧ OI wr w.heap.size s (ints (offs (zeros k) b)) ∧ Below w.heap.size w wr) (fun _ i _ => 4 * M - (intOf i).toNat)
  case atStart => exact ⟨0, 0, Nat.zero_le _, rfl, rfl, World.ownsRow_nil _ _ _ _, below_drewN (Below.refl _ _) _⟩
  case round =>
    obtain ⟨k, p, hk, hp, rfl, ho, hbw⟩ := hrel
    have hsz := hbw.size
    have O1 := Lib.hid ho
    have BW := Lib.hid hbw
    have hol : Hid ((ints (offs (zeros k) b)).length = k) := by show _ = _; simp [ints, offs_zeros_len]
    have HX := Lib.hid (offs_zeros_succ k b)
    rw [← hp] at HX
    have HPK := Lib.hid hp
    clear ho hbw
    by_cases hlt : k < M
    · have q1 : p + 4 ≤ o := by omega
      have q2 : (p : Int) + 4 ≤ (b.length : Int) := by omega
      have hpk : p ≤ 4 * k := by omega
      have hpk2 : 4 * k ≤ p := by omega
      clear hp
      have HCL : Hid (BV wr 0 (.slice (some ⟨bb, off + p, none⟩) 4 (c - p)) ((b.drop p).take 4)) := by
        show BV _ _ _ _
        have h := BV.cut (BV.below HB.out BW.out (Nat.le_refl _)) (i := p) (j := p + 4) (by omega) (by omega)
        rwa [List.drop_take, show p + 4 - p = 4 from by omega] at h
      have HO4 : Hid (off4 ((b.drop p).take 4) = off4 (b.drop p)) := off4_take _ 4 (Nat.le_refl _)
      go_wp2_with fail
      refine (roffset_any _ ((b.drop p).take 4) wr HCL.out (by rw [List.length_take, List.length_drop]; omega)).mono ?_
      rintro e w2 ⟨rfl, n2, rfl⟩
      rw [HO4.out]
      clear HO4 HCL
      generalize off4 (b.drop p) = x at *
      have O5 : Hid (OI (wr.drewN n2) w.heap.size u7 (ints (offs (zeros k) b))) := O1.out
      have B5 : Hid (Below w.heap.size w (wr.drewN n2)) := below_drewN BW.out n2
      have hs5 : w.heap.size ≤ (wr.drewN n2).heap.size := hsz
      generalize wr.drewN n2 = w5 at *
      clear O1 BW hsz
      go_wp2_with (at_builtin; refine wpList_append_sl _ rfl _ _ 36 rfl w.heap.size w5.heap.size 3 i0 (.int .i64 0) 8 Try.underlying36 hi hz0 hz1 hz2 rfl _ _ _ rfl (World.ownsRow.alloc O5.out _) (.slice (some ⟨w5.heap.size, 0, none⟩) 1 1) [iv x] rfl (sl_new w5 [iv x] 3 (by simp [maxLen])) (by simp [iv, Value.oneCell']) ?c3 ?c4 ?c5 ?_)
      case c3 => rw [hol.out]; simp only [List.length_cons, List.length_nil, maxLen]; omega
      case c4 => rw [hol.out]; simp only [List.length_cons, List.length_nil]; omega
      case c5 => simp; omega
      intro v2 w3 hown hgrow _
      have Q1 : Hid (OI w3 w.heap.size v2 (ints (offs (zeros (k + 1)) b))) := by
        show OI _ _ _ _
        rw [HX.out]
        exact OI.mk hown (by simp [ints]) (by simp [ints])
      have B2 : Hid (Below w.heap.size w w3) := B5.out.grown (grownBy_of_alloc hgrow) hs5 (OI.row_ge O5.out)
      clear hown hgrow O5 B5 HX
      go_wp2
      go_roundw
      case rel => exact ⟨k + 1, p + 4, by omega, by omega, by go_num, Q1.out, B2.out⟩
      case measure => simp [intOf]; omega
    · obtain rfl : k = M := by omega
      have hpo : p = o := by have := HM.out; omega
      subst hpo
      have HMK := HM
      generalize hos : offs (zeros k) b = os at *
      have HOS := Lib.hid hos
      clear hos hp HX
      obtain ⟨A1, c1, rfl⟩ := O1.out.form
      rw [hol.out] at O1 ⊢
      have hosl : os.length = k := by have := hol.out; simpa [ints] using this
      have HLI : Hid ((ints (os ++ [b.length])).length = k + 1) := by show _ = _; simp [ints, hosl]
      have HOL := Lib.hid hosl
      clear hosl
      go_wp2_with fail
      refine (rises_any _ (ints os) (p : Int) (b.length : Int) wr (by
        have := Sl.lower (OI.toIV O1.out) (Nat.zero_le _)
        exact this)).mono ?_
      rintro e w5 ⟨rfl, n5, rfl⟩
      rw [HRC.out]
      cases hr : rises b.length p os with
      | false =>
        have HEE : Hid (many b most = ([], 5)) := by show _ = _; rw [HE.out, hr]; rfl
        clear hr
        go_wp2_with fail
        go_ret2
        refine (show ManyPost w (many b most) _ _ from ?_)
        rw [HEE.out]
        exact ⟨_, rfl, RO.nil_ _ _, below_drewN BW.out n5⟩
      | true =>
        have HEE : Hid (many b most = (cutParts b (zeros k), 0)) := by show _ = _; rw [HE.out, hr]; rfl
        have HRI := Lib.hid (rises_at hr g3)
        rw [HOL.out] at HRI
        clear hr HRC HE
        have O5 : Hid (OI (wr.drewN n5) w.heap.size (.slice A1 k c1) (ints os)) := O1.out
        have B5 : Hid (Below w.heap.size w (wr.drewN n5)) := below_drewN BW.out n5
        have hs5 : w.heap.size ≤ (wr.drewN n5).heap.size := hsz
        generalize wr.drewN n5 = w5 at *
        clear O1 BW hsz
        go_wp2_with (at_builtin; refine wpList_append_sl _ rfl _ _ 36 rfl w.heap.size w5.heap.size 3 i0 (.int .i64 0) 8 Try.underlying36 hi hz0 hz1 hz2 rfl _ _ _ rfl (World.ownsRow.alloc O5.out _) (.slice (some ⟨w5.heap.size, 0, none⟩) 1 1) [iv b.length] rfl (sl_new w5 [iv b.length] 3 (by simp [maxLen])) (by simp [iv, Value.oneCell']) ?c3 ?c4 ?c5 ?_)
        case c3 => rw [hol.out]; simp only [List.length_cons, List.length_nil, maxLen]; omega
        case c4 => rw [hol.out]; simp only [List.length_cons, List.length_nil]; omega
        case c5 => simp; omega
        intro v6 w6 hown6 hgrow6 hmv6
        have F6 : Hid (OI w6 w.heap.size v6 (ints (os ++ [b.length]))) := OI.mk hown6 (by simp [ints]) (by simp [ints])
        have B6 : Hid (Below w.heap.size w w6) := B5.out.grown (grownBy_of_alloc hgrow6) hs5 (OI.row_ge O5.out)
        obtain ⟨gf, cf, rfl, hgf⟩ := F6.out.form2 (by simp [ints])
        rw [HLI.out] at F6 hgf ⊢
        clear hown6 hgrow6 hmv6 O5 B5 hs5
        obtain ⟨M, hMk⟩ : ∃ M, M = k := ⟨k, rfl⟩
        subst hMk
        go_wp2
        go_loopw [9, 10] (fun l i wr => ∃ k : Nat, k ≤ M ∧ i = .int .i64 (k : Int) ∧ RO wr w.heap.size l ((cutParts b (zeros M)).take k) ∧ OI wr w.heap.size (.slice (some ⟨gf, 0, none⟩) (M + 1) cf) (ints (os ++ [b.length])) ∧ Below w.heap.size w wr) (fun _ i _ => M - (intOf i).toNat)
        case atStart => exact ⟨0, Nat.zero_le _, rfl, RO.nil_ _ _, F6.out, B6.out⟩
        case round =>
          clear F6 B6 hlt hk
          obtain ⟨k, hk, rfl, hro, hf6, hb⟩ := hrel
          have R := Lib.hid hro
          have F := Lib.hid hf6
          have BW := Lib.hid hb
          have hsz := hb.size
          obtain ⟨A2, c2, rfl⟩ := hro.form
          have hpl : ((cutParts b (zeros M)).take k).length = k := by rw [List.length_take, parts_len]; simp [zeros]; omega
          have HPL := Lib.hid hpl
          rw [hpl] at R ⊢
          clear hro hf6 hb hpl
          by_cases hkl : k < M
          · have PS := Lib.hid (parts_snocz b M k hkl)
            rw [HOS.out] at PS
            generalize (cutParts b (zeros M)).take k = ls at *
            obtain ⟨hx12, hx2b⟩ := HRI.out k hkl
            have hc1 : wr.cell? ⟨gf, k, none⟩ = some (.int .i64 (((os ++ [b.length]).getD k 0 : Nat) : Int)) := by
              rw [F.out.cell (j := k) (by rw [HLI.out]; omega), ints_getD]
            have hc2 : wr.cell? ⟨gf, k + 1, none⟩ = some (.int .i64 (((os ++ [b.length]).getD (k + 1) 0 : Nat) : Int)) := by
              rw [F.out.cell (j := k + 1) (by rw [HLI.out]; omega), ints_getD]
            generalize (os ++ [b.length]).getD k 0 = x1 at *
            generalize (os ++ [b.length]).getD (k + 1) 0 = x2 at *
            have hd1 : ∀ o, (wr.alloc o).cell? ⟨gf, k, none⟩ = some (.int .i64 (x1 : Int)) := fun o => by rw [(Below.alloc (Below.refl _ wr) (Nat.le_refl _) o).cell (p := ⟨gf, k, none⟩) (blk_lt hc1)]; exact hc1
            have hd2 : ∀ o, (wr.alloc o).cell? ⟨gf, k + 1, none⟩ = some (.int .i64 (x2 : Int)) := fun o => by rw [(Below.alloc (Below.refl _ wr) (Nat.le_refl _) o).cell (p := ⟨gf, k + 1, none⟩) (blk_lt hc2)]; exact hc2
            have hi1 : (k : Int) < (M : Int) + 1 := by omega
            have hi2 : (k : Int) < (M : Int) := by omega
            have hi3 : IntKind.i64.wrap ((k : Int) + 1) = (k : Int) + 1 := wrap_small2 _ (by omega) (by omega)
            have hi4 : (0 : Int) ≤ (k : Int) + 1 := by omega
            have hi5 : (k : Int) + 1 < (M : Int) + 1 := by omega
            have hi6 : ((k : Int) + 1).toNat = k + 1 := by omega
            have hj1 : (x1 : Int) ≤ (x2 : Int) := by omega
            have hj2 : (x2 : Int) ≤ (c : Int) := by omega
            have hj3 : x2 ≤ c := by omega
            have HLP : Hid (((b.take x2).drop x1).length = x2 - x1) := by show _ = _; simp; omega
            have HCI : Hid (BV wr 0 (.slice (if c = x1 then some ⟨bb, off, none⟩ else some ⟨bb, off + x1, none⟩) (x2 - x1) (c - x1)) ((b.take x2).drop x1)) := BV.cutif (BV.below HB.out BW.out (Nat.le_refl _)) hx12 hx2b
            generalize (b.take x2).drop x1 = part at *
            by_cases hcx : c = x1
            all_goals
              have hcx' : (c = x1) = (if c = x1 then True else False) := by by_cases h : c = x1 <;> simp [h]
              first | (rw [if_pos hcx] at HCI hcx') | (rw [if_neg hcx] at HCI hcx')
              clear hcx
              go_upto_region 24 with fail
              go_region_law (first
                | (refine step_append_sl _ rfl _ _ 22 rfl wr.heap.size 0 5 i2 (.int .u8 0) 1 Try.underlying22 hu8 hx0 hx1 hx2 rfl _ 0 [] rfl (World.ownsRow_made wr #[] 0 (Nat.le_refl _) (Nat.zero_le _) rfl) _ (part.map bv) rfl (by first | exact Sl.alloc HCI.out _) (bv_one _) (by have := HLP.out; rw [List.length_map]; unfold maxLen; omega) (by have := HLP.out; rw [List.length_map]; omega) (by simp) ?_
                   intro v5 w5 hown hgrow _
                   have O5 : Hid (OB w5 wr.heap.size v5 part) := OB.mk hown (by simp) rfl
                   have B5 : Hid (Below wr.heap.size wr w5) := ((Below.refl _ wr).alloc (Nat.le_refl _) (.cells #[] 5)).grown ⟨hgrow.os, hgrow.tape, hgrow.output, hgrow.size, hgrow.block⟩ (by simp) (by
                     intro q hq
                     have hq' : (Value.slice (some ⟨wr.heap.size, 0, none⟩) 0 0).ownBlock = some q := hq
                     simp only [Value.ownBlock, Option.some.injEq] at hq'
                     omega)
                   obtain ⟨A5, c5, rfl⟩ := O5.out.form
                   have F5 : Hid (OI w5 w.heap.size (.slice (some ⟨gf, 0, none⟩) (M + 1) cf) (ints (os ++ [b.length]))) := F.out.below B5.out
                   have BW5 : Hid (Below w.heap.size w w5) := BW.out.trans (B5.out.mono hsz)
                   have hs5 := BW5.out.size
                   obtain ⟨vs, hv, he⟩ := R.out.below B5.out
                   have HV := Lib.hid hv
                   have HEL := Lib.hid he
                   clear hown hgrow hv he)
                | (refine step_append_sl _ rfl _ _ 28 rfl w.heap.size w5.heap.size 22 i1 (.slice none 0 0) 24 Try.underlying28 hj hy0 hy1 hy2 rfl _ _ _ rfl (World.ownsRow.alloc HV.out _) (.slice (some ⟨w5.heap.size, 0, none⟩) 1 1) [.slice A5 part.length c5] rfl (sl_new w5 [.slice A5 part.length c5] 22 (by simp [maxLen])) (by simp [Value.oneCell']) (by have := HPL.out; simp only [List.length_cons, List.length_nil, maxLen]; omega) (by have := HPL.out; simp only [List.length_cons, List.length_nil]; omega) (by simp; omega) ?_
                   intro v6 w6 hown hgrow _
                   have R6 : Hid (RO w6 w.heap.size v6 (ls ++ [part])) := RO.snoc (w := w5.alloc (.cells #[.slice A5 part.length c5] 22)) (World.ownsRow.alloc HV.out _) (fun j u l' h1 h2 => World.ownsRow.alloc (HEL.out j u l' h1 h2) _) (World.ownsRow.alloc (OB.lower O5.out hsz) _) hown (by simp) hgrow
                   have F6 : Hid (OI w6 w.heap.size (.slice (some ⟨gf, 0, none⟩) (M + 1) cf) (ints (os ++ [b.length]))) := (own_ne HV.out F5.out (by decide)).kept (World.ownsRow.alloc F5.out _) hgrow
                   have B6 : Hid (Below w.heap.size w w6) := (BW5.out.alloc hs5 _).grown hgrow (by simp; omega) (fun j hj => (World.ownsRow.lt HV.out j hj).1)
                   clear hown hgrow))
              all_goals
                obtain ⟨A6, c6, rfl⟩ := R6.out.form
                go_wp2
                go_roundw
                case rel =>
                  refine ⟨k + 1, by omega, by go_num, ?_, F6.out, B6.out⟩
                  rw [PS.out]
                  have := R6.out
                  rwa [List.length_append, List.length_singleton] at this
                case measure => simp [intOf]; omega
          · obtain rfl : k = M := by omega
            have hT : (cutParts b (zeros k)).take k = cutParts b (zeros k) := by rw [List.take_of_length_le]; rw [parts_len]; simp [zeros]
            rw [hT] at R
            clear hT
            go_wp2
            go_ret2
            refine (show ManyPost w (many b most) _ _ from ?_)
            rw [HEE.out]
            exact ⟨_, rfl, R.out, BW.out⟩
end Go.Proofs.Ytamfceklddbldaa
