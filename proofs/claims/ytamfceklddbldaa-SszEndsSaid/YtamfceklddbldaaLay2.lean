/- Contract of the reference's Lay. -/
import Derived.Test.YtamfceklddbldaaLay1
import Derived.Test.YtamfceklddbldaaMany2
namespace Go.Proofs.Ytamfceklddbldaa
open Go.RowKit

set_option maxHeartbeats 3200000 in
set_option maxRecDepth 100000 in
theorem rlay_any (v u : Value) (ps : List Bs) (z : List Int) (w : World) (h : RV w 0 v ps) (hz : IV w 0 u z) (hb : ps.flatten.length ≤ 33554432) :
    Calls Try.prog 21 #[v, u] w (LayPost w (lay ps z)) := by
  obtain ⟨i0, hi, hz0, hz1, hz2⟩ := info_parts Try.info_u8
  have HP := Lib.hid h
  have HZ := Lib.hid hz
  have HH := Lib.hid (sizesOK_any u z w hz)
  have HD := Lib.hid (Head_any u z w hz)
  obtain ⟨A, c, rfl, h1, h2⟩ := h.form
  obtain ⟨Az, cz, rfl, h3, h4⟩ := hz.form
  clear h hz
  unfold maxLen at h2 h4
  by_cases t1 : sizesOk z = false
  · have HE : Hid (lay ps z = ([], 1)) := by show _ = _; unfold lay; rw [if_pos (.inl t1)]
    rw [HE.out]
    rw [t1] at HH
    clear HD
    go_enter Try.func21, Try.ntmps21
    go_wp2_with fail
    refine HH.out.mono ?_
    rintro e w1 ⟨rfl, rfl⟩
    go_wp2_with fail
    go_ret2
    exact ⟨_, rfl, OB.nil_ _ _, Below.refl _ _⟩
  simp only [Bool.not_eq_false] at t1
  have HD := Lib.hid (HD.out t1)
  rw [t1] at HH
  have hH := headLen_ok z t1
  obtain ⟨hl1, hl2⟩ := sizesOk_len z t1
  have HA := Lib.hid (sizesOk_at z t1)
  by_cases t2 : ¬ ps.length = z.length
  · have HE : Hid (lay ps z = ([], 1)) := by show _ = _; unfold lay; rw [if_pos (.inr t2)]
    have t2' : ((ps.length : Int) != (z.length : Int)) = true := by simp; omega
    rw [HE.out]
    clear t1 t2 HD
    go_enter Try.func21, Try.ntmps21
    go_wp2_with fail
    refine HH.out.mono ?_
    rintro e w1 ⟨rfl, rfl⟩
    go_wp2_with fail
    go_ret2
    exact ⟨_, rfl, OB.nil_ _ _, Below.refl _ _⟩
  simp only [Decidable.not_not] at t2
  have HE : Hid (lay ps z = if fits ps (nats z) = false then ([], 4) else (laid ps (nats z), 0)) := by
    show _ = _; unfold lay; rw [if_neg (by simp [t1, t2])]
  have t2' : ((ps.length : Int) != (z.length : Int)) = false := by simp [t2]
  have HPL := Lib.hid t2
  have HN := Lib.hid (nats_len z)
  have HNG := Lib.hid (nats_getD z)
  clear t1 t2
  generalize hss : nats z = ss at *
  clear hss
  generalize hHg : headLen ss = H at *
  have HHg := Lib.hid hHg
  clear hHg
  have HBL := Lib.hid (behindP_le ps ss)
  have HGL := Lib.hid (getD_len_le ps)
  have HFL : Hid (∀ k, fitsP ps ss k = true → (frontP ps ss k H).length ≤ H) := fun k hk => by have := frontP_len ps ss k H hk; rw [HHg.out] at this; exact this
  go_enter Try.func21, Try.ntmps21
  go_wp2_with fail
  refine HH.out.mono ?_
  rintro e w1 ⟨rfl, rfl⟩
  go_wp2_with fail
  refine HD.out.mono ?_
  rintro e w1 ⟨rfl, rfl⟩
  go_wp2_with fail
  go_loopw [6, 7, 9] (fun f g i wr => ∃ k : Nat, k ≤ z.length ∧ i = .int .i64 k ∧ OB wr w.heap.size f (frontP ps ss k H) ∧ OB wr w.heap.size g (behindP ps ss k) ∧ Apart f g ∧ fitsP ps ss k = true ∧ Below w.heap.size w wr) (fun _ _ i _ => z.length - (intOf i).toNat)
  case atStart => exact ⟨0, Nat.zero_le _, rfl, by simpa [frontP, front] using OB.nil_ _ _, by simpa [behindP, behind] using OB.nil_ _ _, Apart.nil_ _, by simp [fitsP, fits], Below.refl _ _⟩
  case round =>
    obtain ⟨k, hk, rfl, ho1, ho2, hap, hft, hbw⟩ := hrel
    have hsz := hbw.size
    have O1 := Lib.hid ho1
    have O2 := Lib.hid ho2
    have AP := Lib.hid hap
    have BW := Lib.hid hbw
    have hF := HFL.out k hft
    have hG := HBL.out k
    have FT := Lib.hid hft
    obtain ⟨A1, c1, rfl⟩ := ho1.form
    obtain ⟨A2, c2, rfl⟩ := ho2.form
    clear ho1 ho2 hap hbw hft
    by_cases hlt : k < z.length
    · have hk1 : k < ps.length := by rw [HPL.out]; exact hlt
      have hk2 : k < ss.length := by rw [HN.out]; exact hlt
      obtain ⟨bz, oz, rfl, hc⟩ := HZ.out.at2 (by intro e; rw [e] at hlt; simp at hlt)
      have hck := hc k hlt
      clear hc
      have hcellz : wr.cell? ⟨bz, oz + k, none⟩ = some (.int .i64 (z.getD k 0)) := by rw [BW.out.cell (p := ⟨bz, oz + k, none⟩) (blk_lt hck)]; exact hck
      clear hck
      obtain ⟨b, off, rfl, _, hc⟩ := HP.out.at2 (by intro e; simp [e] at hk1)
      obtain ⟨x, hx, hbx⟩ := hc k hk1
      clear hc
      obtain ⟨Ax, cx, rfl, hx1, hx2⟩ := hbx.form
      unfold maxLen at hx2
      have hcell : wr.cell? ⟨b, off + k, none⟩ = some (.slice Ax (ps.getD k []).length cx) := by rw [BW.out.cell (p := ⟨b, off + k, none⟩) (blk_lt hx)]; exact hx
      have HX := Lib.hid hx
      have HBX := Lib.hid hbx
      clear hx hbx
      obtain ⟨hs1, hs2⟩ := HA.out k hlt
      have HGK := Lib.hid (HNG.out k hlt)
      have SF := Lib.hid (frontP_succ ps ss k H hk1 hk2)
      have SB := Lib.hid (behindP_succ ps ss k hk1 hk2)
      have ST := Lib.hid (fitsP_succ ps ss k hk1 hk2)
      have SA := Lib.hid (fun h => fits_at ps ss h k hk2)
      have hp := HGL.out k
      have hG' := HBL.out (k + 1)
      have hki : (k : Int) < (ps.length : Int) := by omega
      generalize z.getD k 0 = s at *
      generalize ps.getD k [] = p at *
      generalize frontP ps ss k H = F at *
      generalize behindP ps ss k = G at *
      clear hk1 hk2
      obtain ⟨sn, rfl⟩ := Int.eq_ofNat_of_zero_le hs1
      rw [Int.toNat_natCast] at HGK
      by_cases hs : sn = 0
      · subst hs
        have hp2 : G.length + p.length ≤ 33554432 := by
          have := SB.out
          rw [HGK.out, if_pos rfl] at this
          rw [this, List.length_append] at hG'
          omega
        have hs' : (((0 : Nat) : Int) != 0) = false := by simp
        go_upto_region 9 with fail
        go_quiet (fail)
        have D1 : Hid (OB (wr.drewN nq) w.heap.size (.slice A1 F.length c1) F) := O1.out
        have D2 : Hid (OB (wr.drewN nq) w.heap.size (.slice A2 G.length c2) G) := O2.out
        have DB : Hid (Below w.heap.size w (wr.drewN nq)) := below_drewN BW.out nq
        have hcellzd : (wr.drewN nq).cell? ⟨bz, oz + k, none⟩ = some (.int .i64 ((0 : Nat) : Int)) := hcellz
        have hcelld : (wr.drewN nq).cell? ⟨b, off + k, none⟩ = some (.slice Ax p.length cx) := hcell
        have hszd : w.heap.size ≤ (wr.drewN nq).heap.size := hsz
        generalize hwd : (wr.drewN nq) = wd at *
        clear hwd O1 O2 BW hcellz hcell
        go_wp2_with fail
        refine (four_int _ wd (by omega) (by omega)).mono ?_
        rintro e w1 ⟨rfl, rfl⟩
        rw [show ((H : Int) + (G.length : Int)).toNat = H + G.length from by omega] at *
        have SL := Lib.hid (sl_new wd ((four (H + G.length)).map bv) 5 (by simp [four_len, maxLen]))
        have O1' : Hid (OB (wd.alloc (.cells ((four (H + G.length)).map bv).toArray 5)) w.heap.size (.slice A1 F.length c1) F) := World.ownsRow.alloc D1.out _
        have O2' : Hid (OB (wd.alloc (.cells ((four (H + G.length)).map bv).toArray 5)) w.heap.size (.slice A2 G.length c2) G) := World.ownsRow.alloc D2.out _
        have B1 : Hid (Below w.heap.size w (wd.alloc (.cells ((four (H + G.length)).map bv).toArray 5))) := DB.out.alloc hszd _
        have hsz1 := B1.out.size
        rw [List.length_map, four_len] at SL
        generalize (wd.alloc (.cells ((four (H + G.length)).map bv).toArray 5)) = w1 at *
        clear D1 D2
        go_wp2_with (at_builtin; refine wpList_append_sl _ rfl _ _ 22 rfl w.heap.size wd.heap.size 5 i0 (.int .u8 0) 1 Try.underlying22 hi hz0 hz1 hz2 rfl _ F.length _ rfl O1'.out _ ((four (H + G.length)).map bv) rfl SL.out (bv_one _) ?c3 ?c4 hsz1 ?_)
        case c3 => rw [List.length_map, four_len]; unfold maxLen; omega
        case c4 => rw [List.length_map, four_len]; omega
        intro v1 w2 hown1 g1 m1
        have P2 : Hid (OB w2 w.heap.size (.slice A2 G.length c2) G) := AP.out.kept O2'.out g1
        have AP1 : Hid (Apart v1 (.slice A2 G.length c2)) := AP.out.moves O2'.out m1
        have P1 : Hid (OB w2 w.heap.size v1 (F ++ four (H + G.length))) := OB.mk hown1 (by simp) (by simp)
        have B2 : Hid (Below w.heap.size w w2) := B1.out.grown g1 hsz1 (OB.row_ge O1'.out)
        have hsz2 := B2.out.size
        have hcell1 : w2.cell? ⟨b, off + k, none⟩ = some (.slice Ax p.length cx) := by rw [B2.out.cell (p := ⟨b, off + k, none⟩) (blk_lt HX.out)]; exact HX.out
        clear hown1 g1 m1 O1' O2' AP SL B1
        go_wp2_with (at_builtin; refine wpList_append_sl _ rfl _ _ 22 rfl w.heap.size 0 5 i0 (.int .u8 0) 1 Try.underlying22 hi hz0 hz1 hz2 rfl _ G.length _ rfl P2.out _ (p.map bv) rfl (Sl.below HBX.out B2.out (Nat.le_refl _)) (bv_one p) ?c3 ?c4 hsz2 ?_)
        case c3 => rw [List.length_map]; unfold maxLen; omega
        case c4 => rw [List.length_map]; omega
        intro v2 w3 hown hgrow hmv
        have Q2 : Hid (OB w3 w.heap.size v2 (G ++ p)) := OB.mk hown (by simp) (by simp)
        have Q1 : Hid (OB w3 w.heap.size v1 (F ++ four (H + G.length))) := AP1.out.symm.kept P1.out hgrow
        have AP2 : Hid (Apart v1 v2) := (AP1.out.symm.moves P1.out hmv).symm
        have B3 : Hid (Below w.heap.size w w3) := B2.out.grown hgrow hsz2 (OB.row_ge P2.out)
        clear hown hgrow hmv P1 P2 AP1 B2
        go_wp2
        go_roundw
        case rel =>
          refine ⟨k + 1, by omega, by go_num, ?_, ?_, AP2.out, ?_, B3.out⟩
          · rw [SF.out, HGK.out, if_pos rfl]; exact Q1.out
          · rw [SB.out, HGK.out, if_pos rfl]; exact Q2.out
          · rw [ST.out, FT.out, HGK.out]; rfl
        case measure => simp [intOf]; omega
      · have hs' : ((sn : Int) != 0) = true := by simp; omega
        by_cases hpl : p.length = sn
        · have hpl' : ((p.length : Int) != (sn : Int)) = false := by simp [hpl]
          have HPN := Lib.hid hpl
          clear hpl
          go_upto_region 9 with fail
          go_quiet (fail)
          have D1 : Hid (OB (wr.drewN nq) w.heap.size (.slice A1 F.length c1) F) := O1.out
          have D2 : Hid (OB (wr.drewN nq) w.heap.size (.slice A2 G.length c2) G) := O2.out
          have DB : Hid (Below w.heap.size w (wr.drewN nq)) := below_drewN BW.out nq
          have hcellzd : (wr.drewN nq).cell? ⟨bz, oz + k, none⟩ = some (.int .i64 (sn : Int)) := hcellz
          have hcelld : (wr.drewN nq).cell? ⟨b, off + k, none⟩ = some (.slice Ax p.length cx) := hcell
          have hszd : w.heap.size ≤ (wr.drewN nq).heap.size := hsz
          generalize hwd : (wr.drewN nq) = wd at *
          clear hwd O1 O2 BW hcellz hcell
          go_wp2_with (at_builtin; refine wpList_append_sl _ rfl _ _ 22 rfl w.heap.size 0 5 i0 (.int .u8 0) 1 Try.underlying22 hi hz0 hz1 hz2 rfl _ F.length _ rfl D1.out _ (p.map bv) rfl (Sl.below HBX.out DB.out (Nat.le_refl _)) (bv_one p) ?c3 ?c4 hszd ?_)
          case c3 => rw [List.length_map]; unfold maxLen; omega
          case c4 => rw [List.length_map]; omega
          intro v2 w2 hown hgrow hmv
          have Q2 : Hid (OB w2 w.heap.size v2 (F ++ p)) := OB.mk hown (by simp) (by simp)
          have Q1 : Hid (OB w2 w.heap.size (.slice A2 G.length c2) G) := AP.out.kept D2.out hgrow
          have AP2 : Hid (Apart v2 (.slice A2 G.length c2)) := AP.out.moves D2.out hmv
          have B2 : Hid (Below w.heap.size w w2) := DB.out.grown hgrow hszd (OB.row_ge D1.out)
          clear hown hgrow hmv D1 D2 AP
          go_wp2
          go_roundw
          case rel =>
            refine ⟨k + 1, by omega, by go_num, ?_, ?_, AP2.out, ?_, B2.out⟩
            · rw [SF.out, HGK.out, if_neg hs]; exact Q2.out
            · rw [SB.out, HGK.out, if_neg hs, List.append_nil]; exact Q1.out
            · rw [ST.out, FT.out, HGK.out, HPN.out]; simp
          case measure => simp [intOf]; omega
        · have hpl' : ((p.length : Int) != (sn : Int)) = true := by simp; omega
          have HEE : Hid (lay ps z = ([], 4)) := by
            show _ = _
            rw [HE.out, if_pos]
            cases hf : fits ps ss with
            | false => rfl
            | true =>
              have := SA.out hf
              rw [HGK.out] at this
              rcases this with h | h
              · exact absurd h hs
              · exact absurd h hpl
          clear hpl
          go_upto_region 9 with fail
          go_quiet (fail)
          go_wp2_with fail
          go_ret2
          refine (show LayPost w (lay ps z) _ _ from ?_)
          rw [HEE.out]
          exact ⟨_, rfl, OB.nil_ _ _, below_drewN BW.out nq⟩
    · obtain rfl : k = z.length := by omega
      have hk0 : ss.length = z.length := HN.out
      have hp0 : ps.length = z.length := HPL.out
      have HEE : Hid (lay ps z = (frontP ps ss z.length H ++ behindP ps ss z.length, 0)) := by
        show _ = _
        have hft := FT.out
        unfold fitsP at hft
        rw [List.take_of_length_le (by omega), List.take_of_length_le (by omega)] at hft
        rw [HE.out, if_neg (by simp [hft])]
        unfold frontP behindP laid
        rw [List.take_of_length_le (by omega), List.take_of_length_le (by omega), HHg.out]
      clear hk0 hp0
      generalize frontP ps ss z.length H = F at *
      generalize behindP ps ss z.length = G at *
      go_wp2_with (at_builtin; refine wpList_append_sl _ rfl _ _ 22 rfl w.heap.size 0 5 i0 (.int .u8 0) 1 Try.underlying22 hi hz0 hz1 hz2 rfl _ F.length _ rfl O1.out _ (G.map bv) rfl (Sl.lower (Sl.own O2.out) (Nat.zero_le _)) (bv_one G) ?c3 ?c4 hsz ?_)
      case c3 => rw [List.length_map]; unfold maxLen; omega
      case c4 => rw [List.length_map]; omega
      intro v2 w2 hown hgrow hmv
      have Q2 : Hid (OB w2 w.heap.size v2 (F ++ G)) := OB.mk hown (by simp) (by simp)
      have B2 : Hid (Below w.heap.size w w2) := BW.out.grown hgrow hsz (OB.row_ge O1.out)
      clear hown hgrow hmv O1 O2 AP BW
      go_wp2
      go_ret2
      refine (show LayPost w (lay ps z) _ _ from ?_)
      rw [HEE.out]
      exact ⟨v2, rfl, Q2.out, B2.out⟩

theorem RV.low0 {w : World} {B : Nat} {v : Value} {ls : List Bs} (h : RV w B v ls) : RV w 0 v ls := by
  obtain ⟨vs, h1, h2, h3⟩ := h
  exact ⟨vs, Sl.lower h1 (Nat.zero_le _), h2, fun j u l hu hl => Sl.lower (h3 j u l hu hl) (Nat.zero_le _)⟩
theorem lay_or (ps : List Bs) (z : List Int) : (lay ps z = ([], 1)) ∨ (lay ps z = ([], 4)) ∨ (sizesOk z = true ∧ fits ps (nats z) = true ∧ lay ps z = (laid ps (nats z), 0)) := by
  unfold lay
  by_cases h : sizesOk z = false ∨ ps.length ≠ z.length
  · rw [if_pos h]; exact .inl rfl
  · rw [if_neg h]
    by_cases h2 : fits ps (nats z) = false
    · rw [if_pos h2]; exact .inr (.inl rfl)
    · rw [if_neg h2]
      simp only [not_or, Bool.not_eq_false] at h h2
      exact .inr (.inr ⟨h.1, h2, rfl⟩)
theorem laid_le (ps : List Bs) (z : List Int) (h1 : sizesOk z = true) (h2 : fits ps (nats z) = true) : (laid ps (nats z)).length ≤ 4194304 + ps.flatten.length := by
  have := headLen_ok z h1
  have := behind_le ps (nats z)
  rw [laid, List.length_append, front_len ps _ _ h2]; omega
end Go.Proofs.Ytamfceklddbldaa
