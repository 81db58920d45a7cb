/- Contract of the program's Lay for parts of any length within the form's reach: it lays them, or answers an error. -/
import Derived.Test.YtamfceklddbldaaLay2
import Derived.Deep.DeepAppendWide
namespace Go.Proofs.Ytamfceklddbldaa
open Go.RowKit

/-- What Lay leaves, whatever the parts: an error, or the bytes, fewer than 2^32. -/
def LayAll (w : World) (ps : List Bs) (z : List Int) (e : Ending) (w' : World) : Prop :=
  ∃ r, LayPost w r e w' ∧ (r.2 ≠ 0 ∨ (r = (laid ps (nats z), 0) ∧ sizesOk z = true ∧ fits ps (nats z) = true ∧ (laid ps (nats z)).length ≤ 4294967295))
theorem add_none (b o j : Nat) : (⟨b, o, none⟩ : Addr).add j = ⟨b, o + j, none⟩ := by unfold Addr.add; split <;> simp_all
theorem LayAll.bad {w : World} {ps : List Bs} {z : List Int} {e : Ending} {w' : World} {n : Nat} (hn : n ≠ 0) (h : LayPost w ([], n) e w') : LayAll w ps z e w' := ⟨_, h, .inl hn⟩

set_option maxHeartbeats 3200000 in
set_option maxRecDepth 100000 in
theorem lay_all (v u : Value) (ps : List Bs) (z : List Int) (w : World) (h : RV w 0 v ps) (hz : IV w 0 u z) (hrow : ∀ k, (ps.getD k []).length ≤ 140737488351232) :
    Calls Try.prog 19 #[v, u] w (LayAll w ps z) := by
  obtain ⟨i0, hi, hz0, hz1, hz2⟩ := info_parts Try.info_u8
  have HP := Lib.hid h
  have HZ := Lib.hid hz
  have HH := Lib.hid (head_any u z w hz)
  obtain ⟨A, c, rfl, h1, h2⟩ := h.form
  obtain ⟨Az, cz, rfl, h3, h4⟩ := hz.form
  clear h hz
  unfold maxLen at h2 h4
  by_cases t1 : sizesOk z = false
  · have HF : Hid (headOf z = (0, false)) := by show _ = _; unfold headOf; rw [t1]; rfl
    rw [HF.out] at HH
    go_enter Try.func19, Try.ntmps19
    go_wp2_with fail
    refine HH.out.mono ?_
    rintro e w1 ⟨rfl, rfl⟩
    go_wp2_with fail
    go_ret2
    exact LayAll.bad (n := 1) (by decide) ⟨_, rfl, OB.nil_ _ _, Below.refl _ _⟩
  simp only [Bool.not_eq_false] at t1
  have HF : Hid (headOf z = ((headLen (nats z) : Int), true)) := by show _ = _; unfold headOf; rw [t1]; rfl
  rw [HF.out] at HH
  have hH := headLen_ok z t1
  obtain ⟨hl1, hl2⟩ := sizesOk_len z t1
  have HA := Lib.hid (sizesOk_at z t1)
  by_cases t2 : ¬ ps.length = z.length
  · have t2' : ((ps.length : Int) != (z.length : Int)) = true := by simp; omega
    clear t1 t2
    go_enter Try.func19, Try.ntmps19
    go_wp2_with fail
    refine HH.out.mono ?_
    rintro e w1 ⟨rfl, rfl⟩
    go_wp2_with fail
    go_ret2
    exact LayAll.bad (n := 1) (by decide) ⟨_, rfl, OB.nil_ _ _, Below.refl _ _⟩
  simp only [Decidable.not_not] at t2
  have HT : Hid (sizesOk z = true) := t1
  have t2' : ((ps.length : Int) != (z.length : Int)) = false := by simp [t2]
  have HPL := Lib.hid t2
  have HN := Lib.hid (nats_len z)
  have HNG := Lib.hid (nats_getD z)
  clear t1 t2
  have HAL : Hid (∀ e w', (∃ r, LayPost w r e w' ∧ (r.2 ≠ 0 ∨ (r = (laid ps (nats z), 0) ∧ fits ps (nats z) = true ∧ (laid ps (nats z)).length ≤ 4294967295))) → LayAll w ps z e w') := by
    rintro e w' ⟨r, h, h1 | ⟨h1, h2, h3⟩⟩
    · exact ⟨r, h, .inl h1⟩
    · exact ⟨r, h, .inr ⟨h1, HT.out, h2, h3⟩⟩
  clear HT
  generalize hss : nats z = ss at *
  clear hss
  generalize hHg : headLen ss = H at *
  have HHg := Lib.hid hHg
  clear hHg
  have HGL := Lib.hid hrow
  clear hrow
  have HFL : Hid (∀ k, fitsP ps ss k = true → (frontP ps ss k H).length ≤ H) := fun k hk => by have := frontP_len ps ss k H hk; rw [HHg.out] at this; exact this
  go_enter Try.func19, Try.ntmps19
  go_wp2_with fail
  refine HH.out.mono ?_
  rintro e w1 ⟨rfl, rfl⟩
  go_wp2_with fail
  go_loopw [8, 9, 28] (fun f g i wr => ∃ k : Nat, k ≤ z.length ∧ i = .int .i64 k ∧ OB wr w.heap.size f (frontP ps ss k H) ∧ (behindP ps ss k).length ≤ 140741783318527 ∧ (∃ A c, g = .slice A (behindP ps ss k).length c) ∧ ((OB wr w.heap.size g (behindP ps ss k) ∧ Apart f g) ∨ 4294967295 < (behindP ps ss k).length) ∧ fitsP ps ss k = true ∧ Below w.heap.size w wr) (fun _ _ i _ => z.length - (intOf i).toNat)
  case atStart => exact ⟨0, Nat.zero_le _, rfl, by simpa [frontP, front] using OB.nil_ _ _, by simp [behindP, behind], ⟨_, _, rfl⟩, .inl ⟨by simpa [behindP, behind] using OB.nil_ _ _, Apart.nil_ _⟩, by simp [fitsP, fits], Below.refl _ _⟩
  case round =>
    obtain ⟨k, hk, rfl, ho1, hG, ⟨A2, c2, rfl⟩, hmode, hft, hbw⟩ := hrel
    have hsz := hbw.size
    have O1 := Lib.hid ho1
    have BW := Lib.hid hbw
    have hF := HFL.out k hft
    have FT := Lib.hid hft
    obtain ⟨A1, c1, rfl⟩ := ho1.form
    have MD := Lib.hid hmode
    clear ho1 hmode hbw hft
    by_cases hlt : k < z.length
    · have hk1 : k < ps.length := by rw [HPL.out]; exact hlt
      have hk2 : k < ss.length := by rw [HN.out]; exact hlt
      obtain ⟨bz, oz, rfl, hc⟩ := HZ.out.at2 (by intro e; rw [e] at hlt; simp at hlt)
      have hck := hc k hlt
      clear hc
      have hcellz : wr.cell? ⟨bz, oz + k, none⟩ = some (.int .i64 (z.getD k 0)) := by rw [BW.out.cell (p := ⟨bz, oz + k, none⟩) (blk_lt hck)]; exact hck
      clear hck
      obtain ⟨b, off, rfl, _, hc⟩ := HP.out.at2 (by intro e; simp [e] at hk1)
      obtain ⟨x, hx, hbx⟩ := hc k hk1
      clear hc
      obtain ⟨Ax, cx, rfl, hx1, hx2⟩ := hbx.form
      unfold maxLen at hx2
      have hcell : wr.cell? ⟨b, off + k, none⟩ = some (.slice Ax (ps.getD k []).length cx) := by rw [BW.out.cell (p := ⟨b, off + k, none⟩) (blk_lt hx)]; exact hx
      have HX := Lib.hid hx
      have HBX := Lib.hid hbx
      clear hx hbx
      obtain ⟨hs1, hs2⟩ := HA.out k hlt
      have HGK := Lib.hid (HNG.out k hlt)
      have SF := Lib.hid (frontP_succ ps ss k H hk1 hk2)
      have SB := Lib.hid (behindP_succ ps ss k hk1 hk2)
      have ST := Lib.hid (fitsP_succ ps ss k hk1 hk2)
      have SA := Lib.hid (fun h => fits_at ps ss h k hk2)
      have hp := HGL.out k
      have hki : (k : Int) < (ps.length : Int) := by omega
      generalize z.getD k 0 = s at *
      generalize ps.getD k [] = p at *
      generalize frontP ps ss k H = F at *
      generalize behindP ps ss k = G at *
      clear hk1 hk2
      obtain ⟨sn, rfl⟩ := Int.eq_ofNat_of_zero_le hs1
      rw [Int.toNat_natCast] at HGK
      by_cases hs : sn = 0
      · subst hs
        by_cases hbig : (4294967295 : Int) < (H : Int) + (G.length : Int)
        · have hbig' := eq_true hbig
          clear MD
          go_wp2_with fail
          go_ret2
          exact LayAll.bad (n := 1) (by decide) ⟨_, rfl, OB.nil_ _ _, BW.out⟩
        have hbig' := eq_false hbig
        go_wp2_with fail
        refine (put_int _ F _ w.heap.size wr (by omega) (by omega) O1.out hsz (by omega)).mono ?_
        rintro e w1 ⟨v1, rfl, o1, g1, m1⟩
        have B1 : Hid (Below w.heap.size w w1) := BW.out.grown g1 hsz (OB.row_ge O1.out)
        obtain ⟨O2, AP⟩ : Hid (OB wr w.heap.size (.slice A2 G.length c2) G) ∧ Hid (Apart (.slice A1 F.length c1) (.slice A2 G.length c2)) := by
          rcases MD.out with ⟨h1, h2⟩ | h
          · exact ⟨h1, h2⟩
          · omega
        have P2 : Hid (OB w1 w.heap.size (.slice A2 G.length c2) G) := AP.out.kept O2.out g1
        have AP1 : Hid (Apart v1 (.slice A2 G.length c2)) := AP.out.moves O2.out m1
        have O1' := Lib.hid o1
        have hsz1 := B1.out.size
        have hcell1 : w1.cell? ⟨b, off + k, none⟩ = some (.slice Ax p.length cx) := by rw [B1.out.cell (p := ⟨b, off + k, none⟩) (blk_lt HX.out)]; exact HX.out
        clear o1 g1 m1 O1 O2 AP MD
        by_cases hw : G.length + p.length ≤ 140737488355328
        · skip
          go_wp2_with (at_builtin; refine wpList_append_sl _ rfl _ _ 22 rfl w.heap.size 0 5 i0 (.int .u8 0) 1 Try.underlying22 hi hz0 hz1 hz2 rfl _ G.length _ rfl P2.out _ (p.map bv) rfl (Sl.below HBX.out B1.out (Nat.le_refl _)) (bv_one p) ?c3 ?c4 hsz1 ?_)
          case c3 => rw [List.length_map]; unfold maxLen; omega
          case c4 => rw [List.length_map]; omega
          intro v2 w2 hown hgrow hmv
          have Q2 : Hid (OB w2 w.heap.size v2 (G ++ p)) := OB.mk hown (by simp) (by simp)
          have Q1 : Hid (OB w2 w.heap.size v1 (F ++ four ((H : Int) + (G.length : Int)).toNat)) := AP1.out.symm.kept O1'.out hgrow
          have AP2 : Hid (Apart v1 v2) := (AP1.out.symm.moves O1'.out hmv).symm
          have B2 : Hid (Below w.heap.size w w2) := B1.out.grown hgrow hsz1 (OB.row_ge P2.out)
          clear hown hgrow hmv P2 O1' AP1 B1
          go_wp2
          go_roundw
          case rel =>
            refine ⟨k + 1, by omega, by go_num, ?_, ?_, ?_, .inl ⟨?_, AP2.out⟩, ?_, B2.out⟩
            · rw [SF.out, HGK.out, if_pos rfl]
              have := Q1.out
              rwa [show ((H : Int) + (G.length : Int)).toNat = H + G.length from by omega] at this
            · rw [SB.out, HGK.out, if_pos rfl, List.length_append]; omega
            · rw [SB.out, HGK.out, if_pos rfl]; exact Q2.out.form
            · rw [SB.out, HGK.out, if_pos rfl]; exact Q2.out
            · rw [ST.out, FT.out, HGK.out]; rfl
          case measure => simp [intOf]; omega
        · have hpn : p ≠ [] := by intro e; subst e; simp at hw; omega
          obtain ⟨bx, ox, cx2, ex, _, _, _, hcx⟩ := Sl.at_ (Sl.below HBX.out B1.out (Nat.le_refl _)) (by simpa using hpn)
          injection ex with ex1 ex2 ex3
          subst ex1 ex3
          have HCX : Hid (∀ j u, (p.map bv)[j]? = some u → w1.cell? ((⟨bx, ox, none⟩ : Addr).add j) = some u) := by
            intro j u hu
            rw [add_none]
            exact hcx j u hu
          clear hcx ex2
          go_wp2_with (at_builtin; refine wpList_append_own_wide _ rfl _ _ 22 rfl w.heap.size 5 i0 (.int .u8 0) 1 1 Try.underlying22 hi hz0 hz1 hz2 rfl (by omega) _ G.length _ rfl P2.out ⟨bx, ox, none⟩ p.length cx (p.map bv) rfl (by simp) HCX.out (bv_one p) ?c3 ?c4 hsz1 ?_)
          case c3 => unfold maxLen; omega
          case c4 => omega
          intro v2 w2 hown hgrow _
          obtain ⟨A3, c3, rfl⟩ := (OB.mk (l := G ++ p) hown (by simp) (by simp)).form
          have Q1 : Hid (OB w2 w.heap.size v1 (F ++ four ((H : Int) + (G.length : Int)).toNat)) := AP1.out.symm.kept O1'.out hgrow
          have B2 : Hid (Below w.heap.size w w2) := B1.out.grown hgrow hsz1 (OB.row_ge P2.out)
          clear hown hgrow P2 O1' AP1 B1 HCX
          go_wp2
          go_roundw
          case rel =>
            refine ⟨k + 1, by omega, by go_num, ?_, ?_, ⟨A3, c3, ?_⟩, .inr ?_, ?_, B2.out⟩
            · rw [SF.out, HGK.out, if_pos rfl]
              have := Q1.out
              rwa [show ((H : Int) + (G.length : Int)).toNat = H + G.length from by omega] at this
            · rw [SB.out, HGK.out, if_pos rfl, List.length_append]; omega
            · rw [SB.out, HGK.out, if_pos rfl]
            · rw [SB.out, HGK.out, if_pos rfl, List.length_append]; omega
            · rw [ST.out, FT.out, HGK.out]; rfl
          case measure => simp [intOf]; omega
      · have hs' : ((sn : Int) != 0) = true := by simp; omega
        have hs'' : ((sn : Int) == 0) = false := by simp; omega
        by_cases hpl : p.length = sn
        · have hpl' : ((p.length : Int) != (sn : Int)) = false := by simp [hpl]
          have HPN := Lib.hid hpl
          clear hpl
          go_wp2_with (at_builtin; refine wpList_append_sl _ rfl _ _ 22 rfl w.heap.size 0 5 i0 (.int .u8 0) 1 Try.underlying22 hi hz0 hz1 hz2 rfl _ F.length _ rfl O1.out _ (p.map bv) rfl (Sl.below HBX.out BW.out (Nat.le_refl _)) (bv_one p) ?c3 ?c4 hsz ?_)
          case c3 => have := HPN.out; rw [List.length_map]; unfold maxLen; omega
          case c4 => have := HPN.out; rw [List.length_map]; omega
          intro v2 w2 hown hgrow hmv
          have Q2 : Hid (OB w2 w.heap.size v2 (F ++ p)) := OB.mk hown (by simp) (by simp)
          have MD2 : Hid ((OB w2 w.heap.size (.slice A2 G.length c2) G ∧ Apart v2 (.slice A2 G.length c2)) ∨ 4294967295 < G.length) := by
            rcases MD.out with ⟨h1, h2⟩ | h
            · exact .inl ⟨h2.kept h1 hgrow, h2.moves h1 hmv⟩
            · exact .inr h
          have B2 : Hid (Below w.heap.size w w2) := BW.out.grown hgrow hsz (OB.row_ge O1.out)
          clear hown hgrow hmv O1 MD
          go_wp2
          go_roundw
          case rel =>
            refine ⟨k + 1, by omega, by go_num, ?_, ?_, ?_, ?_, ?_, B2.out⟩
            · rw [SF.out, HGK.out, if_neg hs]; exact Q2.out
            · rw [SB.out, HGK.out, if_neg hs, List.append_nil]; exact hG
            · rw [SB.out, HGK.out, if_neg hs, List.append_nil]; exact ⟨_, _, rfl⟩
            · rw [SB.out, HGK.out, if_neg hs, List.append_nil]; exact MD2.out
            · rw [ST.out, FT.out, HGK.out, HPN.out]; simp
          case measure => simp [intOf]; omega
        · have hpl' : ((p.length : Int) != (sn : Int)) = true := by simp; omega
          clear hpl
          go_wp2_with fail
          go_ret2
          exact LayAll.bad (n := 4) (by decide) ⟨_, rfl, OB.nil_ _ _, BW.out⟩
    · obtain rfl : k = z.length := by omega
      have hk0 : ss.length = z.length := HN.out
      have hp0 : ps.length = z.length := HPL.out
      have HEE : Hid (laid ps ss = frontP ps ss z.length H ++ behindP ps ss z.length ∧ fits ps ss = true) := by
        have hft := FT.out
        unfold fitsP at hft
        rw [List.take_of_length_le (by omega), List.take_of_length_le (by omega)] at hft
        refine ⟨?_, hft⟩
        unfold frontP behindP laid
        rw [List.take_of_length_le (by omega), List.take_of_length_le (by omega), HHg.out]
      clear hk0 hp0
      generalize frontP ps ss z.length H = F at *
      generalize behindP ps ss z.length = G at *
      by_cases hbig : (4294967295 : Int) < (F.length : Int) + (G.length : Int)
      · have hbig' := eq_true hbig
        clear MD
        go_wp2_with fail
        go_ret2
        exact LayAll.bad (n := 1) (by decide) ⟨_, rfl, OB.nil_ _ _, BW.out⟩
      have hbig' := eq_false hbig
      obtain ⟨O2, AP⟩ : Hid (OB wr w.heap.size (.slice A2 G.length c2) G) ∧ Hid (Apart (.slice A1 F.length c1) (.slice A2 G.length c2)) := by
        rcases MD.out with ⟨h1, h2⟩ | h
        · exact ⟨h1, h2⟩
        · omega
      clear MD
      go_wp2_with (at_builtin; refine wpList_append_sl _ rfl _ _ 22 rfl w.heap.size 0 5 i0 (.int .u8 0) 1 Try.underlying22 hi hz0 hz1 hz2 rfl _ F.length _ rfl O1.out _ (G.map bv) rfl (Sl.lower (Sl.own O2.out) (Nat.zero_le _)) (bv_one G) ?c3 ?c4 hsz ?_)
      case c3 => unfold maxLen; omega
      case c4 => omega
      intro v2 w2 hown hgrow hmv
      have Q2 : Hid (OB w2 w.heap.size v2 (F ++ G)) := OB.mk hown (by simp) (by simp)
      have B2 : Hid (Below w.heap.size w w2) := BW.out.grown hgrow hsz (OB.row_ge O1.out)
      clear hown hgrow hmv O1 O2 AP BW
      go_wp2
      go_ret2
      refine HAL.out _ _ ⟨(laid ps ss, 0), ?_, .inr ⟨rfl, HEE.out.2, ?_⟩⟩
      · rw [HEE.out.1]
        exact ⟨v2, rfl, Q2.out, B2.out⟩
      · rw [HEE.out.1, List.length_append]; omega
end Go.Proofs.Ytamfceklddbldaa
