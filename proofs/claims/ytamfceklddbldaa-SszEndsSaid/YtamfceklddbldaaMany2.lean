/- Contract of the reference's LayMany. -/
import Derived.Test.YtamfceklddbldaaMany1
namespace Go.Proofs.Ytamfceklddbldaa
open Go.RowKit

theorem four_int (n : Int) (w : World) (h0 : 0 ≤ n) (hn : n < 4611686018427387904) :
    Calls Try.prog 26 #[.int .i64 n] w fun e w' => e = .returned (.slice (some ⟨w.heap.size, 0, none⟩) 4 4) ∧ w' = w.alloc (.cells ((four n.toNat).map bv).toArray 5) := by
  obtain ⟨m, rfl⟩ := Int.eq_ofNat_of_zero_le h0
  exact four_any m w (by omega)
theorem sl_new (w : World) (l : List Value) (t : TypeId) (h : l.length ≤ maxLen) : Sl (w.alloc (.cells l.toArray t)) w.heap.size (.slice (some ⟨w.heap.size, 0, none⟩) l.length l.length) l :=
  ⟨_, _, rfl, Nat.le_refl _, h, fun _ => ⟨w.heap.size, 0, rfl, Nat.le_refl _, fun j u hu => by rw [Nat.zero_add, World.cell?_alloc_new]; simpa using hu⟩⟩
/-- Behind the reference's LayMany. -/
def RLaidPost (w : World) (l : Bs) (e : Ending) (w' : World) : Prop :=
  ∃ v', e = .returned v' ∧ OB w' w.heap.size v' l ∧ Below w.heap.size w w'
set_option maxHeartbeats 1600000 in
theorem rlayMany_any (v : Value) (ps : List Bs) (w : World) (h : RV w 0 v ps) (hl : (layMany ps).length < 4294967296) :
    Calls Try.prog 14 #[v] w (RLaidPost w (layMany ps)) := by
  obtain ⟨i0, hi, hz0, hz1, hz2⟩ := info_parts Try.info_u8
  have HP := Lib.hid h
  obtain ⟨A, c, rfl, h1, h2⟩ := h.form
  clear h
  unfold maxLen at h2
  rw [layMany_len] at hl
  have HF := Lib.hid (fronts_all ps)
  have hb := behinds_le ps
  have HB := Lib.hid hb
  clear hb
  generalize hN : ps.flatten.length = N at *
  clear hN
  go_enter Try.func14, Try.ntmps14
  go_wp2
  go_loopw [3, 4, 5] (fun f n i wr => ∃ k : Nat, k ≤ ps.length ∧ i = .int .i64 k ∧ OB wr w.heap.size f (fronts ps k (4 * ps.length)) ∧ n = .int .i64 (4 * (ps.length : Int) + ((behinds ps k).length : Int)) ∧ Below w.heap.size w wr) (fun _ _ i _ => ps.length - (intOf i).toNat)
  case atStart => exact ⟨0, Nat.zero_le _, rfl, World.ownsRow_nil _ _ _ _, by simp [behinds], Below.refl _ _⟩
  case round =>
    obtain ⟨k, hk, rfl, ho1, rfl, hbw⟩ := hrel
    have hsz := hbw.size
    have O1 := Lib.hid ho1
    have BW := Lib.hid hbw
    have hb := HB.out k
    have hfl := fronts_len ps k (4 * ps.length) hk
    have HFL := Lib.hid hfl
    clear hfl
    obtain ⟨A1, c1, rfl⟩ := ho1.form
    clear ho1 hbw
    by_cases hlt : k < ps.length
    · obtain ⟨b, off, rfl, _, hc⟩ := HP.out.at2 (by intro e; simp [e] at hlt)
      obtain ⟨u, hu, hbu⟩ := hc k hlt
      clear hc
      obtain ⟨Au, cu, rfl, hu1, hu2⟩ := hbu.form
      unfold maxLen at hu2
      clear hbu
      have hb1 := HB.out (k + 1)
      have S1 := Lib.hid (fronts_succ ps k (4 * ps.length) hlt)
      have e2 := behinds_succ ps k hlt
      rw [e2, List.length_append] at hb1
      have S2 := Lib.hid e2
      clear e2
      generalize ps.getD k [] = p at *
      generalize fronts ps k (4 * ps.length) = F at *
      generalize behinds ps k = G at *
      have hF : F.length ≤ 4 * ps.length := by have := HFL.out; omega
      have HU := Lib.hid hu
      clear hu
      go_wp2_with fail
      refine (four_int _ wr (by omega) (by omega)).mono ?_
      rintro e w1 ⟨rfl, rfl⟩
      have SL := Lib.hid (sl_new wr ((four (4 * (ps.length : Int) + (G.length : Int)).toNat).map bv) 5 (by simp [four_len, maxLen]))
      have O1' : Hid (OB (wr.alloc (.cells ((four (4 * (ps.length : Int) + (G.length : Int)).toNat).map bv).toArray 5)) w.heap.size (.slice A1 F.length c1) F) := World.ownsRow.alloc O1.out _
      have B1 : Hid (Below w.heap.size w (wr.alloc (.cells ((four (4 * (ps.length : Int) + (G.length : Int)).toNat).map bv).toArray 5))) := BW.out.alloc hsz _
      have hsz1 := B1.out.size
      rw [List.length_map, four_len] at SL
      rw [show (4 * (ps.length : Int) + (G.length : Int)).toNat = 4 * ps.length + G.length from by omega] at *
      generalize (wr.alloc (.cells ((four (4 * ps.length + G.length)).map bv).toArray 5)) = w1 at *
      clear O1
      go_wp2_with (at_builtin; refine wpList_append_sl _ rfl _ _ 22 rfl w.heap.size wr.heap.size 5 i0 (.int .u8 0) 1 Try.underlying22 hi hz0 hz1 hz2 rfl _ F.length _ rfl O1'.out _ ((four (4 * ps.length + G.length)).map bv) rfl SL.out (bv_one _) ?c3 ?c4 hsz1 ?_)
      case c3 => rw [List.length_map, four_len]; unfold maxLen; omega
      case c4 => rw [List.length_map, four_len]; omega
      intro v2 w2 hown hgrow _
      have Q1 : Hid (OB w2 w.heap.size v2 (F ++ four (4 * ps.length + G.length))) := OB.mk hown (by simp) (by simp)
      have B2 : Hid (Below w.heap.size w w2) := B1.out.grown hgrow hsz1 (OB.row_ge O1'.out)
      have hcell : w2.cell? ⟨b, off + k, none⟩ = some (.slice Au p.length cu) := by rw [B2.out.cell (p := ⟨b, off + k, none⟩) (blk_lt HU.out)]; exact HU.out
      clear hown hgrow O1' B1 SL HU
      go_wp2
      go_roundw
      case rel =>
        refine ⟨k + 1, by omega, by go_num, ?_, ?_, B2.out⟩
        · rw [S1.out]; exact Q1.out
        · rw [S2.out]; simp; omega
      case measure => simp [intOf]; omega
    · obtain rfl : k = ps.length := by omega
      generalize hF0 : fronts ps ps.length (4 * ps.length) = F at *
      have hF : F.length ≤ 4 * ps.length := by have := HFL.out; omega
      have HF0 := Lib.hid hF0
      clear hF0 hb
      go_wp2
      go_loopw [3, 6] (fun f i wq => ∃ k : Nat, k ≤ ps.length ∧ i = .int .i64 k ∧ OB wq w.heap.size f (F ++ behinds ps k) ∧ Below w.heap.size w wq) (fun _ i _ => ps.length - (intOf i).toNat)
      case atStart => exact ⟨0, Nat.zero_le _, rfl, by simpa [behinds] using O1.out, BW.out⟩
      case round =>
        clear O1 BW hsz
        obtain ⟨k, hk, rfl, ho1, hbw⟩ := hrel
        have hsz := hbw.size
        have O1 := Lib.hid ho1
        have BW := Lib.hid hbw
        have hb := HB.out k
        obtain ⟨A1, c1, rfl⟩ := ho1.form
        clear ho1 hbw
        by_cases hlt : k < ps.length
        · obtain ⟨b, off, rfl, _, hc⟩ := HP.out.at2 (by intro e; simp [e] at hlt)
          obtain ⟨u, hu, hbu⟩ := hc k hlt
          clear hc
          have hcell : wr.cell? ⟨b, off + k, none⟩ = some u := by rw [BW.out.cell (p := ⟨b, off + k, none⟩) (blk_lt hu)]; exact hu
          have HU := Lib.hid hbu
          clear hbu hu
          have hb1 := HB.out (k + 1)
          have e2 := behinds_succ ps k hlt
          rw [e2, List.length_append] at hb1
          have S2 := Lib.hid e2
          clear e2
          generalize ps.getD k [] = p at *
          generalize behinds ps k = G at *
          have SL : Hid (Sl wr 0 u (p.map bv)) := Sl.below HU.out BW.out (Nat.le_refl _)
          clear HU
          go_wp2_with (at_builtin; refine wpList_append_sl _ rfl _ _ 22 rfl w.heap.size 0 5 i0 (.int .u8 0) 1 Try.underlying22 hi hz0 hz1 hz2 rfl _ (F ++ G).length _ rfl O1.out _ (p.map bv) rfl SL.out (bv_one _) ?c3 ?c4 hsz ?_)
          case c3 => rw [List.length_map, List.length_append]; unfold maxLen; omega
          case c4 => rw [List.length_map, List.length_append]; omega
          intro v2 w2 hown hgrow _
          have Q1 : Hid (OB w2 w.heap.size v2 (F ++ (G ++ p))) := OB.mk hown (by simp; omega) (by simp)
          have B2 : Hid (Below w.heap.size w w2) := BW.out.grown hgrow hsz (fun k hk => OB.row_ge O1.out k (by rw [List.length_append]; exact hk))
          clear hown hgrow O1 BW SL
          go_wp2
          go_roundw
          case rel => exact ⟨k + 1, by omega, by go_num, by rw [S2.out]; exact Q1.out, B2.out⟩
          case measure => simp [intOf]; omega
        · obtain rfl : k = ps.length := by omega
          rw [HF.out] at O1 ⊢
          go_wp2
          go_ret
          exact ⟨_, rfl, O1.out, BW.out⟩
end Go.Proofs.Ytamfceklddbldaa
