/- 'wipe' of one list leaves another as it lay. -/
import Derived.Test.YtamfceklddbldaaWipe
import Derived.Deep.RegionHeld3
import Derived.Deep.DeepCutAuto
namespace Go.Proofs.Ytamfceklddbldaa
open Go.RowKit
/-- Behind a store into another list's row. -/
theorem RE.other {w : World} {B n c k M g n2 M2 : Nat} {x2 u : Value} {vs vs2 : List Value} (h2 : RE w B x2 n2 vs2 0 M2) (h : RE w B (.slice (some ⟨g, 0, none⟩) n c) n vs k M) (hap : Apart (.slice (some ⟨g, 0, none⟩) n c) x2) :
    RE (w.setCell ⟨g, k, none⟩ u) B x2 n2 vs2 0 M2 := by
  refine ⟨ownsRow_setCell_other h2.1 (fun e => hap g rfl e) _, fun j x hj => ?_⟩
  obtain ⟨m, h3, h4⟩ := h2.2 j x hj
  exact ⟨m, h3.setOther (fun e => h3.apart h.1 (by decide) g e rfl), h4⟩

set_option maxHeartbeats 1600000 in
set_option maxRecDepth 100000 in
theorem wipe2_any (v x2 : Value) (n B M n2 M2 : Nat) (vs vs2 : List Value) (w : World) (h : RE w B v n vs 0 M) (h2 : RE w B x2 n2 vs2 0 M2) (hap : Apart v x2) (hB : B ≤ w.heap.size) (hM : M ≤ 100000000) (hn : n ≤ 140737488355328) :
    Calls Try.prog 20 #[v] w fun e w' => WipePost w B e w' ∧ RE w' B x2 n2 vs2 0 M2 := by
  obtain ⟨i0, hi, hz0, hz1, hz2⟩ := info_parts Try.info_u8
  obtain ⟨A, c, rfl⟩ : ∃ A c, v = .slice A n c := by
    rcases h.1.2 with ⟨rfl, rfl⟩ | ⟨g, cap, cur, rfl, _⟩
    · exact ⟨_, _, rfl⟩
    · exact ⟨_, _, rfl⟩
  have H0 := Lib.hid h
  have S0 := Lib.hid h2
  have HAP := Lib.hid hap
  have HI := Lib.hid one_new
  clear h h2 hap
  go_enter Try.func20, Try.ntmps20
  go_wp2
  go_loopw [2] (fun i wr => ∃ k : Nat, k ≤ n ∧ i = .int .i64 k ∧ (∃ vs, RE wr B (.slice A n c) n vs k M) ∧ Below B w wr ∧ RE wr B x2 n2 vs2 0 M2) (fun i _ => n - (intOf i).toNat)
  case atStart => exact ⟨0, Nat.zero_le _, rfl, ⟨vs, H0.out⟩, Below.refl _ _, S0.out⟩
  case round =>
    obtain ⟨k, hk, rfl, ⟨us, hre⟩, hbw, hse⟩ := hrel
    have R := Lib.hid hre
    have BW := Lib.hid hbw
    have SW := Lib.hid hse
    clear hre hbw hse
    by_cases hlt : k < n
    · obtain ⟨g, A1, m, c1, rfl, hg, hu1, hu2, hu3, hu4, hu5, hu6⟩ := R.out.at k hlt
      have hmM := hu5 (Nat.le_refl _)
      have U1 := Lib.hid hu1
      have U4 := Lib.hid hu4
      have hki : (k : Int) < (n : Int) := by omega
      clear hu1 hu3 hu4 hu5
      go_wp2_with fail
      go_loopw [3] (fun j wq => ∃ q : Nat, q ≤ m ∧ j = .int .i64 q ∧ RE wq B (.slice (some ⟨g, 0, none⟩) n c) n us k M ∧ Below B w wq ∧ RE wq B x2 n2 vs2 0 M2) (fun j _ => m - (intOf j).toNat)
      case atStart => exact ⟨0, Nat.zero_le _, rfl, R.out, BW.out, SW.out⟩
      case round =>
        clear hu2 R BW U4 SW
        obtain ⟨q, hq, rfl, hre, hbw, hse⟩ := hrel
        have R := Lib.hid hre
        have BW := Lib.hid hbw
        have SW := Lib.hid hse
        clear hre hbw hse
        obtain ⟨g', A1', m', c1', e1, _, hv1, hv2, hv3, hv4, _, _⟩ := R.out.at k hlt
        injection e1 with e1
        injection e1 with e1 _ _
        subst e1
        rw [U1.out] at hv1
        injection hv1 with hv1
        injection hv1 with e1 e2 e3
        subst e1 e2 e3
        have U4 := Lib.hid hv4
        have U3 := Lib.hid hv3
        clear hv3 hv4
        by_cases hlt2 : q < m
        · obtain ⟨g2, b, rfl, hg2, hb1, hb2⟩ := U4.out.at q hlt2
          have hqi : (q : Int) < (m : Int) := by omega
          go_upto_region 6 with fail
          go_region
          obtain ⟨y, hy⟩ := not_fact b
          rw [hy]
          have R' : Hid (RE (wr.setCell ⟨g2, q, none⟩ (.int .u8 (y.toNat : Int))).drew B (.slice (some ⟨g, 0, none⟩) n c) n us k M) := R.out.byte U4.out y
          have BW' : Hid (Below B w (wr.setCell ⟨g2, q, none⟩ (.int .u8 (y.toNat : Int))).drew) := (BW.out.setCell (p := ⟨g2, q, none⟩) hg2 _).drew
          have SW' : Hid (RE (wr.setCell ⟨g2, q, none⟩ (.int .u8 (y.toNat : Int))).drew B x2 n2 vs2 0 M2) := SW.out.byte U4.out y
          generalize (wr.setCell ⟨g2, q, none⟩ (.int .u8 (y.toNat : Int))).drew = wd at *
          clear hy hb1 hb2 hv2 R BW U3 U4 SW
          go_wp2
          go_roundw
          case rel => exact ⟨q + 1, by omega, by go_num, R'.out, BW'.out, SW'.out⟩
          case measure => simp [intOf]; omega
        · obtain rfl : q = m := by omega
          have hsz : B ≤ wr.heap.size := Nat.le_trans hB BW.out.size
          have R1 : Hid (RE (wr.alloc (.cells #[.int .u8 7] 5)) B (.slice (some ⟨g, 0, none⟩) n c) n us k M) := R.out.alloc _
          have B1 : Hid (Below B w (wr.alloc (.cells #[.int .u8 7] 5))) := BW.out.alloc hsz _
          have S1 : Hid (RE (wr.alloc (.cells #[.int .u8 7] 5)) B x2 n2 vs2 0 M2) := SW.out.alloc _
          have U5 : Hid (EB (wr.alloc (.cells #[.int .u8 7] 5)) B (.slice A1 q c1) q) := U4.out.kept (World.grownBy_alloc wr _ none) (by cases (Value.slice A1 q c1).ownBlock <;> simp)
          have C7 : Hid ((wr.alloc (.cells #[.int .u8 7] 5)).cell? ⟨wr.heap.size, 0, none⟩ = some (bv 7)) := by
            show _ = _
            rw [World.cell?_alloc_new]; rfl
          go_wp2_with (at_builtin; refine wpList_append_one _ rfl _ _ 22 rfl B i0 (.int .u8 0) Try.underlying22 hi hz0 hz1 hz2 rfl _ q rfl U5.out ⟨wr.heap.size, 0, none⟩ 1 7 rfl C7.out ?c3 ?c4 ?_)
          case c3 => omega
          case c4 => first | omega | (simp; omega)
          intro v2 w2 hown hgrow hall
          obtain ⟨A3, c3', rfl, _, _⟩ := hown.form
          have R2 : Hid (RE w2 B (.slice (some ⟨g, 0, none⟩) n c) n us k M) := R1.out.app U5.out hgrow hall
          have S2 : Hid (RE w2 B x2 n2 vs2 0 M2) := S1.out.app U5.out hgrow hall
          have E2 := Lib.hid hown
          have hs1 : B ≤ (wr.alloc (.cells #[.int .u8 7] 5)).heap.size := by simp; omega
          have B2 : Hid (Below B w w2) := B1.out.grown hgrow hs1 (fun i hi => by
            obtain ⟨xs, h, _⟩ := U5.out
            exact (World.ownsRow.lt h i hi).1)
          obtain ⟨g', A2', m2', c2', e1, _, _, hx2, hx3, _⟩ := R2.out.at k hlt
          injection e1 with e1
          injection e1 with e1 _ _
          subst e1
          clear hown hgrow hall R R1 B1 U5 C7 BW hv2 U3 U4 S1 SW
          go_wp2
          obtain ⟨r3, r4⟩ := R2.out.elem E2.out
          have B3 : Hid (Below B w (w2.setCell ⟨g, k, none⟩ (.slice A3 (q + 1) c3'))) := B2.out.setCell (p := ⟨g, k, none⟩) hg _
          have S3 : Hid (RE (w2.setCell ⟨g, k, none⟩ (.slice A3 (q + 1) c3')) B x2 n2 vs2 0 M2) := S2.out.other R2.out HAP.out
          have R3 := Lib.hid r3
          clear r3 r4
          go_roundw
          case rel => exact ⟨k + 1, by omega, by go_num, ⟨_, R3.out⟩, B3.out, S3.out⟩
          case measure => simp [intOf]; omega
    · obtain rfl : k = n := by omega
      go_wp2
      go_end0
      exact ⟨⟨⟨_, rfl⟩, BW.out⟩, SW.out⟩
end Go.Proofs.Ytamfceklddbldaa
