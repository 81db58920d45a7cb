/- Contract of state.Right: it answers. -/
import Derived.Test.YtfagmjlgpfnniaaDoorRight
namespace Go.Proofs.YtfagmjlgpfnniaaDoor
open Go.RowKit

structure RL (w : World) (X : List Value) (wr : World) : Prop where
  below : Below w.heap.size w wr
  box : Blk wr w.heap.size 49 X
set_option maxHeartbeats 6400000 in
set_option maxRecDepth 100000 in
theorem right_any (X : List Value) (D : SD) (E : SD2) (w : World) (st : St w X D) (rs : RS w X D E) :
    Calls Tryd.prog 6 #[.agg X.toArray] w (SomeBoolB w) := by
  have HST := Lib.hid st
  have HRS := Lib.hid rs
  have bx := Lib.hid (Blk.new w 49 X)
  have b0 := Lib.hid ((Below.refl _ w).alloc (Nat.le_refl _) (.cells X.toArray 49))
  obtain ⟨w0, hw0⟩ : ∃ w0, w0 = w.alloc (.cells X.toArray 49) := ⟨_, rfl⟩
  have W0 := Lib.hid hw0
  have K0 := Lib.hid (show Blk w0 w.heap.size 49 X by rw [hw0]; exact bx.out)
  have N0 := Lib.hid (show RL w X w0 from ⟨by rw [hw0]; exact b0.out, K0.out⟩)
  have ln : (D.nv : Int) ≤ 9223372036854775807 := by have h1 := st.cap; have h2 := st.capl; unfold maxLen at h2; omega
  have lsl := st.slotl
  obtain ⟨sl, hsl⟩ : ∃ sl, sl = D.slot := ⟨_, rfl⟩
  rw [← hsl] at lsl
  have c721 : w0.cell? ⟨w.heap.size, 721, none⟩ = some (.slice D.A D.nv D.vcap) := by rw [K0.out.cell]; exact st.vals
  have c722 : w0.cell? ⟨w.heap.size, 722, none⟩ = some (.slice E.bA E.nb E.bc) := by rw [K0.out.cell]; exact rs.bal
  have c987 : w0.cell? ⟨w.heap.size, 987, none⟩ = some (.slice E.pA E.np E.pc) := by rw [K0.out.cell]; exact rs.prev
  have c988 : w0.cell? ⟨w.heap.size, 988, none⟩ = some (.slice E.uA E.nu E.uc) := by rw [K0.out.cell]; exact rs.cur
  have c1092 : w0.cell? ⟨w.heap.size, 1092, none⟩ = some (.slice E.sA E.ns E.sc) := by rw [K0.out.cell]; exact rs.sco
  have c653 : w0.cell? ⟨w.heap.size, 653, none⟩ = some (.slice E.hA E.nh E.hc) := by rw [K0.out.cell]; exact rs.his
  have c719 : w0.cell? ⟨w.heap.size, 719, none⟩ = some (.slice E.wA E.nw E.wc) := by rw [K0.out.cell]; exact rs.vot
  have c33 : w0.cell? ⟨w.heap.size, 33, none⟩ = some (.int .u64 (sl : Nat)) := by rw [K0.out.cell]; exact (by rw [hsl]; exact st.slot)
  have c720 : w0.cell? ⟨w.heap.size, 720, none⟩ = some (.int .u64 (E.dep : Nat)) := by rw [K0.out.cell]; exact rs.dep
  have c43 : w0.cell? ⟨w.heap.size, 43, none⟩ = some (.int .u64 (E.hs : Nat)) := by rw [K0.out.cell]; exact rs.hs
  have HSL := Lib.hid hsl
  have ldep := rs.depl
  have lhs := rs.hsl
  clear st rs hw0 hsl
  go_enter Tryd.func6, Tryd.ntmps6
  go_upto_region 1 with fail
  rw [← W0.out]
  by_cases h0 : 65536 < D.nv
  · have d0 : decide ((65536 : Int) < (D.nv : Int)) = true := by simp; omega
    have e0 : decide (65536 < D.nv) = true := by simp; omega
    clear h0
    go_wp2
    go_ret
    exact ⟨⟨_, rfl⟩, N0.out.below⟩
  have d0 : decide ((65536 : Int) < (D.nv : Int)) = false := by simp; omega
  have e0 : decide (65536 < D.nv) = false := by simp; omega
  have H0 := Lib.hid h0
  clear h0
  by_cases h1 : ¬ E.nb = D.nv
  · have d1 : ((E.nb : Int) != (D.nv : Int)) = true := by simp; omega
    clear h1
    go_wp2
    go_ret
    exact ⟨⟨_, rfl⟩, N0.out.below⟩
  have d1 : ((E.nb : Int) != (D.nv : Int)) = false := by simp; omega
  have H1 := Lib.hid h1
  clear h1
  by_cases h2 : ¬ E.np = D.nv
  · have d2 : ((E.np : Int) != (D.nv : Int)) = true := by simp; omega
    clear h2
    go_wp2
    go_ret
    exact ⟨⟨_, rfl⟩, N0.out.below⟩
  have d2 : ((E.np : Int) != (D.nv : Int)) = false := by simp; omega
  have H2 := Lib.hid h2
  clear h2
  by_cases h3 : ¬ E.nu = D.nv
  · have d3 : ((E.nu : Int) != (D.nv : Int)) = true := by simp; omega
    clear h3
    go_wp2
    go_ret
    exact ⟨⟨_, rfl⟩, N0.out.below⟩
  have d3 : ((E.nu : Int) != (D.nv : Int)) = false := by simp; omega
  have H3 := Lib.hid h3
  clear h3
  by_cases h4 : ¬ E.ns = D.nv
  · have d4 : ((E.ns : Int) != (D.nv : Int)) = true := by simp; omega
    clear h4
    go_wp2
    go_ret
    exact ⟨⟨_, rfl⟩, N0.out.below⟩
  have d4 : ((E.ns : Int) != (D.nv : Int)) = false := by simp; omega
  have H4 := Lib.hid h4
  clear h4
  by_cases h5 : 1024 < E.nh
  · have d5 : decide ((1024 : Int) < (E.nh : Int)) = true := by simp; omega
    have e5 : decide (1024 < E.nh) = true := by simp; omega
    clear h5
    go_wp2
    go_ret
    exact ⟨⟨_, rfl⟩, N0.out.below⟩
  have d5 : decide ((1024 : Int) < (E.nh : Int)) = false := by simp; omega
  have e5 : decide (1024 < E.nh) = false := by simp; omega
  have H5 := Lib.hid h5
  clear h5
  by_cases h6 : 8 < E.nw
  · have d6 : decide ((8 : Int) < (E.nw : Int)) = true := by simp; omega
    have e6 : decide (8 < E.nw) = true := by simp; omega
    clear h6
    go_wp2
    go_ret
    exact ⟨⟨_, rfl⟩, N0.out.below⟩
  have d6 : decide ((8 : Int) < (E.nw : Int)) = false := by simp; omega
  have e6 : decide (8 < E.nw) = false := by simp; omega
  have H6 := Lib.hid h6
  clear h6
  by_cases h7 : 1099511627776 ≤ sl
  · have d7 : decide ((1099511627776 : Int) ≤ (sl : Int)) = true := by simp; omega
    have e7 : decide (1099511627776 ≤ sl) = true := by simp; omega
    clear h7
    go_wp2
    go_ret
    exact ⟨⟨_, rfl⟩, N0.out.below⟩
  have d7 : decide ((1099511627776 : Int) ≤ (sl : Int)) = false := by simp; omega
  have e7 : decide (1099511627776 ≤ sl) = false := by simp; omega
  have H7 := Lib.hid h7
  clear h7
  by_cases h8 : 1099511627776 ≤ E.dep
  · have d8 : decide ((1099511627776 : Int) ≤ (E.dep : Int)) = true := by simp; omega
    have e8 : decide (1099511627776 ≤ E.dep) = true := by simp; omega
    clear h8
    go_wp2
    go_ret
    exact ⟨⟨_, rfl⟩, N0.out.below⟩
  have d8 : decide ((1099511627776 : Int) ≤ (E.dep : Int)) = false := by simp; omega
  have e8 : decide (1099511627776 ≤ E.dep) = false := by simp; omega
  have H8 := Lib.hid h8
  clear h8
  by_cases h9 : sl < E.hs
  · have d9 : decide ((sl : Int) < (E.hs : Int)) = true := by simp; omega
    have e9 : decide (sl < E.hs) = true := by simp; omega
    clear h9
    go_wp2
    go_ret
    exact ⟨⟨_, rfl⟩, N0.out.below⟩
  have d9 : decide ((sl : Int) < (E.hs : Int)) = false := by simp; omega
  have e9 : decide (sl < E.hs) = false := by simp; omega
  have H9 := Lib.hid h9
  clear h9
  obtain ⟨q4, hq4⟩ : ∃ q, q = sl / 4 := ⟨_, rfl⟩
  have e4 : (sl : Int) / 4 = (q4 : Int) := by omega
  clear hq4
  go_upto_region 7 with fail
  clear c722 c987 c988 c1092 c653 c719 c33 c720 c43 d0 e0 d1 d2 d3 d4 d5 e5 d6 e6 d7 e7 d8 e8 d9 e9 e4 c721
  have lX := Lib.hid HST.out.len
  obtain ⟨LA, hLA⟩ : ∃ L, L = vals (XF X 993) 33 := ⟨_, rfl⟩
  obtain ⟨LB, hLB⟩ : ∃ L, L = vals (XF X 1026) 33 := ⟨_, rfl⟩
  obtain ⟨LC, hLC⟩ : ∃ L, L = vals (XF X 1059) 33 := ⟨_, rfl⟩
  obtain ⟨LZ, hLZ⟩ : ∃ L, L = vals (fz (XF X 993) (XF X 1026) (XF X 1059)) 99 := ⟨_, rfl⟩
  have RA := Lib.hid (show w0.rangeAt w.heap.size 993 LA by rw [hLA]; exact XF_range K0.out 993 33 (by rw [lX.out]; omega))
  have RB := Lib.hid (show w0.rangeAt w.heap.size 1026 LB by rw [hLB]; exact XF_range K0.out 1026 33 (by rw [lX.out]; omega))
  have RC := Lib.hid (show w0.rangeAt w.heap.size 1059 LC by rw [hLC]; exact XF_range K0.out 1059 33 (by rw [lX.out]; omega))
  have VA := Lib.hid (show (Tryd.prog.info? 42).map (·.size) = some LA.length by rw [hLA, vals_length]; exact Tryd.size_cp)
  have VB := Lib.hid (show (Tryd.prog.info? 42).map (·.size) = some LB.length by rw [hLB, vals_length]; exact Tryd.size_cp)
  have VC := Lib.hid (show (Tryd.prog.info? 42).map (·.size) = some LC.length by rw [hLC, vals_length]; exact Tryd.size_cp)
  have BL := Lib.hid (show Tryd.prog.built 71 [(0, .agg LA.toArray), (1, .agg LB.toArray), (2, .agg LC.toArray)] = some LZ.toArray by rw [hLA, hLB, hLC, hLZ]; exact Tryd.built_cps (XF X 993) (XF X 1026) (XF X 1059))
  have HZ := Lib.hid hLZ
  clear hLA hLB hLC hLZ
  go_wp2_with (first | (with_reducible refine wpList_load_mid rfl _ _ rfl w.heap.size 993 rfl _ _ RA.out Tryd.underlying42 rfl VA.out ?_) | (with_reducible refine wpList_load_mid rfl _ _ rfl w.heap.size 1026 rfl _ _ RB.out Tryd.underlying42 rfl VB.out ?_) | (with_reducible refine wpList_load_mid rfl _ _ rfl w.heap.size 1059 rfl _ _ RC.out Tryd.underlying42 rfl VC.out ?_) | ((with_reducible refine wpList_build_list rfl 71 _ rfl _ _ ?hl BL.out ?_); case hl => rfl))
  go_loopw [84] (fun k wr => ∃ j : Nat, j ≤ 3 ∧ k = .int .i64 (j : Nat) ∧ RL w X wr) (fun k _ => 3 - (intOf k).toNat)
  case atStart => exact ⟨0, Nat.zero_le _, rfl, N0.out⟩
  case round =>
    obtain ⟨j, hj, rfl, hr⟩ := hrel
    have HR := Lib.hid hr
    clear hr
    by_cases hlt : j < 3
    · have hidx : ∀ w, (Instr.index 71 (.agg LZ.toArray) (.int .i64 (j : Nat))).run Tryd.prog w = .ok (.agg (vals (XF X (993 + 33 * j)) 33).toArray) w := by
        intro w
        rw [HZ.out]
        clear RA RB RC BL
        rcases j with _ | _ | _ | j <;> first | (exfalso; omega) | kernel_rfl
      have ZN := Blk.new wr 42 zero33
      have ON := Lib.hid (XF_one HST.out.one (993 + 33 * j) 33 (by rw [lX.out]; omega))
      have LN := Lib.hid (vals_length (XF X (993 + 33 * j)) 33)
      go_upto_region 10 with (with_reducible refine wpList_store_blk rfl _ _ _ rfl _ _ rfl rfl _ _ ZN 33 Tryd.size_cp rfl LN.out ON.out ?_; intro w5 ho5 hb5 hz5; have O5 := Lib.hid ho5; have K5 := Lib.hid hb5; clear ho5 hb5 hz5 ZN)
      have c0 : w5.cell? ⟨wr.heap.size, 0, none⟩ = some (.int .u64 (E.ep j : Nat)) := by
        rw [K5.out.cell, vals_get _ _ _ (by omega), XF_at (by rw [Nat.add_zero]; exact HRS.out.ep j hlt)]
      have le := HRS.out.epl j
      obtain ⟨x, hx⟩ : ∃ x, x = E.ep j := ⟨_, rfl⟩
      rw [← hx] at c0 le
      clear hx hidx
      have R5 := Lib.hid (show RL w X w5 from by
        have b1 := (HR.out.below.alloc HR.out.below.size (.cells zero33.toArray 42)).trans (O5.out.below (by have := HR.out.below.size; simp; omega) HR.out.below.size)
        exact ⟨b1, (HR.out.box.alloc _).only O5.out (by have := HR.out.box.lt; omega)⟩)
      by_cases hq : q4 < x
      · have d1 : decide (q4 < x) = true := by simp [hq]
        have d2 : decide ((q4 : Int) < (x : Int)) = true := by simp; omega
        go_wp2
        go_ret
        exact ⟨⟨_, rfl⟩, R5.out.below⟩
      · have d1 : decide (q4 < x) = false := by simp; omega
        have d2 : decide ((q4 : Int) < (x : Int)) = false := by simp; omega
        go_wp2
        go_roundw
        case rel => exact ⟨j + 1, by omega, by go_num, R5.out⟩
        case measure => simp [intOf]; omega
    · obtain rfl : j = 3 := by omega
      have c721 : wr.cell? ⟨w.heap.size, 721, none⟩ = some (.slice D.A D.nv D.vcap) := by rw [HR.out.box.cell]; exact HST.out.vals
      clear RA RB RC BL VA VB VC
      have z60 : ∀ w, (zeroValue 60).run Tryd.prog w = .ok (.agg zero86.toArray) w := (zero_of_info (n := 86) (by kernel_rfl)).1
      go_wp2
      clear c721
      have NR1 := Lib.hid HR.out
      obtain ⟨w1, hw1⟩ : ∃ w1, w1 = wr := ⟨_, rfl⟩
      rw [← hw1] at NR1 ⊢
      clear HR hw1
      go_loopw [95] (fun k wr => ∃ j : Nat, j ≤ D.nv ∧ k = .int .i64 (j : Nat) ∧ RL w X wr) (fun k _ => D.nv - (intOf k).toNat)
      case atStart => exact ⟨0, Nat.zero_le _, rfl, NR1.out⟩
      case round =>
        obtain ⟨j, hj, rfl, hr⟩ := hrel
        have HR := Lib.hid hr
        clear hr
        by_cases hlt2 : j < D.nv
        · obtain ⟨vA, hvA⟩ : ∃ A, A = D.A := ⟨_, rfl⟩
          have hA := HST.out.addr (by omega)
          rw [hA]
          have hv := (HST.out.vc j hlt2).below HR.out.below (Nat.le_refl _)
          have RNG := Lib.hid hv.row
          have LK := Lib.hid (show (Tryd.prog.info? 60).map (·.size) = some (D.val j).length by rw [hv.len]; exact Tryd.size_val)
          have VL := Lib.hid hv.len
          have VO := Lib.hid hv.one
          have ZN := Blk.new wr 60 zero86
          clear hvA hA hv
          go_upto_region 16 with (first | (with_reducible refine wpList_load_mid rfl _ _ rfl D.vb (D.vo + j * 86) rfl _ _ RNG.out Tryd.underlying60 rfl LK.out ?_) | (with_reducible refine wpList_store_blk rfl _ _ _ rfl _ _ rfl rfl _ _ ZN 86 Tryd.size_val rfl VL.out VO.out ?_; intro w5 ho5 hb5 hz5; have O5 := Lib.hid ho5; have K5 := Lib.hid hb5; clear ho5 hb5 hz5 ZN))
          have R5 := Lib.hid (show RL w X w5 from by
            have b1 := (HR.out.below.alloc HR.out.below.size (.cells zero86.toArray 60)).trans (O5.out.below (by have := HR.out.below.size; simp; omega) HR.out.below.size)
            exact ⟨b1, (HR.out.box.alloc _).only O5.out (by have := HR.out.box.lt; omega)⟩)
          have hv := HST.out.vc j hlt2
          have c80 : w5.cell? ⟨wr.heap.size, 80, none⟩ = some (.int .u64 (D.eff j : Nat)) := by rw [K5.out.cell]; exact hv.eff'
          have c82 : w5.cell? ⟨wr.heap.size, 82, none⟩ = some (.int .u64 (E.eli j : Nat)) := by rw [K5.out.cell]; exact HRS.out.eli j hlt2
          have c83 : w5.cell? ⟨wr.heap.size, 83, none⟩ = some (.int .u64 (D.act j : Nat)) := by rw [K5.out.cell]; exact hv.act'
          have c84 : w5.cell? ⟨wr.heap.size, 84, none⟩ = some (.int .u64 (D.ext j : Nat)) := by rw [K5.out.cell]; exact hv.ext'
          have c85 : w5.cell? ⟨wr.heap.size, 85, none⟩ = some (.int .u64 (E.wit j : Nat)) := by rw [K5.out.cell]; exact HRS.out.wit j hlt2
          have l80 := HST.out.effl j
          have l82 := HRS.out.elil j
          have l83 := HST.out.actl j
          have l84 := HST.out.extl j
          have l85 := HRS.out.witl j
          obtain ⟨ef, hef⟩ : ∃ y, y = D.eff j := ⟨_, rfl⟩
          obtain ⟨y0, hy0⟩ : ∃ y, y = E.eli j := ⟨_, rfl⟩
          obtain ⟨y1, hy1⟩ : ∃ y, y = D.act j := ⟨_, rfl⟩
          obtain ⟨y2, hy2⟩ : ∃ y, y = D.ext j := ⟨_, rfl⟩
          obtain ⟨y3, hy3⟩ : ∃ y, y = E.wit j := ⟨_, rfl⟩
          rw [← hef] at c80 l80
          rw [← hy0] at c82 l82
          rw [← hy1] at c83 l83
          rw [← hy2] at c84 l84
          rw [← hy3] at c85 l85
          clear hv hef hy0 hy1 hy2 hy3
          by_cases h1 : 32000000000 < ef
          · have d1 : decide (32000000000 < ef) = true := by simp [h1]
            have d2 : decide ((32000000000 : Int) < (ef : Int)) = true := by simp; omega
            go_wp2
            go_ret
            exact ⟨⟨_, rfl⟩, R5.out.below⟩
          · have d1 : decide (32000000000 < ef) = false := by simp; omega
            have d2 : decide ((32000000000 : Int) < (ef : Int)) = false := by simp; omega
            obtain ⟨em, hem⟩ : ∃ m, m = ef % 1000000000 := ⟨_, rfl⟩
            have eem : (ef : Int) % 1000000000 = (em : Int) := by omega
            clear hem h1
            by_cases h2 : em = 0
            · have d3 : ((em : Int) != 0) = false := by simp [h2]
              clear h2
              go_upto_region 18 with fail
              clear d1 d2 d3 eem
              go_wp2
              clear c80 c82 c83 c84 c85
              go_loop [117] (fun k => ∃ t : Nat, t ≤ 4 ∧ k = .int .i64 (t : Nat)) (fun k => 4 - (intOf k).toNat)
              case atStart => exact ⟨0, Nat.zero_le _, rfl⟩
              case round =>
                obtain ⟨t, ht, rfl⟩ := hrel
                by_cases hlt3 : t < 4
                · have hidx : ∃ y : Nat, y < 18446744073709551616 ∧ ∀ w, (Instr.index 72 (.agg #[.int .u64 (y0 : Nat), .int .u64 (y1 : Nat), .int .u64 (y2 : Nat), .int .u64 (y3 : Nat)]) (.int .i64 (t : Nat))).run Tryd.prog w = .ok (.int .u64 (y : Nat)) w := by
                    rcases t with _ | _ | _ | _ | t
                    · exact ⟨y0, l82, fun w => by kernel_rfl⟩
                    · exact ⟨y1, l83, fun w => by kernel_rfl⟩
                    · exact ⟨y2, l84, fun w => by kernel_rfl⟩
                    · exact ⟨y3, l85, fun w => by kernel_rfl⟩
                    · omega
                  obtain ⟨y, ly, hix⟩ := hidx
                  by_cases h3 : y = 18446744073709551615
                  · have d1 : ((y : Int) != 18446744073709551615) = false := by simp; omega
                    clear h3
                    go_wp2
                    go_round
                    case rel => exact ⟨t + 1, by omega, by go_num⟩
                    case measure => simp [intOf]; omega
                  · have d1 : ((y : Int) != 18446744073709551615) = true := by simp; omega
                    clear h3
                    by_cases h4 : 2199023255552 ≤ y
                    · have d2 : decide (2199023255552 ≤ y) = true := by simp [h4]
                      have d3 : decide ((2199023255552 : Int) ≤ (y : Int)) = true := by simp; omega
                      go_wp2
                      go_ret
                      exact ⟨⟨_, rfl⟩, R5.out.below⟩
                    · have d2 : decide (2199023255552 ≤ y) = false := by simp; omega
                      have d3 : decide ((2199023255552 : Int) ≤ (y : Int)) = false := by simp; omega
                      go_wp2
                      go_round
                      case rel => exact ⟨t + 1, by omega, by go_num⟩
                      case measure => simp [intOf]; omega
                · obtain rfl : t = 4 := by omega
                  go_wp2
                  go_roundw
                  case rel =>
                    (repeat' apply Exists.intro)
                    refine ⟨⟨j + 1, by omega, by go_num, R5.out⟩, ?_⟩
                    and_intros <;> rfl
                  case measure => simp [intOf]; omega
            · have d3 : ((em : Int) != 0) = true := by simp; omega
              clear h2
              go_wp2
              go_ret
              exact ⟨⟨_, rfl⟩, R5.out.below⟩
        · obtain rfl : j = D.nv := by omega
          have c1092 : wr.cell? ⟨w.heap.size, 1092, none⟩ = some (.slice E.sA E.ns E.sc) := by rw [HR.out.box.cell]; exact HRS.out.sco
          have ls : (E.ns : Int) ≤ 9223372036854775807 := by obtain ⟨_, _, e, h1, h2, _⟩ := HRS.out.scor; injection e with _ e _; unfold maxLen at h2; omega
          go_wp2
          clear c1092
          go_loop [131] (fun k => ∃ t : Nat, t ≤ E.ns ∧ k = .int .i64 (t : Nat)) (fun k => E.ns - (intOf k).toNat)
          case atStart => exact ⟨0, Nat.zero_le _, rfl⟩
          case round =>
            obtain ⟨t, ht, rfl⟩ := hrel
            by_cases hlt4 : t < E.ns
            · have sl := HRS.out.scor.below HR.out.below (Nat.le_refl _)
              have hnl : E.ns = E.sL.length := by obtain ⟨_, _, e, _⟩ := sl; injection e with _ e _; rw [u64s_length] at e; exact e
              obtain ⟨A', c', e, p1, p2, p3⟩ := sl
              injection e with e1 e2 e3
              obtain ⟨b, o, hb, -, hc⟩ := p3 (by intro e; have := congrArg List.length e; rw [u64s_length, ← hnl] at this; simp at this; omega)
              rw [hb] at e1
              rw [e1]
              have hck := hc t _ (u64s_get E.sL t (by rw [← hnl]; exact hlt4))
              have lx : E.sL.getD t 0 < 18446744073709551616 := by
                have hl : t < E.sL.length := by rw [← hnl]; exact hlt4
                rw [List.getD_eq_getElem?_getD, List.getElem?_eq_getElem hl]
                exact HRS.out.scol _ (List.getElem_mem hl)
              obtain ⟨x, hx⟩ : ∃ x, x = E.sL.getD t 0 := ⟨_, rfl⟩
              rw [← hx] at hck lx
              clear hx hc p3 p1 p2 e2 e3 hnl hb e1
              by_cases h5 : 1099511627776 < x
              · have d1 : decide (1099511627776 < x) = true := by simp [h5]
                have d2 : decide ((1099511627776 : Int) < (x : Int)) = true := by simp; omega
                go_wp2
                go_ret
                exact ⟨⟨_, rfl⟩, HR.out.below⟩
              · have d1 : decide (1099511627776 < x) = false := by simp; omega
                have d2 : decide ((1099511627776 : Int) < (x : Int)) = false := by simp; omega
                go_wp2
                go_round
                case rel => exact ⟨t + 1, by omega, by go_num⟩
                case measure => simp [intOf]; omega
            · obtain rfl : t = E.ns := by omega
              have c722 : wr.cell? ⟨w.heap.size, 722, none⟩ = some (.slice E.bA E.nb E.bc) := by rw [HR.out.box.cell]; exact HRS.out.bal
              have FB := Lib.hid (few_any E.bA E.nb E.bc E.bL wr 0 (HRS.out.balr.below HR.out.below (Nat.le_refl _)) HRS.out.ball)
              have FSW := Lib.hid (few_any (some ⟨w.heap.size, 979, none⟩) 8 8 ((List.range 8).map E.sl) wr 0 ⟨some ⟨w.heap.size, 979, none⟩, 8, by simp [u64s], by simp [u64s], by decide, fun _ => ⟨w.heap.size, 979, rfl, Nat.zero_le _, fun i u hu => by
                rcases Nat.lt_or_ge i 8 with hi | hi
                · simp [u64s, hi] at hu
                  rw [HR.out.box.cell, HRS.out.sl i hi, ← hu]
                · simp [u64s, hi] at hu⟩⟩ (fun x hx => by obtain ⟨i, _, rfl⟩ := List.mem_map.1 hx; exact HRS.out.sll i))
              go_wp2_with (first | (go_at_call 16; (with_reducible refine FB.out.mono ?_); rintro en w' ⟨⟨bb, rfl⟩, rfl⟩; cases bb) | (go_at_call 16; (with_reducible refine FSW.out.mono ?_); rintro en w' ⟨⟨bb, rfl⟩, rfl⟩))
              all_goals
                go_ret
                exact ⟨⟨_, rfl⟩, HR.out.below⟩
end Go.Proofs.YtfagmjlgpfnniaaDoor
