/- Contract of pick.Sum. -/
import Derived.Test.YtfagmjlgpfnniaaDoorKeys
import Derived.Deep.RegionLaw
namespace Go.Proofs.YtfagmjlgpfnniaaDoor
open Go.RowKit

abbrev zero48 : List Value := [.int .u8 0, .int .u8 0, .int .u8 0, .int .u8 0, .int .u8 0, .int .u8 0, .int .u8 0, .int .u8 0, .int .u8 0, .int .u8 0, .int .u8 0, .int .u8 0, .int .u8 0, .int .u8 0, .int .u8 0, .int .u8 0, .int .u8 0, .int .u8 0, .int .u8 0, .int .u8 0, .int .u8 0, .int .u8 0, .int .u8 0, .int .u8 0, .int .u8 0, .int .u8 0, .int .u8 0, .int .u8 0, .int .u8 0, .int .u8 0, .int .u8 0, .int .u8 0, .int .u8 0, .int .u8 0, .int .u8 0, .int .u8 0, .int .u8 0, .int .u8 0, .int .u8 0, .int .u8 0, .int .u8 0, .int .u8 0, .int .u8 0, .int .u8 0, .int .u8 0, .int .u8 0, .int .u8 0, .int .u8 0]
theorem Tryd.size_key : (Tryd.prog.info? 44).map (·.size) = some 48 := by kernel_rfl
structure KR (w : World) (p j : Nat) (wr : World) : Prop where
  below : Below w.heap.size w wr
  res : Blk wr w.heap.size 44 zero48
  out : Blk wr (w.heap.size + 1) 44 zero48
  dig : ∃ H R n, Dig wr p H R n (48 * j)
def KeyPost (w : World) (en : Ending) (w' : World) : Prop := ∃ L : List Value, L.length = 48 ∧ (∀ v ∈ L, v.oneCell' = true) ∧ en = .returned (.agg L.toArray) ∧ Below w.heap.size w w'
theorem rangeAt_nums {w : World} {b o n : Nat} {k : IntKind} {f : Nat → Nat} (h : Row w b o n k f) : w.rangeAt b o (nums k f n) := by
  intro j v hv
  rcases Nat.lt_or_ge j n with hj | hj
  · rw [nums_get _ _ _ _ hj] at hv; cases hv; exact h j hj
  · rw [nums_none _ _ _ _ hj] at hv; cases hv
theorem mem_splice {α : Type} {L : List α} {off : Nat} {cs : List α} {v : α} (h : v ∈ splice L off cs) : v ∈ L ∨ v ∈ cs := by
  unfold splice at h
  simp only [List.mem_append] at h
  rcases h with h | h | h
  · exact .inl (List.mem_of_mem_take h)
  · exact .inr h
  · exact .inl (List.mem_of_mem_drop h)
set_option maxHeartbeats 3200000 in
set_option maxRecDepth 100000 in
theorem psum_any (kb ko : Nat) (KF : Nat → Nat) (w : World) (tab : Tab w) (hK : Row w kb ko 384 .u8 KF) (hK2 : ∀ i, KF i < 256) :
    Calls Tryd.prog 19 #[.slice (some ⟨kb, ko, none⟩) 8 8] w (KeyPost w) := by
  have HT := Lib.hid tab
  have HK := Lib.hid hK
  have HK2 := Lib.hid hK2
  have h2 := tab.size
  have hkb := hK.lt (by omega)
  clear tab hK hK2
  go_enter Tryd.func19, Tryd.ntmps19
  go_upto_region 2 with fail
  refine wp_world ?_
  intro w1 hw1
  have R1 := Lib.hid (show Blk w1 w.heap.size 44 zero48 by rw [hw1]; exact (Blk.new w _ _).alloc _)
  have Q1 := Lib.hid (show Blk w1 (w.heap.size + 1) 44 zero48 by
    rw [hw1]; have := Blk.new (w.alloc (.cells zero48.toArray 44)) 44 zero48; rwa [World.size_alloc] at this)
  have B1 := Lib.hid (show Below w.heap.size w w1 by rw [hw1]; exact ((Below.refl _ w).alloc (Nat.le_refl _) _).alloc (by simp) _)
  have Z1 := Lib.hid (show w1.heap.size = w.heap.size + 2 by rw [hw1]; simp)
  have T1 := Lib.hid (HT.out.below B1.out h2)
  clear hw1
  go_upto_region 3 with (go_at_call 21; refine (new_any w1 T1.out).mono ?_; rintro en w2 h2'; have D2 := Lib.hid h2'.dig.1; have B2 := Lib.hid h2'.dig.2; obtain ⟨rfl, hw2⟩ := h2'; clear hw2)
  have K0 := Lib.hid (show KR w w1.heap.size 0 w2 from by
    have z1 := Z1.out
    exact ⟨B1.out.trans (B2.out.mono (by omega)), R1.out.below B2.out (by omega), Q1.out.below B2.out (by omega), _, _, _, D2.out⟩)
  go_wp2
  go_loopw [12] (fun k wr => ∃ j : Nat, j ≤ 8 ∧ k = .int .i64 (j : Nat) ∧ KR w w1.heap.size j wr) (fun k _ => 8 - (intOf k).toNat)
  case atStart => exact ⟨0, Nat.zero_le _, rfl, K0.out⟩
  case round =>
    obtain ⟨j, hj, rfl, hr⟩ := hrel
    have HR := Lib.hid hr
    clear hr
    by_cases hlt : j < 8
    · have RNG := Lib.hid (rangeAt_nums (show Row wr kb (ko + j * 48) 48 .u8 (fun i => KF (j * 48 + i)) from fun i hi => by
        have := (HK.out.below HR.out.below hkb) (j * 48 + i) (by omega)
        rw [show ko + (j * 48 + i) = ko + j * 48 + i by omega] at this
        exact this))
      have ZN := Blk.new wr 44 zero48
      have ln := Lib.hid (nums_length .u8 (fun i => KF (j * 48 + i)) 48)
      have LK := Lib.hid (show (Tryd.prog.info? 44).map (·.size) = some (nums .u8 (fun i => KF (j * 48 + i)) 48).length by rw [ln.out]; exact Tryd.size_key)
      go_upto_region 6 with (first | (with_reducible refine wpList_load_mid rfl _ _ rfl kb (ko + j * 48) rfl _ _ RNG.out Tryd.underlying44 rfl LK.out ?_) | (with_reducible refine wpList_store_blk rfl _ _ _ rfl _ _ rfl rfl _ _ ZN 48 Tryd.size_key rfl ln.out nums_mem ?_; intro w5 ho5 hb5 hz5; have O5 := Lib.hid ho5; have K5 := Lib.hid hb5; clear ho5 hb5 hz5 ZN))
      obtain ⟨H, R, n, dg⟩ := HR.out.dig
      have dl := dg.blks
      have z1 := Z1.out
      have b5 : Below wr.heap.size wr w5 := ((Below.refl _ wr).alloc (Nat.le_refl _) _).trans (O5.out.below (by simp) (Nat.le_refl _))
      have BB5 := Lib.hid b5
      have T5 := HT.out.below (HR.out.below.trans (b5.mono HR.out.below.size)) h2
      have WK := Lib.hid (write_key w1.heap.size wr.heap.size 0 48 n (48 * j) H R _ w5 T5 (by omega) (dg.below b5 dl) (Row.blk (o := 0) K5.out fun i hi => by rw [Nat.zero_add]; exact nums_get _ _ _ _ hi) (fun i => HK2.out _) (by omega) (by omega) (by omega))
      have DL := Lib.hid dl
      clear b5 T5 dg dl z1
      go_wp2_with (go_at_call 22; refine WK.out.mono ?_; rintro en w6 ⟨rfl, ho6, hd6⟩; have O6 := Lib.hid ho6; have D6 := Lib.hid hd6; clear ho6 hd6)
      go_roundw
      case rel =>
        refine ⟨j + 1, by omega, by go_num, ?_⟩
        have z1 := Z1.out
        have s5 := BB5.out.size
        have ss := HR.out.below.size
        exact ⟨(HR.out.below.trans (BB5.out.mono ss)).trans (O6.out.below (by omega) (by omega)), (HR.out.res.below BB5.out HR.out.res.lt).only O6.out (by omega), (HR.out.out.below BB5.out HR.out.out.lt).only O6.out (by omega), by rw [Nat.mul_add]; exact D6.out⟩
      case measure => simp [intOf]; omega
    · obtain rfl : j = 8 := by omega
      obtain ⟨H, R, n, dg⟩ := HR.out.dig
      have T5 := HT.out.below HR.out.below h2
      have SM := Lib.hid (sum_any w1.heap.size n (48 * 8) H R wr T5 dg (by omega))
      have TR := Lib.hid T5
      clear T5 dg
      go_upto_region 9 with (first | (go_at_call 23; refine SM.out.mono ?_; rintro en w4 ⟨rfl, hb4⟩; unfold bytesV; have HB4 := Lib.hid hb4; have Z4 := Blk.new w4 24 zero32; clear hb4) | (with_reducible refine wpList_store_blk rfl _ _ _ rfl _ _ rfl rfl _ _ Z4 32 Tryd.size_root rfl (nums_length _ _ _) nums_mem ?_; intro w5 ho5 hb5 hz5; have O5 := Lib.hid ho5; have K5 := Lib.hid hb5; have Z5 := Lib.hid hz5; clear ho5 hb5 hz5 Z4))
      have B5 := Lib.hid (show Below wr.heap.size wr w5 from (HB4.out.alloc HB4.out.size _).trans (O5.out.below (by have := HB4.out.size; simp; omega) HB4.out.size))
      have T5 := Lib.hid (TR.out.below B5.out TR.out.size)
      have HS := Lib.hid (hash_any w4.heap.size 0 32 _ w5 T5.out (Row.blk (o := 0) K5.out fun i hi => by rw [Nat.zero_add]; exact nums_get _ _ _ _ hi) (sumF_lt _ _ _ _))
      clear SM
      go_upto_region 10 with (first | (go_at_call 28; refine HS.out.mono ?_; rintro en w6 ⟨rfl, hb6⟩; unfold bytesV; have HB6 := Lib.hid hb6; have Z6 := Blk.new w6 24 zero32; clear hb6) | (with_reducible refine wpList_store_blk rfl _ _ _ rfl _ _ rfl rfl _ _ Z6 32 Tryd.size_root rfl (nums_length _ _ _) nums_mem ?_; intro w7 ho7 hb7 hz7; have O7 := Lib.hid ho7; have K7 := Lib.hid hb7; have Z7 := Lib.hid hz7; clear ho7 hb7 hz7 Z6))
      have B7 := Lib.hid (show Below w5.heap.size w5 w7 from (HB6.out.alloc HB6.out.size _).trans (O7.out.below (by have := HB6.out.size; simp; omega) HB6.out.size))
      have k5l := K5.out.lt
      have Q7 := Lib.hid (((HR.out.out.below B5.out HR.out.out.lt).below B7.out (by have := HR.out.out.lt; have := B5.out.size; omega)).drew)
      have P7 := Lib.hid (((HR.out.res.below B5.out HR.out.res.lt).below B7.out (by have := HR.out.res.lt; have := B5.out.size; omega)).drew)
      have RW1 := Lib.hid (show Row w7.drew w4.heap.size 0 32 .u8 _ from Row.blk (o := 0) ((K5.out.below B7.out k5l).drew) fun i hi => by rw [Nat.zero_add]; exact nums_get _ _ _ _ hi)
      have RW2 := Lib.hid (show Row w7.drew w6.heap.size 0 16 .u8 _ from Row.blk (o := 0) (K7.out.drew) fun i hi => by rw [Nat.zero_add]; exact nums_get _ _ _ _ (by omega))
      have HNE := Lib.hid (show w6.heap.size ≠ w.heap.size + 1 by have := HR.out.out.lt; have := HB4.out.size; have := HB6.out.size; omega)
      go_region_law (first | (refine step_copy_blk rfl _ _ _ _ rfl _ Tryd.underlying39 Tryd.size_u8 (w.heap.size + 1) 0 48 48 w4.heap.size 0 32 32 rfl rfl zero48 _ Q7.out _ 32 rfl RW1.out (Nat.le_of_ble_eq_true rfl) ?_; intro w8 ho8 hb8; have O8 := Lib.hid ho8; have K8 := Lib.hid hb8; have RW3 := Lib.hid (RW2.out.only (by decide) ho8 HNE.out); clear ho8 hb8) | (refine step_copy_blk rfl _ _ _ _ rfl _ Tryd.underlying39 Tryd.size_u8 (w.heap.size + 1) 32 16 16 w6.heap.size 0 32 32 rfl rfl _ _ K8.out _ 16 rfl RW3.out (by rw [length_splice _ _ _ (by rw [nums_length]; decide)]; decide) ?_; intro w9 ho9 hb9; have O9 := Lib.hid ho9; have K9 := Lib.hid hb9; clear ho9 hb9))
      all_goals
        have l8 : (splice zero48 0 (nums .u8 (sumF H R n 384) 32)).length = 48 := by rw [length_splice _ _ _ (by rw [nums_length]; decide)]; rfl
        have l9 : (splice (splice zero48 0 (nums .u8 (sumF H R n 384) 32)) 32 (nums .u8 (sumF startF (over zeroF 0 (sumF H R n 384) 32) 32 32) 16)).length = 48 := by
          rw [length_splice _ _ _ (by rw [nums_length, l8]; decide), l8]
        have o9 : ∀ v ∈ splice (splice zero48 0 (nums .u8 (sumF H R n 384) 32)) 32 (nums .u8 (sumF startF (over zeroF 0 (sumF H R n 384) 32) 32 32) 16), v.oneCell' = true := by
          intro v hv
          rcases mem_splice hv with hv | hv
          · rcases mem_splice hv with hv | hv
            · have : ∀ v ∈ zero48, v.oneCell' = true := by decide
              exact this v hv
            · exact nums_mem v hv
          · exact nums_mem v hv
        have P9 := (P7.out.only O8.out (by omega)).only O9.out (by omega)
        have L9 := Lib.hid l9
        have OO9 := Lib.hid o9
        clear l8 l9 o9
        go_wp2_with (first | (with_reducible refine wpList_load_blk rfl _ _ rfl _ rfl _ _ K9.out _ Tryd.underlying44 rfl 48 Tryd.size_key L9.out ?_) | (with_reducible refine wpList_store_blk rfl _ _ _ rfl _ _ rfl rfl _ _ P9 48 Tryd.size_key rfl L9.out OO9.out ?_; intro w10 ho10 hb10 hz10; have O10 := Lib.hid ho10; have K10 := Lib.hid hb10; clear ho10 hb10 hz10))
        refine bodyPost_ret (v := .agg (splice (splice zero48 0 (nums .u8 (sumF H R n 384) 32)) 32 (nums .u8 (sumF startF (over zeroF 0 (sumF H R n 384) 32) 32 32) 16)).toArray) ?_ rfl ⟨_, L9.out, OO9.out, rfl, ?_⟩
        · exact results_blk (by rfl) _ _ _ _ _ _ (by rfl) K10.out Tryd.underlying44 rfl 48 Tryd.size_key L9.out
        · have b5 := HR.out.below.trans (B5.out.mono HR.out.below.size)
          have b7 := b5.trans (B7.out.mono b5.size)
          have b8 := b7.drew.trans (O8.out.below b7.size (by omega))
          have b9 := b8.trans (O9.out.below b8.size (by omega))
          exact b9.trans (O10.out.below b9.size (by omega))
end Go.Proofs.YtfagmjlgpfnniaaDoor
