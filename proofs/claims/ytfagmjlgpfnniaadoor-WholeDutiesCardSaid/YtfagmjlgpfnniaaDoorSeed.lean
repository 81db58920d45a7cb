/- Contract of look.Seed. -/
import Derived.Test.YtfagmjlgpfnniaaDoorState
namespace Go.Proofs.YtfagmjlgpfnniaaDoor
open Go.RowKit

def mixF8 (D : SD) (e : Nat) : Nat → Nat := fun i => D.mix ((e + 6) % 8 * 32 + i)
/-- The seed of an epoch for a kind of domain. -/
def seedF (D : SD) (e k : Nat) : Nat → Nat := sumF startF (over (over (over zeroF 0 (byteF k) 4) 4 (byteF e) 8) 12 (mixF8 D e) 32) 44 44
theorem seedF_lt (D : SD) (e k i : Nat) : seedF D e k i < 256 := sumF_lt _ _ _ _ _
set_option maxHeartbeats 3200000 in
set_option maxRecDepth 100000 in
theorem seed_any (X : List Value) (D : SD) (e k : Nat) (he : e < 9223372036854775807) (hk : k < 1000) (w : World) (tab : Tab w) (st : St w X D) :
    Calls Tryd.prog 14 #[.agg X.toArray, .int .u64 e, .int .i64 k] w (SumPost w (seedF D e k)) := by
  have HT := Lib.hid tab
  have HST := Lib.hid st
  have h2 := tab.size
  obtain ⟨q, hq⟩ : ∃ q, q = (e + 6) % 8 := ⟨_, rfl⟩
  have eq1 : ((e : Int) + 8 - 1 - 1) % 8 = (q : Int) := by omega
  have lq : (q : Int) < 8 := by omega
  have lq' : q < 8 := by omega
  have HQ := Lib.hid hq
  have hk2 : k < 18446744073709551616 := by omega
  have he2 : e < 18446744073709551616 := by omega
  clear tab st hq
  go_enter Tryd.func14, Tryd.ntmps14
  go_upto_region 1 with fail
  refine wp_world ?_
  intro w1 hw1
  have X1 := Lib.hid (show Blk w1 w.heap.size 49 X by rw [hw1]; exact (Blk.new w _ _).alloc _)
  have R1 := Lib.hid (show Blk w1 (w.heap.size + 1) 24 (nums .u8 zeroF 32) by
    rw [hw1]; have := Blk.new (w.alloc (.cells X.toArray 49)) 24 (nums .u8 zeroF 32); rwa [World.size_alloc] at this)
  have B1 := Lib.hid (show Below w.heap.size w w1 by rw [hw1]; exact ((Below.refl _ w).alloc (Nat.le_refl _) _).alloc (by simp) _)
  have hz1 : w1.heap.size = w.heap.size + 2 := by rw [hw1]; simp
  have T1 := Lib.hid (HT.out.below B1.out h2)
  have Z1 := Lib.hid hz1
  clear hw1 hz1
  go_upto_region 2 with (go_at_call 21; refine (new_any w1 T1.out).mono ?_; rintro en w2 h2'; have D2 := Lib.hid h2'.dig.1; have B2 := Lib.hid h2'.dig.2; obtain ⟨rfl, hw2⟩ := h2'; clear hw2)
  go_upto_region 3 with (first | (go_at_call 20; (with_reducible refine (bytes_any k hk2 _).mono ?_); rintro en w3 ⟨rfl, hb3⟩; have B3 := Lib.hid hb3; clear hb3) | (go_at_call 20; (with_reducible refine (bytes_any e he2 _).mono ?_); rintro en w4 ⟨rfl, hb4⟩; have B4 := Lib.hid hb4; have Za := (Blk.new w4 79 zero8).alloc (.cells zero8.toArray 79); clear hb4) | (with_reducible refine wpList_store_blk rfl _ _ _ rfl _ _ rfl rfl _ _ Za 8 Tryd.size_8 rfl (nums_length _ _ _) nums_mem ?_; intro w5 ho5 hb5 hz5; have O5 := Lib.hid ho5; have K5 := Lib.hid hb5; have Z5 := Lib.hid hz5; have Zb := (Blk.new (w4.alloc (.cells zero8.toArray 79)) 79 zero8); rw [World.size_alloc] at Zb; have Zc := Zb.only ho5 (by omega); clear ho5 hb5 hz5 Za Zb) | (with_reducible refine wpList_store_blk rfl _ _ _ rfl _ _ rfl rfl _ _ Zc 8 Tryd.size_8 rfl (nums_length _ _ _) nums_mem ?_; intro w6 ho6 hb6 hz6; have O6 := Lib.hid ho6; have K6 := Lib.hid hb6; have Z6 := Lib.hid hz6; clear ho6 hb6 hz6 Zc))
  have s12 := B2.out.size
  have s23 := B3.out.size
  have s34 := B4.out.size
  have z1 := Z1.out
  have z6 : w6.heap.size = w4.heap.size + 2 := by have h1 := Z6.out; have h2 := Z5.out; rw [World.size_alloc, World.size_alloc] at h2; omega
  have dl : w1.heap.size < w2.heap.size := D2.out.blks
  have B26 := Lib.hid (show Below w2.heap.size w2 w6 from by
    have b4 := B3.out.trans (B4.out.mono s23)
    have b5 := ((b4.alloc (by omega) (.cells zero8.toArray 79)).alloc (by simp; omega) (.cells zero8.toArray 79)).trans (O5.out.below (by simp; omega) (by omega))
    exact b5.trans (O6.out.below b5.size (by omega)))
  have B16 := Lib.hid (B2.out.trans (B26.out.mono s12))
  have B06 := Lib.hid (B1.out.trans (B16.out.mono (by omega)))
  have D6 := Lib.hid (D2.out.below B26.out dl)
  have K5' := Lib.hid (K5.out.only O6.out (by omega))
  have X6 := Lib.hid (X1.out.below B16.out (by omega))
  have R6 := Lib.hid (R1.out.below B16.out (by omega))
  have HH := Lib.hid (show w1.heap.size = w.heap.size + 2 ∧ w1.heap.size < w2.heap.size ∧ w2.heap.size ≤ w4.heap.size ∧ w6.heap.size = w4.heap.size + 2 from ⟨z1, dl, by omega, z6⟩)
  have WR1 := Lib.hid (write_first w1.heap.size w4.heap.size 0 4 8 startF zeroF (byteF k) 0 w6 D6.out (Row.blk (o := 0) K5'.out fun i hi => by rw [Nat.zero_add]; exact nums_get _ _ _ _ (by omega)) (byteF_lt k) (by omega) (by omega) (by omega) (by omega))
  clear s12 s23 s34 z1 z6 dl X1 R1 B1 T1 Z1 D2 B2 B3 B4 O5 K5 Z5 O6 Z6 B26 B16
  go_upto_region 4 with (go_at_call 22; refine WR1.out.mono ?_; rintro en w7 ⟨rfl, ho7, d7, z7⟩; have O7 := Lib.hid ho7; have D7 := Lib.hid d7; clear ho7 d7 z7)
  obtain ⟨z1, dl, s24, z6⟩ := HH.out
  have WR2 := Lib.hid (write_more w1.heap.size (w4.heap.size + 1) 0 8 8 (4) startF _ (byteF e) (0 + 4) w7 D7.out (Row.blk (o := 0) (K6.out.only O7.out (by omega)) fun i hi => by rw [Nat.zero_add]; exact nums_get _ _ _ _ (by omega)) (byteF_lt e) (by omega) (by omega) (by omega) (by omega) (by omega) (by omega))
  have X7 := Lib.hid (X6.out.only O7.out (by omega))
  have R7 := Lib.hid (R6.out.only O7.out (by omega))
  have B07 := Lib.hid (B06.out.trans (O7.out.below B06.out.size (by omega)))
  clear WR1 z1 dl s24 z6 K5' K6 X6 R6 B06 D6 O7
  go_upto_region 5 with (go_at_call 22; refine WR2.out.mono ?_; rintro en w8 ⟨rfl, ho8, d8, z8⟩; have O8 := Lib.hid ho8; have D8 := Lib.hid d8; clear ho8 d8 z8)
  obtain ⟨z1, dl, s24, z6⟩ := HH.out
  have X8 := Lib.hid (X7.out.only O8.out (by omega))
  have R8 := Lib.hid (R7.out.only O8.out (by omega))
  have B08 := Lib.hid (B07.out.trans (O8.out.below B07.out.size (by omega)))
  have RM := Lib.hid (show Row w8 w.heap.size (723 + q * 32) 32 .u8 (mixF8 D e) from Row.blk X8.out fun i hi => by
    have := HST.out.mix (q * 32 + i) (by omega)
    rw [show 723 + (q * 32 + i) = 723 + q * 32 + i by omega] at this
    rw [this, mixF8, ← HQ.out])
  have WR3 := Lib.hid (write_more w1.heap.size w.heap.size (723 + q * 32) 32 32 12 startF (over (over zeroF 0 (byteF k) 4) 4 (byteF e) 8) (mixF8 D e) 12 w8 D8.out RM.out (fun i => HST.out.mixl _) (by omega) (by omega) (by omega) (by omega) (by omega) (by omega))
  clear WR2 z1 dl s24 z6 X7 R7 B07 O8
  go_upto_region 6 with (go_at_call 22; refine WR3.out.mono ?_; rintro en w9 ⟨rfl, ho9, d9, z9⟩; have O9 := Lib.hid ho9; have D9 := Lib.hid d9; clear ho9 d9 z9)
  obtain ⟨z1, dl, s24, z6⟩ := HH.out
  have R9 := Lib.hid (R8.out.only O9.out (by omega))
  have B09 := Lib.hid (B08.out.trans (O9.out.below B08.out.size (by omega)))
  have T9 := Lib.hid (HT.out.below B09.out h2)
  have SM := Lib.hid (sum_any w1.heap.size 44 44 startF (over (over (over zeroF 0 (byteF k) 4) 4 (byteF e) 8) 12 (mixF8 D e) 32) w9 T9.out D9.out (by omega))
  clear WR3 z1 dl s24 z6
  go_wp2_with (first | (go_at_call 23; refine SM.out.mono ?_; rintro en w10 ⟨rfl, hb10⟩; unfold bytesV; have HB10 := Lib.hid hb10; have R10 := R9.out.below hb10 R9.out.lt; clear hb10) | (with_reducible refine wpList_store_blk rfl _ _ _ rfl _ _ rfl rfl _ _ R10 32 Tryd.size_root (nums_length _ _ _) (nums_length _ _ _) nums_mem ?_; intro w11 ho11 hb11 hz11; have HO11 := Lib.hid ho11; have HK11 := Lib.hid hb11; clear ho11 hb11 hz11))
  refine bodyPost_ret (v := bytesV (seedF D e k) 32) ?_ rfl ⟨rfl, ?_⟩
  · exact results_blk (by rfl) _ _ _ _ _ _ (by rfl) HK11.out Tryd.underlying24 rfl 32 Tryd.size_root (nums_length _ _ _)
  · have b10 := B09.out.trans (HB10.out.mono B09.out.size)
    exact b10.trans (HO11.out.below b10.size (by omega))
end Go.Proofs.YtfagmjlgpfnniaaDoor
