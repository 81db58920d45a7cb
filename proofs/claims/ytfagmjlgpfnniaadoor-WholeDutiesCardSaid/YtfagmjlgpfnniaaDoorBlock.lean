/- Contract of a round's block; flip; bit. -/
import Derived.Test.YtfagmjlgpfnniaaDoorBehind
namespace Go.Proofs.YtfagmjlgpfnniaaDoor
open Go.RowKit

/-- The k-th 256 bits of a round. -/
def blockF (R0 : Nat → Nat) (k : Nat) : Nat → Nat := sumF startF (over R0 33 (byteF k) 4) 37 37
set_option maxHeartbeats 3200000 in
theorem block_any (pv p : Nat) (R0 : Nat → Nat) (k : Nat) (hk : k < 18446744073709551616) (w : World) (tab : Tab w) (d : Dig w p startF R0 33 33) :
    Calls Tryd.prog 25 #[.agg #[.int .u64 pv, .pointer (some ⟨p, 0, none⟩)], .int .u64 k] w (SumPost w (blockF R0 k)) := by
  have HT := Lib.hid tab
  have HD := Lib.hid d
  have h2 := tab.size
  have hp := d.blks
  clear tab d
  go_enter Tryd.func25, Tryd.ntmps25
  go_upto_region 1 with fail
  refine wp_world ?_
  intro w1 hw1
  have HR1 := Lib.hid (show Blk w1 (w.heap.size + 1) 24 (nums .u8 zeroF 32) by
    rw [hw1]; have := Blk.new (w.alloc (.cells #[.int .u64 pv, .pointer (some ⟨p, 0, none⟩)] 88)) 24 (nums .u8 zeroF 32); rwa [World.size_alloc] at this)
  have HB1 := Lib.hid (show Below w.heap.size w w1 by rw [hw1]; exact ((Below.refl _ w).alloc (Nat.le_refl _) _).alloc (by simp) _)
  have c0 : w1.cell? ⟨w.heap.size, 1, none⟩ = some (.pointer (some ⟨p, 0, none⟩)) := by
    rw [hw1, World.cell?_alloc_lt _ _ ⟨w.heap.size, 1, none⟩ (by simp), World.cell?_alloc_new]; rfl
  have hz1 : w1.heap.size = w.heap.size + 2 := by rw [hw1]; simp
  have HT1 := Lib.hid (HT.out.below HB1.out h2)
  have HD1 := Lib.hid (HD.out.below HB1.out hp)
  have HZ1 := Lib.hid hz1
  clear hw1 hz1
  have CP := Lib.hid (copy_any p 33 33 startF R0 w1 HD1.out)
  go_upto_region 2 with (go_at_call 32; refine CP.out.mono ?_; rintro e w2 h2'; have D2 := Lib.hid (h2'.dig HD1.out).1; have B2 := Lib.hid (h2'.dig HD1.out).2; obtain ⟨rfl, hw2⟩ := h2'; clear hw2)
  clear c0
  go_upto_region 3 with (first | (go_at_call 20; refine (bytes_any k hk _).mono ?_; rintro e w3 ⟨rfl, hb3⟩; have HB3 := Lib.hid hb3; have Z3 := Blk.new w3 79 zero8; clear hb3) | (with_reducible refine wpList_store_blk rfl _ _ _ rfl _ _ rfl rfl _ _ Z3 8 Tryd.size_8 rfl (nums_length _ _ _) nums_mem ?_; intro w4 ho4 hb4 hz4; have HO4 := Lib.hid ho4; have HK4 := Lib.hid hb4; have HZ4 := Lib.hid hz4; clear ho4 hb4 hz4 Z3))
  have s12 := B2.out.size
  have s23 := HB3.out.size
  have z4 : w4.heap.size = w3.heap.size + 1 := by have := HZ4.out; rw [World.size_alloc] at this; exact this
  have hz1 := HZ1.out
  have hlt : w1.heap.size < w2.heap.size := D2.out.blks
  have B24 := Lib.hid (show Below w2.heap.size w2 w4 from HB3.out.trans ((((Below.refl _ w3).alloc (Nat.le_refl _) _).trans (HO4.out.below (by simp) (Nat.le_refl _))).mono s23))
  have B14 := Lib.hid (B2.out.trans (B24.out.mono s12))
  have B04 := Lib.hid (HB1.out.trans (B14.out.mono (by omega)))
  have D4 := Lib.hid (D2.out.below B24.out hlt)
  have R4 := Lib.hid (HR1.out.below B14.out (by omega))
  have WR := Lib.hid (write_more w1.heap.size w3.heap.size 0 4 8 33 startF R0 (byteF k) 33 w4 D4.out (Row.blk (o := 0) HK4.out fun i hi => by rw [Nat.zero_add]; exact nums_get _ _ _ _ (by omega)) (byteF_lt k) (by omega) (by omega) (by omega) (by omega) (by omega) (by omega))
  have HH := Lib.hid (And.intro s12 (And.intro s23 (And.intro hlt (And.intro hz1 z4))))
  clear s12 s23 z4 hz1 hlt HZ4 HZ1
  go_upto_region 4 with (go_at_call 22; refine WR.out.mono ?_; rintro e w5 ⟨rfl, ho5, d5, z5⟩; have HO5 := Lib.hid ho5; have D5 := Lib.hid d5; clear ho5 d5 z5)
  obtain ⟨s12, s23, hlt, hz1, z4⟩ := HH.out
  have B05 := Lib.hid (B04.out.trans (HO5.out.below (B04.out.size) (by omega)))
  have T5 := Lib.hid (HT.out.below B05.out h2)
  have R5 := Lib.hid (R4.out.only HO5.out (by omega))
  have SM := Lib.hid (sum_any w1.heap.size 37 37 startF (over R0 33 (byteF k) 4) w5 T5.out D5.out (by omega))
  clear WR s12 s23 hlt hz1 z4
  go_wp2_with (first | (go_at_call 23; refine SM.out.mono ?_; rintro e w7 ⟨rfl, hb7⟩; unfold bytesV; have HB7 := Lib.hid hb7; have R7 := R5.out.below hb7 R5.out.lt; clear hb7) | (with_reducible refine wpList_store_blk rfl _ _ _ rfl _ _ rfl rfl _ _ R7 32 Tryd.size_root (nums_length _ _ _) (nums_length _ _ _) nums_mem ?_; intro w8 ho8 hb8 hz8; have HO8 := Lib.hid ho8; have HK8 := Lib.hid hb8; clear ho8 hb8 hz8))
  refine bodyPost_ret (v := bytesV (blockF R0 k) 32) ?_ rfl ⟨rfl, ?_⟩
  · exact results_blk (by rfl) _ _ _ _ _ _ (by rfl) HK8.out Tryd.underlying24 rfl 32 Tryd.size_root (nums_length _ _ _)
  · have b7 := B05.out.trans (HB7.out.mono B05.out.size)
    exact b7.trans (HO8.out.below b7.size (by omega))

/-- Where a round would take a place. -/
def flipF (pv n i : Nat) : Nat := if i ≤ pv then pv - i else pv + n - i
set_option maxHeartbeats 800000 in
theorem flip_any (pv n i : Nat) (v : Value) (hpv : pv < n) (hi : i < n) (hn : n < 4294967296) (w : World) :
    Calls Tryd.prog 26 #[.agg #[.int .u64 pv, v], .int .u64 i, .int .u64 n] w fun e w' => e = .returned (.int .u64 (flipF pv n i : Nat)) ∧ Below w.heap.size w w' := by
  by_cases h : i ≤ pv
  · have e1 : flipF pv n i = pv - i := if_pos h
    have hle : decide ((i : Int) ≤ (pv : Int)) = true := by simp; omega
    rw [e1]
    obtain ⟨r, hr⟩ : ∃ r, r = pv - i := ⟨_, rfl⟩
    have er : (pv : Int) - (i : Int) = (r : Int) := by omega
    rw [← hr]
    clear e1 hr
    go_enter Tryd.func26, Tryd.ntmps26
    go_wp2
    go_ret
    exact ⟨rfl, (Below.refl _ w).alloc (Nat.le_refl _) _⟩
  · have e1 : flipF pv n i = pv + n - i := if_neg h
    have hle : decide ((i : Int) ≤ (pv : Int)) = false := by simp; omega
    rw [e1]
    obtain ⟨r, hr⟩ : ∃ r, r = pv + n - i := ⟨_, rfl⟩
    have er : (pv : Int) + (n : Int) - (i : Int) = (r : Int) := by omega
    rw [← hr]
    clear e1 hr
    go_enter Tryd.func26, Tryd.ntmps26
    go_wp2
    go_ret
    exact ⟨rfl, (Below.refl _ w).alloc (Nat.le_refl _) _⟩
end Go.Proofs.YtfagmjlgpfnniaaDoor
