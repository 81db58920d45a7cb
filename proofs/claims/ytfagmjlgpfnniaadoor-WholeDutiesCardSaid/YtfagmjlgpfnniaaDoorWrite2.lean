/- Contract of the digest's Write: bytes that fill a block. -/
import Derived.Test.YtfagmjlgpfnniaaDoorWrite
namespace Go.Proofs.YtfagmjlgpfnniaaDoor
open Go.RowKit

theorem Blk.mixed {w w' : World} {p : Nat} {H R H' : Nat → Nat} {n all : Nat} (h : Blk w p 100 (digL H R n all)) (hu : Upd p 0 8 w w') (hr : Row w' p 0 8 .u32 H') : Blk w' p 100 (digL H' R n all) := by
  obtain ⟨C, hC, hs⟩ := hu.row _ _ _ h
  have hb : Blk w' p 100 C.toList := by unfold Blk; simpa using hC
  have hlen : C.toList.length = 74 := by
    have : C.size = 74 := by rw [hs]; simp [digL_length]
    simpa using this
  have hc : ∀ i, 8 ≤ i → C.toList[i]? = (digL H R n all)[i]? := fun i hi => by rw [← hb.cell, hu.cell i (.inr hi), h.cell]
  have : C.toList = digL H' R n all := digL_ext hlen (fun i hi => by rw [← hb.cell, ← hr i hi, Nat.zero_add]) (fun i hi => by rw [hc _ (by omega), digL_r _ _ _ _ _ hi]) (by rw [hc _ (by omega), digL_n]) (by rw [hc _ (by omega), digL_all])
  rw [← this]; exact hb
def WritePost2 (w : World) (p : Nat) (H R : Nat → Nat) (n all : Nat) (e : Ending) (w' : World) : Prop := e = .returned (.tuple #[]) ∧ Only p w w' ∧ Dig w' p H R n all
set_option maxHeartbeats 1600000 in
set_option maxRecDepth 100000 in
theorem write_over (p bb bo len cap n k m : Nat) (H R B : Nat → Nat) (all : Nat) (w : World) (tab : Tab w) (hp2 : 2 ≤ p) (d : Dig w p H R n all) (hB : Row w bb bo len .u8 B) (hB2 : ∀ i, B i < 256) (hbb : bb ≠ p) (h1 : len ≤ 63) (hn : 1 ≤ n) (hk : n + k = 64) (hm : k + m = len) (hcap : len ≤ cap) (hall : all + len < 18446744073709551616) :
    Calls Tryd.prog 22 #[.pointer (some ⟨p, 0, none⟩), .slice (some ⟨bb, bo, none⟩) len cap] w (WritePost2 w p (mixF H (over R n B k)) (over (over R n B k) 0 (fun i => B (k + i)) m) m (all + len)) := by
  have c72 : w.cell? ⟨p, 72, none⟩ = some (.int .i64 (n : Nat)) := by rw [d.blk.cell, digL_n]
  have c73 : w.cell? ⟨p, 73, none⟩ = some (.int .u64 (all : Nat)) := by rw [d.blk.cell, digL_all]
  have f72 := d.blk.frozen 72
  have f73 := d.blk.frozen 73
  have n64 := d.nl
  have k1 : 1 ≤ k := by omega
  have kl : k ≤ len := by omega
  have HD := Lib.hid d
  have HB := Lib.hid hB
  have HB2 := Lib.hid hB2
  have HT := Lib.hid tab
  have hbs := hB.lt (by omega)
  obtain ⟨all1, ha1⟩ : ∃ a, a = all + len := ⟨_, rfl⟩
  have ea : (all : Int) + (len : Int) = (all1 : Int) := by omega
  have ha2 : all1 < 18446744073709551616 := by omega
  rw [← ha1]
  have HA := Lib.hid ha1
  have enk : (n : Int) + (k : Int) = 64 := by omega
  obtain ⟨R1, hR1⟩ : ∃ R1, R1 = over R n B k := ⟨_, rfl⟩
  have HR1 := Lib.hid hR1
  rw [← hR1]
  have hR1l : Hid (∀ i, R1 i < 256) := by show ∀ i, R1 i < 256; rw [hR1]; exact over_lt HD.out.rl HB2.out
  have HNK := Lib.hid hk
  have HKM := Lib.hid hm
  obtain ⟨bo', hbo⟩ : ∃ b, b = if cap = k then bo else bo + k := ⟨_, rfl⟩
  have hsl : ∀ w, (Instr.slice 39 (.slice (some ⟨bb, bo, none⟩) len cap) (some (.int .i64 (k : Nat))) none none).run Tryd.prog w = .ok (.slice (some ⟨bb, bo', none⟩) m (cap - k)) w := by
    intro w
    rw [run_slice_l w 39 (some ⟨bb, bo, none⟩) len cap Tryd.underlying39 .i64 (k : Nat) (by omega) (by omega)]
    have hz : ∀ w, (sizeOf (Tryd.prog.elem 39)).run Tryd.prog w = .ok 1 w := fun w => by kernel_rfl
    rw [hz]
    simp only [Result.andThen, sliced, Int.toNat_natCast]
    rw [show len - k = m by omega, hbo]
    by_cases e : cap = k
    · rw [if_pos e, if_pos e]
    · rw [if_neg e, if_neg e]
      simp [Addr.add]
      omega
  have HBO := Lib.hid hbo
  clear d hB hB2 ha1 hall hk hm hbo tab hR1
  go_enter Tryd.func22, Tryd.ntmps22
  go_upto_region 3 with fail
  obtain ⟨w1, hw1⟩ : ∃ w1, w1 = w.setCell ⟨p, 73, none⟩ (.int .u64 (all1 : Nat)) := ⟨_, rfl⟩
  have D1 : Blk w1 p 100 (digL H R n all1) := by rw [hw1, ← digL_setAll H R n all all1]; exact HD.out.blk.set _ _
  have O1 : Only p w w1 := by rw [hw1]; exact (Only.refl _ _).setCell _ _
  have B1 : Row w1 bb bo len .u8 B := HB.out.only (by have := HKM.out; omega) O1 hbb
  rw [← hw1]
  have HO1 := Lib.hid O1
  clear hw1 c72 c73 f72 f73 O1
  have hnI : (n : Int) ≤ 64 := by omega
  have hne : ¬ 64 = n := by omega
  refine still_tail2 9 (by kernel_rfl) (by kernel_rfl) ?_
  intro W2 hW2
  have D2 : Blk W2 p 100 (digL H R n all1) := by rw [hW2]; exact D1
  have B2 : Row W2 bb bo len .u8 B := by rw [hW2]; exact B1
  have c72 : W2.cell? ⟨p, 72, none⟩ = some (.int .i64 (n : Nat)) := by rw [D2.cell, digL_n]
  have HO2 : Hid (Only p w W2) := by show Only p w W2; rw [hW2]; exact HO1.out.drew
  clear hW2 D1 B1 HO1
  simp only [List.take_succ_cons, List.take_zero, List.drop_succ_cons, List.drop_zero]
  repeat (refine wpStill_step (fun K hK => ?_); go_simp; refine hK _ ?_; clear hK K)
  refine wpStill_nil ?_
  have B3 : Row W2 bb bo k .u8 B := fun i hi => B2 i (by omega)
  have hmin : k = Nat.min len (64 - n) := (show k = min len (64 - n) by have := HNK.out; omega)
  have hpos : 0 < k → some (⟨p, 8 + n, none⟩ : Addr) = some ⟨p, 8 + n, none⟩ ∧ ∃ b o, some (⟨bb, bo, none⟩ : Addr) = some ⟨b, o, none⟩ ∧ Row W2 b o k .u8 B := fun _ => ⟨rfl, bb, bo, rfl, B3⟩
  have hfit : 8 + n + k ≤ (digL H R n all1).length := by rw [digL_length]; have := HNK.out; omega
  have HM := Lib.hid hmin
  have HB3 := Lib.hid B2
  have hkn : n + k ≤ 64 := by have := HNK.out; omega
  clear hmin B2
  go_upto_region 7 with (with_reducible refine wpList_copy_blk rfl _ _ _ _ rfl _ Tryd.underlying39 Tryd.size_u8 _ _ _ _ _ _ rfl rfl p (8 + n) _ _ D2 B k HM.out hpos hfit ?_; intro w3 ho3 hb3 hz3; have c72 := hb3.cell 72; have f72 := hb3.frozen 72; rw [digL_splice _ _ _ _ _ _ _ hkn] at hb3 c72; rw [digL_n] at c72; have HO3 := Lib.hid ho3; have HBK3 := Lib.hid hb3; clear hb3 ho3 hz3 hpos D2 B3)
  obtain ⟨w4, hw4⟩ : ∃ w4, w4 = w3.setCell ⟨p, 72, none⟩ (.int .i64 64) := ⟨_, rfl⟩
  have D4 : Blk w4 p 100 (digL H R1 64 all1) := by
    have := HBK3.out.set 72 (.int .i64 ((64 : Nat) : Nat))
    rw [digL_setN, ← HR1.out] at this
    rw [hw4]; exact this
  have HO4 : Hid (Only p w w4) := by show Only p w w4; rw [hw4]; exact HO2.out.trans (HO3.out.setCell _ _)
  rw [← hw4]
  clear hw4 c72 f72 HBK3 HO3
  refine still_tail2 7 (by kernel_rfl) (by kernel_rfl) ?_
  intro W5 hW5
  have D5 : Blk W5 p 100 (digL H R1 64 all1) := by rw [hW5]; exact D4
  have HO5 : Hid (Only p w W5) := by show Only p w W5; rw [hW5]; exact HO4.out.drew
  clear hW5 D4 HO4
  simp only [List.take_succ_cons, List.take_zero, List.drop_succ_cons, List.drop_zero]
  repeat (refine wpStill_step (fun K hK => ?_); go_simp; refine hK _ ?_; clear hK K)
  refine wpStill_nil ?_
  have T5 : Tab W5 := HT.out.only HO5.out hp2
  have RH : Row W5 p 0 8 .u32 H := Row.blk D5 fun i hi => by rw [Nat.zero_add]; exact digL_h _ _ _ _ _ hi
  have RR : Row W5 p 8 64 .u8 R1 := Row.blk D5 fun i hi => digL_r _ _ _ _ _ hi
  have MIX := Lib.hid (mix_any p 0 p 8 64 64 H R1 W5 T5 RH (fun i => D5.frozen i) HD.out.hl RR hR1l.out (by omega))
  have HD5 := Lib.hid D5
  clear T5 RH RR D5
  go_wp2_with (go_at_call 29; refine MIX.out.mono ?_; rintro e w6 ⟨rfl, hu6, hr6⟩; have D6 := HD5.out.mixed hu6 hr6; have c72 := D6.cell 72; rw [digL_n] at c72; have f72 := D6.frozen 72; have HD6 := Lib.hid D6; have HO6 := Lib.hid (HO5.out.trans hu6.only); clear hu6 hr6 D6)
  have hm1 : (m : Int) < 64 := by have := HKM.out; omega
  have hm2 : ¬ 64 ≤ (m : Int) := by omega
  refine wp_loop_rounds 1 ?_
  rw [rounds_succ]
  go_upto_region 12 with fail
  obtain ⟨w7, hw7⟩ : ∃ w7, w7 = w6.setCell ⟨p, 72, none⟩ (.int .i64 0) := ⟨_, rfl⟩
  have D7 : Blk w7 p 100 (digL (mixF H R1) R1 0 all1) := by
    have := HD6.out.set 72 (.int .i64 ((0 : Nat) : Nat))
    rw [digL_setN] at this
    rw [hw7]; exact this
  have HO7 : Hid (Only p w w7) := by show Only p w w7; rw [hw7]; exact HO6.out.setCell _ _
  rw [← hw7]
  clear hw7 c72 f72 HD6 HO6
  obtain ⟨B7, hB7⟩ : ∃ f : Nat → Nat, f = fun i => B (k + i) := ⟨_, rfl⟩
  have HB7 := Lib.hid hB7
  have hmin7 : m = Nat.min m 64 := (show m = min m 64 by omega)
  have hpos7 : 0 < m → some (⟨p, 8, none⟩ : Addr) = some ⟨p, 8, none⟩ ∧ ∃ b o, some (⟨bb, bo', none⟩ : Addr) = some ⟨b, o, none⟩ ∧ Row w7 b o m .u8 B7 := fun h => by
    refine ⟨rfl, bb, bo', rfl, ?_⟩
    have hkm := HKM.out
    have e : bo' = bo + k := by rw [HBO.out, if_neg (by omega)]
    have r := HB.out.only (by omega) HO7.out hbb
    intro i hi
    rw [e, show bo + k + i = bo + (k + i) by omega, hB7]
    exact r (k + i) (by omega)
  have hfit7 : 8 + m ≤ (digL (mixF H R1) R1 0 all1).length := by rw [digL_length]; omega
  have HM7 := Lib.hid hmin7
  clear hmin7 hB7
  go_wp2_with (with_reducible refine wpList_copy_blk rfl _ _ _ _ rfl _ Tryd.underlying39 Tryd.size_u8 _ _ _ _ _ _ rfl rfl p 8 _ _ D7 B7 m HM7.out hpos7 hfit7 ?_; intro w8 ho8 hb8 hz8; have c72 := hb8.cell 72; have f72 := hb8.frozen 72; rw [show (8 : Nat) = 8 + 0 from rfl, digL_splice _ _ _ _ _ _ _ (by omega)] at hb8 c72; rw [digL_n] at c72; have HO8 := Lib.hid ho8; have HB8 := Lib.hid hb8; clear hb8 ho8 hz8 hpos7 D7)
  go_end0
  refine ⟨rfl, HO7.out.trans (HO8.out.setCell _ _), ⟨?_, mixF_lt _ _, over_lt hR1l.out (fun i => HB2.out _), by omega⟩⟩
  have := HB8.out.set 72 (.int .i64 (m : Nat))
  rw [digL_setN, HB7.out] at this
  exact this
end Go.Proofs.YtfagmjlgpfnniaaDoor
