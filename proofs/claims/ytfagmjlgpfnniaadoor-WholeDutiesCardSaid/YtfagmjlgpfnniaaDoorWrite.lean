/- Contracts of the digest's Write: few bytes. -/
import Derived.Test.YtfagmjlgpfnniaaDoorDig
namespace Go.Proofs.YtfagmjlgpfnniaaDoor
open Go.RowKit

def WritePost (w : World) (p : Nat) (H R : Nat → Nat) (n all : Nat) (e : Ending) (w' : World) : Prop := e = .returned (.tuple #[]) ∧ Only p w w' ∧ Dig w' p H R n all ∧ w'.heap.size = w.heap.size
theorem Tryd.size_u8 : (Tryd.prog.info? 5).map (·.size) = some 1 := by kernel_rfl
set_option maxHeartbeats 1600000 in
theorem write_first (p bb bo len cap : Nat) (H R B : Nat → Nat) (all : Nat) (w : World) (d : Dig w p H R 0 all) (hB : Row w bb bo len .u8 B) (hB2 : ∀ i, B i < 256) (hbb : bb ≠ p) (h1 : 1 ≤ len) (h2 : len ≤ 63) (hall : all + len < 18446744073709551616) :
    Calls Tryd.prog 22 #[.pointer (some ⟨p, 0, none⟩), .slice (some ⟨bb, bo, none⟩) len cap] w (WritePost w p H (over R 0 B len) len (all + len)) := by
  have c72 : w.cell? ⟨p, 72, none⟩ = some (.int .i64 0) := by rw [d.blk.cell, digL_n]; rfl
  have c73 : w.cell? ⟨p, 73, none⟩ = some (.int .u64 (all : Nat)) := by rw [d.blk.cell, digL_all]
  have f72 := d.blk.frozen 72
  have f73 := d.blk.frozen 73
  have HD := Lib.hid d
  have HB := Lib.hid hB
  have HB2 := Lib.hid hB2
  have hbs := hB.lt (by omega)
  obtain ⟨all1, ha1⟩ : ∃ a, a = all + len := ⟨_, rfl⟩
  have ea : (all : Int) + (len : Int) = (all1 : Int) := by omega
  have ha2 : all1 < 18446744073709551616 := by omega
  rw [← ha1]
  have HA := Lib.hid ha1
  clear d hB hB2 ha1 hall
  go_enter Tryd.func22, Tryd.ntmps22
  go_wp2
  refine wp_loop_rounds 1 ?_
  rw [rounds_succ]
  go_upto_region 12 with fail
  obtain ⟨w1, hw1⟩ : ∃ w1, w1 = w.setCell ⟨p, 73, none⟩ (.int .u64 (all1 : Nat)) := ⟨_, rfl⟩
  have D1 : Blk w1 p 100 (digL H R 0 all1) := by rw [hw1, ← digL_setAll H R 0 all all1]; exact HD.out.blk.set _ _
  have O1 : Only p w w1 := by rw [hw1]; exact (Only.refl _ _).setCell _ _
  have B1 : Row w1 bb bo len .u8 B := HB.out.only (by omega) O1 hbb
  have Z1 : w1.heap.size = w.heap.size := by rw [hw1]; simp
  rw [← hw1]
  have HO1 := Lib.hid O1
  have HZ1 := Lib.hid Z1
  clear hw1 c72 c73 f72 f73 O1 Z1
  have hmin : len = Nat.min len 64 := (Nat.min_eq_left (by omega)).symm
  have hpos : 0 < len → some (⟨p, 8, none⟩ : Addr) = some ⟨p, 8, none⟩ ∧ ∃ b o, some (⟨bb, bo, none⟩ : Addr) = some ⟨b, o, none⟩ ∧ Row w1 b o len .u8 B := fun _ => ⟨rfl, bb, bo, rfl, B1⟩
  have hfit : 8 + len ≤ (digL H R 0 all1).length := by rw [digL_length]; omega
  have HM := Lib.hid hmin
  clear hmin
  go_wp2_with (with_reducible refine wpList_copy_blk rfl _ _ _ _ rfl _ Tryd.underlying39 Tryd.size_u8 _ _ _ _ _ _ rfl rfl p 8 _ _ D1 B len HM.out hpos hfit ?_; intro w2 ho2 hb2 hz2; have c72 := hb2.cell 72; have f72 := hb2.frozen 72; rw [show (8 : Nat) = 8 + 0 from rfl, digL_splice _ _ _ _ _ _ _ (by omega)] at hb2 c72; rw [digL_n] at c72; have HO2 := Lib.hid ho2; have HB2' := Lib.hid hb2; have HZ2 := Lib.hid hz2; clear hb2 ho2 hz2 hpos D1 B1)
  go_end0
  refine ⟨rfl, HO1.out.trans (HO2.out.setCell _ _), ⟨?_, HD.out.hl, over_lt HD.out.rl HB2.out, by omega⟩, by simp [HZ2.out, HZ1.out]⟩
  have := HB2'.out.set 72 (.int .i64 (len : Nat))
  rwa [digL_setN] at this
set_option maxHeartbeats 1600000 in
set_option maxRecDepth 100000 in
theorem write_more (p bb bo len cap n : Nat) (H R B : Nat → Nat) (all : Nat) (w : World) (d : Dig w p H R n all) (hB : Row w bb bo len .u8 B) (hB2 : ∀ i, B i < 256) (hbb : bb ≠ p) (h1 : 1 ≤ len) (hn : 1 ≤ n) (h2 : n + len ≤ 63) (hcap : len ≤ cap) (hall : all + len < 18446744073709551616) :
    Calls Tryd.prog 22 #[.pointer (some ⟨p, 0, none⟩), .slice (some ⟨bb, bo, none⟩) len cap] w (WritePost w p H (over R n B len) (n + len) (all + len)) := by
  have c72 : w.cell? ⟨p, 72, none⟩ = some (.int .i64 (n : Nat)) := by rw [d.blk.cell, digL_n]
  have c73 : w.cell? ⟨p, 73, none⟩ = some (.int .u64 (all : Nat)) := by rw [d.blk.cell, digL_all]
  have f72 := d.blk.frozen 72
  have f73 := d.blk.frozen 73
  have HD := Lib.hid d
  have HB := Lib.hid hB
  have HB2 := Lib.hid hB2
  have hbs := hB.lt (by omega)
  obtain ⟨all1, ha1⟩ : ∃ a, a = all + len := ⟨_, rfl⟩
  have ea : (all : Int) + (len : Int) = (all1 : Int) := by omega
  have ha2 : all1 < 18446744073709551616 := by omega
  rw [← ha1]
  have HA := Lib.hid ha1
  clear d hB hB2 ha1 hall
  go_enter Tryd.func22, Tryd.ntmps22
  go_upto_region 3 with fail
  obtain ⟨w1, hw1⟩ : ∃ w1, w1 = w.setCell ⟨p, 73, none⟩ (.int .u64 (all1 : Nat)) := ⟨_, rfl⟩
  have D1 : Blk w1 p 100 (digL H R n all1) := by rw [hw1, ← digL_setAll H R n all all1]; exact HD.out.blk.set _ _
  have O1 : Only p w w1 := by rw [hw1]; exact (Only.refl _ _).setCell _ _
  have B1 : Row w1 bb bo len .u8 B := HB.out.only (by omega) O1 hbb
  have Z1 : w1.heap.size = w.heap.size := by rw [hw1]; simp
  rw [← hw1]
  have HO1 := Lib.hid O1
  have HZ1 := Lib.hid Z1
  clear hw1 c72 c73 f72 f73 O1 Z1
  have hnI : (n : Int) ≤ 64 := by omega
  have hne : ¬ 64 = n := by omega
  refine still_tail2 9 (by kernel_rfl) (by kernel_rfl) ?_
  intro W2 hW2
  have D2 : Blk W2 p 100 (digL H R n all1) := by rw [hW2]; exact D1
  have B2 : Row W2 bb bo len .u8 B := by rw [hW2]; exact B1
  have c72 : W2.cell? ⟨p, 72, none⟩ = some (.int .i64 (n : Nat)) := by rw [D2.cell, digL_n]
  have HO2 : Hid (Only p w W2) := by show Only p w W2; rw [hW2]; exact HO1.out.drew
  have HZ2 : Hid (W2.heap.size = w.heap.size) := by show _ = _; rw [hW2]; exact HZ1.out
  clear hW2 D1 B1 HO1 HZ1
  simp only [List.take_succ_cons, List.take_zero, List.drop_succ_cons, List.drop_zero]
  repeat (refine wpStill_step (fun K hK => ?_); go_simp; refine hK _ ?_; clear hK K)
  refine wpStill_nil ?_
  have hmin : len = Nat.min len (64 - n) := (Nat.min_eq_left (by omega)).symm
  have hpos : 0 < len → some (⟨p, 8 + n, none⟩ : Addr) = some ⟨p, 8 + n, none⟩ ∧ ∃ b o, some (⟨bb, bo, none⟩ : Addr) = some ⟨b, o, none⟩ ∧ Row W2 b o len .u8 B := fun _ => ⟨rfl, bb, bo, rfl, B2⟩
  have hfit : 8 + n + len ≤ (digL H R n all1).length := by rw [digL_length]; omega
  have HM := Lib.hid hmin
  clear hmin
  go_wp2_with (with_reducible refine wpList_copy_blk rfl _ _ _ _ rfl _ Tryd.underlying39 Tryd.size_u8 _ _ _ _ _ _ rfl rfl p (8 + n) _ _ D2 B len HM.out hpos hfit ?_; intro w3 ho3 hb3 hz3; have c72 := hb3.cell 72; have f72 := hb3.frozen 72; rw [digL_splice _ _ _ _ _ _ _ (by omega)] at hb3 c72; rw [digL_n] at c72; have HO3 := Lib.hid ho3; have HB3 := Lib.hid hb3; have HZ3 := Lib.hid hz3; clear hb3 ho3 hz3 hpos D2 B2)
  all_goals
    go_end0
    refine ⟨rfl, HO2.out.trans (HO3.out.setCell _ _), ⟨?_, HD.out.hl, over_lt HD.out.rl HB2.out, by omega⟩, by simp [HZ2.out, HZ3.out]⟩
    have := HB3.out.set 72 (.int .i64 ((n + len : Nat) : Nat))
    rw [digL_setN] at this
    exact this
end Go.Proofs.YtfagmjlgpfnniaaDoor
