/- Contract of the digest's Sum. -/
import Derived.Test.YtfagmjlgpfnniaaDoorWrite2
namespace Go.Proofs.YtfagmjlgpfnniaaDoor
open Go.RowKit

/-- The last block as far as it is made. -/
def lastJ (R : Nat → Nat) (n all e j i : Nat) : Nat := if i < n then R i else if i = n then 128 else if e - 8 ≤ i ∧ i < e ∧ e - 1 - i < j then all * 8 % 18446744073709551616 / 2 ^ (8 * (e - 1 - i)) % 256 else 0
theorem lastJ_lt {R : Nat → Nat} (h : ∀ i, R i < 256) (n all e j i : Nat) : lastJ R n all e j i < 256 := by
  unfold lastJ
  split
  · exact h i
  · split
    · omega
    · split
      · exact Nat.mod_lt _ (by decide)
      · omega
def sumF (H R : Nat → Nat) (n all : Nat) : Nat → Nat := rootF (if n < 56 then mixF H (lastJ R n all 64 8) else mixF (mixF H (lastJ R n all 128 8)) (fun i => lastJ R n all 128 8 (64 + i)))
def SumPost (w : World) (f : Nat → Nat) (e : Ending) (w' : World) : Prop := e = .returned (bytesV f 32) ∧ Below w.heap.size w w'
structure SumRel (w : World) (p : Nat) (H R : Nat → Nat) (n all e j : Nat) (wr : World) : Prop where
  below : Below w.heap.size w wr
  res : Blk wr w.heap.size 24 (nums .u8 (fun _ => 0) 32)
  words : Blk wr (w.heap.size + 1) 97 (nums .u32 H 8)
  last : Blk wr (w.heap.size + 2) 101 (nums .u8 (lastJ R n all e j) 128)
  dig : Dig wr p H R n all
theorem nums_set (k : IntKind) (f g : Nat → Nat) (n q v : Nat) (hq : g q = v) (h : ∀ i, i < n → i ≠ q → g i = f i) : (nums k f n).set q (.int k (v : Nat)) = nums k g n := by
  apply List.ext_getElem?
  intro i
  rw [List.getElem?_set, nums_length]
  rcases Nat.lt_or_ge i n with hi | hi
  · rw [nums_get _ _ _ _ hi, nums_get _ _ _ _ hi]
    by_cases e : q = i
    · subst e; rw [if_pos rfl, if_pos hi, hq]
    · rw [if_neg e, h i hi (fun e' => e e'.symm)]
  · rw [nums_none _ _ _ _ hi, nums_none _ _ _ _ hi]
    by_cases e : q = i
    · subst e; rw [if_pos rfl, if_neg (by omega)]
    · rw [if_neg e]
theorem SumRel.step {w wr : World} {p : Nat} {H R : Nat → Nat} {n all e j q v : Nat} (h : SumRel w p H R n all e j wr) (hp : p < w.heap.size) (hj : j < 8) (he : n + 9 ≤ e) (hq : q + 1 + j = e) (hv : v = all * 8 % 18446744073709551616 / 2 ^ (8 * j) % 256) :
    SumRel w p H R n all e (j + 1) (wr.setCell ⟨w.heap.size + 2, q, none⟩ (.int .u8 (v : Nat))) := by
  refine ⟨h.below.setCell (by simp) _, h.res.setOther _ _ (by simp), h.words.setOther _ _ (by simp), ?_, ?_⟩
  · rw [← nums_set .u8 (lastJ R n all e j) (lastJ R n all e (j + 1)) 128 q v]
    · exact h.last.set _ _
    · unfold lastJ
      rw [if_neg (by omega), if_neg (by omega), if_pos (by omega), hv, show e - 1 - q = j by omega]
    · intro i hi hn
      unfold lastJ
      by_cases e1 : i < n
      · rw [if_pos e1, if_pos e1]
      · rw [if_neg e1, if_neg e1]
        by_cases e2 : i = n
        · rw [if_pos e2, if_pos e2]
        · rw [if_neg e2, if_neg e2]
          by_cases e3 : e - 8 ≤ i ∧ i < e ∧ e - 1 - i < j
          · rw [if_pos e3, if_pos (by omega)]
          · rw [if_neg e3, if_neg (by omega)]
  · exact h.dig.only ((Only.refl _ _).setCell _ _) (by omega)
theorem Tryd.size_root : (Tryd.prog.info? 24).map (·.size) = some 32 := by kernel_rfl
theorem nums_fill (R : Nat → Nat) (n all e : Nat) (hn : n < 128) : (splice (nums .u8 (fun _ => 0) 128) 0 (nums .u8 R n)).set n (.int .u8 ((128 : Nat) : Nat)) = nums .u8 (lastJ R n all e 0) 128 := by
  have hl : 0 + (nums .u8 R n).length ≤ (nums .u8 (fun _ => 0) 128).length := by rw [nums_length, nums_length]; omega
  apply List.ext_getElem?
  intro i
  rw [List.getElem?_set, length_splice _ _ _ hl, nums_length, splice_get _ _ _ _ hl, nums_length]
  rcases Nat.lt_or_ge i 128 with hi | hi
  · rw [nums_get _ (lastJ R n all e 0) _ _ hi]
    unfold lastJ
    by_cases e1 : n = i
    · subst e1; rw [if_pos rfl, if_pos hi, if_neg (by omega), if_pos rfl]
    · rw [if_neg e1]
      by_cases e2 : i < n
      · rw [if_pos (by omega), if_pos e2, Nat.sub_zero, nums_get _ _ _ _ e2]
      · rw [if_neg (by omega), if_neg e2, if_neg (by omega), if_neg (by omega), nums_get _ _ _ _ hi]
  · rw [nums_none _ (lastJ R n all e 0) _ _ hi, if_neg (by omega), if_neg (by omega), nums_none _ _ _ _ hi]

set_option maxHeartbeats 3200000 in
set_option maxRecDepth 100000 in
theorem sum_small (p n all : Nat) (H R : Nat → Nat) (w : World) (tab : Tab w) (d : Dig w p H R n all) (hn : n < 56) (hall : all < 18446744073709551616) :
    Calls Tryd.prog 23 #[.pointer (some ⟨p, 0, none⟩)] w (SumPost w (rootF (mixF H (lastJ R n all 64 8)))) := by
  have hc : ∀ i, i < 8 → w.cell? ⟨p, i, none⟩ = some (.int .u32 (H i : Nat)) := fun i hi => by rw [d.blk.cell, digL_h _ _ _ _ _ hi]
  have c0 := hc 0 (by omega)
  have c1 := hc 1 (by omega)
  have c2 := hc 2 (by omega)
  have c3 := hc 3 (by omega)
  have c4 := hc 4 (by omega)
  have c5 := hc 5 (by omega)
  have c6 := hc 6 (by omega)
  have c7 := hc 7 (by omega)
  have n64 := d.nl
  have hps := d.blk.lt
  have HD := Lib.hid d
  have HT := Lib.hid tab
  have z101 : ∀ w, (zeroValue 101).run Tryd.prog w = .ok (.agg (nums .u8 (fun _ => 0) 128).toArray) w := (zero_of_info (n := 128) (by kernel_rfl)).1
  clear hc d tab
  go_enter Tryd.func23, Tryd.ntmps23
  go_upto_region 5 with fail
  clear c0 c1 c2 c3 c4 c5 c6 c7 z101
  have hnI : (n : Int) ≤ 64 := by omega
  refine still_tail2 9 (by kernel_rfl) (by kernel_rfl) ?_
  intro W hW
  have X0 : Blk W w.heap.size 24 (nums .u8 (fun _ => 0) 32) := by rw [hW]; exact ((Blk.new w _ (nums .u8 (fun _ => 0) 32)).alloc _).alloc _
  have X1 : Blk W (w.heap.size + 1) 97 (nums .u32 H 8) := by
    rw [hW]
    have := (Blk.new (w.alloc (.cells (nums .u8 (fun _ => 0) 32).toArray 24)) 97 (nums .u32 H 8)).alloc (.cells (nums .u8 (fun _ => 0) 128).toArray 101)
    rw [World.size_alloc] at this
    exact this
  have X2 : Blk W (w.heap.size + 2) 101 (nums .u8 (fun _ => 0) 128) := by
    rw [hW]
    have := Blk.new ((w.alloc (.cells (nums .u8 (fun _ => 0) 32).toArray 24)).alloc (.cells (nums .u32 H 8).toArray 97)) 101 (nums .u8 (fun _ => 0) 128)
    rw [World.size_alloc, World.size_alloc] at this
    exact this
  have X3 : Below w.heap.size w W := by
    rw [hW]
    exact below_drewN ((((Below.refl _ w).alloc (Nat.le_refl _) _).alloc (by simp) _).alloc (by simp only [World.size_alloc]; omega) _) 1
  have X4 := HD.out.below X3 hps
  have c72 : W.cell? ⟨p, 72, none⟩ = some (.int .i64 (n : Nat)) := by rw [X4.blk.cell, digL_n]
  have HX0 := Lib.hid X0
  have HX1 := Lib.hid X1
  have HX3 := Lib.hid X3
  have HX4 := Lib.hid X4
  have XR : Row W p 8 n .u8 R := Row.blk X4.blk fun i hi => digL_r _ _ _ _ _ (by omega)
  clear hW X0 X1 X3 X4
  simp only [List.take_succ_cons, List.take_zero, List.drop_succ_cons, List.drop_zero]
  repeat (refine wpStill_step (fun K hK => ?_); go_simp; refine hK _ ?_; clear hK K)
  refine wpStill_nil ?_
  have hmin : n = Nat.min n 128 := (show n = min n 128 by omega)
  have hpos : 0 < n → some (⟨w.heap.size + 2, 0, none⟩ : Addr) = some ⟨w.heap.size + 2, 0, none⟩ ∧ ∃ b o, some (⟨p, 8, none⟩ : Addr) = some ⟨b, o, none⟩ ∧ Row W b o n .u8 R := fun _ => ⟨rfl, p, 8, rfl, XR⟩
  have hfit : 0 + n ≤ (nums .u8 (fun _ => 0) 128).length := by rw [nums_length]; omega
  have HM := Lib.hid hmin
  clear hmin
  go_upto_region 6 with (with_reducible refine wpList_copy_blk rfl _ _ _ _ rfl _ Tryd.underlying39 Tryd.size_u8 _ _ _ _ _ _ rfl rfl (w.heap.size + 2) 0 _ _ X2 R n HM.out hpos hfit ?_; intro w3 ho3 hb3 hz3; have HO3 := Lib.hid ho3; have HB3 := Lib.hid hb3; clear ho3 hb3 hz3 hpos X2 XR)
  have f3 := HB3.out.frozen n
  have c3 : w3.cell? ⟨w.heap.size + 2, n, none⟩ = some (.int .u8 0) := by
    rw [HB3.out.cell, splice_get _ _ _ _ (by rw [nums_length, nums_length]; omega), if_neg (by rw [nums_length]; omega), nums_get _ _ _ _ (by omega)]; rfl
  have hnI2 : (n : Int) < 128 := by omega
  have hrel0 : Hid (SumRel w p H R n all 64 0 (w3.setCell ⟨w.heap.size + 2, n, none⟩ (.int .u8 128))) := by
    show SumRel _ _ _ _ _ _ _ _ _
    have o1 := (Only.refl (w.heap.size + 2) w3).setCell n (.int .u8 128)
    have o2 := HO3.out.trans o1
    refine ⟨HX3.out.trans (o2.below HX3.out.size (by omega)), HX0.out.only o2 (by omega), HX1.out.only o2 (by omega), ?_, HX4.out.only o2 (by omega)⟩
    rw [← nums_fill R n all 64 (by omega)]
    exact HB3.out.set n (.int .u8 128)
  clear c72
  go_wp2
  go_loopw [29] (fun k wr => ∃ j : Nat, j ≤ 8 ∧ k = .int .i64 (j : Nat) ∧ SumRel w p H R n all 64 j wr) (fun k _ => 8 - (intOf k).toNat)
  case atStart => exact ⟨0, Nat.zero_le _, rfl, hrel0.out⟩
  case round =>
    obtain ⟨j, hj, rfl, hr⟩ := hrel
    have HR := Lib.hid hr
    by_cases hlt : j < 8
    · obtain ⟨q, hq⟩ : ∃ q, q + 1 + j = 64 := ⟨64 - 1 - j, by omega⟩
      have eq1 : (63 : Int) - (j : Int) = (q : Int) := by omega
      have lq : (q : Int) < 128 := by omega
      obtain ⟨s, hs⟩ : ∃ s, s = 8 * j := ⟨_, rfl⟩
      have es : 8 * (j : Int) = (s : Int) := by omega
      have ls : (s : Int) < 64 := by omega
      obtain ⟨V, hV⟩ : ∃ V, V = all * 8 % 18446744073709551616 := ⟨_, rfl⟩
      have eV : (all : Int) * 8 % 18446744073709551616 = (V : Int) := by omega
      have lV : V < 18446744073709551616 := by omega
      have c73 : wr.cell? ⟨p, 73, none⟩ = some (.int .u64 (all : Nat)) := by rw [hr.dig.blk.cell, digL_all]
      have cq := hr.last.cell q
      rw [nums_get _ _ _ _ (by omega)] at cq
      have fq := hr.last.frozen q
      have HQ := Lib.hid hq
      have HS := Lib.hid hs
      have HV := Lib.hid hV
      clear hq hs hV hr hrel0
      go_wp2
      obtain ⟨v, hv⟩ : ∃ v, v = V / 2 ^ s % 256 := ⟨_, rfl⟩
      have ev : IntKind.u64.wrap ((all : Int) * 8) / 2 ^ s % 256 = (v : Int) := by
        rw [IntKind.wrap_u64, eV, hv]
        push_cast
        rfl
      rw [ev]
      go_roundw
      case rel => exact ⟨j + 1, by omega, by go_num, HR.out.step hps hlt (by omega) HQ.out (by rw [hv, HV.out, HS.out])⟩
      case measure => simp [intOf]; omega
    · obtain rfl : j = 8 := by omega
      clear hr hrel0
      go_upto_region 15 with fail
      have HW := Lib.hid (Row.blk (o := 0) HR.out.words fun i hi => by rw [Nat.zero_add]; exact nums_get _ _ _ _ hi)
      have TW := Lib.hid (HT.out.below HR.out.below HT.out.size)
      have hHl := HD.out.hl
      have hRl := HD.out.rl
      have MIX := Lib.hid (mix_any (w.heap.size + 1) 0 (w.heap.size + 1 + 1) 0 64 128 H (lastJ R n all 64 8) wr TW.out HW.out (fun i => HR.out.words.frozen i) hHl (Row.blk (o := 0) HR.out.last fun i hi => by rw [Nat.zero_add]; exact nums_get _ _ _ _ (by omega)) (lastJ_lt hRl _ _ _ _) (by omega))
      clear hHl hRl
      have hst : (Tryd.prog.info? 24).map (·.size) = some (nums .u8 (rootF (mixF H (lastJ R n all 64 8))) 32).toArray.size := by
        rw [show (nums .u8 (rootF (mixF H (lastJ R n all 64 8))) 32).toArray.size = 32 by simp [nums_length]]
        exact Tryd.size_root
      have hold : (nums .u8 (fun _ => 0) 32).toArray.size = (nums .u8 (rootF (mixF H (lastJ R n all 64 8))) 32).toArray.size := by simp [nums_length]
      have hone : (nums .u8 (rootF (mixF H (lastJ R n all 64 8))) 32).toArray.all (·.oneCell') = true := all_oneCell_toArray nums_mem
      go_upto_region 18 with (go_at_call 29; refine MIX.out.mono ?_; rintro e w4 ⟨rfl, hu4, hr4⟩; have HU4 := Lib.hid hu4; have HR4 := Lib.hid hr4; clear hu4 hr4)
      have H0 := Lib.hid (HR.out.res.only HU4.out.only (by omega))
      have HL := Lib.hid (HR.out.below.trans (HU4.out.only.below HR.out.below.size (by omega)))
      have ROOT := Lib.hid (root_any (w.heap.size + 1) 0 _ w4 HR4.out (mixF_lt _ _))
      clear MIX
      go_wp2_with (first | (go_at_call 30; refine ROOT.out.mono ?_; rintro e w6 ⟨rfl, hb6⟩; have H0 := Lib.hid (H0.out.below hb6 H0.out.lt); have H0' := H0.out; unfold Blk at H0'; have HL := Lib.hid (HL.out.trans (hb6.mono HL.out.size)); clear hb6; unfold bytesV) | (with_reducible refine wpList_store_row rfl _ _ _ rfl _ _ rfl rfl _ _ H0' hst hold hone ?_))
      refine bodyPost_ret (v := .agg (nums .u8 (rootF (mixF H (lastJ R n all 64 8))) 32).toArray) ?_ rfl ⟨rfl, ?_⟩
      · exact results_cell_row (by rfl) _ _ _ _ _ _ _ (by rfl) (Blk.setRow H0.out _) Tryd.underlying24 rfl hst
      · exact below_setRow HL.out (Nat.le_refl _) _

set_option maxHeartbeats 3200000 in
set_option maxRecDepth 100000 in
theorem sum_big (p n all : Nat) (H R : Nat → Nat) (w : World) (tab : Tab w) (d : Dig w p H R n all) (hn : 56 ≤ n) (hall : all < 18446744073709551616) :
    Calls Tryd.prog 23 #[.pointer (some ⟨p, 0, none⟩)] w (SumPost w (rootF (mixF (mixF H (lastJ R n all 128 8)) (fun i => lastJ R n all 128 8 (64 + i))))) := by
  have hc : ∀ i, i < 8 → w.cell? ⟨p, i, none⟩ = some (.int .u32 (H i : Nat)) := fun i hi => by rw [d.blk.cell, digL_h _ _ _ _ _ hi]
  have c0 := hc 0 (by omega)
  have c1 := hc 1 (by omega)
  have c2 := hc 2 (by omega)
  have c3 := hc 3 (by omega)
  have c4 := hc 4 (by omega)
  have c5 := hc 5 (by omega)
  have c6 := hc 6 (by omega)
  have c7 := hc 7 (by omega)
  have n64 := d.nl
  have hps := d.blk.lt
  have HD := Lib.hid d
  have HT := Lib.hid tab
  have z101 : ∀ w, (zeroValue 101).run Tryd.prog w = .ok (.agg (nums .u8 (fun _ => 0) 128).toArray) w := (zero_of_info (n := 128) (by kernel_rfl)).1
  clear hc d tab
  go_enter Tryd.func23, Tryd.ntmps23
  go_upto_region 5 with fail
  clear c0 c1 c2 c3 c4 c5 c6 c7 z101
  have hnI : (n : Int) ≤ 64 := by omega
  refine still_tail2 9 (by kernel_rfl) (by kernel_rfl) ?_
  intro W hW
  have X0 : Blk W w.heap.size 24 (nums .u8 (fun _ => 0) 32) := by rw [hW]; exact ((Blk.new w _ (nums .u8 (fun _ => 0) 32)).alloc _).alloc _
  have X1 : Blk W (w.heap.size + 1) 97 (nums .u32 H 8) := by
    rw [hW]
    have := (Blk.new (w.alloc (.cells (nums .u8 (fun _ => 0) 32).toArray 24)) 97 (nums .u32 H 8)).alloc (.cells (nums .u8 (fun _ => 0) 128).toArray 101)
    rw [World.size_alloc] at this
    exact this
  have X2 : Blk W (w.heap.size + 2) 101 (nums .u8 (fun _ => 0) 128) := by
    rw [hW]
    have := Blk.new ((w.alloc (.cells (nums .u8 (fun _ => 0) 32).toArray 24)).alloc (.cells (nums .u32 H 8).toArray 97)) 101 (nums .u8 (fun _ => 0) 128)
    rw [World.size_alloc, World.size_alloc] at this
    exact this
  have X3 : Below w.heap.size w W := by
    rw [hW]
    exact below_drewN ((((Below.refl _ w).alloc (Nat.le_refl _) _).alloc (by simp) _).alloc (by simp only [World.size_alloc]; omega) _) 1
  have X4 := HD.out.below X3 hps
  have c72 : W.cell? ⟨p, 72, none⟩ = some (.int .i64 (n : Nat)) := by rw [X4.blk.cell, digL_n]
  have HX0 := Lib.hid X0
  have HX1 := Lib.hid X1
  have HX3 := Lib.hid X3
  have HX4 := Lib.hid X4
  have XR : Row W p 8 n .u8 R := Row.blk X4.blk fun i hi => digL_r _ _ _ _ _ (by omega)
  clear hW X0 X1 X3 X4
  simp only [List.take_succ_cons, List.take_zero, List.drop_succ_cons, List.drop_zero]
  repeat (refine wpStill_step (fun K hK => ?_); go_simp; refine hK _ ?_; clear hK K)
  refine wpStill_nil ?_
  have hmin : n = Nat.min n 128 := (show n = min n 128 by omega)
  have hpos : 0 < n → some (⟨w.heap.size + 2, 0, none⟩ : Addr) = some ⟨w.heap.size + 2, 0, none⟩ ∧ ∃ b o, some (⟨p, 8, none⟩ : Addr) = some ⟨b, o, none⟩ ∧ Row W b o n .u8 R := fun _ => ⟨rfl, p, 8, rfl, XR⟩
  have hfit : 0 + n ≤ (nums .u8 (fun _ => 0) 128).length := by rw [nums_length]; omega
  have HM := Lib.hid hmin
  clear hmin
  go_upto_region 6 with (with_reducible refine wpList_copy_blk rfl _ _ _ _ rfl _ Tryd.underlying39 Tryd.size_u8 _ _ _ _ _ _ rfl rfl (w.heap.size + 2) 0 _ _ X2 R n HM.out hpos hfit ?_; intro w3 ho3 hb3 hz3; have HO3 := Lib.hid ho3; have HB3 := Lib.hid hb3; clear ho3 hb3 hz3 hpos X2 XR)
  have f3 := HB3.out.frozen n
  have c3 : w3.cell? ⟨w.heap.size + 2, n, none⟩ = some (.int .u8 0) := by
    rw [HB3.out.cell, splice_get _ _ _ _ (by rw [nums_length, nums_length]; omega), if_neg (by rw [nums_length]; omega), nums_get _ _ _ _ (by omega)]; rfl
  have hnI2 : (n : Int) < 128 := by omega
  have hrel0 : Hid (SumRel w p H R n all 128 0 (w3.setCell ⟨w.heap.size + 2, n, none⟩ (.int .u8 128))) := by
    show SumRel _ _ _ _ _ _ _ _ _
    have o1 := (Only.refl (w.heap.size + 2) w3).setCell n (.int .u8 128)
    have o2 := HO3.out.trans o1
    refine ⟨HX3.out.trans (o2.below HX3.out.size (by omega)), HX0.out.only o2 (by omega), HX1.out.only o2 (by omega), ?_, HX4.out.only o2 (by omega)⟩
    rw [← nums_fill R n all 128 (by omega)]
    exact HB3.out.set n (.int .u8 128)
  clear c72
  go_wp2
  go_loopw [29] (fun k wr => ∃ j : Nat, j ≤ 8 ∧ k = .int .i64 (j : Nat) ∧ SumRel w p H R n all 128 j wr) (fun k _ => 8 - (intOf k).toNat)
  case atStart => exact ⟨0, Nat.zero_le _, rfl, hrel0.out⟩
  case round =>
    obtain ⟨j, hj, rfl, hr⟩ := hrel
    have HR := Lib.hid hr
    by_cases hlt : j < 8
    · obtain ⟨q, hq⟩ : ∃ q, q + 1 + j = 128 := ⟨128 - 1 - j, by omega⟩
      have eq1 : (127 : Int) - (j : Int) = (q : Int) := by omega
      have lq : (q : Int) < 128 := by omega
      obtain ⟨s, hs⟩ : ∃ s, s = 8 * j := ⟨_, rfl⟩
      have es : 8 * (j : Int) = (s : Int) := by omega
      have ls : (s : Int) < 64 := by omega
      obtain ⟨V, hV⟩ : ∃ V, V = all * 8 % 18446744073709551616 := ⟨_, rfl⟩
      have eV : (all : Int) * 8 % 18446744073709551616 = (V : Int) := by omega
      have lV : V < 18446744073709551616 := by omega
      have c73 : wr.cell? ⟨p, 73, none⟩ = some (.int .u64 (all : Nat)) := by rw [hr.dig.blk.cell, digL_all]
      have cq := hr.last.cell q
      rw [nums_get _ _ _ _ (by omega)] at cq
      have fq := hr.last.frozen q
      have HQ := Lib.hid hq
      have HS := Lib.hid hs
      have HV := Lib.hid hV
      clear hq hs hV hr hrel0
      go_wp2
      obtain ⟨v, hv⟩ : ∃ v, v = V / 2 ^ s % 256 := ⟨_, rfl⟩
      have ev : IntKind.u64.wrap ((all : Int) * 8) / 2 ^ s % 256 = (v : Int) := by
        rw [IntKind.wrap_u64, eV, hv]
        push_cast
        rfl
      rw [ev]
      go_roundw
      case rel => exact ⟨j + 1, by omega, by go_num, HR.out.step hps hlt (by omega) HQ.out (by rw [hv, HV.out, HS.out])⟩
      case measure => simp [intOf]; omega
    · obtain rfl : j = 8 := by omega
      clear hr hrel0
      go_upto_region 15 with fail
      have HW := Lib.hid (Row.blk (o := 0) HR.out.words fun i hi => by rw [Nat.zero_add]; exact nums_get _ _ _ _ hi)
      have TW := Lib.hid (HT.out.below HR.out.below HT.out.size)
      have hHl := HD.out.hl
      have hRl := HD.out.rl
      have MIX := Lib.hid (mix_any (w.heap.size + 1) 0 (w.heap.size + 1 + 1) 0 64 128 H (lastJ R n all 128 8) wr TW.out HW.out (fun i => HR.out.words.frozen i) hHl (Row.blk (o := 0) HR.out.last fun i hi => by rw [Nat.zero_add]; exact nums_get _ _ _ _ (by omega)) (lastJ_lt hRl _ _ _ _) (by omega))
      clear hHl hRl
      have hst : (Tryd.prog.info? 24).map (·.size) = some (nums .u8 (rootF (mixF (mixF H (lastJ R n all 128 8)) (fun i => lastJ R n all 128 8 (64 + i)))) 32).toArray.size := by
        rw [show (nums .u8 (rootF (mixF (mixF H (lastJ R n all 128 8)) (fun i => lastJ R n all 128 8 (64 + i)))) 32).toArray.size = 32 by simp [nums_length]]
        exact Tryd.size_root
      have hold : (nums .u8 (fun _ => 0) 32).toArray.size = (nums .u8 (rootF (mixF (mixF H (lastJ R n all 128 8)) (fun i => lastJ R n all 128 8 (64 + i)))) 32).toArray.size := by simp [nums_length]
      have hone : (nums .u8 (rootF (mixF (mixF H (lastJ R n all 128 8)) (fun i => lastJ R n all 128 8 (64 + i)))) 32).toArray.all (·.oneCell') = true := all_oneCell_toArray nums_mem
      go_upto_region 17 with (go_at_call 29; refine MIX.out.mono ?_; rintro e w4 ⟨rfl, hu4, hr4⟩; have HU4 := Lib.hid hu4; have HR4 := Lib.hid hr4; clear hu4 hr4)
      have O4 := Lib.hid HU4.out.only
      have T4 := Lib.hid (TW.out.only O4.out (by have := HT.out.size; omega))
      have HRl := HD.out.rl
      have FR4 := Lib.hid (fun i => (HU4.out.frozen i).trans (HR.out.words.frozen i))
      have L4 := Lib.hid (HR.out.last.only O4.out (by omega))
      have MIX := Lib.hid (mix_any (w.heap.size + 1) 0 (w.heap.size + 1 + 1) 64 64 64 (mixF H (lastJ R n all 128 8)) (fun i => lastJ R n all 128 8 (64 + i)) w4 T4.out HR4.out FR4.out (mixF_lt _ _) (Row.blk L4.out fun i hi => nums_get _ _ _ _ (by omega)) (fun i => lastJ_lt HRl _ _ _ _ _) (by omega))
      clear HRl
      go_upto_region 18 with (go_at_call 29; refine MIX.out.mono ?_; rintro e w5 ⟨rfl, hu5, hr5⟩; have HU5 := Lib.hid hu5; have HR5 := Lib.hid hr5; clear hu5 hr5)
      have H0 := Lib.hid (HR.out.res.only (O4.out.trans HU5.out.only) (by omega))
      have HL := Lib.hid (HR.out.below.trans ((O4.out.trans HU5.out.only).below HR.out.below.size (by omega)))
      have ROOT := Lib.hid (root_any (w.heap.size + 1) 0 _ w5 HR5.out (mixF_lt _ _))
      clear MIX
      go_wp2_with (first | (go_at_call 30; refine ROOT.out.mono ?_; rintro e w6 ⟨rfl, hb6⟩; have H0 := Lib.hid (H0.out.below hb6 H0.out.lt); have H0' := H0.out; unfold Blk at H0'; have HL := Lib.hid (HL.out.trans (hb6.mono HL.out.size)); clear hb6; unfold bytesV) | (with_reducible refine wpList_store_row rfl _ _ _ rfl _ _ rfl rfl _ _ H0' hst hold hone ?_))
      refine bodyPost_ret (v := .agg (nums .u8 (rootF (mixF (mixF H (lastJ R n all 128 8)) (fun i => lastJ R n all 128 8 (64 + i)))) 32).toArray) ?_ rfl ⟨rfl, ?_⟩
      · exact results_cell_row (by rfl) _ _ _ _ _ _ _ (by rfl) (Blk.setRow H0.out _) Tryd.underlying24 rfl hst
      · exact below_setRow HL.out (Nat.le_refl _) _

theorem sum_any (p n all : Nat) (H R : Nat → Nat) (w : World) (tab : Tab w) (d : Dig w p H R n all) (hall : all < 18446744073709551616) :
    Calls Tryd.prog 23 #[.pointer (some ⟨p, 0, none⟩)] w (SumPost w (sumF H R n all)) := by
  unfold sumF
  by_cases h : n < 56
  · rw [if_pos h]; exact sum_small p n all H R w tab d h hall
  · rw [if_neg h]; exact sum_big p n all H R w tab d (by omega) hall
theorem sumF_lt (H R : Nat → Nat) (n all i : Nat) : sumF H R n all i < 256 := by unfold sumF; exact rootF_lt _ _
end Go.Proofs.YtfagmjlgpfnniaaDoor
