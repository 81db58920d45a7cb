/- Contract of root: the words as bytes. -/
import Derived.Test.YtfagmjlgpfnniaaDoorWords
import Derived.Deep.MidRow
namespace Go.Proofs.YtfagmjlgpfnniaaDoor
open Go.RowKit

def rootF (H : Nat → Nat) (i : Nat) : Nat := H (i / 4) / 2 ^ (24 - 8 * (i % 4)) % 256
theorem rootF_lt (H : Nat → Nat) (i : Nat) : rootF H i < 256 := Nat.mod_lt _ (by decide)
/-- The bytes as far as they are made. -/
def rootL (H : Nat → Nat) (j : Nat) : List Value := nums .u8 (fun i => if i < 4 * j then rootF H i else 0) 32
def RootPost (w : World) (H : Nat → Nat) (e : Ending) (w' : World) : Prop := e = .returned (bytesV (rootF H) 32) ∧ Below w.heap.size w w'
theorem nums_congr {k : IntKind} {f g : Nat → Nat} {n : Nat} (h : ∀ i, i < n → f i = g i) : nums k f n = nums k g n := by
  unfold nums
  exact List.map_congr_left fun i hi => by rw [h i (List.mem_range.1 hi)]
theorem rootL_all (H : Nat → Nat) : rootL H 8 = nums .u8 (rootF H) 32 := nums_congr fun i hi => by rw [if_pos (by omega)]
structure RtRel (w : World) (H : Nat → Nat) (j : Nat) (wr : World) : Prop where
  below : Below w.heap.size w wr
  res : Blk wr w.heap.size 24 (rootL H 0)
  out : Blk wr (w.heap.size + 1) 24 (rootL H j)
theorem RtRel.start (w : World) (H : Nat → Nat) : RtRel w H 0 ((w.alloc (.cells (rootL H 0).toArray 24)).alloc (.cells (rootL H 0).toArray 24)) :=
  ⟨((Below.refl _ w).alloc (Nat.le_refl _) _).alloc (by simp) _, (Blk.new w _ _).alloc _, by
    have := Blk.new (w.alloc (.cells (rootL H 0).toArray 24)) 24 (rootL H 0)
    rwa [World.size_alloc] at this⟩
theorem rootL_set (H : Nat → Nat) (j : Nat) (hj : j < 8) : ((((rootL H j).set (4 * j) (.int .u8 (rootF H (4 * j) : Nat))).set (4 * j + 1) (.int .u8 (rootF H (4 * j + 1) : Nat))).set (4 * j + 2) (.int .u8 (rootF H (4 * j + 2) : Nat))).set (4 * j + 3) (.int .u8 (rootF H (4 * j + 3) : Nat)) = rootL H (j + 1) := by
  apply List.ext_getElem?
  intro i
  rcases Nat.lt_or_ge i 32 with hi | hi
  · unfold rootL
    simp only [List.getElem?_set, List.length_set, nums_length]
    rw [nums_get _ _ _ _ hi, nums_get _ _ _ _ hi]
    by_cases e3 : 4 * j + 3 = i
    · subst e3; rw [if_pos rfl, if_pos hi, if_pos (by omega)]
    · rw [if_neg e3]
      by_cases e2 : 4 * j + 2 = i
      · subst e2; rw [if_pos rfl, if_pos hi, if_pos (by omega)]
      · rw [if_neg e2]
        by_cases e1 : 4 * j + 1 = i
        · subst e1; rw [if_pos rfl, if_pos hi, if_pos (by omega)]
        · rw [if_neg e1]
          by_cases e0 : 4 * j = i
          · subst e0; rw [if_pos rfl, if_pos hi, if_pos (by omega)]
          · rw [if_neg e0]
            by_cases e : i < 4 * j
            · rw [if_pos e, if_pos (by omega)]
            · rw [if_neg e, if_neg (by omega)]
  · rw [List.getElem?_eq_none (by simp [rootL, nums_length]; omega), List.getElem?_eq_none (by simp [rootL, nums_length]; omega)]
theorem rootF_at (H : Nat → Nat) (j x : Nat) (h : H j = x) (hx : x < 4294967296) : rootF H (4 * j) = x / 16777216 ∧ rootF H (4 * j + 1) = x / 65536 % 256 ∧ rootF H (4 * j + 2) = x / 256 % 256 ∧ rootF H (4 * j + 3) = x % 256 := by
  unfold rootF
  rw [show 4 * j / 4 = j by omega, show (4 * j + 1) / 4 = j by omega, show (4 * j + 2) / 4 = j by omega, show (4 * j + 3) / 4 = j by omega, h,
    show 4 * j % 4 = 0 by omega, show (4 * j + 1) % 4 = 1 by omega, show (4 * j + 2) % 4 = 2 by omega, show (4 * j + 3) % 4 = 3 by omega]
  omega
theorem RtRel.step {w wr : World} {H : Nat → Nat} {j : Nat} (h : RtRel w H j wr) (nq : Nat) (hj : j < 8) (hx : H j < 4294967296) :
    RtRel w H (j + 1) (((((wr.drewN nq).setCell ⟨w.heap.size + 1, 4 * j, none⟩ (.int .u8 ((H j : Nat) / 16777216))).setCell ⟨w.heap.size + 1, 4 * j + 1, none⟩ (.int .u8 ((H j : Nat) / 65536 % 256))).setCell ⟨w.heap.size + 1, 4 * j + 2, none⟩ (.int .u8 ((H j : Nat) / 256 % 256))).setCell ⟨w.heap.size + 1, 4 * j + 3, none⟩ (.int .u8 ((H j : Nat) % 256))) := by
  obtain ⟨r0, r1, r2, r3⟩ := rootF_at H j _ rfl hx
  have k0 : ((H j : Int) / 16777216) = (rootF H (4 * j) : Nat) := by rw [r0]; rfl
  have k1 : ((H j : Int) / 65536 % 256) = (rootF H (4 * j + 1) : Nat) := by rw [r1]; rfl
  have k2 : ((H j : Int) / 256 % 256) = (rootF H (4 * j + 2) : Nat) := by rw [r2]; rfl
  have k3 : ((H j : Int) % 256) = (rootF H (4 * j + 3) : Nat) := by rw [r3]; rfl
  rw [k0, k1, k2, k3]
  refine ⟨((((below_drewN h.below nq).setCell (by simp) _).setCell (by simp) _).setCell (by simp) _).setCell (by simp) _, ?_, ?_⟩
  · exact ((((h.res.drewN nq).setOther _ _ (by simp)).setOther _ _ (by simp)).setOther _ _ (by simp)).setOther _ _ (by simp)
  · rw [← rootL_set H j hj]
    exact ((((h.out.drewN nq).set _ _).set _ _).set _ _).set _ _
set_option maxHeartbeats 1600000 in
theorem root_any (hb ho : Nat) (H : Nat → Nat) (w : World) (hH : Row w hb ho 8 .u32 H) (hH2 : ∀ i, H i < 4294967296) :
    Calls Tryd.prog 30 #[.pointer (some ⟨hb, ho, none⟩)] w (RootPost w H) := by
  have HH := Lib.hid hH
  have HH2 := Lib.hid hH2
  have hl := hH.lt (by omega)
  clear hH hH2
  go_enter Tryd.func30, Tryd.ntmps30
  go_wp2
  go_loopw [7] (fun k wr => ∃ j : Nat, j ≤ 8 ∧ k = .int .i64 (j : Nat) ∧ RtRel w H j wr) (fun k _ => 8 - (intOf k).toNat)
  case atStart => exact ⟨0, Nat.zero_le _, rfl, RtRel.start w H⟩
  case round =>
    obtain ⟨j, hj, rfl, hr⟩ := hrel
    have HR := Lib.hid hr
    by_cases hlt : j < 8
    · have hc : wr.cell? ⟨hb, ho + j, none⟩ = some (.int .u32 (H j : Nat)) := by
        rw [hr.below.cell (p := ⟨hb, ho + j, none⟩) hl]
        exact HH.out j hlt
      have hx2 := HH2.out j
      obtain ⟨x, hx⟩ : ∃ x, x = H j := ⟨_, rfl⟩
      rw [← hx] at hc hx2
      obtain ⟨q, hq⟩ : ∃ q, q = 4 * j := ⟨_, rfl⟩
      obtain ⟨q1, hq1⟩ : ∃ q1, q1 = q + 1 := ⟨_, rfl⟩
      obtain ⟨q2, hq2⟩ : ∃ q2, q2 = q + 2 := ⟨_, rfl⟩
      obtain ⟨q3, hq3⟩ : ∃ q3, q3 = q + 3 := ⟨_, rfl⟩
      have e0 : 4 * (j : Int) = (q : Int) := by omega
      have e1 : (q : Int) + 1 = (q1 : Int) := by omega
      have e2 : (q : Int) + 2 = (q2 : Int) := by omega
      have e3 : (q : Int) + 3 = (q3 : Int) := by omega
      have l3 : q < 32 ∧ q1 < 32 ∧ q2 < 32 ∧ q3 < 32 := by omega
      have n3 : q ≠ q1 ∧ q ≠ q2 ∧ q ≠ q3 ∧ q1 ≠ q2 ∧ q1 ≠ q3 ∧ q2 ≠ q3 := by omega
      obtain ⟨m0, m1, m2, m3⟩ := l3
      obtain ⟨n01, n02, n03, n12, n13, n23⟩ := n3
      have c0 := hr.out.cell q
      have c1 := hr.out.cell q1
      have c2 := hr.out.cell q2
      have c3 := hr.out.cell q3
      rw [rootL, nums_get _ _ _ _ m0] at c0
      rw [rootL, nums_get _ _ _ _ m1] at c1
      rw [rootL, nums_get _ _ _ _ m2] at c2
      rw [rootL, nums_get _ _ _ _ m3] at c3
      have f0 := hr.out.frozen q
      have f1 := hr.out.frozen q1
      have f2 := hr.out.frozen q2
      have f3 := hr.out.frozen q3
      have HX := Lib.hid hx
      have HQ := Lib.hid hq
      have HQ1 := Lib.hid hq1
      have HQ2 := Lib.hid hq2
      have HQ3 := Lib.hid hq3
      clear hx hq hq1 hq2 hq3 hr
      go_upto_region 4 with fail
      go_quiet (fail)
      rename_i nq _
      go_wp2
      go_roundw
      case rel =>
        refine ⟨j + 1, by omega, by go_num, ?_⟩
        rw [HQ3.out, HQ2.out, HQ1.out, HQ.out, HX.out]
        exact HR.out.step nq hlt (HH2.out j)
      case measure => simp [intOf]; omega
    · obtain rfl : j = 8 := by omega
      obtain ⟨hb2, h1, h2⟩ := hr
      have zs : ∀ j, (Tryd.prog.info? 24).map (·.size) = some (rootL H j).toArray.size := by
        intro j
        rw [show (rootL H j).toArray.size = 32 by simp [rootL, nums_length]]
        kernel_rfl
      have h1' := h1
      have h2' := h2
      unfold Blk at h1' h2'
      have hold : (rootL H 0).toArray.size = (rootL H 8).toArray.size := by simp [rootL, nums_length]
      have hone : (rootL H 8).toArray.all (·.oneCell') = true := all_oneCell_toArray nums_mem
      go_upto_region 7 with fail
      go_wp2_with (first | (with_reducible refine wpList_load_row rfl _ _ rfl _ rfl _ _ _ _ h2' Tryd.underlying24 rfl (zs 8) ?_) | (with_reducible refine wpList_store_row rfl _ _ _ rfl _ _ rfl rfl _ _ h1' (zs 8) hold hone ?_))
      refine bodyPost_ret (v := .agg (rootL H 8).toArray) ?_ rfl ⟨?_, ?_⟩
      · exact results_cell_row (by rfl) _ _ _ _ _ _ _ (by rfl) (Blk.setRow h1 _) Tryd.underlying24 rfl (zs 8)
      · rw [rootL_all]; rfl
      · exact below_setRow hb2 (Nat.le_refl _) _
end Go.Proofs.YtfagmjlgpfnniaaDoor
