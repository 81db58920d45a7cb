/- Contract of shuf.List. -/
import Derived.Test.YtfagmjlgpfnniaaDoorShuf
import Derived.RegionTactic
import Derived.BigRegion
namespace Go.Proofs.YtfagmjlgpfnniaaDoor
open Go.RowKit

set_option maxRecDepth 100000 in
def ListJ (w : World) (V0 : Value) (n : Nat) (S : Nat → Nat) (L : List Nat) (a' : Act) (w' : World) : Prop := ∃ (k og ocap ag acap : Nat) (tail : List Value) (ps : Nat → Nat) (U : Nat → Value), a' = { tmps := #[V0, .agg (nums .u8 S 32).toArray, U 2, U 3, U 4, U 5, .slice (some ⟨og, 0, none⟩) n ocap, .int .u64 (n : Nat), .slice (some ⟨ag, 0, none⟩) 6 acap, .int .i64 ((k : Nat) + 1), U 10, U 11, U 12, U 13, U 14, U 15, U 16, U 17, U 18, U 19, U 20, U 21, U 22, U 23, U 24, U 25, U 26, U 27, U 28, U 29, U 30, U 31, U 32, U 33, U 34, U 35, U 36, U 37, U 38, U 39, U 40, U 41, U 42, U 43, U 44, U 45, U 46, U 47, U 48, U 49, U 50, U 51, U 52, U 53, U 54, U 55, U 56, U 57, U 58, U 59, U 60, U 61, U 62, U 63, U 64, U 65, U 66, U 67, U 68, U 69, U 70, U 71, U 72, U 73, U 74, U 75, U 76, U 77, U 78, U 79, U 80, U 81, U 82, U 83, U 84, U 85, U 86, U 87, U 88, U 89, U 90], defers := [] } ∧ k ≤ 5 ∧ 6 ≤ acap ∧ LI w n S (shufR S n L (5 - k)) og ocap ag tail ps w' ∧ True

set_option maxRecDepth 100000 in
theorem ListJ.of {w : World} {V0 : Value} {n : Nat} {S : Nat → Nat} {L : List Nat} {a' : Act} {w' : World} (k og ocap ag acap : Nat) (tail : List Value) (ps : Nat → Nat) (hf : a' = { tmps := #[V0, .agg (nums .u8 S 32).toArray, a'.tmps.getD 2 undef, a'.tmps.getD 3 undef, a'.tmps.getD 4 undef, a'.tmps.getD 5 undef, .slice (some ⟨og, 0, none⟩) n ocap, .int .u64 (n : Nat), .slice (some ⟨ag, 0, none⟩) 6 acap, .int .i64 ((k : Nat) + 1), a'.tmps.getD 10 undef, a'.tmps.getD 11 undef, a'.tmps.getD 12 undef, a'.tmps.getD 13 undef, a'.tmps.getD 14 undef, a'.tmps.getD 15 undef, a'.tmps.getD 16 undef, a'.tmps.getD 17 undef, a'.tmps.getD 18 undef, a'.tmps.getD 19 undef, a'.tmps.getD 20 undef, a'.tmps.getD 21 undef, a'.tmps.getD 22 undef, a'.tmps.getD 23 undef, a'.tmps.getD 24 undef, a'.tmps.getD 25 undef, a'.tmps.getD 26 undef, a'.tmps.getD 27 undef, a'.tmps.getD 28 undef, a'.tmps.getD 29 undef, a'.tmps.getD 30 undef, a'.tmps.getD 31 undef, a'.tmps.getD 32 undef, a'.tmps.getD 33 undef, a'.tmps.getD 34 undef, a'.tmps.getD 35 undef, a'.tmps.getD 36 undef, a'.tmps.getD 37 undef, a'.tmps.getD 38 undef, a'.tmps.getD 39 undef, a'.tmps.getD 40 undef, a'.tmps.getD 41 undef, a'.tmps.getD 42 undef, a'.tmps.getD 43 undef, a'.tmps.getD 44 undef, a'.tmps.getD 45 undef, a'.tmps.getD 46 undef, a'.tmps.getD 47 undef, a'.tmps.getD 48 undef, a'.tmps.getD 49 undef, a'.tmps.getD 50 undef, a'.tmps.getD 51 undef, a'.tmps.getD 52 undef, a'.tmps.getD 53 undef, a'.tmps.getD 54 undef, a'.tmps.getD 55 undef, a'.tmps.getD 56 undef, a'.tmps.getD 57 undef, a'.tmps.getD 58 undef, a'.tmps.getD 59 undef, a'.tmps.getD 60 undef, a'.tmps.getD 61 undef, a'.tmps.getD 62 undef, a'.tmps.getD 63 undef, a'.tmps.getD 64 undef, a'.tmps.getD 65 undef, a'.tmps.getD 66 undef, a'.tmps.getD 67 undef, a'.tmps.getD 68 undef, a'.tmps.getD 69 undef, a'.tmps.getD 70 undef, a'.tmps.getD 71 undef, a'.tmps.getD 72 undef, a'.tmps.getD 73 undef, a'.tmps.getD 74 undef, a'.tmps.getD 75 undef, a'.tmps.getD 76 undef, a'.tmps.getD 77 undef, a'.tmps.getD 78 undef, a'.tmps.getD 79 undef, a'.tmps.getD 80 undef, a'.tmps.getD 81 undef, a'.tmps.getD 82 undef, a'.tmps.getD 83 undef, a'.tmps.getD 84 undef, a'.tmps.getD 85 undef, a'.tmps.getD 86 undef, a'.tmps.getD 87 undef, a'.tmps.getD 88 undef, a'.tmps.getD 89 undef, a'.tmps.getD 90 undef], defers := [] }) (hk : k ≤ 5) (hc : 6 ≤ acap) (h : LI w n S (shufR S n L (5 - k)) og ocap ag tail ps w') : ListJ w V0 n S L a' w' :=
  ⟨k, og, ocap, ag, acap, tail, ps, fun i => a'.tmps.getD i undef, hf, hk, hc, h, trivial⟩

/-- What a round over the places has turned. -/
structure LB (w5 : World) (og n pv : Nat) (B : Nat → Nat) (l : List Nat) (tail : List Value) (j : Nat) (wx : World) : Prop where
  only : Only og w5 wx
  out : Blk wx og 22 (u64s (innerF pv n B l j) ++ tail)
theorem LB.keep {w5 wx wy : World} {og n pv : Nat} {B : Nat → Nat} {l : List Nat} {tail : List Value} {j f x : Nat} (h : LB w5 og n pv B l tail j wx) (hf : f = flipF pv n j) (hn : ¬ (j < f ∧ bitF B f = 1)) (hb : Below wx.heap.size wx wy) (_ : og < x) : LB w5 og n pv B l tail (j + 1) wy := by
  refine ⟨h.only.trans (Only.of hb (Nat.le_refl _)), ?_⟩
  rw [innerF, ← hf, if_neg hn]
  exact h.out.below hb h.out.lt
theorem LB.swap {w5 wx wy wz : World} {og n pv : Nat} {B : Nat → Nat} {l : List Nat} {tail : List Value} {j f x y : Nat} (h : LB w5 og n pv B l tail j wx) (hpv : pv < n) (hl : l.length = n) (hj : j < n) (hf : f = flipF pv n j) (hn : j < f ∧ bitF B f = 1) (hb : Below wx.heap.size wx wy)
    (hx : x = (innerF pv n B l j).getD f 0) (hy : y = (innerF pv n B l j).getD j 0) (hz : wz = ((wy.setCell ⟨og, j, none⟩ (.int .u64 (x : Nat))).setCell ⟨og, f, none⟩ (.int .u64 (y : Nat))).drew) : LB w5 og n pv B l tail (j + 1) wz := by
  subst hz
  have hlen := (innerF_perm (B := B) hpv hl j (by omega)).2
  have lf : f < n := by rw [hf]; exact flipF_lt hpv hj
  refine ⟨h.only.trans (((Only.of hb (Nat.le_refl _)).setCell _ _).setCell _ _).drew, ?_⟩
  rw [innerF, ← hf, if_pos hn, ← u64s_swap _ _ _ _ (by omega) (by omega), ← hx, ← hy]
  exact (((h.out.below hb h.out.lt).set _ _).set _ _).drew
theorem OL.shape {w : World} {B : Nat} {v : Value} {l : List Nat} (h : OL w B v l) (hne : l ≠ []) : ∃ og ocap tail, v = .slice (some ⟨og, 0, none⟩) l.length ocap ∧ B ≤ og ∧ Blk w og 22 (u64s l ++ tail) ∧ (u64s l ++ tail).length = ocap ∧ ocap ≤ maxLen := by
  obtain ⟨h1, h2⟩ := h
  rcases h2 with ⟨_, h0⟩ | ⟨og, ocap, cur, rfl, hog, hblk, hle, hmax, hsize, htake⟩
  · exact absurd (List.eq_nil_of_length_eq_zero h0) hne
  · rw [Nat.mul_one] at hsize htake
    have e : cur.toList = u64s l ++ cur.toList.drop l.length := by rw [← htake, List.take_append_drop]
    refine ⟨og, ocap, cur.toList.drop l.length, rfl, hog, ?_, ?_, hmax⟩
    · rw [← e]; unfold Blk; simpa using hblk
    · rw [← e]; simpa using hsize
theorem RR.shape {w wr : World} {n : Nat} {S : Nat → Nat} {v : Value} (h : RR w n S 6 v wr) : ∃ (ag acap : Nat) (ps : Nat → Nat), v = .slice (some ⟨ag, 0, none⟩) 6 acap ∧ w.heap.size < ag ∧ 6 ≤ acap ∧
    (∀ r, r < 6 → wr.cell? ⟨ag, 2 * r, none⟩ = some (.int .u64 (pivotF S r n : Nat)) ∧ wr.cell? ⟨ag, 2 * r + 1, none⟩ = some (.pointer (some ⟨ps r, 0, none⟩))) ∧ ∀ r, r < 6 → w.heap.size < ps r ∧ Dig wr (ps r) startF (roundR S r) 33 33 := by
  obtain ⟨ps, ⟨h1, h2⟩, h3⟩ := h.own
  rcases h2 with ⟨_, h0⟩ | ⟨ag, acap, cur, rfl, hag, hblk, hle, hmax, hsize, htake⟩
  · omega
  · refine ⟨ag, acap, ps, rfl, by omega, hle, fun r hr => ?_, fun r hr => ⟨(h3 r hr).1, (h3 r hr).2.2⟩⟩
    have hc : ∀ i, i < 12 → wr.cell? ⟨ag, i, none⟩ = (rcells n S ps 6)[i]? := fun i hi => by
      rw [cell_of_row wr ag i cur _ (0, 0) hblk, ← htake, List.getElem?_take_of_lt (by omega)]
      simp
    obtain ⟨g1, g2⟩ := rcells_get n S ps 6 r hr
    exact ⟨(hc _ (by omega)).trans g1, (hc _ (by omega)).trans g2⟩
set_option maxHeartbeats 3200000 in
set_option maxRecDepth 100000 in
theorem list_some (b o c : Nat) (L : List Nat) (S : Nat → Nat) (hS : ∀ i, S i < 256) (w : World) (tab : Tab w) (h : Sl w 0 (.slice (some ⟨b, o, none⟩) L.length c) (u64s L)) (n : Nat) (hnl : L.length = n) (hn : 1 ≤ n) (hn2 : n ≤ 100) :
    Calls Tryd.prog 17 #[.slice (some ⟨b, o, none⟩) L.length c, bytesV S 32] w (ListPost w S L) := by
  unfold bytesV
  have HT := Lib.hid tab
  have HS := Lib.hid hS
  have h2 := tab.size
  have HL := Lib.hid h
  have HN := Lib.hid hnl
  rw [hnl]
  have hnI : (n : Int) ≤ 65536 := by omega
  clear tab hS h hnl
  go_enter Tryd.func17, Tryd.ntmps17
  go_wp2
  refine wp_scope_jumps2 0 (ListJ w (.slice (some ⟨b, o, none⟩) n c) n S L) (fun a' _ => (intOf (a'.tmps.getD 9 undef)).toNat) rfl ?pass ?first
  case first =>
    intro jump
    have H0 := Lib.hid (HL.out.alloc (.cells (nums .u8 S 32).toArray 24))
    rw [HN.out] at H0
    have hl6 : L.length ≤ 1000000 := by have := HN.out; omega
    have CL := Lib.hid (clone_any _ L _ 0 H0.out hl6)
    have hn0 : ((n : Int) == 0) = false := by simp; omega
    go_upto_region 4 with (go_at_call 18; refine CL.out.mono ?_; rintro e w1 ⟨v1, rfl, hol1, hb1⟩; have HB1 := Lib.hid hb1; obtain ⟨og, ocap, tail, rfl, hog, hbk, hcap, hmax⟩ := hol1.shape (by intro e; rw [e] at hl6 HN; have := HN.out; simp at this; omega); rw [HN.out]; have HK1 := Lib.hid hbk; have HC1 := Lib.hid hcap; have HM1 := Lib.hid hmax; have HG1 := Lib.hid hog; clear hol1 hb1 hbk hcap hmax hog)
    have SD1 := Lib.hid ((Blk.new w 24 (nums .u8 S 32)).below HB1.out (by simp))
    have BW1 := Lib.hid (((Below.refl _ w).alloc (Nat.le_refl _) (.cells (nums .u8 S 32).toArray 24)).trans (HB1.out.mono (by simp)))
    have T1 := Lib.hid (HT.out.below BW1.out h2)
    have RO := Lib.hid (rounds_any n hn (by omega) S HS.out w1 T1.out)
    clear CL hl6
    go_wp2_with (first | (with_reducible refine wpList_load_blk rfl _ _ rfl _ rfl _ _ SD1.out _ Tryd.underlying24 rfl 32 Tryd.size_root (nums_length _ _ _) ?_) | (go_at_call 24; refine RO.out.mono ?_; rintro e w2 ⟨v2, rfl, hr2⟩; have HR2 := Lib.hid hr2; obtain ⟨ag, acap, ps, rfl, hag, hac, hcells, hdigs⟩ := hr2.shape; have HCE := Lib.hid hcells; have HDG := Lib.hid hdigs; have HAG := Lib.hid hag; clear hr2 hcells hdigs hag))
    go_step3
    rename_i hk
    have hog1 := HK1.out.lt
    refine hk _ _ (jump _ _ (ListJ.of 5 og ocap ag acap tail ps (by rfl) (by omega) hac ?_))
    have hg := HG1.out
    have ha := HAG.out
    rw [World.size_alloc] at hg
    exact ⟨BW1.out.trans (HR2.out.below.mono BW1.out.size), by omega, HN.out, HK1.out.below HR2.out.below hog1, HC1.out, HM1.out, HCE.out, by omega, fun r hr => ⟨by have := (HDG.out r hr).1; omega, (HDG.out r hr).2⟩⟩
  case pass =>
    rintro a' wo ⟨k, og, ocap, ag, acap, tail, ps, U, rfl, hk, hac, hli, -⟩
    obtain ⟨l, hl⟩ : ∃ l, l = shufR S n L (5 - k) := ⟨_, rfl⟩
    rw [← hl] at hli
    have HLL := Lib.hid hl
    have HLI := Lib.hid hli
    have c0 := (hli.cells k (by omega)).1
    have c1 := (hli.cells k (by omega)).2
    obtain ⟨pv, hpv⟩ : ∃ p, p = pivotF S k n := ⟨_, rfl⟩
    have lpv : pv < n := by rw [hpv]; exact pivotF_lt S k n hn
    rw [← hpv] at c0
    have HPV := Lib.hid hpv
    have ek : (k : Int) + 1 - 1 = (k : Int) := by omega
    rw [Nat.mul_comm] at c0 c1
    have hsz := (HLI.out.below).size
    clear hli hl hpv
    go_upto_region 10 with fail
    go_upto_region 11 with fail
    have e255 : ((n : Int) + 255) / 256 = 1 := by omega
    have hmk : ∀ w, (Instr.makeSlice 32 (.int .u64 1) (.int .u64 1)).run Tryd.prog w = .ok (.slice (some ⟨w.heap.size, 0, none⟩) 1 1) (w.alloc (.cells zero32.toArray 24)) := fun _ => by kernel_rfl
    go_wp2
    clear hmk e255 c0 c1
    refine wp_world ?_
    intro w3 hw3
    have B3 := Lib.hid (show Below wo.heap.size wo w3 by rw [hw3]; exact ((Below.refl _ wo).alloc (Nat.le_refl _) _).alloc (by simp) _)
    have hz3 : w3.heap.size = wo.heap.size + 2 := by rw [hw3]; simp
    have r0 : w3.cell? ⟨wo.heap.size, 0, none⟩ = some (.int .u64 (pv : Nat)) := by rw [hw3, World.cell?_alloc_lt _ _ ⟨wo.heap.size, 0, none⟩ (by simp), World.cell?_alloc_new]; rfl
    have r1 : w3.cell? ⟨wo.heap.size, 1, none⟩ = some (.pointer (some ⟨ps k, 0, none⟩)) := by rw [hw3, World.cell?_alloc_lt _ _ ⟨wo.heap.size, 1, none⟩ (by simp), World.cell?_alloc_new]; rfl
    have BK3 := Lib.hid (show Blk w3 (wo.heap.size + 1) 24 zero32 by
      rw [hw3]; have := Blk.new (wo.alloc (.cells #[.int .u64 (pv : Nat), .pointer (some ⟨ps k, 0, none⟩)] 88)) 24 zero32; rwa [World.size_alloc] at this)
    have HZ3 := Lib.hid hz3
    have L3 := Lib.hid (HLI.out.pure B3.out)
    have T3 := Lib.hid (HT.out.below L3.out.below h2)
    have R0 := Lib.hid r0
    have R1 := Lib.hid r1
    have BC := Lib.hid (block_any pv (ps k) (roundR S k) 0 (by omega) w3 T3.out (L3.out.digs k (by omega)).2)
    clear hw3 hz3
    refine wp_loop_rounds 2 ?_
    rw [rounds_succ]
    go_upto_region 16 with (first | (go_at_call 25; refine BC.out.mono ?_; rintro e w4 ⟨rfl, hb4⟩; unfold bytesV; have HB4 := Lib.hid hb4; have Z4 := BK3.out.below hb4 BK3.out.lt; clear hb4) | (with_reducible refine wpList_store_blk rfl _ _ _ rfl _ _ rfl rfl _ _ Z4 32 Tryd.size_root rfl (nums_length _ _ _) nums_mem ?_; intro w5 ho5 hb5 hz5; have HO5 := Lib.hid ho5; have HK5 := Lib.hid hb5; clear ho5 hb5 hz5 Z4))
    have B5 := Lib.hid (show Below wo.heap.size wo w5 from by
      have h1 := HB4.out.size
      have h2 := B3.out.size
      exact (B3.out.trans (HB4.out.mono h2)).trans (HO5.out.below (by omega) (by omega)))
    have L5 := Lib.hid (HLI.out.pure B5.out)
    have T5 := Lib.hid (HT.out.below L5.out.below h2)
    have hz3 := HZ3.out
    have q0 := Lib.hid (show w5.cell? ⟨wo.heap.size, 0, none⟩ = some (.int .u64 (pv : Nat)) by
      rw [HO5.out.cell (p := ⟨wo.heap.size, 0, none⟩) (by have := HB4.out.size; show wo.heap.size < _; omega) (by show wo.heap.size ≠ _; omega), HB4.out.cell (p := ⟨wo.heap.size, 0, none⟩) (by show wo.heap.size < _; omega)]; exact R0.out)
    have q1 := Lib.hid (show w5.cell? ⟨wo.heap.size, 1, none⟩ = some (.pointer (some ⟨ps k, 0, none⟩)) by
      rw [HO5.out.cell (p := ⟨wo.heap.size, 1, none⟩) (by have := HB4.out.size; show wo.heap.size < _; omega) (by show wo.heap.size ≠ _; omega), HB4.out.cell (p := ⟨wo.heap.size, 1, none⟩) (by show wo.heap.size < _; omega)]; exact R1.out)
    obtain ⟨B, hBd⟩ : ∃ B, B = blockF (roundR S k) 0 := ⟨_, rfl⟩
    have lB : Hid (∀ i, B i < 256) := by show ∀ i, B i < 256; rw [hBd]; exact sumF_lt _ _ _ _
    have HBD := Lib.hid hBd
    have K5 := Lib.hid (show Blk w5 (wo.heap.size + 1) 24 (nums .u8 B 32) by rw [hBd]; exact HK5.out)
    have hogs := HLI.out.out.lt
    clear hz3 r0 r1 BC HB4 HO5 HK5 BK3 L3 T3 R0 R1 B3 hBd
    go_wp2
    rw [rounds_succ]
    go_wp2
    go_loopw [55] (fun i wr => ∃ j : Nat, j ≤ n ∧ i = .int .u64 (j : Nat) ∧ LB w5 og n pv B l tail j wr) (fun i _ => n - (intOf i).toNat)
    case atStart => exact ⟨0, Nat.zero_le _, rfl, Only.refl _ _, L5.out.out⟩
    case round =>
      obtain ⟨j, hj, rfl, hlb⟩ := hrel
      have HLB := Lib.hid hlb
      have LX := Lib.hid (L5.out.turn hlb.only (innerF_perm (B := B) lpv L5.out.len j hj).2 hlb.out)
      have bsz := B5.out.size
      have hx0 := K5.out.lt
      have v0 : wr.cell? ⟨wo.heap.size, 0, none⟩ = some (.int .u64 (pv : Nat)) := by rw [hlb.only.cell (p := ⟨wo.heap.size, 0, none⟩) (by show wo.heap.size < _; omega) (by show wo.heap.size ≠ _; omega)]; exact q0.out
      have v1 : wr.cell? ⟨wo.heap.size, 1, none⟩ = some (.pointer (some ⟨ps k, 0, none⟩)) := by rw [hlb.only.cell (p := ⟨wo.heap.size, 1, none⟩) (by show wo.heap.size < _; omega) (by show wo.heap.size ≠ _; omega)]; exact q1.out
      have KX := Lib.hid (K5.out.only hlb.only (by omega))
      clear hlb bsz
      by_cases hlt : j < n
      · obtain ⟨f, hf⟩ : ∃ f, f = flipF pv n j := ⟨_, rfl⟩
        have lf : f < n := by rw [hf]; exact flipF_lt lpv hlt
        have FL := Lib.hid (flip_any pv n j (.pointer (some ⟨ps k, 0, none⟩)) lpv hlt (by omega) wr)
        rw [← hf] at FL
        have HF := Lib.hid hf
        clear hf
        go_upto_region 21 with (go_at_call 26; refine FL.out.mono ?_; rintro e wy ⟨rfl, hby⟩; have HBY := Lib.hid hby; clear hby)
        have LY := Lib.hid (LX.out.pure HBY.out)
        have KY := Lib.hid (KX.out.below HBY.out KX.out.lt)
        have BT0 := Lib.hid (bit_any (wo.heap.size + 1) 0 B f (by omega) wy (Row.blk (o := 0) KY.out fun i hi => by rw [Nat.zero_add]; exact nums_get _ _ _ _ hi) lB.out)
        have ef : (f : Int) / 256 = 0 := by omega
        clear v0 v1 FL
        by_cases h1 : j < f
        · have hd1 : decide (j < f) = true := by simp [h1]
          have hd2 : decide ((j : Int) < (f : Int)) = true := by simp; omega
          by_cases h2 : bitF B f = 1
          · have BT := Lib.hid BT0.out
            rw [decide_eq_true h2] at BT
            have H2 := Lib.hid h2
            clear h2 BT0
            go_upto_region 22 with (go_at_call 27; refine BT.out.mono ?_; rintro e w8 ⟨rfl, rfl⟩)
            obtain ⟨x, hx⟩ : ∃ x, x = (innerF pv n B l j).getD f 0 := ⟨_, rfl⟩
            obtain ⟨y, hy⟩ : ∃ y, y = (innerF pv n B l j).getD j 0 := ⟨_, rfl⟩
            have hlen := LY.out.len
            have cf : wy.cell? ⟨og, f, none⟩ = some (.int .u64 (x : Nat)) := by
              rw [LY.out.out.cell, List.getElem?_append_left (by rw [u64s_length, hlen]; exact lf), u64s_get _ _ (by omega), hx]
            have cj : wy.cell? ⟨og, j, none⟩ = some (.int .u64 (y : Nat)) := by
              rw [LY.out.out.cell, List.getElem?_append_left (by rw [u64s_length, hlen]; exact hlt), u64s_get _ _ (by omega), hy]
            have ff := LY.out.out.frozen f
            have fj := LY.out.out.frozen j
            have HX := Lib.hid hx
            have HY := Lib.hid hy
            have hne : ¬ j = f := by omega
            have hne2 : ¬ f = j := by omega
            clear hx hy hlen
            clear BT KY LY KX LX
            go_region
            go_wp2
            go_roundw
            case rel => exact ⟨j + 1, by omega, by go_num, HLB.out.swap lpv L5.out.len hlt HF.out ⟨h1, H2.out⟩ HBY.out HX.out HY.out rfl⟩
            case measure => simp [intOf]; omega
          · have BT := Lib.hid BT0.out
            rw [decide_eq_false h2] at BT
            have H2 := Lib.hid h2
            clear h2 BT0
            go_wp2_with (go_at_call 27; refine BT.out.mono ?_; rintro e w8 ⟨rfl, rfl⟩)
            go_roundw
            case rel => exact ⟨j + 1, by omega, by go_num, HLB.out.keep HF.out (fun h => H2.out h.2) HBY.out hogs⟩
            case measure => simp [intOf]; omega
        · have hd1 : decide (j < f) = false := by simp; omega
          have hd2 : decide ((j : Int) < (f : Int)) = false := by simp; omega
          clear BT0
          go_wp2
          go_roundw
          case rel => exact ⟨j + 1, by omega, by go_num, HLB.out.keep HF.out (fun h => h1 h.1) HBY.out hogs⟩
          case measure => simp [intOf]; omega
      · obtain rfl : j = n := by omega
        have LN := Lib.hid (show LI w j S (shufR S j L (6 - k)) og ocap ag tail ps wr by
          have e : shufR S j L (6 - k) = innerF pv j B l j := by
            rw [show 6 - k = (5 - k) + 1 by omega, shufR, ← HLL.out, show 5 - (5 - k) = k by omega, HPV.out, HBD.out]; rfl
          rw [e]; exact LX.out)
        clear HLB LX v0 v1 KX
        by_cases hk0 : k = 0
        · subst hk0
          go_wp2
          simp only [Exit.jump]
          go_ret2
          have e : shufF S L = shufR S j L (6 - 0) := by unfold shufF; rw [HN.out]
          refine ⟨_, rfl, ?_, LN.out.below⟩
          rw [e]
          exact LN.out.ol
        · obtain ⟨k1, rfl⟩ : ∃ k1, k = k1 + 1 := ⟨k - 1, by omega⟩
          have LN2 := Lib.hid (show LI w j S (shufR S j L (5 - k1)) og ocap ag tail ps wr by have := LN.out; rwa [show 6 - (k1 + 1) = 5 - k1 by omega] at this)
          have hkp : ((k1 + 1 : Nat) : Int) > 0 := by omega
          go_wp2
          go_step3
          refine ⟨rfl, ListJ.of k1 og ocap ag acap tail ps (by rfl) (by omega) hac LN2.out, ?_⟩
          show (intOf (.int .i64 (((k1 + 1 : Nat) : Int)))).toNat < (intOf (.int .i64 (((k1 + 1 : Nat) : Int) + 1))).toNat
          simp only [intOf]
          omega
end Go.Proofs.YtfagmjlgpfnniaaDoor
