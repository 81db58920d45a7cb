/- WholeDuties' walk: few validators, an epoch that is not too far. -/
import Derived.Test.YtfagmjlgpfnniaaDoorLawFar
import Derived.Deep.QuietTactic
import Derived.Stop.BytesEq
namespace Go.Proofs.YtfagmjlgpfnniaaDoor
open Go.RowKit

/-- How often each attests among the first m. -/
def cntF (all : List Nat) (m v : Nat) : Nat := (all.take m).count v
theorem cntF_zero (all : List Nat) : cntF all 0 = zeroF := by funext v; simp [cntF, zeroF]
theorem cntF_step (all : List Nat) (m : Nat) (h : m < all.length) : nums .i64 (cntF all (m + 1)) 100 = (nums .i64 (cntF all m) 100).set (all.getD m 0) (.int .i64 ((cntF all m (all.getD m 0) + 1 : Nat) : Int)) := by
  have hg : all.getD m 0 = all[m] := by rw [List.getD_eq_getElem?_getD, List.getElem?_eq_getElem h]; rfl
  symm
  apply nums_set
  · unfold cntF
    rw [List.take_succ_eq_append_getElem h, List.count_append, hg]
    simp
  · intro i _ hi
    unfold cntF
    rw [List.take_succ_eq_append_getElem h, List.count_append]
    rw [hg] at hi
    have : List.count i [all[m]] = 0 := by rw [List.count_eq_zero]; simp [hi]
    omega
theorem partF_get (l : List Nat) (k s j : Nat) (h : j < (partF l k s).length) : (partF l k s).getD j 0 = l.getD (l.length * k / s + j) 0 := by
  unfold partF at h ⊢
  rw [List.length_drop, List.length_take] at h
  rw [List.getD_eq_getElem?_getD, List.getElem?_drop, List.getElem?_take_of_lt (by omega), ← List.getD_eq_getElem?_getD]
theorem partF_len (l : List Nat) (k s : Nat) (hs : 0 < s) (hk : k + 1 ≤ s) : l.length * k / s + (partF l k s).length = l.length * (k + 1) / s ∧ l.length * (k + 1) / s ≤ l.length := by
  have h1 : l.length * k / s ≤ l.length * (k + 1) / s := Nat.div_le_div_right (Nat.mul_le_mul_left _ (by omega))
  have h2 : l.length * (k + 1) / s ≤ l.length := by
    calc l.length * (k + 1) / s ≤ l.length * s / s := Nat.div_le_div_right (Nat.mul_le_mul_left _ hk)
      _ = l.length := Nat.mul_div_cancel _ hs
  refine ⟨?_, h2⟩
  unfold partF
  rw [List.length_drop, List.length_take]
  omega
theorem rangeAt_below {w w' : World} {b o B : Nat} {cs : List Value} (h : w.rangeAt b o cs) (hb : Below B w w') (hl : b < B) : w'.rangeAt b o cs := fun j v hv => (hb.cell (p := ⟨b, o + j, none⟩) hl).trans (h j v hv)
theorem rangeAt_drewN {w : World} {b o : Nat} {cs : List Value} (h : w.rangeAt b o cs) (n : Nat) : (w.drewN n).rangeAt b o cs := h
theorem cnt_all (D : SD) (e i : Nat) (hi : i < D.nv) : (allF D e).count i = if actF D e i = true then 1 else 0 := by
  have hnd : (allF D e).Nodup := (shufF_perm _ _).nodup_iff.2 (List.Pairwise.filter _ List.nodup_range)
  have hm : i ∈ allF D e ↔ actF D e i = true := by
    unfold allF
    rw [(shufF_perm _ _).mem_iff]
    unfold activesF
    rw [List.mem_filter, List.mem_range]
    exact ⟨fun h => h.2, fun h => ⟨hi, h⟩⟩
  by_cases h : actF D e i = true
  · rw [if_pos h]
    have h1 := List.nodup_iff_count.1 hnd i
    have h2 := List.count_pos_iff.2 (hm.2 h)
    omega
  · rw [if_neg h, List.count_eq_zero]
    exact fun h' => h (hm.1 h')
structure LW (w : World) (X : List Value) (tb : Nat) (all : List Nat) (m : Nat) (wr : World) : Prop where
  below : Below w.heap.size w wr
  box : Blk wr w.heap.size 49 X
  times : Blk wr tb 55 (nums .i64 (cntF all m) 100)
theorem LW.pure {w wr wr' : World} {X : List Value} {tb : Nat} {all : List Nat} {m : Nat} (h : LW w X tb all m wr) (hb : Below wr.heap.size wr wr') : LW w X tb all m wr' :=
  ⟨h.below.trans (hb.mono h.below.size), h.box.below hb h.box.lt, h.times.below hb h.times.lt⟩
theorem LW.step {w wr : World} {X : List Value} {tb : Nat} {all : List Nat} {m x y : Nat} (h : LW w X tb all m wr) (htb : w.heap.size < tb) (hm : m < all.length) (hx : x = all.getD m 0) (hy : y = cntF all m x + 1) : LW w X tb all (m + 1) (wr.setCell ⟨tb, x, none⟩ (.int .i64 (y : Nat))) :=
  ⟨h.below.setCell (by show _ ≤ tb; omega) _, h.box.setOther _ _ (by show tb ≠ _; omega), by rw [cntF_step all m hm, ← hx, ← hy]; exact h.times.set _ _⟩
theorem LW.drewN {w wr : World} {X : List Value} {tb : Nat} {all : List Nat} {m : Nat} (h : LW w X tb all m wr) (n : Nat) : LW w X tb all m (wr.drewN n) := h.pure (below_drewN (Below.refl _ _) n)
/-- The slot moved, the header's slot laid. -/
theorem St.moved {w : World} {X : List Value} {D : SD} (h : St w X D) (s : Nat) (hs : s < 18446744073709551616) : St w ((X.set 33 (.int .u64 (s : Nat))).set 43 (.int .u64 0)) { D with slot := s } := by
  have hg : ∀ i, i ≠ 33 → i ≠ 43 → ((X.set 33 (.int .u64 (s : Nat))).set 43 (.int .u64 0))[i]? = X[i]? := fun i h1 h2 => by
    rw [List.getElem?_set_ne (by omega), List.getElem?_set_ne (by omega)]
  refine ⟨by rw [List.length_set, List.length_set, h.len], ?_, ?_, hs, by rw [hg _ (by decide) (by decide)]; exact h.vals, h.addr, h.cap, h.capl, fun i hi => ?_, h.actl, h.extl, h.effl, fun i hi => by rw [hg _ (by omega) (by omega)]; exact h.mix i hi, h.mixl⟩
  · intro v hv
    rcases List.mem_or_eq_of_mem_set hv with hv | rfl
    · rcases List.mem_or_eq_of_mem_set hv with hv | rfl
      · exact h.one v hv
      · rfl
    · rfl
  · rw [List.getElem?_set_ne (by decide), List.getElem?_set_self (by rw [h.len]; decide)]
  · have q := h.vc i hi
    exact ⟨q.len, q.one, q.act', q.ext', q.eff', q.key', q.row⟩
theorem RL.pure {w wr wr' : World} {X : List Value} (h : RL w X wr) (hb : Below wr.heap.size wr wr') : RL w X wr' := ⟨h.below.trans (hb.mono h.below.size), h.box.below hb h.box.lt⟩
theorem codeR_or (r : Option (List Nat)) : codeR r = 0 ∨ codeR r = 7 := by cases r <;> simp [codeR]
theorem next_any (X : List Value) (D : SD) (w : World) (tab : Tab w) (st : St w X D) (hn : D.nv ≤ 100) (hkl : ∀ i j, D.key i j < 256) :
    Calls Tryd.prog 10 #[.agg X.toArray] w (NextPost w D) := by
  cases h : syncR D with
  | none => exact next_none X D w tab st hn h
  | some r => exact next_some X D r w tab st hn h hkl
theorem nums_cells (f : Nat → Nat) (n : Nat) (hf : ∀ i, f i < 256) : nums .u8 f n = ((List.range n).map fun i => UInt8.ofNat (f i)).map Extern.Stop.cell := by
  apply List.ext_getElem?
  intro i
  by_cases h : i < n
  · rw [nums_get _ _ _ _ h, List.map_map, List.getElem?_map, List.getElem?_range h]
    have : (UInt8.ofNat (f i)).toNat = f i := by rw [UInt8.toNat_ofNat']; exact Nat.mod_eq_of_lt (hf i)
    simp [Extern.Stop.cell, this]
  · rw [List.getElem?_eq_none (by rw [nums_length]; omega), List.getElem?_eq_none (by simp; omega)]
theorem key_eq (f : Nat → Nat) (hf : ∀ i, f i < 256) (W : World) : (Op.equalIn 10000 44 (.agg (nums .u8 f 48).toArray) (.agg (nums .u8 f 48).toArray)).run Tryd.prog W = .ok true W := by
  rw [nums_cells f 48 hf, run_equalIn_bytes W 9998 44 5 48 Tryd.underlying44 Tryd.underlying5 (by intro w; go_simp) _ _ (by simp) (by simp)]
  simp
/-- The committee's loop. -/
structure EW (w : World) (X : List Value) (cb : Nat) (C : List Value) (b o : Nat) (r : List Nat) (wr : World) : Prop where
  rl : RL w X wr
  com : Blk wr cb 47 C
  lt : b < wr.heap.size
  lst : ∀ k, k < 8 → wr.cell? ⟨b, o + k, none⟩ = some (.int .u64 (r.getD k 0 : Nat))
theorem EW.pure {w wr wr' : World} {X C : List Value} {cb b o : Nat} {r : List Nat} (h : EW w X cb C b o r wr) (hb : Below wr.heap.size wr wr') : EW w X cb C b o r wr' :=
  ⟨h.rl.pure hb, h.com.below hb h.com.lt, Nat.lt_of_lt_of_le h.lt hb.size, fun k hk => (hb.cell (p := ⟨b, o + k, none⟩) h.lt).trans (h.lst k hk)⟩
set_option maxHeartbeats 12800000 in
set_option maxRecDepth 100000 in
theorem duties_near (X : List Value) (D : SD) (E : SD2) (e : Nat) (he : e < 1099511627776) (hn : D.nv ≤ 100) (w : World) (tab : Tab w) (st : St w X D) (rs : RS w X D E) (hkl : ∀ i j, D.key i j < 256) :
    Calls Tryd.prog 3 #[.agg X.toArray, .int .u64 e] w (Yes w) := by
  have HKL := Lib.hid hkl
  have HHS := Lib.hid rs.hs
  clear hkl
  have HST := Lib.hid st
  have HT := Lib.hid tab
  have h2 := tab.size
  have HLEN := Lib.hid st.len
  have bx := Lib.hid (Blk.new w 49 X)
  have b0 := Lib.hid ((Below.refl _ w).alloc (Nat.le_refl _) (.cells X.toArray 49))
  obtain ⟨w0, hw0⟩ : ∃ w0, w0 = w.alloc (.cells X.toArray 49) := ⟨_, rfl⟩
  have W0 := Lib.hid hw0
  have K0 := Lib.hid (show Blk w0 w.heap.size 49 X by rw [hw0]; exact bx.out)
  have B0 := Lib.hid (show Below w.heap.size w w0 by rw [hw0]; exact b0.out)
  have T0 := Lib.hid (HT.out.below B0.out h2)
  have PZ := Lib.hid (proposer_any Z0 D0 w0 T0.out (St.zero w0) (Nat.zero_le _))
  have hc7 : codeR (none : Option (List Nat)) = 7 := rfl
  have HPZ := Lib.hid propR_zero
  have HCZ := Lib.hid countF_zero
  have z49 : ∀ w, (zeroValue 49).run Tryd.prog w = .ok (.agg Z0.toArray) w := (zero_of_info Z0_zero).1
  clear tab st hw0
  go_enter Tryd.func3, Tryd.ntmps3
  go_upto_region 1 with fail
  rw [← W0.out]
  go_upto_region 4 with (first | (go_at_call 4; (with_reducible refine PZ.out.mono ?_); rintro en w1 ⟨hb1, p, rfl, hp⟩; rw [HPZ.out, hc7]; have B1 := Lib.hid hb1; clear hp hb1) | (go_at_call 5; refine (Count_any Z0 D0 0 (by decide) _ (St.zero _) (Nat.zero_le _)).mono ?_; rintro en w2 ⟨rfl, hb2⟩; rw [HCZ.out]; have B2 := Lib.hid hb2; clear hb2))
  have B02 := Lib.hid (show Below w.heap.size w w2 from by
    have h1 := B0.out.trans (B1.out.mono B0.out.size)
    exact h1.trans (B2.out.mono h1.size))
  have K2 := Lib.hid (show Blk w2 w.heap.size 49 X from (K0.out.below B1.out K0.out.lt).below B2.out ((K0.out.below B1.out K0.out.lt).lt))
  have S2 := Lib.hid (HST.out.below B02.out (Nat.le_refl _))
  clear PZ B1 B2 z49
  have R2 := Lib.hid (rs.below B02.out)
  have RT := Lib.hid (right_any X D E w2 S2.out R2.out)
  clear rs
  have C7 := Lib.hid (show ∀ w3, Below w2.heap.size w2 w3 → w3.cell? ⟨w.heap.size, 721, none⟩ = some (.slice D.A D.nv D.vcap) from fun w3 hb => by rw [(K2.out.below hb K2.out.lt).cell]; exact HST.out.vals)
  have d1 : decide (100 < D.nv) = false := by simp; omega
  have d2 : decide ((100 : Int) < (D.nv : Int)) = false := by simp; omega
  have d3 : decide (1099511627776 ≤ e) = false := by simp; omega
  have d4 : decide ((1099511627776 : Int) ≤ (e : Int)) = false := by simp; omega
  go_upto_region 6 with (first | (with_reducible refine wpList_load_blk rfl _ _ rfl _ rfl _ _ K2.out _ Tryd.underlying49 rfl 1957 Tryd.size_state HLEN.out ?_) | (go_at_call 6; (with_reducible refine RT.out.mono ?_); rintro en w3 ⟨⟨bb, rfl⟩, hb3⟩; have c721 := C7.out w3 hb3; have B3' := Lib.hid hb3; have B3 := Lib.hid (B02.out.trans (hb3.mono B02.out.size)); clear hb3; cases bb))
  · go_ret
    exact ⟨rfl, B3.out⟩
  clear c721 d1 d2 d3 d4
  have K3 := Lib.hid (K2.out.below B3'.out K2.out.lt)
  have T3 := Lib.hid (HT.out.below B3.out h2)
  have S3 := Lib.hid (HST.out.below B3.out (Nat.le_refl _))
  clear K2 S2 B02 R2 RT C7 B3'
  have z55 : ∀ w, (zeroValue 55).run Tryd.prog w = .ok (.agg (nums .i64 zeroF 100).toArray) w := (zero_of_info (n := 100) (by kernel_rfl)).1
  go_upto_region 7 with fail
  refine wp_world ?_
  intro w4 hw4
  obtain ⟨tb, htb⟩ : ∃ tb, tb = w3.heap.size := ⟨_, rfl⟩
  rw [← htb]
  have ltb : w.heap.size < tb := by rw [htb]; exact K3.out.lt
  obtain ⟨all, hall⟩ : ∃ all, all = allF D e := ⟨_, rfl⟩
  have L4 := Lib.hid (show LW w X tb all 0 w4 by
    rw [hw4, htb]
    exact ⟨B3.out.alloc B3.out.size _, K3.out.alloc _, by rw [cntF_zero]; exact Blk.new w3 _ _⟩)
  have HALL := Lib.hid hall
  clear hw4 htb z55 K3 T3 S3 B3 hall
  obtain ⟨c, hc⟩ : ∃ c, c = countF (activesF D e D.nv).length := ⟨_, rfl⟩
  have hc2 : 1 ≤ c ∧ c ≤ 2 := by rw [hc]; unfold countF; omega
  obtain ⟨hc1, hc2⟩ := hc2
  have S4 := Lib.hid (HST.out.below L4.out.below (Nat.le_refl _))
  have CT := Lib.hid (show Calls Tryd.prog 5 #[.agg X.toArray, .int .u64 e] w4 (fun en w' => en = .returned (.int .u64 (c : Nat)) ∧ Below w4.heap.size w4 w') by
    have := Count_any X D e (by omega) w4 S4.out hn
    unfold CountPost at this
    rw [← hc] at this
    exact this)
  have HC := Lib.hid hc
  obtain ⟨e4, he4⟩ : ∃ e4, e4 = 4 * e := ⟨_, rfl⟩
  obtain ⟨e5, he5⟩ : ∃ e5, e5 = e4 + 4 := ⟨_, rfl⟩
  have q4 : 4 * (e : Int) = (e4 : Int) := by omega
  have q5 : (e4 : Int) + 4 = (e5 : Int) := by omega
  have l5 : e5 < 9223372036854775807 := by omega
  have E4 := Lib.hid he4
  have E5 := Lib.hid he5
  clear hc he4 he5
  go_upto_region 8 with (first | (with_reducible refine wpList_load_blk rfl _ _ rfl _ rfl _ _ L4.out.box _ Tryd.underlying49 rfl 1957 Tryd.size_state HLEN.out ?_) | (go_at_call 5; (with_reducible refine CT.out.mono ?_); rintro en w5 ⟨rfl, hb5⟩; have B5 := Lib.hid hb5; clear hb5))
  have L5 := Lib.hid (L4.out.pure B5.out)
  clear CT S4 L4 B5
  obtain ⟨N, hN⟩ : ∃ N, N = all.length := ⟨_, rfl⟩
  have HN := Lib.hid hN
  have hN100 : N ≤ 100 := by rw [hN, HALL.out, allF_length]; have := activesF_length D e D.nv; omega
  have HAV := Lib.hid (show ∀ v ∈ all, v < D.nv by intro v hv; rw [HALL.out] at hv; exact (actives_lt ((shufF_perm _ _).mem_iff.1 hv)).1)
  clear hN
  go_wp2
  go_loopw [9] (fun q wr => ∃ s : Nat, s ≤ 4 ∧ q = .int .u64 ((e4 + s : Nat) : Int) ∧ LW w X tb all (N * (s * c + 0) / (c * 4)) wr) (fun q _ => e5 - (intOf q).toNat)
  case atStart => exact ⟨0, Nat.zero_le _, rfl, by rw [show N * (0 * c + 0) / (c * 4) = 0 by simp]; exact L5.out⟩
  case round =>
    obtain ⟨s, hs, rfl, hlw⟩ := hrel
    have LA := Lib.hid hlw
    obtain ⟨wa, hwa⟩ : ∃ wa, wa = wr := ⟨_, rfl⟩
    rw [← hwa] at LA ⊢
    clear hlw hwa L5
    obtain ⟨sl, hsl⟩ : ∃ sl, sl = e4 + s := ⟨_, rfl⟩
    rw [← hsl]
    have lsl : sl ≤ e5 := by have := E5.out; omega
    have HSL := Lib.hid hsl
    by_cases hlt : s < 4
    · have d1 : decide (sl < e5) = true := by have := E5.out; simp; omega
      have d2 : decide ((sl : Int) < (e5 : Int)) = true := by have := E5.out; simp; omega
      have lsl5 : sl < e5 := by have := E5.out; omega
      clear hsl
      go_wp2
      clear d1 d2
      go_loopw [10] (fun q wr => ∃ i : Nat, i ≤ c ∧ q = .int .u64 (i : Nat) ∧ LW w X tb all (N * (s * c + i) / (c * 4)) wr) (fun q _ => c - (intOf q).toNat)
      case atStart => exact ⟨0, Nat.zero_le _, rfl, LA.out⟩
      case round =>
        obtain ⟨i, hi, rfl, hlw⟩ := hrel
        have LB := Lib.hid hlw
        obtain ⟨wb, hwb⟩ : ∃ wb, wb = wr := ⟨_, rfl⟩
        rw [← hwb] at LB ⊢
        clear hlw hwb
        by_cases hic : i < c
        · have d1 : decide (i < c) = true := by simp [hic]
          have d2 : decide ((i : Int) < (c : Int)) = true := by simp; omega
          have d3 : decide (i < 3) = true := by simp; omega
          have d4 : decide ((i : Int) < 3) = true := by simp; omega
          obtain ⟨k, hk⟩ : ∃ k, k = s * c + i := ⟨_, rfl⟩
          have SB := Lib.hid (HST.out.below LB.out.below (Nat.le_refl _))
          have TB := Lib.hid (HT.out.below LB.out.below h2)
          have OF := Lib.hid (show Calls Tryd.prog 7 #[.agg X.toArray, .int .u64 (sl : Nat), .int .u64 (i : Nat)] wb (OfPost wb (partF all k (c * 4))) by
            have := of_any X D e s i c k (c * 4) N he hlt HC.out hic hk rfl (by rw [HN.out, HALL.out]) wb TB.out SB.out hn
            rwa [← E4.out, ← HSL.out, ← HALL.out] at this)
          have HK := Lib.hid hk
          clear hk SB TB
          go_upto_region 17 with (first | (with_reducible refine wpList_load_blk rfl _ _ rfl _ rfl _ _ LB.out.box _ Tryd.underlying49 rfl 1957 Tryd.size_state HLEN.out ?_) | (go_at_call 7; (with_reducible refine OF.out.mono ?_); rintro en w6 ⟨v6, rfl, hol6, hb6⟩; have B6 := Lib.hid hb6; have O6 := Lib.hid hol6; obtain ⟨A6, c6, rfl, p1, p2, p3⟩ := hol6.sl; rw [u64s_length]; have P3 := Lib.hid p3; clear p1 p2 p3 hol6 hb6))
          have L6 := Lib.hid (LB.out.pure B6.out)
          have tlt := LB.out.times.lt
          clear d1 d2 d3 d4 OF LB
          have hks : k + 1 ≤ c * 4 := by
            have h1 : s * c ≤ 3 * c := Nat.mul_le_mul_right c (by omega)
            have := HK.out
            omega
          obtain ⟨pl1, pl2⟩ := partF_len all k (c * 4) (by omega) hks
          rw [← HN.out] at pl1 pl2
          obtain ⟨lo, hlo⟩ : ∃ lo, lo = N * k / (c * 4) := ⟨_, rfl⟩
          obtain ⟨M, hM⟩ : ∃ M, M = (partF all k (c * 4)).length := ⟨_, rfl⟩
          rw [← hlo, ← hM] at pl1
          have LL6 := Lib.hid (show LW w X tb all (lo + 0) w6 by rw [Nat.add_zero, hlo, HK.out]; exact L6.out)
          rw [← hM]
          have HM := Lib.hid hM
          have HLO := Lib.hid hlo
          have PL1 := Lib.hid pl1
          have lM : lo + M ≤ N := by omega
          clear hlo hM pl1 pl2 L6 hks
          go_wp2
          go_loopw [13] (fun q wr => ∃ j : Nat, j ≤ M ∧ q = .int .i64 (j : Nat) ∧ LW w X tb all (lo + j) wr ∧ Only tb w6 wr) (fun q _ => M - (intOf q).toNat)
          case atStart => exact ⟨0, Nat.zero_le _, rfl, LL6.out, Only.refl _ _⟩
          case round =>
            obtain ⟨j, hj, rfl, hlw, hon⟩ := hrel
            have LC := Lib.hid hlw
            have ON := Lib.hid hon
            clear hlw hon LL6
            by_cases hjm : j < M
            · obtain ⟨b, o, hA, hbw, hcell⟩ := P3.out (by intro e; have := congrArg List.length e; rw [u64s_length, ← HM.out] at this; simp at this; omega)
              rw [hA]
              have hcj := hcell j _ (u64s_get _ j (by rw [← HM.out]; exact hjm))
              have hbl : b < w6.heap.size := World.block_lt_of_cell? w6 _ hcj
              have cx : wr.cell? ⟨b, o + j, none⟩ = some (.int .u64 ((partF all k (c * 4)).getD j 0 : Nat)) := (ON.out.cell (p := ⟨b, o + j, none⟩) hbl (by show b ≠ tb; omega)).trans hcj
              rw [partF_get _ _ _ _ (by rw [← HM.out]; exact hjm), ← HN.out, ← HLO.out] at cx
              obtain ⟨x, hx⟩ : ∃ x, x = all.getD (lo + j) 0 := ⟨_, rfl⟩
              rw [← hx] at cx
              have hjN : lo + j < all.length := by rw [← HN.out]; omega
              have lx : x < D.nv := by
                rw [hx, List.getD_eq_getElem?_getD, List.getElem?_eq_getElem hjN]
                exact HAV.out _ (List.getElem_mem hjN)
              have c721 : wr.cell? ⟨w.heap.size, 721, none⟩ = some (.slice D.A D.nv D.vcap) := by rw [LC.out.box.cell]; exact HST.out.vals
              obtain ⟨y, hy⟩ : ∃ y, y = cntF all (lo + j) x := ⟨_, rfl⟩
              have ct : wr.cell? ⟨tb, x, none⟩ = some (.int .i64 (y : Nat)) := by rw [LC.out.times.cell, nums_get _ _ _ _ (by omega), ← hy]
              have ft := LC.out.times.frozen x
              have ly : y ≤ 100 := by
                rw [hy]; unfold cntF
                have h1 := List.count_le_length (a := x) (l := all.take (lo + j))
                rw [List.length_take] at h1
                have := HN.out
                omega
              have d1 : decide (D.nv ≤ x) = false := by simp; omega
              have d2 : decide ((D.nv : Int) ≤ (x : Int)) = false := by simp; omega
              have lx100 : (x : Int) < 100 := by omega
              have HX := Lib.hid hx
              have HY := Lib.hid hy
              have HJN := Lib.hid hjN
              clear hA hbw hcell hcj hbl hx hy hjN
              go_upto_region 20 with fail
              go_quiet (fail)
              rename_i nq _
              go_wp2
              go_roundw
              case rel =>
                refine ⟨j + 1, by omega, by go_num, ?_, (ON.out.drewN nq).setCell _ _⟩
                exact (LC.out.drewN nq).step ltb HJN.out HX.out (by rw [HY.out])
              case measure => simp [intOf]; omega
            · obtain rfl : j = M := by omega
              go_wp2
              go_roundw
              case rel =>
                refine ⟨i + 1, by omega, by go_num, ?_⟩
                have := LC.out
                rw [PL1.out, HK.out] at this
                exact this
              case measure => simp [intOf]; omega
        · obtain rfl : i = c := by omega
          have d1 : decide (i < i) = false := by simp
          have d2 : decide ((i : Int) < (i : Int)) = false := by simp
          go_wp2
          go_roundw
          case rel =>
            refine ⟨s + 1, by omega, by rw [HSL.out]; go_num, ?_⟩
            have := LB.out
            rw [show s * i + i = (s + 1) * i + 0 by rw [Nat.add_mul, Nat.one_mul, Nat.add_zero]] at this
            exact this
          case measure => simp [intOf]; omega
    · obtain rfl : s = 4 := by omega
      have d1 : decide (sl < e5) = false := by have := E5.out; simp; omega
      have d2 : decide ((sl : Int) < (e5 : Int)) = false := by have := E5.out; simp; omega
      have L7 := Lib.hid (show LW w X tb all N wa by
        have := LA.out
        rwa [show N * (4 * c + 0) / (c * 4) = N by rw [Nat.add_zero, Nat.mul_comm 4 c]; exact Nat.mul_div_cancel N (by omega)] at this)
      have HCN := Lib.hid (show ∀ i, i < D.nv → cntF all N i = if actF D e i = true then 1 else 0 from fun i hi => by
        unfold cntF
        rw [HN.out, List.take_length, HALL.out]
        exact cnt_all D e i hi)
      clear hsl LA
      go_wp2
      clear d1 d2
      go_loopw [14] (fun q wr => ∃ i : Nat, i ≤ D.nv ∧ q = .int .i64 (i : Nat) ∧ LW w X tb all N wr) (fun q _ => D.nv - (intOf q).toNat)
      case atStart => exact ⟨0, Nat.zero_le _, rfl, L7.out⟩
      case round =>
        obtain ⟨i, hi, rfl, hlw⟩ := hrel
        have LD := Lib.hid hlw
        clear hlw L7
        have c721 : wr.cell? ⟨w.heap.size, 721, none⟩ = some (.slice D.A D.nv D.vcap) := by rw [LD.out.box.cell]; exact HST.out.vals
        by_cases hiv : i < D.nv
        · have HCI := Lib.hid (HCN.out i hiv)
          have hA := HST.out.addr (by omega)
          rw [hA] at c721
          have VI := Lib.hid (HST.out.vc i hiv)
          have RNG := Lib.hid ((VI.out.below LD.out.below (Nat.le_refl _)).row)
          have VLT := Lib.hid ((VI.out.below LD.out.below (Nat.le_refl _)).lt)
          have HL86 := Lib.hid VI.out.len
          have c721v := Lib.hid (show X[721]? = some (.slice (some ⟨D.vb, D.vo, none⟩) D.nv D.vcap) by rw [← hA]; exact HST.out.vals)
          have li100 : (i : Int) < 100 := by omega
          have hcap := HST.out.cap
          clear hA
          go_upto_region 26 with fail
          clear c721
          by_cases hact : actF D e i = true
          · have ny := Lib.hid (show cntF all N i = 1 by have := HCI.out; rwa [if_pos hact] at this)
            have AT := Lib.hid (fun W => show Calls Tryd.prog 8 #[.agg (D.val i).toArray, .int .u64 (e : Nat)] W (fun en w' => en = .returned (.bool true) ∧ Below W.heap.size W w') from by
              have := active_any (D.val i) (D.act i) (D.ext i) e ⟨VI.out.len, VI.out.act', VI.out.ext'⟩ (HST.out.actl i) (HST.out.extl i) (by omega) W
              unfold actF at hact
              rwa [hact] at this)
            clear hact
            refine wp_region_held_drew (S := fun W => (Blk W w.heap.size 49 X ∧ Blk W tb 55 (nums .i64 (cntF all N) 100)) ∧ W.rangeAt D.vb (D.vo + i * 86) (D.val i)) (by kernel_rfl) ⟨⟨LD.out.box.drew, LD.out.times.drew⟩, rangeAt_drewN RNG.out 1⟩ (fun hH => ?_)
            refine wpAnyH_take2 (i := 0) (some 110) rfl rfl (by kernel_rfl) (by kernel_rfl) (by kernel_rfl) (fun _ _ _ h => h) (YieldsIf.pure (v := .pointer (some ⟨w.heap.size, 721, none⟩)) (by rfl) (fun W => by go_simp)) hH ?_
            simp only [Act.put, List.setIfInBounds_toArray, List.set_cons_zero, List.set_cons_succ]
            refine wpAnyH_take2 (i := 1) (some 111) rfl rfl (by kernel_rfl) (by kernel_rfl) (by kernel_rfl) (fun _ _ _ h => h) (YieldsIf.cell (by rfl) (v := .slice (some ⟨D.vb, D.vo, none⟩) D.nv D.vcap) (fun W hW => by have c : W.cell? ⟨w.heap.size, 721, none⟩ = some (.slice (some ⟨D.vb, D.vo, none⟩) D.nv D.vcap) := (hW.1.1.cell 721).trans c721v.out; clear hW; go_simp)) hH ?_
            simp only [Act.put, List.setIfInBounds_toArray, List.set_cons_zero, List.set_cons_succ]
            refine wpAnyH_take2 (i := 2) (some 112) rfl rfl (by kernel_rfl) (by kernel_rfl) (by kernel_rfl) (fun _ _ _ h => h) (YieldsIf.pure (v := .int .i64 (i : Nat)) (by rfl) (fun W => by go_simp)) hH ?_
            simp only [Act.put, List.setIfInBounds_toArray, List.set_cons_zero, List.set_cons_succ]
            refine wpAnyH_take2 (i := 3) (some 113) rfl rfl (by kernel_rfl) (by kernel_rfl) (by kernel_rfl) (fun _ _ _ h => h) (YieldsIf.pure (v := .pointer (some ⟨D.vb, D.vo + i * 86, none⟩)) (by rfl) (fun W => by go_simp)) hH ?_
            simp only [Act.put, List.setIfInBounds_toArray, List.set_cons_zero, List.set_cons_succ]
            refine wpAnyH_take2 (i := 4) (some 114) rfl rfl (by kernel_rfl) (by kernel_rfl) (by kernel_rfl) (fun _ _ _ h => h) (yieldsIf_load_mid (by rfl) _ _ rfl D.vb (D.vo + i * 86) rfl (D.val i) _ (fun W hW => hW.2) Tryd.underlying60 rfl (by rw [HL86.out]; exact Tryd.size_val)) hH ?_
            simp only [Act.put, List.setIfInBounds_toArray, List.set_cons_zero, List.set_cons_succ]
            refine wpAnyH_take2 (i := 5) (some 115) rfl rfl (by kernel_rfl) (by kernel_rfl) (by kernel_rfl) (fun _ _ _ h => h) (YieldsIf.pure (v := .int .u64 (e : Nat)) (by rfl) (fun W => by go_simp)) hH ?_
            simp only [Act.put, List.setIfInBounds_toArray, List.set_cons_zero, List.set_cons_succ]
            refine wpAnyH_take2 (i := 7) (some 117) rfl rfl (by kernel_rfl) (by kernel_rfl) (by kernel_rfl) (fun _ _ _ h => h) (YieldsIf.pure (v := .int .i64 (i : Nat)) (by rfl) (fun W => by go_simp)) hH ?_
            simp only [Act.put, List.setIfInBounds_toArray, List.set_cons_zero, List.set_cons_succ]
            refine wpAnyH_take2 (i := 8) (some 118) rfl rfl (by kernel_rfl) (by kernel_rfl) (by kernel_rfl) (fun _ _ _ h => h) (YieldsIf.pure (v := .pointer (some ⟨tb, i, none⟩)) (by rfl) (fun W => by go_simp)) hH ?_
            simp only [Act.put, List.setIfInBounds_toArray, List.set_cons_zero, List.set_cons_succ]
            refine wpAnyH_take2 (i := 9) (some 119) rfl rfl (by kernel_rfl) (by kernel_rfl) (by kernel_rfl) (fun _ _ _ h => h) (YieldsIf.cell (by rfl) (v := .int .i64 1) (fun W hW => by have c : W.cell? ⟨tb, i, none⟩ = some (.int .i64 1) := (by rw [hW.1.2.cell, nums_get _ _ _ _ (by omega), ny.out]; rfl); clear hW; go_simp)) hH ?_
            simp only [Act.put, List.setIfInBounds_toArray, List.set_cons_zero, List.set_cons_succ]
            refine wpAnyH_take2 (i := 10) (some 120) rfl rfl (by kernel_rfl) (by kernel_rfl) (by kernel_rfl) (fun _ _ _ h => h) (YieldsIf.pure (v := .bool true) (by rfl) (fun W => by go_simp)) hH ?_
            simp only [Act.put, List.setIfInBounds_toArray, List.set_cons_zero, List.set_cons_succ]
            refine wpAnyH_ready (rs := [6]) (by kernel_rfl) (by simp) ?_
            refine AllReadyH.cons rfl (fun K hK => ?_) AllReadyH.nil
            go_simp
            go_wp2_with (go_at_call 8; refine (AT.out _).mono ?_; rintro en W1 ⟨rfl, hb1⟩; have B1 := Lib.hid hb1; clear hb1)
            refine hK.out _ _ (⟨⟨hH.1.1.below B1.out hH.1.1.lt, hH.1.2.below B1.out hH.1.2.lt⟩, rangeAt_below hH.2 B1.out VLT.out⟩) (fun hH => ?_)
            clear hK K
            refine wpAnyH_take2 (i := 11) (some 121) rfl rfl (by kernel_rfl) (by kernel_rfl) (by kernel_rfl) (fun _ _ _ h => h) (YieldsIf.pure (v := .bool false) (by rfl) (fun W => by go_simp)) hH ?_
            simp only [Act.put, List.setIfInBounds_toArray, List.set_cons_zero, List.set_cons_succ]
            refine wpAnyH_take2 (i := 12) (some 122) rfl rfl (by kernel_rfl) (by kernel_rfl) (by kernel_rfl) (fun _ _ _ h => h) (YieldsIf.pure (v := .bool false) (by rfl) (fun W => by go_simp)) hH ?_
            simp only [Act.put, List.setIfInBounds_toArray, List.set_cons_zero, List.set_cons_succ]
            refine wpAnyH_take2 (i := 13) (some 123) rfl rfl (by kernel_rfl) (by kernel_rfl) (by kernel_rfl) (fun _ _ _ h => h) (YieldsIf.pure (v := .int .i64 (i : Nat)) (by rfl) (fun W => by go_simp)) hH ?_
            simp only [Act.put, List.setIfInBounds_toArray, List.set_cons_zero, List.set_cons_succ]
            refine wpAnyH_take2 (i := 14) (some 124) rfl rfl (by kernel_rfl) (by kernel_rfl) (by kernel_rfl) (fun _ _ _ h => h) (YieldsIf.pure (v := .pointer (some ⟨tb, i, none⟩)) (by rfl) (fun W => by go_simp)) hH ?_
            simp only [Act.put, List.setIfInBounds_toArray, List.set_cons_zero, List.set_cons_succ]
            refine wpAnyH_take2 (i := 15) (some 125) rfl rfl (by kernel_rfl) (by kernel_rfl) (by kernel_rfl) (fun _ _ _ h => h) (YieldsIf.cell (by rfl) (v := .int .i64 1) (fun W hW => by have c : W.cell? ⟨tb, i, none⟩ = some (.int .i64 1) := (by rw [hW.1.2.cell, nums_get _ _ _ _ (by omega), ny.out]; rfl); clear hW; go_simp)) hH ?_
            simp only [Act.put, List.setIfInBounds_toArray, List.set_cons_zero, List.set_cons_succ]
            refine wpAnyH_take2 (i := 16) (some 126) rfl rfl (by kernel_rfl) (by kernel_rfl) (by kernel_rfl) (fun _ _ _ h => h) (YieldsIf.pure (v := .bool false) (by rfl) (fun W => by go_simp)) hH ?_
            simp only [Act.put, List.setIfInBounds_toArray, List.set_cons_zero, List.set_cons_succ]
            refine wpAnyH_take2 (i := 17) (some 127) rfl rfl (by kernel_rfl) (by kernel_rfl) (by kernel_rfl) (fun _ _ _ h => h) (YieldsIf.pure (v := .bool false) (by rfl) (fun W => by go_simp)) hH ?_
            simp only [Act.put, List.setIfInBounds_toArray, List.set_cons_zero, List.set_cons_succ]
            refine wpAnyH_done (by kernel_rfl) ?_ _
            have LE := Lib.hid ((LD.out.drewN 1).pure B1.out)
            go_wp2
            go_roundw
            case rel => exact ⟨i + 1, by omega, by go_num, LE.out⟩
            case measure => simp [intOf]; omega
          · have ny := Lib.hid (show cntF all N i = 0 by have := HCI.out; rwa [if_neg hact] at this)
            have AT := Lib.hid (fun W => show Calls Tryd.prog 8 #[.agg (D.val i).toArray, .int .u64 (e : Nat)] W (fun en w' => en = .returned (.bool false) ∧ Below W.heap.size W w') from by
              have := active_any (D.val i) (D.act i) (D.ext i) e ⟨VI.out.len, VI.out.act', VI.out.ext'⟩ (HST.out.actl i) (HST.out.extl i) (by omega) W
              have h0 : actF D e i = false := by cases h : actF D e i <;> simp_all
              unfold actF at h0
              rwa [h0] at this)
            clear hact
            refine wp_region_held_drew (S := fun W => (Blk W w.heap.size 49 X ∧ Blk W tb 55 (nums .i64 (cntF all N) 100)) ∧ W.rangeAt D.vb (D.vo + i * 86) (D.val i)) (by kernel_rfl) ⟨⟨LD.out.box.drew, LD.out.times.drew⟩, rangeAt_drewN RNG.out 1⟩ (fun hH => ?_)
            refine wpAnyH_take2 (i := 0) (some 110) rfl rfl (by kernel_rfl) (by kernel_rfl) (by kernel_rfl) (fun _ _ _ h => h) (YieldsIf.pure (v := .pointer (some ⟨w.heap.size, 721, none⟩)) (by rfl) (fun W => by go_simp)) hH ?_
            simp only [Act.put, List.setIfInBounds_toArray, List.set_cons_zero, List.set_cons_succ]
            refine wpAnyH_take2 (i := 1) (some 111) rfl rfl (by kernel_rfl) (by kernel_rfl) (by kernel_rfl) (fun _ _ _ h => h) (YieldsIf.cell (by rfl) (v := .slice (some ⟨D.vb, D.vo, none⟩) D.nv D.vcap) (fun W hW => by have c : W.cell? ⟨w.heap.size, 721, none⟩ = some (.slice (some ⟨D.vb, D.vo, none⟩) D.nv D.vcap) := (hW.1.1.cell 721).trans c721v.out; clear hW; go_simp)) hH ?_
            simp only [Act.put, List.setIfInBounds_toArray, List.set_cons_zero, List.set_cons_succ]
            refine wpAnyH_take2 (i := 2) (some 112) rfl rfl (by kernel_rfl) (by kernel_rfl) (by kernel_rfl) (fun _ _ _ h => h) (YieldsIf.pure (v := .int .i64 (i : Nat)) (by rfl) (fun W => by go_simp)) hH ?_
            simp only [Act.put, List.setIfInBounds_toArray, List.set_cons_zero, List.set_cons_succ]
            refine wpAnyH_take2 (i := 3) (some 113) rfl rfl (by kernel_rfl) (by kernel_rfl) (by kernel_rfl) (fun _ _ _ h => h) (YieldsIf.pure (v := .pointer (some ⟨D.vb, D.vo + i * 86, none⟩)) (by rfl) (fun W => by go_simp)) hH ?_
            simp only [Act.put, List.setIfInBounds_toArray, List.set_cons_zero, List.set_cons_succ]
            refine wpAnyH_take2 (i := 4) (some 114) rfl rfl (by kernel_rfl) (by kernel_rfl) (by kernel_rfl) (fun _ _ _ h => h) (yieldsIf_load_mid (by rfl) _ _ rfl D.vb (D.vo + i * 86) rfl (D.val i) _ (fun W hW => hW.2) Tryd.underlying60 rfl (by rw [HL86.out]; exact Tryd.size_val)) hH ?_
            simp only [Act.put, List.setIfInBounds_toArray, List.set_cons_zero, List.set_cons_succ]
            refine wpAnyH_take2 (i := 5) (some 115) rfl rfl (by kernel_rfl) (by kernel_rfl) (by kernel_rfl) (fun _ _ _ h => h) (YieldsIf.pure (v := .int .u64 (e : Nat)) (by rfl) (fun W => by go_simp)) hH ?_
            simp only [Act.put, List.setIfInBounds_toArray, List.set_cons_zero, List.set_cons_succ]
            refine wpAnyH_take2 (i := 7) (some 117) rfl rfl (by kernel_rfl) (by kernel_rfl) (by kernel_rfl) (fun _ _ _ h => h) (YieldsIf.pure (v := .int .i64 (i : Nat)) (by rfl) (fun W => by go_simp)) hH ?_
            simp only [Act.put, List.setIfInBounds_toArray, List.set_cons_zero, List.set_cons_succ]
            refine wpAnyH_take2 (i := 8) (some 118) rfl rfl (by kernel_rfl) (by kernel_rfl) (by kernel_rfl) (fun _ _ _ h => h) (YieldsIf.pure (v := .pointer (some ⟨tb, i, none⟩)) (by rfl) (fun W => by go_simp)) hH ?_
            simp only [Act.put, List.setIfInBounds_toArray, List.set_cons_zero, List.set_cons_succ]
            refine wpAnyH_take2 (i := 9) (some 119) rfl rfl (by kernel_rfl) (by kernel_rfl) (by kernel_rfl) (fun _ _ _ h => h) (YieldsIf.cell (by rfl) (v := .int .i64 0) (fun W hW => by have c : W.cell? ⟨tb, i, none⟩ = some (.int .i64 0) := (by rw [hW.1.2.cell, nums_get _ _ _ _ (by omega), ny.out]; rfl); clear hW; go_simp)) hH ?_
            simp only [Act.put, List.setIfInBounds_toArray, List.set_cons_zero, List.set_cons_succ]
            refine wpAnyH_take2 (i := 10) (some 120) rfl rfl (by kernel_rfl) (by kernel_rfl) (by kernel_rfl) (fun _ _ _ h => h) (YieldsIf.pure (v := .bool false) (by rfl) (fun W => by go_simp)) hH ?_
            simp only [Act.put, List.setIfInBounds_toArray, List.set_cons_zero, List.set_cons_succ]
            refine wpAnyH_ready (rs := [6]) (by kernel_rfl) (by simp) ?_
            refine AllReadyH.cons rfl (fun K hK => ?_) AllReadyH.nil
            go_simp
            go_wp2_with (go_at_call 8; refine (AT.out _).mono ?_; rintro en W1 ⟨rfl, hb1⟩; have B1 := Lib.hid hb1; clear hb1)
            refine hK.out _ _ (⟨⟨hH.1.1.below B1.out hH.1.1.lt, hH.1.2.below B1.out hH.1.2.lt⟩, rangeAt_below hH.2 B1.out VLT.out⟩) (fun hH => ?_)
            clear hK K
            refine wpAnyH_take2 (i := 11) (some 121) rfl rfl (by kernel_rfl) (by kernel_rfl) (by kernel_rfl) (fun _ _ _ h => h) (YieldsIf.pure (v := .bool false) (by rfl) (fun W => by go_simp)) hH ?_
            simp only [Act.put, List.setIfInBounds_toArray, List.set_cons_zero, List.set_cons_succ]
            refine wpAnyH_take2 (i := 12) (some 122) rfl rfl (by kernel_rfl) (by kernel_rfl) (by kernel_rfl) (fun _ _ _ h => h) (YieldsIf.pure (v := .bool false) (by rfl) (fun W => by go_simp)) hH ?_
            simp only [Act.put, List.setIfInBounds_toArray, List.set_cons_zero, List.set_cons_succ]
            refine wpAnyH_take2 (i := 13) (some 123) rfl rfl (by kernel_rfl) (by kernel_rfl) (by kernel_rfl) (fun _ _ _ h => h) (YieldsIf.pure (v := .int .i64 (i : Nat)) (by rfl) (fun W => by go_simp)) hH ?_
            simp only [Act.put, List.setIfInBounds_toArray, List.set_cons_zero, List.set_cons_succ]
            refine wpAnyH_take2 (i := 14) (some 124) rfl rfl (by kernel_rfl) (by kernel_rfl) (by kernel_rfl) (fun _ _ _ h => h) (YieldsIf.pure (v := .pointer (some ⟨tb, i, none⟩)) (by rfl) (fun W => by go_simp)) hH ?_
            simp only [Act.put, List.setIfInBounds_toArray, List.set_cons_zero, List.set_cons_succ]
            refine wpAnyH_take2 (i := 15) (some 125) rfl rfl (by kernel_rfl) (by kernel_rfl) (by kernel_rfl) (fun _ _ _ h => h) (YieldsIf.cell (by rfl) (v := .int .i64 0) (fun W hW => by have c : W.cell? ⟨tb, i, none⟩ = some (.int .i64 0) := (by rw [hW.1.2.cell, nums_get _ _ _ _ (by omega), ny.out]; rfl); clear hW; go_simp)) hH ?_
            simp only [Act.put, List.setIfInBounds_toArray, List.set_cons_zero, List.set_cons_succ]
            refine wpAnyH_take2 (i := 16) (some 126) rfl rfl (by kernel_rfl) (by kernel_rfl) (by kernel_rfl) (fun _ _ _ h => h) (YieldsIf.pure (v := .bool false) (by rfl) (fun W => by go_simp)) hH ?_
            simp only [Act.put, List.setIfInBounds_toArray, List.set_cons_zero, List.set_cons_succ]
            refine wpAnyH_take2 (i := 17) (some 127) rfl rfl (by kernel_rfl) (by kernel_rfl) (by kernel_rfl) (fun _ _ _ h => h) (YieldsIf.pure (v := .bool false) (by rfl) (fun W => by go_simp)) hH ?_
            simp only [Act.put, List.setIfInBounds_toArray, List.set_cons_zero, List.set_cons_succ]
            refine wpAnyH_done (by kernel_rfl) ?_ _
            have LE := Lib.hid ((LD.out.drewN 1).pure B1.out)
            go_wp2
            go_roundw
            case rel => exact ⟨i + 1, by omega, by go_num, LE.out⟩
            case measure => simp [intOf]; omega
        · obtain rfl : i = D.nv := by omega
          have lsl := HST.out.slotl
          obtain ⟨sl, hsl⟩ : ∃ sl, sl = D.slot := ⟨_, rfl⟩
          rw [← hsl] at lsl
          obtain ⟨nw, hnw⟩ : ∃ nw, nw = sl / 4 := ⟨_, rfl⟩
          have ee : (sl : Int) / 4 = (nw : Int) := by omega
          have lnw : nw < 4611686018427387904 := by omega
          have HNW := Lib.hid (show nw = D.slot / 4 by rw [hnw, hsl])
          have c33 : wr.cell? ⟨w.heap.size, 33, none⟩ = some (.int .u64 (sl : Nat)) := by rw [LD.out.box.cell, hsl]; exact HST.out.slot
          have R7 := Lib.hid (show RL w X wr from ⟨LD.out.below, LD.out.box⟩)
          clear hsl hnw LD HALL HCN HAV HN E4 E5 HC
          go_wp2
          clear c33 c721
          have z49 : ∀ w, (zeroValue 49).run Tryd.prog w = .ok (.agg Z0.toArray) w := (zero_of_info Z0_zero).1
          obtain ⟨wd, hwd⟩ : ∃ wd, wd = wr := ⟨_, rfl⟩
          rw [← hwd] at R7 ⊢
          clear hwd
          go_loopw [16] (fun q wr => ∃ k : Nat, k ≤ 4 ∧ q = .int .u64 (k : Nat) ∧ RL w X wr) (fun q _ => 4 - (intOf q).toNat)
          case atStart => exact ⟨0, Nat.zero_le _, rfl, R7.out⟩
          case round =>
            obtain ⟨k, hk, rfl, hrl⟩ := hrel
            have RE := Lib.hid hrl
            obtain ⟨we, hwe⟩ : ∃ we, we = wr := ⟨_, rfl⟩
            rw [← hwe] at RE ⊢
            clear hrl hwe R7
            by_cases hk4 : k < 4
            · have d1 : decide (k < 4) = true := by simp [hk4]
              have d2 : decide ((k : Int) < 4) = true := by simp; omega
              obtain ⟨sk, hsk⟩ : ∃ sk, sk = 4 * nw + k := ⟨_, rfl⟩
              have ek : 4 * (nw : Int) + (k : Int) = (sk : Int) := by omega
              have lsk : sk < 18446744073709551616 := by omega
              have ESK := Lib.hid (show sk / 4 = nw by omega)
              have NW := Lib.hid (Blk.new we 49 Z0)
              have HONE := Lib.hid HST.out.one
              clear hsk
              go_upto_region 33 with (first | (with_reducible refine wpList_load_blk rfl _ _ rfl _ rfl _ _ RE.out.box _ Tryd.underlying49 rfl 1957 Tryd.size_state HLEN.out ?_) | (with_reducible refine wpList_store_blk rfl _ _ _ rfl _ _ rfl rfl _ _ NW.out 1957 Tryd.size_state Z0_len HLEN.out HONE.out ?_; intro w5 ho5 hb5 hz5; have O5 := Lib.hid ho5; have K5 := Lib.hid hb5; clear ho5 hb5 hz5 NW))
              clear d1 d2
              have B5 := Lib.hid (show Below we.heap.size we w5 from ((Below.refl _ we).alloc (Nat.le_refl _) _).trans (O5.out.below (by simp) (Nat.le_refl _)))
              have c5 : w5.cell? ⟨we.heap.size, 33, none⟩ = some (.int .u64 (D.slot : Nat)) := by rw [K5.out.cell]; exact HST.out.slot
              have f5 := K5.out.frozen 33
              clear O5
              go_upto_region 34 with fail
              clear c5 f5
              refine wp_world ?_
              intro w6 hw6
              have K6 := Lib.hid (show Blk w6 we.heap.size 49 (X.set 33 (.int .u64 (sk : Nat))) by rw [hw6]; exact K5.out.set _ _)
              have B6 := Lib.hid (show Below we.heap.size we w6 by rw [hw6]; exact B5.out.setCell (Nat.le_refl _) _)
              have c6 : w6.cell? ⟨we.heap.size, 43, none⟩ = some (.int .u64 (E.hs : Nat)) := by rw [K6.out.cell, List.getElem?_set_ne (by decide)]; exact HHS.out
              have f6 := K6.out.frozen 43
              clear hw6 K5 B5
              go_upto_region 35 with fail
              clear c6 f6
              refine wp_world ?_
              intro w7 hw7
              have S7' := HST.out.moved sk lsk
              obtain ⟨XY, hXY⟩ : ∃ XY, XY = (X.set 33 (.int .u64 (sk : Nat))).set 43 (.int .u64 0) := ⟨_, rfl⟩
              rw [← hXY] at S7'
              have K7 := Lib.hid (show Blk w7 we.heap.size 49 XY by rw [hw7, hXY]; exact K6.out.set _ _)
              have B7 := Lib.hid (show Below we.heap.size we w7 by rw [hw7]; exact B6.out.setCell (Nat.le_refl _) _)
              have R7 := Lib.hid (RE.out.pure B7.out)
              have LXY := Lib.hid S7'.len
              have PR := Lib.hid (proposer_any XY { D with slot := sk } w7 (HT.out.below R7.out.below h2) (S7'.below R7.out.below (Nat.le_refl _)) hn)
              clear hw7 hXY S7' K6 B6
              obtain ⟨cd, hcd⟩ : ∃ cd, cd = codeR (propR { D with slot := sk }) := ⟨_, rfl⟩
              have h07 : cd = 0 ∨ cd = 7 := by rw [hcd]; exact codeR_or _
              have PS := Lib.hid (show Calls Tryd.prog 4 #[.agg XY.toArray] w7 (fun en w' => Below w7.heap.size w7 w' ∧ ∃ p : Nat, en = .returned (.tuple #[.int .u64 (p : Nat), .int .i64 cd]) ∧ (cd = 0 → p ∈ activesF D nw D.nv)) by
                have h := PR.out
                unfold PropPost at h
                rw [← hcd] at h
                dsimp only at h
                rw [ESK.out] at h
                exact h)
              clear PR hcd
              go_upto_region 36 with (first | (with_reducible refine wpList_load_blk rfl _ _ rfl _ rfl _ _ K7.out _ Tryd.underlying49 rfl 1957 Tryd.size_state LXY.out ?_) | (go_at_call 4; (with_reducible refine PS.out.mono ?_); rintro en w8 ⟨hb8, p, rfl, hp⟩; have B8 := Lib.hid hb8; have HP := Lib.hid hp; clear hb8 hp))
              have R8 := Lib.hid (R7.out.pure B8.out)
              clear PS K7 B7 R7 B8 RE LXY
              rcases h07 with rfl | rfl
              · have hp := actives_lt (HP.out rfl)
                obtain ⟨lp, hact⟩ := hp
                have hA := HST.out.addr (by omega)
                have c721 : w8.cell? ⟨w.heap.size, 721, none⟩ = some (.slice (some ⟨D.vb, D.vo, none⟩) D.nv D.vcap) := by rw [R8.out.box.cell, ← hA]; exact HST.out.vals
                have VI := Lib.hid (HST.out.vc p lp)
                have RNG := Lib.hid ((VI.out.below R8.out.below (Nat.le_refl _)).row)
                have HL86 := Lib.hid (show (Tryd.prog.info? 60).map (·.size) = some (D.val p).length by rw [VI.out.len]; exact Tryd.size_val)
                have AT := Lib.hid (show Calls Tryd.prog 8 #[.agg (D.val p).toArray, .int .u64 (nw : Nat)] w8 (fun en w' => en = .returned (.bool true) ∧ Below w8.heap.size w8 w') from by
                  have := active_any (D.val p) (D.act p) (D.ext p) nw ⟨VI.out.len, VI.out.act', VI.out.ext'⟩ (HST.out.actl p) (HST.out.extl p) (by omega) w8
                  unfold actF at hact
                  rwa [hact] at this)
                have hcap := HST.out.cap
                have d1 : decide (D.nv ≤ p) = false := by simp; omega
                have d2 : decide ((D.nv : Int) ≤ (p : Int)) = false := by simp; omega
                have lpi : (p : Int) < D.nv := by omega
                clear hact hA HP
                go_wp2
                (with_reducible refine wp_load_mid _ _ rfl D.vb (D.vo + p * 86) rfl _ _ RNG.out Tryd.underlying60 rfl HL86.out ?_)
                simp only [Act.put, List.setIfInBounds_toArray, List.set_cons_zero, List.set_cons_succ]
                go_wp2_with (go_at_call 8; (with_reducible refine AT.out.mono ?_); rintro en w9 ⟨rfl, hb9⟩; have B9 := Lib.hid hb9; clear hb9)
                have R9 := Lib.hid (R8.out.pure B9.out)
                go_roundw
                case rel => exact ⟨k + 1, by omega, by go_num, R9.out⟩
                case measure => simp [intOf]; omega
              · go_wp2
                go_roundw
                case rel => exact ⟨k + 1, by omega, by go_num, R8.out⟩
                case measure => simp [intOf]; omega
            · obtain rfl : k = 4 := by omega
              have d1 : decide (4 < 4) = false := by simp
              clear z49 hk hk4
              obtain ⟨wf, hwf⟩ : ∃ wf, wf = we := ⟨_, rfl⟩
              rw [← hwf] at RE ⊢
              clear hwf
              have z47 : ∀ w, (zeroValue 47).run Tryd.prog w = .ok (.agg (nums .u8 zeroF 432).toArray) w := (zero_of_info (n := 432) (by kernel_rfl)).1
              have SY := Lib.hid (sync_any X D wf (HT.out.below RE.out.below h2) (HST.out.below RE.out.below (Nat.le_refl _)) hn)
              have NX := Lib.hid (fun W (hb : Below wf.heap.size wf W) => next_any X D W (HT.out.below (RE.out.pure hb).below h2) (HST.out.below (RE.out.pure hb).below (Nat.le_refl _)) hn HKL.out)
              unfold DrawPost at SY
              unfold NextPost at NX
              have hc0 : codeR (none : Option (List Nat)) = 7 := rfl
              cases hres : syncR D with
              | none =>
                rw [hres, hc0] at SY NX
                clear hres hc0
                go_upto_region 39 with (first | (with_reducible refine wpList_load_blk rfl _ _ rfl _ rfl _ _ RE.out.box _ Tryd.underlying49 rfl 1957 Tryd.size_state HLEN.out ?_) | (go_at_call 9; (with_reducible refine SY.out.mono ?_); rintro en w9 ⟨hb9, v9, rfl, hol9⟩; have B9 := Lib.hid hb9; have R9 := Lib.hid (RE.out.pure hb9); have HOL := Lib.hid hol9; clear hol9 hb9; simp only []))
                obtain ⟨A1, c1, rfl, p1, p2, p3⟩ := (show OL w9 wf.heap.size v9 [] from HOL.out).sl
                rw [show (u64s []).length = 0 from rfl]
                clear p1 p2 p3 HOL SY RE
                go_upto_region 40 with (first | (with_reducible refine wpList_load_blk rfl _ _ rfl _ rfl _ _ R9.out.box _ Tryd.underlying49 rfl 1957 Tryd.size_state HLEN.out ?_) | (go_at_call 10; (with_reducible refine (NX.out w9 B9.out).mono ?_); rintro en w11 ⟨hb11, C, rfl, hC1, hC2, hC3⟩; have B11 := Lib.hid hb11; have R11 := Lib.hid (R9.out.pure hb11); have HC1 := Lib.hid hC1; have HCO := Lib.hid hC2; have HC2 := Lib.hid hC3; have NC := Lib.hid (Blk.new w11 47 (nums .u8 zeroF 432)); clear hb11 hC1 hC2 hC3; simp only []) | (with_reducible refine wpList_store_blk rfl _ _ _ rfl _ _ rfl rfl _ _ NC.out 432 Tryd.size_com (nums_length _ _ _) HC1.out HCO.out ?_; intro w12 ho12 hb12 hz12; have O12 := Lib.hid ho12; have K12 := Lib.hid hb12; clear ho12 hb12 hz12 NC))
                have R12 := Lib.hid (show RL w X w12 from R11.out.pure (((Below.refl _ w11).alloc (Nat.le_refl _) _).trans (O12.out.below (by simp) (Nat.le_refl _))))
                clear K12 O12 R11
                go_wp2
                go_loopw [24] (fun q wr => q = .int .i64 0 ∧ RL w X wr) (fun _ _ => 0)
                case atStart => exact ⟨rfl, R12.out⟩
                case round =>
                  obtain ⟨rfl, hrl⟩ := hrel
                  have RF := Lib.hid hrl
                  clear hrl
                  go_wp2
                  go_ret
                  exact ⟨rfl, RF.out.below⟩
              | some r =>
                have hc1 : codeR (some r) = 0 := rfl
                obtain ⟨q1, q2⟩ := drawR_mem hres
                have Q1 := Lib.hid q1
                have Q2 := Lib.hid q2
                rw [hres, hc1] at SY NX
                clear hres hc0 hc1 q1 q2
                go_upto_region 39 with (first | (with_reducible refine wpList_load_blk rfl _ _ rfl _ rfl _ _ RE.out.box _ Tryd.underlying49 rfl 1957 Tryd.size_state HLEN.out ?_) | (go_at_call 9; (with_reducible refine SY.out.mono ?_); rintro en w9 ⟨hb9, v9, rfl, hol9⟩; have B9 := Lib.hid hb9; have R9 := Lib.hid (RE.out.pure hb9); have HOL := Lib.hid hol9; clear hol9 hb9; simp only []))
                obtain ⟨A1, c1, rfl, p1, p2, p3⟩ := (show OL w9 wf.heap.size v9 r from HOL.out).sl
                have hl8 : (u64s r).length = 8 := by rw [u64s_length]; exact Q1.out
                have P3 := Lib.hid p3
                rw [hl8]
                clear p1 p2 p3 HOL SY RE hl8
                go_upto_region 40 with (first | (with_reducible refine wpList_load_blk rfl _ _ rfl _ rfl _ _ R9.out.box _ Tryd.underlying49 rfl 1957 Tryd.size_state HLEN.out ?_) | (go_at_call 10; (with_reducible refine (NX.out w9 B9.out).mono ?_); rintro en w11 ⟨hb11, C, rfl, hC1, hC2, hC3⟩; have B11 := Lib.hid hb11; have R11 := Lib.hid (R9.out.pure hb11); have HC1 := Lib.hid hC1; have HCO := Lib.hid hC2; have HC2 := Lib.hid hC3; have NC := Lib.hid (Blk.new w11 47 (nums .u8 zeroF 432)); clear hb11 hC1 hC2 hC3; simp only []) | (with_reducible refine wpList_store_blk rfl _ _ _ rfl _ _ rfl rfl _ _ NC.out 432 Tryd.size_com (nums_length _ _ _) HC1.out HCO.out ?_; intro w12 ho12 hb12 hz12; have O12 := Lib.hid ho12; have K12 := Lib.hid hb12; clear ho12 hb12 hz12 NC))
                have B12 := Lib.hid (show Below w11.heap.size w11 w12 from ((Below.refl _ w11).alloc (Nat.le_refl _) _).trans (O12.out.below (by simp) (Nat.le_refl _)))
                obtain ⟨b, o, rfl, hlo, hcell⟩ := P3.out (by intro e; have := congrArg List.length e; rw [u64s_length] at this; simp [Q1.out] at this)
                have hbl : b < w9.heap.size := World.block_lt_of_cell? w9 _ (hcell 0 _ (u64s_get _ 0 (by show 0 < r.length; rw [Q1.out]; decide)))
                have HC := Lib.hid (show ∀ k, k < 8 → w9.cell? ⟨b, o + k, none⟩ = some (.int .u64 (r.getD k 0 : Nat)) from fun k hk => hcell k _ (u64s_get r k (by rw [Q1.out]; exact hk)))
                obtain ⟨cb, hcb⟩ : ∃ cb, cb = w11.heap.size := ⟨_, rfl⟩
                have NK0 := Lib.hid (show EW w X cb C b o r w12 from by
                  have h9 := B11.out.trans (B12.out.mono B11.out.size)
                  exact ⟨R11.out.pure B12.out, by rw [hcb]; exact K12.out, Nat.lt_of_lt_of_le hbl h9.size, fun k hk => (h9.cell (p := ⟨b, o + k, none⟩) hbl).trans (HC.out k hk)⟩)
                have HCR := Lib.hid (HC2.out r rfl)
                rw [← hcb]
                clear hcell hbl HC hcb P3 B11 B12 O12 K12 R11 HC2 NX hlo
                go_wp2
                go_loopw [24] (fun q wr => ∃ k : Nat, k ≤ 8 ∧ q = .int .i64 (k : Nat) ∧ EW w X cb C b o r wr) (fun q _ => 8 - (intOf q).toNat)
                case atStart => exact ⟨0, Nat.zero_le _, rfl, NK0.out⟩
                case round =>
                  obtain ⟨k, hk, rfl, hrl⟩ := hrel
                  have NK := Lib.hid hrl
                  clear hrl NK0
                  by_cases hk8 : k < 8
                  · have d1 : decide (k < 8) = true := by simp [hk8]
                    have d2 : decide ((k : Int) < 8) = true := by simp; omega
                    have lk8 : (k : Int) < 8 := by omega
                    obtain ⟨x, hx⟩ : ∃ x, x = r.getD k 0 := ⟨_, rfl⟩
                    obtain ⟨nw1, hnw1⟩ : ∃ nw1, nw1 = nw + 1 := ⟨_, rfl⟩
                    have en1 : (nw : Int) + 1 = (nw1 : Int) := by omega
                    have ln1 : nw1 < 18446744073709551616 := by omega
                    have hm : x ∈ activesF D nw1 D.nv := by
                      rw [hx, hnw1, HNW.out]
                      apply Q2.out
                      rw [List.getD_eq_getElem?_getD, List.getElem?_eq_getElem (by rw [Q1.out]; exact hk8)]
                      exact List.getElem_mem _
                    obtain ⟨lx, hact⟩ := actives_lt hm
                    have hA := HST.out.addr (by omega)
                    have c721w := Lib.hid (show wr.cell? ⟨w.heap.size, 721, none⟩ = some (.slice (some ⟨D.vb, D.vo, none⟩) D.nv D.vcap) by rw [NK.out.rl.box.cell, ← hA]; exact HST.out.vals)
                    have l721 := Lib.hid NK.out.rl.box.lt
                    have cxw := Lib.hid (show wr.cell? ⟨b, o + k, none⟩ = some (.int .u64 (x : Nat)) by rw [hx]; exact NK.out.lst k hk8)
                    have lbw := Lib.hid NK.out.lt
                    have lcw := Lib.hid NK.out.com.lt
                    have VI := Lib.hid ((HST.out.vc x lx).below NK.out.rl.below (Nat.le_refl _))
                    have RNG := Lib.hid VI.out.row
                    have VLT := Lib.hid VI.out.lt
                    have HL86 := Lib.hid VI.out.len
                    obtain ⟨KL, hKL⟩ : ∃ KL, KL = nums .u8 (D.key x) 48 := ⟨_, rfl⟩
                    have RK := Lib.hid (show wr.rangeAt D.vb (D.vo + x * 86) KL by rw [hKL]; exact rangeAt_nums VI.out.key)
                    have RC := Lib.hid (show wr.rangeAt cb (k * 48) KL by
                      rw [hKL]
                      apply rangeAt_nums
                      intro j hj
                      rw [NK.out.com.cell, hx]
                      exact HCR.out k hk8 j hj)
                    have LKL := Lib.hid (show (Tryd.prog.info? 44).map (·.size) = some KL.length by rw [hKL, nums_length]; exact Tryd.size_key)
                    have KEQ := Lib.hid (show ∀ W, (Op.equalIn 10000 44 (.agg KL.toArray) (.agg KL.toArray)).run Tryd.prog W = .ok true W by rw [hKL]; exact key_eq _ (HKL.out x))
                    have KEG := Lib.hid (show Tryd.prog.eqGuardType Tryd.prog.depth 44 = false by kernel_rfl)
                    have AT := Lib.hid (fun W => show Calls Tryd.prog 8 #[.agg (D.val x).toArray, .int .u64 (nw1 : Nat)] W (fun en w' => en = .returned (.bool true) ∧ Below W.heap.size W w') from by
                      have := active_any (D.val x) (D.act x) (D.ext x) nw1 ⟨VI.out.len, VI.out.act', VI.out.ext'⟩ (HST.out.actl x) (HST.out.extl x) ln1 W
                      unfold actF at hact
                      rwa [hact] at this)
                    have hcap := HST.out.cap
                    have e1 : decide (D.nv ≤ x) = false := by simp; omega
                    have e2 : decide ((D.nv : Int) ≤ (x : Int)) = false := by simp; omega
                    have lxi : (x : Int) < D.nv := by omega
                    have hwN : IntKind.u64.wrap (D.nv : Int) = (D.nv : Int) := by rw [IntKind.wrap_u64]; omega
                    have hw1 : IntKind.u64.wrap (nw1 : Int) = (nw1 : Int) := by rw [IntKind.wrap_u64]; omega
                    clear hm hx hnw1 hact hA VI hKL
                    go_upto_region 45 with fail
                    clear d1 d2
                    refine wp_region_held_drew (S := fun W => Below wr.heap.size wr W) (by kernel_rfl) (Below.refl _ _).drew (fun hH => ?_)
                    refine wpAnyH_take2 (i := 0) (some 196) rfl rfl (by kernel_rfl) (by kernel_rfl) (by kernel_rfl) (fun _ _ _ h => h) (YieldsIf.pure (v := .slice (some ⟨b, o, none⟩) 8 c1) (by rfl) (fun W => by go_simp)) hH ?_
                    simp only [Act.put, List.setIfInBounds_toArray, List.set_cons_zero, List.set_cons_succ]
                    refine wpAnyH_take2 (i := 1) (some 197) rfl rfl (by kernel_rfl) (by kernel_rfl) (by kernel_rfl) (fun _ _ _ h => h) (YieldsIf.pure (v := .int .i64 (k : Nat)) (by rfl) (fun W => by go_simp)) hH ?_
                    simp only [Act.put, List.setIfInBounds_toArray, List.set_cons_zero, List.set_cons_succ]
                    refine wpAnyH_take2 (i := 2) (some 198) rfl rfl (by kernel_rfl) (by kernel_rfl) (by kernel_rfl) (fun _ _ _ h => h) (YieldsIf.pure (v := .pointer (some ⟨b, o + k, none⟩)) (by rfl) (fun W => by go_simp)) hH ?_
                    simp only [Act.put, List.setIfInBounds_toArray, List.set_cons_zero, List.set_cons_succ]
                    refine wpAnyH_take2 (i := 3) (some 199) rfl rfl (by kernel_rfl) (by kernel_rfl) (by kernel_rfl) (fun _ _ _ h => h) (YieldsIf.cell (by rfl) (v := .int .u64 (x : Nat)) (fun W hW => by have c : W.cell? ⟨b, o + k, none⟩ = some (.int .u64 (x : Nat)) := (hW.cell (p := ⟨b, o + k, none⟩) lbw.out).trans cxw.out; clear hW; go_simp)) hH ?_
                    simp only [Act.put, List.setIfInBounds_toArray, List.set_cons_zero, List.set_cons_succ]
                    refine wpAnyH_take2 (i := 4) (some 200) rfl rfl (by kernel_rfl) (by kernel_rfl) (by kernel_rfl) (fun _ _ _ h => h) (YieldsIf.pure (v := .pointer (some ⟨w.heap.size, 721, none⟩)) (by rfl) (fun W => by go_simp)) hH ?_
                    simp only [Act.put, List.setIfInBounds_toArray, List.set_cons_zero, List.set_cons_succ]
                    refine wpAnyH_take2 (i := 5) (some 201) rfl rfl (by kernel_rfl) (by kernel_rfl) (by kernel_rfl) (fun _ _ _ h => h) (YieldsIf.cell (by rfl) (v := .slice (some ⟨D.vb, D.vo, none⟩) D.nv D.vcap) (fun W hW => by have c : W.cell? ⟨w.heap.size, 721, none⟩ = some (.slice (some ⟨D.vb, D.vo, none⟩) D.nv D.vcap) := (hW.cell (p := ⟨w.heap.size, 721, none⟩) l721.out).trans c721w.out; clear hW; go_simp)) hH ?_
                    simp only [Act.put, List.setIfInBounds_toArray, List.set_cons_zero, List.set_cons_succ]
                    refine wpAnyH_take2 (i := 6) (some 202) rfl rfl (by kernel_rfl) (by kernel_rfl) (by kernel_rfl) (fun _ _ _ h => h) (YieldsIf.pure (v := .int .i64 (D.nv : Nat)) (by rfl) (fun W => by go_simp)) hH ?_
                    simp only [Act.put, List.setIfInBounds_toArray, List.set_cons_zero, List.set_cons_succ]
                    refine wpAnyH_take2 (i := 7) (some 203) rfl rfl (by kernel_rfl) (by kernel_rfl) (by kernel_rfl) (fun _ _ _ h => h) (YieldsIf.pure (v := .int .u64 (D.nv : Nat)) (by rfl) (fun W => by go_simp)) hH ?_
                    simp only [Act.put, List.setIfInBounds_toArray, List.set_cons_zero, List.set_cons_succ]
                    refine wpAnyH_take2 (i := 8) (some 204) rfl rfl (by kernel_rfl) (by kernel_rfl) (by kernel_rfl) (fun _ _ _ h => h) (YieldsIf.pure (v := .bool false) (by rfl) (fun W => by go_simp)) hH ?_
                    simp only [Act.put, List.setIfInBounds_toArray, List.set_cons_zero, List.set_cons_succ]
                    refine wpAnyH_take2 (i := 9) (some 205) rfl rfl (by kernel_rfl) (by kernel_rfl) (by kernel_rfl) (fun _ _ _ h => h) (YieldsIf.pure (v := .bool false) (by rfl) (fun W => by go_simp)) hH ?_
                    simp only [Act.put, List.setIfInBounds_toArray, List.set_cons_zero, List.set_cons_succ]
                    refine wpAnyH_take2 (i := 10) (some 206) rfl rfl (by kernel_rfl) (by kernel_rfl) (by kernel_rfl) (fun _ _ _ h => h) (YieldsIf.pure (v := .pointer (some ⟨w.heap.size, 721, none⟩)) (by rfl) (fun W => by go_simp)) hH ?_
                    simp only [Act.put, List.setIfInBounds_toArray, List.set_cons_zero, List.set_cons_succ]
                    refine wpAnyH_take2 (i := 11) (some 207) rfl rfl (by kernel_rfl) (by kernel_rfl) (by kernel_rfl) (fun _ _ _ h => h) (YieldsIf.cell (by rfl) (v := .slice (some ⟨D.vb, D.vo, none⟩) D.nv D.vcap) (fun W hW => by have c : W.cell? ⟨w.heap.size, 721, none⟩ = some (.slice (some ⟨D.vb, D.vo, none⟩) D.nv D.vcap) := (hW.cell (p := ⟨w.heap.size, 721, none⟩) l721.out).trans c721w.out; clear hW; go_simp)) hH ?_
                    simp only [Act.put, List.setIfInBounds_toArray, List.set_cons_zero, List.set_cons_succ]
                    refine wpAnyH_take2 (i := 12) (some 208) rfl rfl (by kernel_rfl) (by kernel_rfl) (by kernel_rfl) (fun _ _ _ h => h) (YieldsIf.pure (v := .slice (some ⟨b, o, none⟩) 8 c1) (by rfl) (fun W => by go_simp)) hH ?_
                    simp only [Act.put, List.setIfInBounds_toArray, List.set_cons_zero, List.set_cons_succ]
                    refine wpAnyH_take2 (i := 13) (some 209) rfl rfl (by kernel_rfl) (by kernel_rfl) (by kernel_rfl) (fun _ _ _ h => h) (YieldsIf.pure (v := .int .i64 (k : Nat)) (by rfl) (fun W => by go_simp)) hH ?_
                    simp only [Act.put, List.setIfInBounds_toArray, List.set_cons_zero, List.set_cons_succ]
                    refine wpAnyH_take2 (i := 14) (some 210) rfl rfl (by kernel_rfl) (by kernel_rfl) (by kernel_rfl) (fun _ _ _ h => h) (YieldsIf.pure (v := .pointer (some ⟨b, o + k, none⟩)) (by rfl) (fun W => by go_simp)) hH ?_
                    simp only [Act.put, List.setIfInBounds_toArray, List.set_cons_zero, List.set_cons_succ]
                    refine wpAnyH_take2 (i := 15) (some 211) rfl rfl (by kernel_rfl) (by kernel_rfl) (by kernel_rfl) (fun _ _ _ h => h) (YieldsIf.cell (by rfl) (v := .int .u64 (x : Nat)) (fun W hW => by have c : W.cell? ⟨b, o + k, none⟩ = some (.int .u64 (x : Nat)) := (hW.cell (p := ⟨b, o + k, none⟩) lbw.out).trans cxw.out; clear hW; go_simp)) hH ?_
                    simp only [Act.put, List.setIfInBounds_toArray, List.set_cons_zero, List.set_cons_succ]
                    refine wpAnyH_take2 (i := 16) (some 212) rfl rfl (by kernel_rfl) (by kernel_rfl) (by kernel_rfl) (fun _ _ _ h => h) (YieldsIf.pure (v := .pointer (some ⟨D.vb, D.vo + x * 86, none⟩)) (by rfl) (fun W => by go_simp)) hH ?_
                    simp only [Act.put, List.setIfInBounds_toArray, List.set_cons_zero, List.set_cons_succ]
                    refine wpAnyH_take2 (i := 17) (some 213) rfl rfl (by kernel_rfl) (by kernel_rfl) (by kernel_rfl) (fun _ _ _ h => h) (yieldsIf_load_mid (by rfl) _ _ rfl D.vb (D.vo + x * 86) rfl (D.val x) _ (fun W hW => rangeAt_below RNG.out hW VLT.out) Tryd.underlying60 rfl (by rw [HL86.out]; exact Tryd.size_val)) hH ?_
                    simp only [Act.put, List.setIfInBounds_toArray, List.set_cons_zero, List.set_cons_succ]
                    refine wpAnyH_take2 (i := 18) (some 214) rfl rfl (by kernel_rfl) (by kernel_rfl) (by kernel_rfl) (fun _ _ _ h => h) (YieldsIf.pure (v := .int .u64 (nw : Nat)) (by rfl) (fun W => by go_simp)) hH ?_
                    simp only [Act.put, List.setIfInBounds_toArray, List.set_cons_zero, List.set_cons_succ]
                    refine wpAnyH_take2 (i := 19) (some 215) rfl rfl (by kernel_rfl) (by kernel_rfl) (by kernel_rfl) (fun _ _ _ h => h) (YieldsIf.pure (v := .int .u64 (nw1 : Nat)) (by rfl) (fun W => by go_simp)) hH ?_
                    simp only [Act.put, List.setIfInBounds_toArray, List.set_cons_zero, List.set_cons_succ]
                    refine wpAnyH_ready (rs := [20]) (by kernel_rfl) (by simp) ?_
                    refine AllReadyH.cons rfl (fun K hK => ?_) AllReadyH.nil
                    go_simp
                    go_wp2_with (go_at_call 8; refine (AT.out _).mono ?_; rintro en W1 ⟨rfl, hb1⟩; have B1 := Lib.hid hb1; clear hb1)
                    refine hK.out _ _ (hH.trans (B1.out.mono hH.size)) (fun hH => ?_)
                    clear hK K
                    refine wpAnyH_take2 (i := 21) (some 217) rfl rfl (by kernel_rfl) (by kernel_rfl) (by kernel_rfl) (fun _ _ _ h => h) (YieldsIf.pure (v := .bool false) (by rfl) (fun W => by go_simp)) hH ?_
                    simp only [Act.put, List.setIfInBounds_toArray, List.set_cons_zero, List.set_cons_succ]
                    refine wpAnyH_take2 (i := 22) (some 218) rfl rfl (by kernel_rfl) (by kernel_rfl) (by kernel_rfl) (fun _ _ _ h => h) (YieldsIf.pure (v := .bool false) (by rfl) (fun W => by go_simp)) hH ?_
                    simp only [Act.put, List.setIfInBounds_toArray, List.set_cons_zero, List.set_cons_succ]
                    refine wpAnyH_take2 (i := 23) (some 219) rfl rfl (by kernel_rfl) (by kernel_rfl) (by kernel_rfl) (fun _ _ _ h => h) (YieldsIf.pure (v := .bool false) (by rfl) (fun W => by go_simp)) hH ?_
                    simp only [Act.put, List.setIfInBounds_toArray, List.set_cons_zero, List.set_cons_succ]
                    refine wpAnyH_take2 (i := 24) (some 220) rfl rfl (by kernel_rfl) (by kernel_rfl) (by kernel_rfl) (fun _ _ _ h => h) (YieldsIf.pure (v := .int .i64 (k : Nat)) (by rfl) (fun W => by go_simp)) hH ?_
                    simp only [Act.put, List.setIfInBounds_toArray, List.set_cons_zero, List.set_cons_succ]
                    refine wpAnyH_take2 (i := 25) (some 221) rfl rfl (by kernel_rfl) (by kernel_rfl) (by kernel_rfl) (fun _ _ _ h => h) (YieldsIf.pure (v := .pointer (some ⟨cb, 0, none⟩)) (by rfl) (fun W => by go_simp)) hH ?_
                    simp only [Act.put, List.setIfInBounds_toArray, List.set_cons_zero, List.set_cons_succ]
                    refine wpAnyH_take2 (i := 26) (some 222) rfl rfl (by kernel_rfl) (by kernel_rfl) (by kernel_rfl) (fun _ _ _ h => h) (YieldsIf.pure (v := .pointer (some ⟨cb, k * 48, none⟩)) (by rfl) (fun W => by go_simp)) hH ?_
                    simp only [Act.put, List.setIfInBounds_toArray, List.set_cons_zero, List.set_cons_succ]
                    refine wpAnyH_take2 (i := 27) (some 223) rfl rfl (by kernel_rfl) (by kernel_rfl) (by kernel_rfl) (fun _ _ _ h => h) (yieldsIf_load_mid (by rfl) _ _ rfl cb (k * 48) rfl KL _ (fun W hW => rangeAt_below RC.out hW lcw.out) Tryd.underlying44 rfl LKL.out) hH ?_
                    simp only [Act.put, List.setIfInBounds_toArray, List.set_cons_zero, List.set_cons_succ]
                    refine wpAnyH_take2 (i := 28) (some 224) rfl rfl (by kernel_rfl) (by kernel_rfl) (by kernel_rfl) (fun _ _ _ h => h) (YieldsIf.pure (v := .pointer (some ⟨w.heap.size, 721, none⟩)) (by rfl) (fun W => by go_simp)) hH ?_
                    simp only [Act.put, List.setIfInBounds_toArray, List.set_cons_zero, List.set_cons_succ]
                    refine wpAnyH_take2 (i := 29) (some 225) rfl rfl (by kernel_rfl) (by kernel_rfl) (by kernel_rfl) (fun _ _ _ h => h) (YieldsIf.cell (by rfl) (v := .slice (some ⟨D.vb, D.vo, none⟩) D.nv D.vcap) (fun W hW => by have c : W.cell? ⟨w.heap.size, 721, none⟩ = some (.slice (some ⟨D.vb, D.vo, none⟩) D.nv D.vcap) := (hW.cell (p := ⟨w.heap.size, 721, none⟩) l721.out).trans c721w.out; clear hW; go_simp)) hH ?_
                    simp only [Act.put, List.setIfInBounds_toArray, List.set_cons_zero, List.set_cons_succ]
                    refine wpAnyH_take2 (i := 30) (some 226) rfl rfl (by kernel_rfl) (by kernel_rfl) (by kernel_rfl) (fun _ _ _ h => h) (YieldsIf.pure (v := .slice (some ⟨b, o, none⟩) 8 c1) (by rfl) (fun W => by go_simp)) hH ?_
                    simp only [Act.put, List.setIfInBounds_toArray, List.set_cons_zero, List.set_cons_succ]
                    refine wpAnyH_take2 (i := 31) (some 227) rfl rfl (by kernel_rfl) (by kernel_rfl) (by kernel_rfl) (fun _ _ _ h => h) (YieldsIf.pure (v := .int .i64 (k : Nat)) (by rfl) (fun W => by go_simp)) hH ?_
                    simp only [Act.put, List.setIfInBounds_toArray, List.set_cons_zero, List.set_cons_succ]
                    refine wpAnyH_take2 (i := 32) (some 228) rfl rfl (by kernel_rfl) (by kernel_rfl) (by kernel_rfl) (fun _ _ _ h => h) (YieldsIf.pure (v := .pointer (some ⟨b, o + k, none⟩)) (by rfl) (fun W => by go_simp)) hH ?_
                    simp only [Act.put, List.setIfInBounds_toArray, List.set_cons_zero, List.set_cons_succ]
                    refine wpAnyH_take2 (i := 33) (some 229) rfl rfl (by kernel_rfl) (by kernel_rfl) (by kernel_rfl) (fun _ _ _ h => h) (YieldsIf.cell (by rfl) (v := .int .u64 (x : Nat)) (fun W hW => by have c : W.cell? ⟨b, o + k, none⟩ = some (.int .u64 (x : Nat)) := (hW.cell (p := ⟨b, o + k, none⟩) lbw.out).trans cxw.out; clear hW; go_simp)) hH ?_
                    simp only [Act.put, List.setIfInBounds_toArray, List.set_cons_zero, List.set_cons_succ]
                    refine wpAnyH_take2 (i := 34) (some 230) rfl rfl (by kernel_rfl) (by kernel_rfl) (by kernel_rfl) (fun _ _ _ h => h) (YieldsIf.pure (v := .pointer (some ⟨D.vb, D.vo + x * 86, none⟩)) (by rfl) (fun W => by go_simp)) hH ?_
                    simp only [Act.put, List.setIfInBounds_toArray, List.set_cons_zero, List.set_cons_succ]
                    refine wpAnyH_take2 (i := 35) (some 231) rfl rfl (by kernel_rfl) (by kernel_rfl) (by kernel_rfl) (fun _ _ _ h => h) (YieldsIf.pure (v := .pointer (some ⟨D.vb, D.vo + x * 86, none⟩)) (by rfl) (fun W => by go_simp)) hH ?_
                    simp only [Act.put, List.setIfInBounds_toArray, List.set_cons_zero, List.set_cons_succ]
                    refine wpAnyH_take2 (i := 36) (some 232) rfl rfl (by kernel_rfl) (by kernel_rfl) (by kernel_rfl) (fun _ _ _ h => h) (yieldsIf_load_mid (by rfl) _ _ rfl D.vb (D.vo + x * 86) rfl KL _ (fun W hW => rangeAt_below RK.out hW VLT.out) Tryd.underlying44 rfl LKL.out) hH ?_
                    simp only [Act.put, List.setIfInBounds_toArray, List.set_cons_zero, List.set_cons_succ]
                    refine wpAnyH_take2 (i := 37) (some 233) rfl rfl (by kernel_rfl) (by kernel_rfl) (by kernel_rfl) (fun _ _ _ h => h) (YieldsIf.pure (v := .bool false) (by rfl) (fun W => by have q := KEQ.out W; have q2 := KEG.out; go_simp)) hH ?_
                    simp only [Act.put, List.setIfInBounds_toArray, List.set_cons_zero, List.set_cons_succ]
                    refine wpAnyH_take2 (i := 38) (some 234) rfl rfl (by kernel_rfl) (by kernel_rfl) (by kernel_rfl) (fun _ _ _ h => h) (YieldsIf.pure (v := .bool false) (by rfl) (fun W => by go_simp)) hH ?_
                    simp only [Act.put, List.setIfInBounds_toArray, List.set_cons_zero, List.set_cons_succ]
                    refine wpAnyH_done (by kernel_rfl) ?_ _
                    have NX2 := Lib.hid (NK.out.pure hH)
                    go_wp2
                    go_roundw
                    case rel => exact ⟨k + 1, by omega, by go_num, NX2.out⟩
                    case measure => simp [intOf]; omega
                  · obtain rfl : k = 8 := by omega
                    have d1 : decide ((8 : Nat) < 8) = false := by simp
                    go_wp2
                    go_ret
                    exact ⟨rfl, NK.out.rl.below⟩
end Go.Proofs.YtfagmjlgpfnniaaDoor