/- Contract of comm.Of. -/
import Derived.Test.YtfagmjlgpfnniaaDoorSeed
import Derived.Deep.RegionWith
namespace Go.Proofs.YtfagmjlgpfnniaaDoor
open Go.RowKit

/-- A part of a slice. -/
theorem Sl.cut {w : World} {lo0 : Nat} {A : Option Addr} {n c : Nat} {xs : List Value} (h : Sl w lo0 (.slice A n c) xs) (hn : xs.length = n) (a b : Nat) (hab : a ≤ b) (hb : b ≤ n) :
    Sl w lo0 (.slice (if c = a then A else A.map (·.add (a * 1))) (b - a) (c - a)) ((xs.take b).drop a) := by
  obtain ⟨A', c', e, h1, h2, h3⟩ := h
  injection e with e1 e2 e3
  subst e1 e3
  have hl : ((xs.take b).drop a).length = b - a := by rw [List.length_drop, List.length_take]; omega
  refine ⟨_, _, by rw [hl], by rw [hl]; omega, by omega, fun hne => ?_⟩
  have hab' : a < b := by
    rcases Nat.lt_or_ge a b with h | h
    · exact h
    · exact absurd (List.eq_nil_of_length_eq_zero (by rw [hl]; omega)) hne
  obtain ⟨g, off, rfl, hlo, hc⟩ := h3 (by rintro rfl; simp at hn; omega)
  refine ⟨g, off + a, ?_, hlo, fun j u hu => ?_⟩
  · rw [if_neg (by omega)]
    simp [Addr.add]
  · rw [List.getElem?_drop, List.getElem?_take] at hu
    split at hu
    · rw [show off + a + j = off + (a + j) by omega]; exact hc _ _ hu
    · cases hu
theorem Sl.drewN' {w : World} {lo : Nat} {v : Value} {xs : List Value} (h : Sl w lo v xs) (n : Nat) : Sl (w.drewN n) lo v xs := h
/-- All that attest in an epoch, shuffled. -/
def allF (D : SD) (e : Nat) : List Nat := shufF (seedF D e 1) (activesF D e D.nv)
/-- A part of it. -/
def partF (l : List Nat) (k s : Nat) : List Nat := (l.take (l.length * (k + 1) / s)).drop (l.length * k / s)
def OfPost (w : World) (l : List Nat) (en : Ending) (w' : World) : Prop := ∃ v, en = .returned (.tuple #[v, .int .i64 0]) ∧ OL w' w.heap.size v l ∧ Below w.heap.size w w'
theorem allF_length (D : SD) (e : Nat) : (allF D e).length = (activesF D e D.nv).length := shufF_length _ _
set_option maxHeartbeats 3200000 in
set_option maxRecDepth 100000 in
theorem of_any (X : List Value) (D : SD) (e r i c k s N : Nat) (he : e < 1099511627776) (hr : r < 4) (hc : c = countF (activesF D e D.nv).length) (hi : i < c) (hk : k = r * c + i) (hs : s = c * 4) (hN : N = (allF D e).length) (w : World) (tab : Tab w) (st : St w X D) (hn : D.nv ≤ 100) :
    Calls Tryd.prog 7 #[.agg X.toArray, .int .u64 ((4 * e + r : Nat) : Int), .int .u64 i] w (OfPost w (partF (allF D e) k s)) := by
  have HT := Lib.hid tab
  have HST := Lib.hid st
  have h2 := tab.size
  have hc2 : 1 ≤ c ∧ c ≤ 2 := by rw [hc]; unfold countF; omega
  obtain ⟨hc1, hc2⟩ := hc2
  have hN1 : N ≤ 100 := by rw [hN, allF_length]; have := activesF_length D e D.nv; omega
  have hal := activesF_length D e D.nv
  obtain ⟨sl, hsl⟩ : ∃ sl, sl = 4 * e + r := ⟨_, rfl⟩
  have hsl2 : sl < 9223372036854775807 := by omega
  have es : (sl : Int) / 4 = (e : Int) := by omega
  have er : (sl : Int) % 4 = (r : Int) := by omega
  rw [← hsl]
  have HC := Lib.hid hc
  have HK := Lib.hid hk
  have HS := Lib.hid hs
  have HN := Lib.hid hN
  have bx := Lib.hid (Blk.new w 49 X)
  have b0 := Lib.hid ((Below.refl _ w).alloc (Nat.le_refl _) (.cells X.toArray 49))
  have AC := Lib.hid (actives_any X D e (by omega) _ (st.below b0.out (Nat.le_refl _)) hn)
  have hlen := Lib.hid st.len
  have CN := Lib.hid (fun w => count_any (activesF D e D.nv).length (by omega) w)
  have hge : decide (c ≤ i) = false := by simp; omega
  have hge' : decide ((c : Int) ≤ (i : Int)) = false := by simp; omega
  have hk8 : k < 8 := by
    have : r * c ≤ 3 * c := Nat.mul_le_mul_right c (by omega)
    omega
  clear tab st hsl hc hk hs hN
  go_enter Tryd.func7, Tryd.ntmps7
  go_upto_region 4 with (first | (with_reducible refine wpList_load_blk rfl _ _ rfl _ rfl _ _ bx.out _ Tryd.underlying49 rfl 1957 Tryd.size_state hlen.out ?_) | (go_at_call 12; refine AC.out.mono ?_; rintro en w1 ⟨v1, rfl, hol1, hb1⟩; have HB1 := Lib.hid hb1; have HO1 := Lib.hid hol1; obtain ⟨A1, c1, rfl, q1, q2, q3⟩ := hol1.sl; rw [u64s_length]; clear q1 q2 q3 hol1 hb1) | (go_at_call 15; refine (CN.out _).mono ?_; rintro en w2 ⟨rfl, rfl⟩; rw [show ((min 2 (max 1 ((activesF D e D.nv).length / 8)) : Nat) : Int) = (c : Int) by rw [HC.out]; rfl]))
  have B1 := Lib.hid (b0.out.trans (HB1.out.mono (by simp)))
  have T1 := Lib.hid (HT.out.below B1.out h2)
  have S1 := Lib.hid (HST.out.below B1.out (Nat.le_refl _))
  have SL1 := Lib.hid (show Sl w1 (w.alloc (.cells X.toArray 49)).heap.size (.slice A1 (activesF D e D.nv).length c1) (u64s (activesF D e D.nv)) by have := HO1.out.sl; rwa [u64s_length] at this)
  have bx1 := Lib.hid (bx.out.below HB1.out bx.out.lt)
  have SE := Lib.hid (seed_any X D e 1 (by omega) (by omega) w1 T1.out S1.out)
  have HAL := Lib.hid (show (activesF D e D.nv).length ≤ 100 by omega)
  clear AC CN HO1 hal
  go_upto_region 7 with (first | (with_reducible refine wpList_load_blk rfl _ _ rfl _ rfl _ _ bx1.out _ Tryd.underlying49 rfl 1957 Tryd.size_state hlen.out ?_) | (go_at_call 14; refine SE.out.mono ?_; rintro en w2 ⟨rfl, hb2⟩; have HB2 := Lib.hid hb2; have LS := Lib.hid (list_any _ (activesF D e D.nv) (seedF D e 1) (seedF_lt D e 1) w2 _ (T1.out.below hb2 T1.out.size) (SL1.out.below hb2 (Nat.le_refl _)) HAL.out); clear hb2) | (go_at_call 17; refine LS.out.mono ?_; rintro en w3 ⟨v3, rfl, hol3, hb3⟩; have HB3 := Lib.hid hb3; have HO3 := Lib.hid (show OL w3 w2.heap.size v3 (allF D e) from hol3); obtain ⟨A3, c3, rfl, q1, q2, q3⟩ := (show OL w3 w2.heap.size v3 (allF D e) from hol3).sl; rw [u64s_length, ← HN.out]; have HC3 := Lib.hid (show N ≤ c3 by rw [u64s_length, ← HN.out] at q1; exact q1); have HM3 := Lib.hid q2; clear q1 q2 q3 hol3 hb3))
  obtain ⟨P, hP⟩ : ∃ P, P = N * k := ⟨_, rfl⟩
  obtain ⟨P1, hP1⟩ : ∃ P1, P1 = N * (k + 1) := ⟨_, rfl⟩
  obtain ⟨rc, hrc⟩ : ∃ rc, rc = r * c := ⟨_, rfl⟩
  have hk := HK.out
  have hs := HS.out
  have lP : P ≤ N * 7 := by rw [hP]; exact Nat.mul_le_mul_left N (by omega)
  have lP1 : P1 ≤ N * 8 := by rw [hP1]; exact Nat.mul_le_mul_left N (by omega)
  have ePk : P1 = P + N := by rw [hP1, hP, Nat.mul_add, Nat.mul_one]
  have e1 : (N : Int) * (k : Int) = (P : Int) := by rw [hP]; simp
  have e2 : (r : Int) * (c : Int) = (rc : Int) := by rw [hrc]; simp
  have e3 : (rc : Int) + (i : Int) = (k : Int) := by omega
  have e4 : (c : Int) * 4 = (s : Int) := by omega
  have e5 : (N : Int) * ((k : Int) + 1) = (P1 : Int) := by rw [hP1]; simp
  have lrc : rc < 100 := by omega
  obtain ⟨lo, hlo⟩ : ∃ lo, lo = P / s := ⟨_, rfl⟩
  obtain ⟨hi', hhi⟩ : ∃ hi, hi = P1 / s := ⟨_, rfl⟩
  have s1 : 1 ≤ s := by omega
  have e6 : (P : Int) / (s : Int) = (lo : Int) := by rw [hlo]; simp
  have e7 : (P1 : Int) / (s : Int) = (hi' : Int) := by rw [hhi]; simp
  have q1 : lo ≤ hi' := by rw [hlo, hhi]; exact Nat.div_le_div_right (by omega)
  have q2 : hi' ≤ N := by
    rw [hhi, hP1]
    have : k + 1 ≤ s := by
      have h1 : r * c ≤ 3 * c := Nat.mul_le_mul_right c (by omega)
      omega
    calc N * (k + 1) / s ≤ N * s / s := Nat.div_le_div_right (Nat.mul_le_mul_left N this)
      _ = N := Nat.mul_div_cancel N (by omega)
  have HLO := Lib.hid (show lo = N * k / s by rw [hlo, hP])
  have HHI := Lib.hid (show hi' = N * (k + 1) / s by rw [hhi, hP1])
  obtain ⟨k1, hk1⟩ : ∃ k1, k1 = k + 1 := ⟨_, rfl⟩
  obtain ⟨A4, hA4⟩ : ∃ A4, A4 = (if c3 = lo then A3 else A3.map (·.add (lo * 1))) := ⟨_, rfl⟩
  obtain ⟨m, hm⟩ : ∃ m, m = hi' - lo := ⟨_, rfl⟩
  obtain ⟨c4, hc4⟩ : ∃ c4, c4 = c3 - lo := ⟨_, rfl⟩
  have hc3 := HC3.out
  have hal := HN.out
  have SL4 := Lib.hid (show Sl w3 w2.heap.size (.slice A4 m c4) (u64s (partF (allF D e) k s)) by
    have h3 := HO3.out.sl
    have h4 := Sl.cut h3 rfl lo hi' q1 (by rw [u64s_length]; omega)
    rw [hA4, hm, hc4]
    have e : u64s (partF (allF D e) k s) = (List.take hi' (u64s (allF D e))).drop lo := by
      unfold partF u64s
      rw [List.map_drop, List.map_take, ← hal, HLO.out, HHI.out]
    rw [e]; exact h4)
  have hpl : (partF (allF D e) k s).length = m := by
    obtain ⟨_, _, e, _⟩ := SL4.out
    injection e with _ e _
    rw [u64s_length] at e; exact e.symm
  have CL := Lib.hid (fun n => clone_any _ (partF (allF D e) k s) (w3.drewN n) _ (SL4.out.drewN' n) (by omega))
  have hsl : ∀ w, (Instr.slice 37 (.slice A3 N c3) (some (.int .u64 (lo : Nat))) (some (.int .u64 (hi' : Nat))) none).run Tryd.prog w = .ok (.slice A4 m c4) w := by
    intro w
    rw [run_slice_lh w 37 A3 N c3 Tryd.underlying37 .u64 .u64 (lo : Nat) (hi' : Nat) (by omega) (by omega) (by omega)]
    have hz : ∀ w, (sizeOf (Tryd.prog.elem 37)).run Tryd.prog w = .ok 1 w := fun w => by kernel_rfl
    rw [hz]
    simp only [Result.andThen, sliced, Int.toNat_natCast]
    rw [hA4, hm, hc4]
  have HPL := Lib.hid hpl
  rw [← hk1] at hP1
  have e5' : (N : Int) * (k1 : Int) = (P1 : Int) := by rw [hP1]; simp
  have hkk1 : IntKind.u64.wrap ((k : Int) + 1) = (k1 : Int) := by rw [IntKind.wrap_u64]; omega
  have hw1 : IntKind.u64.wrap ((N : Int) * (k : Int)) = (P : Int) := by rw [e1, IntKind.wrap_u64]; omega
  have hw2 : IntKind.u64.wrap ((N : Int) * (k1 : Int)) = (P1 : Int) := by rw [e5', IntKind.wrap_u64]; omega
  have hs0 : ¬ (s : Int) = 0 := by omega
  have hwl : IntKind.u64.wrap (lo : Int) = (lo : Int) := by rw [IntKind.wrap_u64]; omega
  have hwh : IntKind.u64.wrap (hi' : Int) = (hi' : Int) := by rw [IntKind.wrap_u64]; omega
  have FK := Lib.hid (show (k : Int) + 1 = (k1 : Int) by omega)
  have FF := Lib.hid (show _ ∧ _ ∧ _ ∧ _ ∧ _ ∧ _ from ⟨hkk1, hw1, hw2, hs0, hwl, hwh⟩)
  have FSW := Lib.hid hsl
  clear hP hP1 hrc hk hs hlo hhi ePk hA4 hm hc4 hc3 hal hpl e1 e5 e5' hk1 hsl hw1 hw2 hkk1 hs0 hwl hwh
  go_upto_region 9 with fail
  obtain ⟨hkk1, hw1, hw2, hs0, hwl, hwh⟩ := FF.out
  have hsl := FSW.out
  clear e2 e3 e4
  go_region_with (go_at_call 18; refine (CL.out 1).mono ?_; rintro en w4 ⟨v4, rfl, hol4, hb4⟩; have HO4 := Lib.hid hol4; have HB4 := Lib.hid hb4; clear hol4 hb4)
  all_goals
    go_wp2
    go_ret2
    have b2 := B1.out.trans (HB2.out.mono B1.out.size)
    have b3 := b2.trans (HB3.out.mono b2.size)
    have b4 := (below_drewN b3 1).trans (HB4.out.mono b3.size)
    exact ⟨_, rfl, HO4.out.lower b3.size, b4⟩
end Go.Proofs.YtfagmjlgpfnniaaDoor
