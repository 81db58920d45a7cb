/- Contract of word.Root: Newton's steps. -/
import Derived.Test.YtckkaalejfmonaaDiv2
import Derived.WalkMore
import Derived.ScopeJumps
namespace Go.Proofs.Ytckkaalejfmonaa
open Go.RowKit Go.Shelf

def IsRoot (n r : Nat) : Prop := r * r ≤ n ∧ n < (r + 1) * (r + 1)
theorem isRoot_ex : ∀ n, ∃ r, IsRoot n r
  | 0 => ⟨0, by simp [IsRoot]⟩
  | n + 1 => by
    obtain ⟨r, h1, h2⟩ := isRoot_ex n
    by_cases h : (r + 1) * (r + 1) ≤ n + 1
    · refine ⟨r + 1, h, ?_⟩
      rw [Nat.mul_add (r + 1 + 1), Nat.add_mul (r + 1) 1]
      omega
    · exact ⟨r, by omega, by omega⟩
theorem isRoot_lt {n r : Nat} (h : IsRoot n r) (hn : n < 18446744073709551616) : r < 4294967296 := by
  apply Nat.lt_of_not_le
  intro hr
  have := Nat.mul_le_mul hr hr
  have := h.1
  omega
theorem isRoot_le {n r x : Nat} (h : IsRoot n r) (hx : x * x ≤ n) : x ≤ r := by
  apply Nat.le_of_not_lt
  intro hr
  have := Nat.mul_le_mul (show r + 1 ≤ x from hr) (show r + 1 ≤ x from hr)
  have := h.2
  omega
theorem isRoot_ge {n r x : Nat} (h : IsRoot n r) (hx : n < x * x) : r < x := by
  apply Nat.lt_of_not_le
  intro hr
  have := Nat.mul_le_mul hr hr
  have := h.1
  omega
theorem isRoot_eq {n r s : Nat} (h : IsRoot n r) (h' : IsRoot n s) : r = s := Nat.le_antisymm (isRoot_le h' h.1) (isRoot_le h h'.1)
theorem isRoot_pos {n r : Nat} (h : IsRoot n r) (hn : 0 < n) : 0 < r := by
  rcases Nat.eq_zero_or_pos r with rfl | h0
  · have := h.2; omega
  · exact h0
/-- A step never falls below the root. -/
theorem newton_ge {n r x : Nat} (h : IsRoot n r) (hx : r ≤ x) (h0 : 0 < x) : r ≤ (x + n / x) / 2 := by
  rw [Nat.le_div_iff_mul_le (by omega)]
  by_cases h2 : r * 2 ≤ x
  · have := Nat.zero_le (n / x)
    generalize n / x = q at *
    omega
  · obtain ⟨d, rfl⟩ : ∃ d, x = r + d := ⟨x - r, by omega⟩
    obtain ⟨e, rfl⟩ : ∃ e, r = e + d := ⟨r - d, by omega⟩
    have : e ≤ n / (e + d + d) := by
      rw [Nat.le_div_iff_mul_le h0]
      refine Nat.le_trans ?_ h.1
      rw [Nat.mul_add, Nat.mul_add, Nat.mul_add, Nat.add_mul, Nat.add_mul, Nat.mul_comm d e]
      omega
    omega
/-- Where a step doesn't fall, the root is found. -/
theorem newton_end {n r x : Nat} (h : IsRoot n r) (hx : r ≤ x) (h0 : 0 < x) (hy : x ≤ (x + n / x) / 2) : x = r := by
  refine Nat.le_antisymm (isRoot_le h ?_) hx
  have : x ≤ n / x := by omega
  exact (Nat.le_div_iff_mul_le h0).1 this
theorem newton_bound {n r x : Nat} (h : IsRoot n r) (hx : r ≤ x) (h0 : 0 < r) : n / x ≤ r + 2 := by
  refine Nat.le_trans (Nat.div_le_div_left hx h0) ?_
  refine Nat.le_of_lt_succ ?_
  rw [Nat.div_lt_iff_lt_mul h0]
  have := h.2
  rw [Nat.mul_add, Nat.add_mul] at this
  rw [Nat.succ_mul, Nat.add_mul]
  omega
theorem first_ge {n r : Nat} (h : IsRoot n r) (hn : n < 18446744073709551616) (h0 : 0 < n) : ∃ e, (Lib.bitLen n + 1) / 2 = e ∧ e ≤ 32 ∧ r ≤ 2 ^ e ∧ Lib.bitLen n ≤ 64 := by
  obtain ⟨h1, h2, h3⟩ := Lib.bitLenAux_bounds 64 n hn (by omega)
  have h4 := Lib.bitLenAux_le 64 n 64 hn
  have e : Lib.bitLen n = Lib.bitLenAux 64 n := rfl
  rw [e]
  generalize Lib.bitLenAux 64 n = k at *
  refine ⟨_, rfl, by omega, ?_, by omega⟩
  refine Nat.le_of_lt (isRoot_ge h ?_)
  rw [← Nat.pow_add]
  exact Nat.lt_of_lt_of_le h3 (Nat.pow_le_pow_right (by omega) (by omega))

set_option maxHeartbeats 1600000 in
theorem root_any (n : Nat) (hn : n < 18446744073709551616) (w : World) :
    Calls Try.prog 13 #[.int .u64 n] w fun e w' => (∃ r : Nat, e = .returned (.int .u64 r) ∧ IsRoot n r ∧ r < 4294967296) ∧ w = w' := by
  obtain ⟨r, hr⟩ := isRoot_ex n
  have hrl := isRoot_lt hr hn
  by_cases h0 : n = 0
  · subst h0
    have HR : Hid (IsRoot 0 r) := hr
    clear hr hn
    have hr0 : r = 0 := isRoot_eq HR.out ⟨by omega, by omega⟩
    subst hr0
    go_enter Try.func13, Try.ntmps13
    go_wp2
    refine wp_scope_jumps 0 (fun _ _ => False) (fun _ _ => 0) rfl ?_ ?_
    · go_wp2
      simp only [Exit.jump]
      go_ret
      exact ⟨⟨0, rfl, HR.out, by omega⟩, rfl⟩
    · rintro a' w' h
      exact h.elim
  · obtain ⟨e, he, hel, hre, hLl⟩ := first_ge hr hn (by omega)
    have L64 := Try.bits_Len64 n w (by omega) (by omega)
    rw [Int.toNat_natCast] at L64
    have h0p : 0 < r := isRoot_pos hr (by omega)
    generalize Lib.bitLen n = L at *
    have HL := Lib.hid L64
    have HR : Hid (IsRoot n r) := hr
    have heL : ((L : Int) + 1) / 2 = (e : Int) := by omega
    obtain ⟨P, hP⟩ : ∃ P, P = 2 ^ e := ⟨_, rfl⟩
    have hPl : P ≤ 4294967296 := by rw [hP]; exact Nat.pow_le_pow_right (by omega) hel
    have eP : IntKind.u64.wrap ((2 : Int) ^ e) = (P : Int) := by
      have e1 : ((2 : Int) ^ e) = (P : Int) := by rw [hP, Int.natCast_pow]; rfl
      rw [e1]
      exact wrap_id _ (by omega) (by omega)
    rw [← hP] at hre
    clear L64 hr he hP
    have HRE := Lib.hid hre
    clear hre
    go_enter Try.func13, Try.ntmps13
    go_wp2
    refine wp_scope_jumps 0 (fun a' w' => w = w' ∧ ∃ (x : Nat) (u4 u5 u6 u7 u8 u9 u10 u11 u12 u13 u14 u15 u16 u17 u18 u19 u20 u21 u22 u23 : Value), a' = { tmps := #[.int .u64 n, undef, .int .u64 0, .int .u64 x, u4, u5, u6, u7, u8, u9, u10, u11, u12, u13, u14, u15, u16, u17, u18, u19, u20, u21, u22, u23, undef], defers := [] } ∧ r ≤ x ∧ x < 4294967296) (fun a' _ => (intOf (a'.tmps.getD 3 undef)).toNat) rfl ?_ ?_
    · go_wp2_with fail
      refine HL.out.mono ?_
      rintro e1 w1 ⟨rfl, rfl⟩
      go_upto_region 4 with fail
      clear heL eP
      by_cases hbig : (4294967295 : Int) < (P : Int)
      · have HX : Hid (r ≤ 4294967295) := by show _ ≤ _; omega
        obtain ⟨d, hd⟩ : ∃ d, d = n / 4294967295 := ⟨_, rfl⟩
        have hdb : d ≤ r + 2 := by rw [hd]; exact newton_bound HR.out HX.out h0p
        have hge := newton_ge HR.out HX.out (by have := HX.out; omega)
        have hend := newton_end HR.out HX.out (by have := HX.out; omega)
        rw [← hd] at hge hend
        obtain ⟨y, hy⟩ : ∃ y, y = (4294967295 + d) / 2 := ⟨_, rfl⟩
        have ed : (n : Int) / (4294967295 : Int) = (d : Int) := by rw [hd]; simp
        have ey : ((4294967295 : Int) + (d : Int)) / 2 = (y : Int) := by omega
        have hdN : (d : Int) < 4294967298 := by omega
        by_cases hlt : ((4294967295 : Int) + (d : Int)) / 2 < (4294967295 : Int)
        · have HG : Hid (r ≤ y) := by show _ ≤ _; rw [hy]; exact hge
          have hyN : y < 4294967296 := by omega
          have EY := Lib.hid ey
          clear hge hend hd hy ey hdb
          go_wp2
          go_step3
          clear hbig hPl
          go_wp2
          go_step3
          rw [EY.out]
          exact ⟨rfl, rfl, y, _, _, _, _, _, _, _, _, _, _, _, _, _, _, _, _, _, _, _, _, rfl, HG.out, hyN⟩
        · have HG : Hid (4294967295 = r) := hend (by rw [← hy]; omega)
          have hdec : decide (((4294967295 : Int) + (d : Int)) / 2 < (4294967295 : Int)) = false := decide_eq_false hlt
          clear hlt
          have EY := Lib.hid ey
          clear hge hend hd hy ey hdb
          go_wp2
          go_step3
          clear hbig hPl
          go_wp2
          simp only [Exit.jump]
          go_ret
          exact ⟨⟨r, by rw [← HG.out]; rfl, HR.out, hrl⟩, rfl⟩
      · have HX : Hid (r ≤ P) := HRE.out
        have hPp : 0 < P := by have := HX.out; omega
        have hPN : P < 4294967296 := by omega
        clear hPl
        obtain ⟨d, hd⟩ : ∃ d, d = n / P := ⟨_, rfl⟩
        have hdb : d ≤ r + 2 := by rw [hd]; exact newton_bound HR.out HX.out h0p
        have hge := newton_ge HR.out HX.out (by have := HX.out; omega)
        have hend := newton_end HR.out HX.out (by have := HX.out; omega)
        rw [← hd] at hge hend
        obtain ⟨y, hy⟩ : ∃ y, y = (P + d) / 2 := ⟨_, rfl⟩
        have ed : (n : Int) / (P : Int) = (d : Int) := by rw [hd]; simp
        have ey : ((P : Int) + (d : Int)) / 2 = (y : Int) := by omega
        have hdN : (d : Int) < 4294967298 := by omega
        by_cases hlt : ((P : Int) + (d : Int)) / 2 < (P : Int)
        · have HG : Hid (r ≤ y) := by show _ ≤ _; rw [hy]; exact hge
          have hyN : y < 4294967296 := by omega
          have EY := Lib.hid ey
          clear hge hend hd hy ey hdb
          go_wp2
          go_step3
          clear hbig
          go_wp2
          go_step3
          rw [EY.out]
          exact ⟨rfl, rfl, y, _, _, _, _, _, _, _, _, _, _, _, _, _, _, _, _, _, _, _, _, rfl, HG.out, hyN⟩
        · have HG : Hid (P = r) := hend (by rw [← hy]; omega)
          have hdec : decide (((P : Int) + (d : Int)) / 2 < (P : Int)) = false := decide_eq_false hlt
          clear hlt
          have EY := Lib.hid ey
          clear hge hend hd hy ey hdb
          go_wp2
          go_step3
          clear hbig
          go_wp2
          simp only [Exit.jump]
          go_ret
          exact ⟨⟨r, by rw [← HG.out]; rfl, HR.out, hrl⟩, rfl⟩
    · rintro a' w' ⟨rfl, x, u4, u5, u6, u7, u8, u9, u10, u11, u12, u13, u14, u15, u16, u17, u18, u19, u20, u21, u22, u23, rfl, hrx, hxl⟩
      have HX := Lib.hid hrx
      have hx0 : 0 < x := by omega
      clear heL eP hrx
      obtain ⟨d, hd⟩ : ∃ d, d = n / x := ⟨_, rfl⟩
      have hdb : d ≤ r + 2 := by rw [hd]; exact newton_bound HR.out HX.out h0p
      have hge := newton_ge HR.out HX.out (by have := HX.out; omega)
      have hend := newton_end HR.out HX.out (by have := HX.out; omega)
      rw [← hd] at hge hend
      obtain ⟨y, hy⟩ : ∃ y, y = (x + d) / 2 := ⟨_, rfl⟩
      have ed : (n : Int) / (x : Int) = (d : Int) := by rw [hd]; simp
      have ey : ((x : Int) + (d : Int)) / 2 = (y : Int) := by omega
      have hdN : (d : Int) < 4294967298 := by omega
      by_cases hlt : ((x : Int) + (d : Int)) / 2 < (x : Int)
      · have HG : Hid (r ≤ y) := by show _ ≤ _; rw [hy]; exact hge
        have HYX : Hid (y < x) := by show _ < _; omega
        have hyN : y < 4294967296 := by omega
        have EY := Lib.hid ey
        clear hge hend hd hy ey hdb
        go_wp2
        go_step3
        rw [EY.out]
        exact ⟨rfl, ⟨rfl, y, _, _, _, _, _, _, _, _, _, _, _, _, _, _, _, _, _, _, _, _, rfl, HG.out, hyN⟩, by have := HYX.out; simp [intOf]; omega⟩
      · have HG : Hid (x = r) := hend (by rw [← hy]; omega)
        have EY := Lib.hid ey
        clear hge hend hd hy ey hdb
        go_wp2
        simp only [Exit.jump]
        go_ret
        exact ⟨⟨r, by rw [← HG.out]; rfl, HR.out, hrl⟩, rfl⟩
end Go.Proofs.Ytckkaalejfmonaa
