/- Contracts of bits.Div64, word.MulDiv. -/
import Derived.Test.YtckkaalejfmonaaDiv
import Derived.Test.YtckkaalejfmonaaWide
import Derived.Lib.ItoaNum
namespace Go.Proofs.Ytckkaalejfmonaa
open Go.RowKit Go.Shelf

theorem lead (y : Nat) (h0 : 0 < y) (hy : y < 18446744073709551616) : ∃ s : Nat, s < 64 ∧ (64 - (Lib.bitLen y : Int)) = (s : Int) ∧ 9223372036854775808 ≤ y * 2 ^ s ∧ y * 2 ^ s < 18446744073709551616 := by
  obtain ⟨h1, h2, h3⟩ := Lib.bitLenAux_bounds 64 y hy (by omega)
  have h4 := Lib.bitLenAux_le 64 y 64 hy
  have e : Lib.bitLen y = Lib.bitLenAux 64 y := rfl
  rw [e]
  generalize Lib.bitLenAux 64 y = k at *
  refine ⟨64 - k, by omega, by omega, ?_, ?_⟩
  · have h5 := Nat.mul_le_mul_right (2 ^ (64 - k)) h2
    rw [← Nat.pow_add, show k - 1 + (64 - k) = 63 from by omega] at h5
    exact h5
  · have h5 := Nat.mul_lt_mul_of_pos_right h3 (Nat.two_pow_pos (64 - k))
    rw [← Nat.pow_add, show k + (64 - k) = 64 from by omega] at h5
    exact h5
theorem top_lt {h m y p Y : Nat} (hhy : h < y) (hm : m < p) (hY : Y = y * p) : h * p + m < Y := by
  have : (h + 1) * p ≤ y * p := Nat.mul_le_mul_right _ hhy
  rw [Nat.succ_mul] at this
  omega
theorem low_split (l s : Nat) (hs : s < 64) : l * 2 ^ s / 18446744073709551616 = l / 2 ^ (64 - s) := by
  have e : (18446744073709551616 : Nat) = 2 ^ (64 - s) * 2 ^ s := by rw [← Nat.pow_add, show 64 - s + s = 64 from by omega]
  rw [e, Nat.mul_div_mul_right _ _ (Nat.two_pow_pos s)]
theorem low_lt (l s : Nat) (hs : s < 64) (hl : l < 18446744073709551616) : l / 2 ^ (64 - s) < 2 ^ s := by
  rw [Nat.div_lt_iff_lt_mul (Nat.two_pow_pos _), ← Nat.pow_add, show s + (64 - s) = 64 from by omega]
  exact hl
theorem mul_pow_cast (a s : Nat) : (a : Int) * 2 ^ s = ((a * 2 ^ s : Nat) : Int) := by rw [Int.natCast_mul, Int.natCast_pow]; rfl
theorem whole_aux {u L v1 v0 hp lp q : Nat} (hL : v1 * 4294967296 + v0 = L) (h1 : hp + q = u) (h2 : q * 18446744073709551616 + L = lp) : u * 18446744073709551616 + v1 * 4294967296 + v0 = hp * 18446744073709551616 + lp := by
  subst hL h1 h2
  rw [Nat.add_mul, Nat.add_assoc, Nat.add_assoc]

set_option maxHeartbeats 800000 in
theorem div64_pos (h l y : Nat) (hh : 0 < h) (hhy : h < y) (hy : y < 18446744073709551616) (hl : l < 18446744073709551616) (w : World) :
    Calls Try.prog 30 #[.int .u64 h, .int .u64 l, .int .u64 y] w fun e w' => ∃ r : Int, e = .returned (.tuple #[.int .u64 (((h * 18446744073709551616 + l) / y : Nat) : Int), .int .u64 r]) ∧ w = w' := by
  obtain ⟨s, hs, hsl, hY1, hY2⟩ := lead y (by omega) hy
  have hp : 0 < 2 ^ s := Nat.two_pow_pos s
  have hlow := low_lt l s hs hl
  have hsp := low_split l s hs
  obtain ⟨Y, hY⟩ : ∃ Y, Y = y * 2 ^ s := ⟨_, rfl⟩
  have htop := top_lt hhy hlow hY
  obtain ⟨u, hu⟩ : ∃ u, u = h * 2 ^ s + l / 2 ^ (64 - s) := ⟨_, rfl⟩
  rw [← hu] at htop
  rw [← hY] at hY1 hY2
  have hhp : h * 2 ^ s < 18446744073709551616 := by omega
  have hYs : Y = Y / 4294967296 * 4294967296 + Y % 4294967296 := by omega
  have hL2 : l * 2 ^ s % 18446744073709551616 < 18446744073709551616 := by omega
  have hlw : l / 2 ^ (64 - s) < 18446744073709551616 := Nat.lt_of_le_of_lt (Nat.div_le_self _ _) hl
  have fin := div64_walk h l y s Y (Y / 4294967296) (Y % 4294967296) u (l * 2 ^ s % 18446744073709551616) (l * 2 ^ s % 18446744073709551616 / 4294967296) (l * 2 ^ s % 18446744073709551616 % 4294967296) _ _ _ hh hhy hs
    hYs (by omega) (by omega) (by omega) htop (by omega) (by omega) rfl rfl rfl
    (by rw [mul_pow_cast, ← hY]; exact wrap_id _ (by omega) (by omega)) (by omega)
    (by rw [and_low32 _ (by omega) (by omega)]; omega)
    (by rw [mul_pow_cast, wrap_id _ (by omega) (by omega)]
        have e : ((l : Int) / 2 ^ (64 - s)) = ((l / 2 ^ (64 - s) : Nat) : Int) := by simp
        rw [e, u64_or_nat _ _ hhp hlw, or_addw _ _ s hlow, ← hu])
    (by rw [mul_pow_cast, IntKind.wrap_u64]; omega) (by omega)
    (by rw [and_low32 _ (by omega) (by omega)]; omega)
    (fun w => (Try.bits_LeadingZeros64 y w (by omega) (by omega)).mono (by
      rintro e w' ⟨rfl, rfl⟩
      rw [Int.toNat_natCast, hsl]
      exact ⟨rfl, rfl⟩)) w
  have hw : u * 18446744073709551616 + (l * 2 ^ s % 18446744073709551616 / 4294967296) * 4294967296 + (l * 2 ^ s % 18446744073709551616 % 4294967296) = (h * 18446744073709551616 + l) * 2 ^ s := by
    rw [Nat.add_mul, Nat.mul_right_comm]
    exact whole_aux (L := l * 2 ^ s % 18446744073709551616) (by omega) (by rw [← hsp] at hu; exact hu.symm) (Nat.div_add_mod' _ _)
  have hb := knuth.both (h := h) (l := l) (y := y) (Y := Y) hp hY hw rfl rfl rfl (by omega)
  rw [hb] at fin
  exact fin

set_option maxHeartbeats 800000 in
theorem div64_zero (l y : Nat) (hy0 : 0 < y) (w : World) (hl : l < 18446744073709551616) (hy : y < 18446744073709551616) :
    Calls Try.prog 30 #[.int .u64 0, .int .u64 l, .int .u64 y] w fun e w' => ∃ r : Int, e = .returned (.tuple #[.int .u64 ((l / y : Nat) : Int), .int .u64 r]) ∧ ∃ n, w' = w.drewN n := by
  obtain ⟨q, hq⟩ : ∃ q, q = l / y := ⟨_, rfl⟩
  obtain ⟨r, hr⟩ : ∃ q, q = l % y := ⟨_, rfl⟩
  have eq : (l : Int) / (y : Int) = (q : Int) := by rw [hq]; simp
  have er : (l : Int) % (y : Int) = (r : Int) := by rw [hr]; simp
  rw [← hq]
  have hql : q ≤ l := by rw [hq]; exact Nat.div_le_self _ _
  have hrl : r < y := by rw [hr]; exact Nat.mod_lt _ hy0
  clear hq hr
  go_enter Try.func30, Try.ntmps30
  go_upto_region 6 with fail
  go_region
  go_wp2
  go_ret2
  exact ⟨_, rfl, 1, rfl⟩

def mulDivS (a b c : Nat) : Nat × Int := if c = 0 then (0, 3) else if c ≤ a * b / 18446744073709551616 then (0, 2) else (a * b / c, 0)
def PairN (w : World) (p : Nat × Int) (e : Ending) (w' : World) : Prop := e = .returned (.tuple #[.int .u64 (p.1 : Int), .int .i64 p.2]) ∧ ∃ n, w' = w.drewN n
theorem div64_any (h l y : Nat) (hhy : h < y) (hy : y < 18446744073709551616) (hl : l < 18446744073709551616) (w : World) :
    Calls Try.prog 30 #[.int .u64 h, .int .u64 l, .int .u64 y] w fun e w' => ∃ r : Int, e = .returned (.tuple #[.int .u64 (((h * 18446744073709551616 + l) / y : Nat) : Int), .int .u64 r]) ∧ ∃ n, w' = w.drewN n := by
  rcases Nat.eq_zero_or_pos h with rfl | hh
  · rw [Nat.zero_mul, Nat.zero_add]
    exact div64_zero l y hhy w hl hy
  · refine (div64_pos h l y hh hhy hy hl w).mono ?_
    rintro e w' ⟨r, he, rfl⟩
    exact ⟨r, he, 0, rfl⟩
set_option maxHeartbeats 800000 in
theorem muldiv_any (a b c : Nat) (ha : a < 18446744073709551616) (hb : b < 18446744073709551616) (hc : c < 18446744073709551616) (w : World) :
    Calls Try.prog 11 #[.int .u64 a, .int .u64 b, .int .u64 c] w (PairN w (mulDivS a b c)) := by
  by_cases h0 : c = 0
  · subst h0
    go_enter Try.func11, Try.ntmps11
    go_wp2
    go_ret2
    exact ⟨rfl, 0, rfl⟩
  · obtain ⟨H, hH⟩ : ∃ H, H = a * b / 18446744073709551616 := ⟨_, rfl⟩
    obtain ⟨L, hL⟩ : ∃ H, H = a * b % 18446744073709551616 := ⟨_, rfl⟩
    have M := Try.bits_Mul64 a b ha hb
    rw [← hH, ← hL] at M
    have HM := Lib.hid M
    clear M
    have hLl : L < 18446744073709551616 := by rw [hL]; exact Nat.mod_lt _ (by omega)
    have hHl : H < 18446744073709551616 := by rw [hH]; exact Nat.div_lt_of_lt_mul (by have := wide_lt a b 0 ha hb; rw [Nat.pow_zero, Nat.div_one] at this; exact this)
    have hHL : H * 18446744073709551616 + L = a * b := by rw [hH, hL]; exact Nat.div_add_mod' _ _
    by_cases hle : c ≤ H
    · have hs : mulDivS a b c = (0, 2) := by unfold mulDivS; rw [if_neg h0, if_pos (by rw [← hH]; exact hle)]
      have HS := Lib.hid hs
      clear hs hH hL hHL
      go_enter Try.func11, Try.ntmps11
      go_wp2_with fail
      refine (HM.out _).mono ?_
      rintro e w1 ⟨rfl, rfl⟩
      go_wp2
      go_ret2
      exact ⟨by rw [HS.out]; rfl, 0, rfl⟩
    · have hs : mulDivS a b c = (a * b / c, 0) := by unfold mulDivS; rw [if_neg h0, if_neg (by rw [← hH]; exact hle)]
      have hlt : H < c := Nat.lt_of_not_le hle
      have D := fun w => div64_any H L c hlt hc hLl w
      rw [hHL] at D
      generalize a * b / c = q at D hs
      have HS := Lib.hid hs
      have HD := Lib.hid D
      clear hs hH hL hHL D
      go_enter Try.func11, Try.ntmps11
      go_wp2_with fail
      refine (HM.out _).mono ?_
      rintro e w1 ⟨rfl, rfl⟩
      go_wp2_with fail
      refine (HD.out _).mono ?_
      rintro e w2 ⟨r, rfl, n, rfl⟩
      go_wp2
      go_ret2
      exact ⟨by rw [HS.out]; rfl, n, rfl⟩
end Go.Proofs.Ytckkaalejfmonaa
