/- Contract of the reference's wide product. -/
import Derived.Test.YtckkaalejfmonaaOne
namespace Go.Proofs.Ytckkaalejfmonaa
open Go.RowKit Go.Shelf

theorem or_addw (a b k : Nat) (ha : a < 2 ^ k) : b * 2 ^ k ||| a = b * 2 ^ k + a := by
  rw [Nat.mul_comm, ← Nat.two_pow_add_eq_or_of_lt ha]
theorem wide_split (a b j : Nat) : a * (b / 2 ^ j) = 2 * (a * (b / 2 ^ (j + 1))) + a * (b / 2 ^ j % 2) := by
  have h : b / 2 ^ (j + 1) = b / 2 ^ j / 2 := by rw [Nat.pow_succ, Nat.div_div_eq_div_mul]
  rw [h]
  have h2 : b / 2 ^ j = 2 * (b / 2 ^ j / 2) + b / 2 ^ j % 2 := by omega
  conv => lhs; rw [h2]
  rw [Nat.mul_add, Nat.mul_left_comm]
theorem wide_lt (a b j : Nat) (ha : a < 18446744073709551616) (hb : b < 18446744073709551616) : a * (b / 2 ^ j) < 340282366920938463463374607431768211456 := by
  have h1 : b / 2 ^ j ≤ b := Nat.div_le_self _ _
  have h2 : a * (b / 2 ^ j) ≤ 18446744073709551615 * 18446744073709551615 := Nat.mul_le_mul (by omega) (by omega)
  omega
theorem bit_cast (b j : Nat) (hb : b < 18446744073709551616) : bits .and .u64 ((b : Int) / 2 ^ j) 1 = ((b / 2 ^ j % 2 : Nat) : Int) := by
  have h1 : b / 2 ^ j ≤ b := Nat.div_le_self _ _
  have e : ((b : Int) / 2 ^ j) = ((b / 2 ^ j : Nat) : Int) := by simp
  rw [e]
  generalize b / 2 ^ j = q at h1 ⊢
  rw [and_one_u64 _ (by omega) (by omega)]
  omega

theorem dbl (H L H2 L2 : Nat) (h1 : L2 = L * 2 % 18446744073709551616) (h2 : H2 = H * 2 + L / 9223372036854775808) (_hL : L < 18446744073709551616) : H2 * 18446744073709551616 + L2 = 2 * (H * 18446744073709551616 + L) := by omega
theorem addc' (H2 L2 L3 a V p N : Nat) (h1 : H2 * N + L2 = 2 * V) (h2 : p = 2 * V + a) (e : L3 + N = L2 + a) : (H2 + 1) * N + L3 = p := by rw [Nat.succ_mul]; omega
theorem addn' (H2 L2 L3 a V p N : Nat) (h1 : H2 * N + L2 = 2 * V) (h2 : p = 2 * V + a) (e : L3 = L2 + a) : H2 * N + L3 = p := by omega
theorem addc (H2 L2 L3 a V p : Nat) (h1 : H2 * 18446744073709551616 + L2 = 2 * V) (h2 : p = 2 * V + a) (h3 : L3 = (L2 + a) % 18446744073709551616) (ha : a < 18446744073709551616) (hL : L2 < 18446744073709551616) (hc : L3 < L2) : (H2 + 1) * 18446744073709551616 + L3 = p := by
  have e : L3 + 18446744073709551616 = L2 + a := by clear h1 h2; omega
  exact addc' H2 L2 L3 a V p _ h1 h2 e
theorem addn (H2 L2 L3 a V p : Nat) (h1 : H2 * 18446744073709551616 + L2 = 2 * V) (h2 : p = 2 * V + a) (h3 : L3 = (L2 + a) % 18446744073709551616) (ha : a < 18446744073709551616) (hL : L2 < 18446744073709551616) (hc : ¬ L3 < L2) : H2 * 18446744073709551616 + L3 = p := by
  have e : L3 = L2 + a := by clear h1 h2; omega
  exact addn' H2 L2 L3 a V p _ h1 h2 e
theorem high_lt (H2 L p : Nat) (h : H2 * 18446744073709551616 + L = p) (hp : p < 340282366920938463463374607431768211456) : H2 < 18446744073709551616 := by omega
set_option maxHeartbeats 1600000 in
theorem wide_any (a b : Nat) (ha : a < 18446744073709551616) (hb : b < 18446744073709551616) (w : World) :
    Calls Try.prog 31 #[.int .u64 a, .int .u64 b] w fun e w' => e = .returned (.tuple #[.int .u64 ((a * b / 18446744073709551616 : Nat) : Int), .int .u64 ((a * b % 18446744073709551616 : Nat) : Int)]) ∧ w = w' := by
  have HA := Lib.hid ha
  have HB := Lib.hid hb
  clear hb
  go_enter Try.func31, Try.ntmps31
  go_wp2
  go_loop [6, 7, 8] (fun h l i => ∃ k H L : Nat, k ≤ 64 ∧ i = .int .i64 ((k : Int) - 1) ∧ h = .int .u64 H ∧ l = .int .u64 L ∧ L < 18446744073709551616 ∧ H < 18446744073709551616 ∧ H * 18446744073709551616 + L = a * (b / 2 ^ k)) (fun _ _ i => (intOf i + 1).toNat)
  case atStart => exact ⟨64, 0, 0, Nat.le_refl _, rfl, rfl, rfl, by omega, by omega, by rw [Nat.div_eq_of_lt (by have := HB.out; omega)]; simp⟩
  case round =>
    obtain ⟨k, H, L, hk, rfl, rfl, rfl, hL, hH, hv⟩ := hrel
    cases k with
    | zero =>
      have hv' : H = a * b / 18446744073709551616 ∧ L = a * b % 18446744073709551616 := by
        rw [Nat.pow_zero, Nat.div_one] at hv
        generalize a * b = p at *
        omega
      obtain ⟨e1, e2⟩ := hv'
      have e1' : ((a : Int) * (b : Int) / 18446744073709551616) = (H : Int) := by rw [e1]; simp
      have e2' : ((a : Int) * (b : Int) % 18446744073709551616) = (L : Int) := by rw [e2]; simp
      have E1 := Lib.hid e1'
      have E2 := Lib.hid e2'
      clear hv e1 e2 e1' e2'
      go_wp2
      go_ret2
      exact ⟨by rw [E1.out, E2.out]; rfl, rfl⟩
    | succ j =>
      have hj : j < 64 := by omega
      have hs := wide_split a b j
      have hlt := wide_lt a b j HA.out HB.out
      have hbit := bit_cast b j HB.out
      rw [← hv] at hs
      have hH2 : H < 9223372036854775808 := by
        generalize a * (b / 2 ^ j) = p at *
        generalize a * (b / 2 ^ j % 2) = q at *
        omega
      have hmod : b / 2 ^ j % 2 < 2 := Nat.mod_lt _ (by omega)
      obtain ⟨L2, hL2⟩ : ∃ L2, L2 = L * 2 % 18446744073709551616 := ⟨_, rfl⟩
      obtain ⟨H2, hH2'⟩ : ∃ H2, H2 = H * 2 + L / 9223372036854775808 := ⟨_, rfl⟩
      have eL : IntKind.u64.wrap ((L : Int) * 2) = (L2 : Int) := by rw [IntKind.wrap_u64]; omega
      have eO : bits .or .u64 ((H : Int) * 2) ((L : Int) / 9223372036854775808) = (H2 : Int) := by
        have e : ((H : Int) * 2) = ((H * 2 ^ 1 : Nat) : Int) := by omega
        have e' : ((L : Int) / 9223372036854775808) = ((L / 9223372036854775808 : Nat) : Int) := by omega
        rw [e, e', u64_or_nat _ _ (by omega) (by omega), or_addw _ _ 1 (by omega), hH2']
      have hL2b : L2 < 18446744073709551616 := by omega
      have hH2b : H2 < 18446744073709551616 := by omega
      have hV2 : H2 * 18446744073709551616 + L2 = 2 * (H * 18446744073709551616 + L) := dbl H L H2 L2 hL2 hH2' hL
      generalize b / 2 ^ j % 2 = t at *
      have ht : t = 0 ∨ t = 1 := by omega
      rcases ht with rfl | rfl
      · have hs0 : H2 * 18446744073709551616 + L2 = a * (b / 2 ^ j) := by rw [hs, hV2]; omega
        have hs' := Lib.hid hs0
        clear hs0
        have hbt : (bits BinOp.and IntKind.u64 ((b : Int) / 2 ^ j) 1 == 1) = false := by rw [hbit]; rfl
        clear hs hv hlt hbit hL2 hH2' hV2 hmod
        go_wp2
        go_round
        case rel => exact ⟨j, H2, L2, by omega, rfl, rfl, rfl, hL2b, hH2b, hs'.out⟩
        case measure => simp [intOf]
      · have hbt : (bits BinOp.and IntKind.u64 ((b : Int) / 2 ^ j) 1 == 1) = true := by rw [hbit]; rfl
        obtain ⟨L3, hL3⟩ : ∃ L3, L3 = (L2 + a) % 18446744073709551616 := ⟨_, rfl⟩
        have eS : IntKind.u64.wrap ((L2 : Int) + (a : Int)) = (L3 : Int) := by rw [IntKind.wrap_u64]; omega
        have hL3b : L3 < 18446744073709551616 := by omega
        rw [Nat.mul_one] at hs
        generalize hp : a * (b / 2 ^ j) = p at *
        have HPP := Lib.hid hp
        clear hp
        by_cases hc : L3 < L2
        · have hs0 : (H2 + 1) * 18446744073709551616 + L3 = p := addc H2 L2 L3 a _ p hV2 hs hL3 ha hL2b hc
          have hs' := Lib.hid hs0
          clear hs0
          have hH3 : H2 + 1 < 18446744073709551616 := high_lt _ _ p hs'.out hlt
          clear hs hv hlt hbit hL2 hH2' hV2 hmod hL3
          go_wp2
          go_round
          case rel => exact ⟨j, H2 + 1, L3, by omega, rfl, by go_num, rfl, hL3b, hH3, by rw [HPP.out]; exact hs'.out⟩
          case measure => simp [intOf]
        · have hs0 : H2 * 18446744073709551616 + L3 = p := addn H2 L2 L3 a _ p hV2 hs hL3 ha hL2b hc
          have hs' := Lib.hid hs0
          clear hs0
          clear hs hv hlt hbit hL2 hH2' hV2 hmod hL3
          go_wp2
          go_round
          case rel => exact ⟨j, H2, L3, by omega, rfl, rfl, rfl, hL3b, hH2b, by rw [HPP.out]; exact hs'.out⟩
          case measure => simp [intOf]
end Go.Proofs.Ytckkaalejfmonaa
