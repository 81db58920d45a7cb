/- Contract of the reference's MulDiv: long division, bit by bit. -/
import Derived.Test.YtckkaalejfmonaaDiv2
namespace Go.Proofs.Ytckkaalejfmonaa
open Go.RowKit Go.Shelf

theorem half_step (T j : Nat) : T / 2 ^ j = 2 * (T / 2 ^ (j + 1)) + T / 2 ^ j % 2 := by
  have h : T / 2 ^ (j + 1) = T / 2 ^ j / 2 := by rw [Nat.pow_succ, Nat.div_div_eq_div_mul]
  rw [h]
  omega
theorem bit_low (H L j : Nat) (hj : j < 64) : (H * 18446744073709551616 + L) / 2 ^ j % 2 = L / 2 ^ j % 2 := by
  have e : H * 18446744073709551616 = 2 ^ j * (2 * (H * 2 ^ (63 - j))) := by
    have e1 : (18446744073709551616 : Nat) = 2 ^ j * (2 * 2 ^ (63 - j)) := by
      rw [Nat.mul_left_comm, ← Nat.pow_add, show j + (63 - j) = 63 from by omega]
    rw [e1, Nat.mul_left_comm, Nat.mul_left_comm H 2]
  rw [e, Nat.mul_add_div (Nat.two_pow_pos j), Nat.mul_add_mod]
theorem ldiv1 {Q c R t P P' R4 : Nat} (h : Q * c + R = P) (hP : P' = 2 * P + t) (h4 : R4 + c = 2 * R + t) : (2 * Q + 1) * c + R4 = P' := by
  rw [Nat.add_mul, Nat.mul_assoc, Nat.one_mul]
  generalize Q * c = X at *
  omega
theorem ldiv0 {Q c R t P P' R4 : Nat} (h : Q * c + R = P) (hP : P' = 2 * P + t) (h4 : R4 = 2 * R + t) : (2 * Q) * c + R4 = P' := by
  rw [Nat.mul_assoc]
  generalize Q * c = X at *
  omega
theorem quo_lt {Q c R P T N : Nat} (h : Q * c + R = P) (hP : P ≤ T) (hT : T < N * c) : Q < N := by
  apply Nat.lt_of_not_le
  intro hn
  have := Nat.mul_le_mul_right c hn
  omega
theorem top_lt' {H L c : Nat} (h : H < c) (hL : L < 18446744073709551616) : H * 18446744073709551616 + L < 18446744073709551616 * c := by
  have : 18446744073709551616 * (H + 1) ≤ 18446744073709551616 * c := Nat.mul_le_mul_left _ h
  rw [Nat.mul_add] at this
  omega
theorem or_bit (R t : Nat) (hR : R < 18446744073709551616) (he : R % 2 = 0) (ht : t < 2) : bits .or .u64 (R : Int) (t : Int) = ((R + t : Nat) : Int) := by
  rw [u64_or_nat _ _ hR (by omega)]
  obtain ⟨k, rfl⟩ : ∃ k, R = k * 2 ^ 1 := ⟨R / 2, by omega⟩
  rw [or_addw _ _ 1 (by omega)]

set_option maxHeartbeats 1600000 in
theorem ldiv_walk (a b c H L q0 : Nat) (hc0 : 0 < c) (hc : c < 18446744073709551616) (hH : H < c) (hL : L < 18446744073709551616) (hq0 : q0 = (H * 18446744073709551616 + L) / c)
    (hw : ∀ w : World, Calls Try.prog 31 #[.int .u64 a, .int .u64 b] w fun e w' => e = .returned (.tuple #[.int .u64 H, .int .u64 L]) ∧ w = w') (w : World) :
    Calls Try.prog 12 #[.int .u64 a, .int .u64 b, .int .u64 c] w (PairN w (q0, 0)) := by
  have HW := Lib.hid hw
  have HQ := Lib.hid hq0
  have HT := Lib.hid (top_lt' hH hL)
  have HBL := Lib.hid (fun j hj => bit_low H L j hj)
  obtain ⟨T, hT⟩ : ∃ T, T = H * 18446744073709551616 + L := ⟨_, rfl⟩
  rw [← hT] at HQ HT HBL
  have hT0 : Hid (T / 2 ^ 64 = H) := by show _ = _; rw [hT]; show (H * 18446744073709551616 + L) / 18446744073709551616 = H; omega
  clear hw hq0 hT
  go_enter Try.func12, Try.ntmps12
  go_wp2_with fail
  refine (HW.out _).mono ?_
  rintro e w' ⟨rfl, rfl⟩
  go_wp2
  go_loop [10, 11, 12] (fun h l i => ∃ k R Q : Nat, k ≤ 64 ∧ i = .int .i64 ((k : Int) - 1) ∧ h = .int .u64 R ∧ l = .int .u64 Q ∧ R < c ∧ Q * c + R = T / 2 ^ k) (fun _ _ i => (intOf i + 1).toNat)
  case atStart => exact ⟨64, H, 0, Nat.le_refl _, rfl, rfl, rfl, hH, by rw [hT0.out, Nat.zero_mul, Nat.zero_add]⟩
  case round =>
    obtain ⟨k, R, Q, hk, rfl, rfl, rfl, hR, hv⟩ := hrel
    cases k with
    | zero =>
      have hv' : Q = q0 := by
        rw [Nat.pow_zero, Nat.div_one] at hv
        rw [HQ.out, ← hv, Nat.mul_comm, Nat.mul_add_div hc0, Nat.div_eq_of_lt hR, Nat.add_zero]
      have E1 := Lib.hid hv'
      clear hv hv'
      go_wp2
      go_ret2
      exact ⟨by rw [E1.out]; rfl, 0, rfl⟩
    | succ j =>
      have hj : j < 64 := by omega
      have hs := half_step T j
      rw [HBL.out j hj] at hs
      have hbit := bit_cast L j hL
      have hmod : L / 2 ^ j % 2 < 2 := Nat.mod_lt _ (by omega)
      have hPl : T / 2 ^ j ≤ T := Nat.div_le_self _ _
      generalize L / 2 ^ j % 2 = t at *
      generalize hPd : T / 2 ^ j = P' at *
      have HPD := Lib.hid hPd
      clear hPd
      have hbt : bits BinOp.and IntKind.u64 ((L : Int) / 2 ^ j) 1 = (t : Int) := hbit
      have HP := Lib.hid (Nat.lt_of_le_of_lt hPl HT.out)
      clear hbit hPl
      have ht9 : (t : Int) < 2 := by omega
      by_cases hb : (9223372036854775808 : Int) ≤ (R : Int)
      · obtain ⟨R2, hR2⟩ : ∃ R2, R2 + 18446744073709551616 = 2 * R := ⟨2 * R - 18446744073709551616, by omega⟩
        obtain ⟨R3, hR3⟩ : ∃ R3, R3 = R2 + t := ⟨_, rfl⟩
        obtain ⟨R4, hR4⟩ : ∃ R4, R4 + c = 2 * R + t := ⟨2 * R + t - c, by omega⟩
        have etop : (R : Int) / 9223372036854775808 = 1 := by omega
        have e2 : IntKind.u64.wrap ((R : Int) * 2) = (R2 : Int) := by rw [IntKind.wrap_u64]; omega
        have e3 : bits .or .u64 (R2 : Int) (t : Int) = (R3 : Int) := by rw [or_bit R2 t (by omega) (by omega) hmod, hR3]
        have e4 : IntKind.u64.wrap ((R3 : Int) - (c : Int)) = (R4 : Int) := by rw [IntKind.wrap_u64]; omega
        have hn : (2 * Q + 1) * c + R4 = P' := ldiv1 hv hs hR4
        have hQ := quo_lt hn (Nat.le_refl _) (by have := HP.out; exact this)
        have hR4c : R4 < c := by omega
        have HN := Lib.hid hn
        clear hn hs hv hR2 hR3 hR4 hmod
        go_wp2
        go_round
        case rel => exact ⟨j, R4, 2 * Q + 1, by omega, by go_num, rfl, by go_num, hR4c, by rw [HPD.out]; exact HN.out⟩
        case measure => simp [intOf]
      · obtain ⟨R3, hR3⟩ : ∃ R3, R3 = 2 * R + t := ⟨_, rfl⟩
        have etop : ((R : Int) / 9223372036854775808 == 1) = false := by simp; omega
        have e2 : IntKind.u64.wrap ((R : Int) * 2) = ((2 * R : Nat) : Int) := by rw [IntKind.wrap_u64]; omega
        have e3 : bits .or .u64 ((2 * R : Nat) : Int) (t : Int) = (R3 : Int) := by rw [or_bit (2 * R) t (by omega) (by omega) hmod, hR3]
        obtain ⟨R2, hR2⟩ : ∃ R2, R2 = 2 * R := ⟨_, rfl⟩
        rw [← hR2] at e2 e3
        by_cases hge : (c : Int) ≤ (R3 : Int)
        · obtain ⟨R4, hR4⟩ : ∃ R4, R4 + c = 2 * R + t := ⟨2 * R + t - c, by omega⟩
          have e4 : IntKind.u64.wrap ((R3 : Int) - (c : Int)) = (R4 : Int) := by rw [IntKind.wrap_u64]; omega
          have e4' : (R3 : Int) - (c : Int) = (R4 : Int) := by omega
          have hn : (2 * Q + 1) * c + R4 = P' := ldiv1 hv hs hR4
          have hQ := quo_lt hn (Nat.le_refl _) (by have := HP.out; exact this)
          have hR4c : R4 < c := by omega
          have hR3N : R3 < 18446744073709551616 := by omega
          have HN := Lib.hid hn
          clear hn hs hv hR2 hR3 hR4 hmod
          go_wp2
          go_round
          case rel => exact ⟨j, R4, 2 * Q + 1, by omega, by go_num, rfl, by go_num, hR4c, by rw [HPD.out]; exact HN.out⟩
          case measure => simp [intOf]
        · have hn : (2 * Q) * c + R3 = P' := ldiv0 hv hs hR3
          have hQ := quo_lt hn (Nat.le_refl _) (by have := HP.out; exact this)
          have hR4c : R3 < c := by omega
          have HN := Lib.hid hn
          clear hn hs hv hR2 hR3 hmod
          go_wp2
          go_round
          case rel => exact ⟨j, R3, 2 * Q, by omega, by go_num, rfl, by go_num, hR4c, by rw [HPD.out]; exact HN.out⟩
          case measure => simp [intOf]

set_option maxHeartbeats 800000 in
theorem rmuldiv_any (a b c : Nat) (ha : a < 18446744073709551616) (hb : b < 18446744073709551616) (hc : c < 18446744073709551616) (w : World) :
    Calls Try.prog 12 #[.int .u64 a, .int .u64 b, .int .u64 c] w (PairN w (mulDivS a b c)) := by
  by_cases h0 : c = 0
  · subst h0
    go_enter Try.func12, Try.ntmps12
    go_wp2
    go_ret2
    exact ⟨rfl, 0, rfl⟩
  · obtain ⟨H, hH⟩ : ∃ H, H = a * b / 18446744073709551616 := ⟨_, rfl⟩
    obtain ⟨L, hL⟩ : ∃ H, H = a * b % 18446744073709551616 := ⟨_, rfl⟩
    have M := wide_any a b ha hb
    rw [← hH, ← hL] at M
    have hLl : L < 18446744073709551616 := by rw [hL]; exact Nat.mod_lt _ (by omega)
    have hHl : H < 18446744073709551616 := by rw [hH]; exact Nat.div_lt_of_lt_mul (by have := wide_lt a b 0 ha hb; rw [Nat.pow_zero, Nat.div_one] at this; exact this)
    have hHL : H * 18446744073709551616 + L = a * b := by rw [hH, hL]; exact Nat.div_add_mod' _ _
    by_cases hle : c ≤ H
    · have hs : mulDivS a b c = (0, 2) := by unfold mulDivS; rw [if_neg h0, if_pos (by rw [← hH]; exact hle)]
      have HS := Lib.hid hs
      have HM := Lib.hid M
      clear hs hH hL hHL M
      go_enter Try.func12, Try.ntmps12
      go_wp2_with fail
      refine (HM.out _).mono ?_
      rintro e w1 ⟨rfl, rfl⟩
      go_wp2
      go_ret2
      exact ⟨by rw [HS.out]; rfl, 0, rfl⟩
    · have hs : mulDivS a b c = (a * b / c, 0) := by unfold mulDivS; rw [if_neg h0, if_neg (by rw [← hH]; exact hle)]
      rw [hs]
      exact ldiv_walk a b c H L _ (by omega) hc (Nat.lt_of_not_le hle) hLl (by rw [hHL]) M w
end Go.Proofs.Ytckkaalejfmonaa
