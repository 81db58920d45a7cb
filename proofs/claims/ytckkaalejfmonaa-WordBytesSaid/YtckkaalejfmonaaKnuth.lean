/- Plain law: the long division by halves (two digits of 32 bits). -/
import Derived.Test.YtckkaalejfmonaaOne
namespace Go.Proofs.Ytckkaalejfmonaa.knuth

theorem qy (q y1 y0 : Nat) : q * (y1 * 4294967296 + y0) = q * y1 * 4294967296 + q * y0 := by rw [Nat.mul_add, Nat.mul_assoc]
/-- The guess is the digit, once the test says so. -/
theorem exitA {q r u v y1 y0 : Nat} (h1 : q * y1 + r = u) (h2 : q * y0 ≤ 4294967296 * r + v) (h3 : (u * 4294967296 + v) / (y1 * 4294967296 + y0) ≤ q) (hy : 0 < y1) :
    q = (u * 4294967296 + v) / (y1 * 4294967296 + y0) := by
  apply Nat.le_antisymm _ h3
  rw [Nat.le_div_iff_mul_le (by omega), qy]
  generalize q * y1 = X at *
  generalize q * y0 = Z at *
  omega
theorem over {q r u v y1 y0 : Nat} (h1 : q * y1 + r = u) (h2 : 4294967296 ≤ q ∨ 4294967296 * r + v < q * y0) (hu : u < y1 * 4294967296 + y0) (hv : v < 4294967296) (hy : 0 < y1) :
    (u * 4294967296 + v) / (y1 * 4294967296 + y0) < q := by
  rw [Nat.div_lt_iff_lt_mul (by omega)]
  rcases h2 with h2 | h2
  · have h4 : 4294967296 * (y1 * 4294967296 + y0) ≤ q * (y1 * 4294967296 + y0) := Nat.mul_le_mul_right _ h2
    generalize q * (y1 * 4294967296 + y0) = Z at *
    omega
  · rw [qy]
    generalize q * y1 = X at *
    generalize q * y0 = Z at *
    omega
theorem dec {q r u y1 : Nat} (h1 : (q + 1) * y1 + r = u) : q * y1 + (r + y1) = u := by
  rw [Nat.succ_mul] at h1
  generalize q * y1 = X at *
  omega
theorem exitB {q r u v y1 y0 : Nat} (h1 : q * y1 + r = u) (hr : 4294967296 ≤ r) (hu : u < y1 * 4294967296 + y0) (h0 : y0 < 4294967296) (h3 : (u * 4294967296 + v) / (y1 * 4294967296 + y0) ≤ q) (hy : 0 < y1) :
    q = (u * 4294967296 + v) / (y1 * 4294967296 + y0) := by
  have hq : q < 4294967296 := by
    apply Nat.lt_of_not_le
    intro hq
    have h4 : 4294967296 * y1 ≤ q * y1 := Nat.mul_le_mul_right _ hq
    generalize q * y1 = X at *
    omega
  refine exitA h1 ?_ h3 hy
  have h5 : q * y0 ≤ 4294967296 * 4294967296 := Nat.mul_le_mul (by omega) (by omega)
  generalize q * y0 = Z at *
  omega
theorem start {u v y1 y0 : Nat} (hv : v < 4294967296) (hy : 0 < y1) : (u * 4294967296 + v) / (y1 * 4294967296 + y0) ≤ u / y1 := by
  apply Nat.le_of_lt_succ
  rw [Nat.div_lt_iff_lt_mul (by omega)]
  have h := Nat.lt_mul_div_succ u hy
  have e : (u / y1).succ * (y1 * 4294967296 + y0) = y1 * (u / y1 + 1) * 4294967296 + (u / y1).succ * y0 := by
    rw [Nat.mul_add, ← Nat.mul_assoc, Nat.mul_comm (u / y1).succ y1]
  rw [e]
  generalize y1 * (u / y1 + 1) = X at *
  generalize (u / y1).succ * y0 = Z at *
  omega
theorem digit_lt {u v Y : Nat} (hu : u < Y) (hv : v < 4294967296) : (u * 4294967296 + v) / Y < 4294967296 := by
  rw [Nat.div_lt_iff_lt_mul (by omega)]
  omega
theorem rest_aux {A A' C C' R QY U v : Nat} (h : QY + R = U + v) (e1 : A' + A = QY) (e2 : C' + C = U) : (C : Int) + v - A = R + ((A' : Int) - C') := by omega
/-- The product's low word is what the rest lacks. -/
theorem rest_wrap {u v Y q N : Nat} (hq : q = (u * 4294967296 + v) / Y) : ((u * 4294967296 % N : Nat) : Int) + v - ((q * Y % N : Nat) : Int) = (((u * 4294967296 + v) % Y : Nat) : Int) + N * (((q * Y / N : Nat) : Int) - ((u * 4294967296 / N : Nat) : Int)) := by
  have h := Nat.div_add_mod (u * 4294967296 + v) Y
  rw [← hq, Nat.mul_comm] at h
  have e1 := Nat.div_add_mod (q * Y) N
  have e2 := Nat.div_add_mod (u * 4294967296) N
  have e3 : (N : Int) * (((q * Y / N : Nat) : Int) - ((u * 4294967296 / N : Nat) : Int)) = ((N * (q * Y / N) : Nat) : Int) - ((N * (u * 4294967296 / N) : Nat) : Int) := by rw [Int.mul_sub, Int.natCast_mul, Int.natCast_mul]
  rw [e3]
  exact rest_aux h e1 e2
theorem both_aux {X Z R u D v0 v1 : Nat} (e1 : X + D = u * 4294967296 + v1) (e0 : Z + R = D * 4294967296 + v0) : u * 18446744073709551616 + v1 * 4294967296 + v0 = R + (X * 4294967296 + Z) := by omega
/-- Both digits are the quotient. -/
theorem both {u v0 v1 y Y p h l D q1 q0 : Nat} (hp : 0 < p) (hY : Y = y * p) (hu : u * 18446744073709551616 + v1 * 4294967296 + v0 = (h * 18446744073709551616 + l) * p)
    (h1 : q1 = (u * 4294967296 + v1) / Y) (hD : D = (u * 4294967296 + v1) % Y) (h0 : q0 = (D * 4294967296 + v0) / Y) (hYp : 0 < Y) :
    q1 * 4294967296 + q0 = (h * 18446744073709551616 + l) / y := by
  have e1 := Nat.div_add_mod (u * 4294967296 + v1) Y
  rw [← h1, ← hD] at e1
  have e0 := Nat.div_add_mod (D * 4294967296 + v0) Y
  rw [← h0] at e0
  have hm := Nat.mod_lt (D * 4294967296 + v0) hYp
  have e : (h * 18446744073709551616 + l) / y = (u * 18446744073709551616 + v1 * 4294967296 + v0) / Y := by
    rw [hu, hY, Nat.mul_div_mul_right _ _ hp]
  rw [e]
  symm
  have hs := both_aux e1 e0
  rw [Nat.mul_assoc, ← Nat.mul_add] at hs
  rw [hs, Nat.add_mul_div_left _ _ hYp, Nat.div_eq_of_lt hm, Nat.zero_add]
end Go.Proofs.Ytckkaalejfmonaa.knuth
