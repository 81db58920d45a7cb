/- Plain law of floats: how a float stands to nought, to 2^53 and to its whole part. -/
import Derived.Test.YtckkaalejfmonaaFlo
namespace Go.Proofs.Ytckkaalejfmonaa.flo
open Ieee

def sgn (s : Bool) (x : Nat) : Int := if s then -(x : Int) else (x : Int)
theorem cmp_lt {x y : Int} (h : x < y) : compare x y = .lt := by show compareOfLessAndEq x y = _; unfold compareOfLessAndEq; rw [if_pos h]
theorem cmp_eq (x : Int) : compare x x = .eq := by show compareOfLessAndEq x x = _; unfold compareOfLessAndEq; rw [if_neg (by omega), if_pos rfl]
theorem cmp_gt {x y : Int} (h : y < x) : compare x y = .gt := by show compareOfLessAndEq x y = _; unfold compareOfLessAndEq; rw [if_neg (by omega), if_neg (by omega)]
theorem cmp_scale (x y c : Int) (hc : 0 < c) : compare (x * c) (y * c) = compare x y := by
  rcases Int.lt_trichotomy x y with h | rfl | h
  · rw [cmp_lt h, cmp_lt (Int.mul_lt_mul_of_pos_right h hc)]
  · rw [cmp_eq, cmp_eq]
  · rw [cmp_gt h, cmp_gt (Int.mul_lt_mul_of_pos_right h hc)]
theorem signed_eq (s : Bool) (m u : Nat) : signed s m u = sgn s (m * 2 ^ u) := by
  unfold signed sgn; rw [Nat.shiftLeft_eq]
theorem sgn_scale (s : Bool) (x c : Nat) : sgn s (x * c) = sgn s x * (c : Int) := by
  unfold sgn; cases s <;> simp [Int.natCast_mul, Int.neg_mul]
theorem order_num (s t : Bool) (m n : Nat) (i j : Int) (hi : -1074 ≤ i) (hj : -1074 ≤ j) :
    (Datum.number s m i).order (.number t n j) = some (compare (sgn s (m * 2 ^ (i + 1074).toNat)) (sgn t (n * 2 ^ (j + 1074).toNat))) := by
  have key : ∀ b : Int, -1074 ≤ b → b ≤ i → b ≤ j → compare (sgn s (m * 2 ^ (i - b).toNat)) (sgn t (n * 2 ^ (j - b).toNat)) = compare (sgn s (m * 2 ^ (i + 1074).toNat)) (sgn t (n * 2 ^ (j + 1074).toNat)) := by
    intro b h1 h2 h3
    have e1 : (i + 1074).toNat = (i - b).toNat + (b + 1074).toNat := by omega
    have e2 : (j + 1074).toNat = (j - b).toNat + (b + 1074).toNat := by omega
    rw [e1, e2, Nat.pow_add, Nat.pow_add, ← Nat.mul_assoc, ← Nat.mul_assoc, sgn_scale s (m * 2 ^ (i - b).toNat) (2 ^ (b + 1074).toNat), sgn_scale t (n * 2 ^ (j - b).toNat) (2 ^ (b + 1074).toNat)]
    exact (cmp_scale _ _ _ (Int.ofNat_lt.2 (Nat.two_pow_pos (b + 1074).toNat))).symm
  show some (compare (signed s m (i - min i j).toNat) (signed t n (j - min i j).toNat)) = _
  rw [signed_eq, signed_eq, key _ (by omega) (by omega) (by omega)]
theorem read_place {a : Nat} {s : Bool} {m : Nat} {i : Int} (h : double.read a = .number s m i) : -1074 ≤ i := by
  unfold Format.read at h
  simp only [leastPlace_double] at h
  split at h
  · injection h with _ _ h; omega
  · split at h
    · injection h with _ _ h; omega
    · split at h <;> cases h
/-- In units. -/
def Is (a : Nat) (s : Bool) (V : Nat) : Prop := ∃ m i, double.read a = .number s m i ∧ -1074 ≤ i ∧ V = m * 2 ^ (i + 1074).toNat
theorem order_is {a b : Nat} {s t : Bool} {V X : Nat} (ha : Is a s V) (hb : Is b t X) : double.order a b = some (compare (sgn s V) (sgn t X)) := by
  obtain ⟨m, i, e1, h1, rfl⟩ := ha
  obtain ⟨n, j, e2, h2, rfl⟩ := hb
  unfold Format.order
  rw [e1, e2, order_num _ _ _ _ _ _ h1 h2]
theorem is_nearest (neg : Bool) (t : Nat) (h : t ≤ 9007199254740992) : Is (double.nearest neg t 0) neg (t * U) := by
  obtain ⟨m, e, h1, h2, h3⟩ := read_exact neg t h
  exact ⟨m, e, h1, h2, h3.symm⟩
theorem is_zero : Is 0 false 0 := ⟨0, -1074, by decide, by omega, by rw [Nat.zero_mul]⟩
theorem is_most : Is 4845873199050653696 false (9007199254740992 * U) := by
  have h := is_nearest false 9007199254740992 (by omega)
  have e : double.nearest false 9007199254740992 0 = 4845873199050653696 := by decide +kernel
  rwa [e] at h
/-- The whole part, in the model's words. -/
theorem whole_part {a : Nat} {s : Bool} {V : Nat} (ha : Is a s V) : ∃ m i, double.read a = .number s m i ∧ Toward.zero.cut s (m <<< i.toNat) (-i).toNat = V / U := by
  obtain ⟨m, i, e, h1, rfl⟩ := ha
  refine ⟨m, i, e, ?_⟩
  rw [cut_zero, Nat.shiftLeft_eq]
  have hU := U_pos
  rcases Int.le_total 0 i with h | h
  · obtain ⟨k, rfl⟩ := Int.eq_ofNat_of_zero_le h
    have e1 : (-(k : Int)).toNat = 0 := by omega
    have e2 : ((k : Int) + 1074).toNat = k + K0 := by rw [K0_eq]; omega
    rw [e1, e2, Nat.pow_zero, Nat.div_one, Int.toNat_natCast]
    have e3 : m * 2 ^ (k + K0) = m * 2 ^ k * U := by rw [Nat.pow_add, U_one, Nat.mul_assoc]
    rw [e3, Nat.mul_div_cancel _ hU]
  · obtain ⟨k, hk⟩ : ∃ k : Nat, i = -(k : Int) := ⟨(-i).toNat, by omega⟩
    subst hk
    have e1 : (-(-(k : Int))).toNat = k := by omega
    have e2 : (-(k : Int) + 1074).toNat = 1074 - k := by omega
    have e3 : (-(k : Int)).toNat = 0 := by omega
    rw [e1, e2, e3, Nat.pow_zero, Nat.mul_one, ← U_eq k (1074 - k) (by rw [K0_eq]; omega), Nat.mul_comm (2 ^ k), ← Nat.div_div_eq_div_mul, Nat.mul_div_cancel _ (Nat.two_pow_pos _)]
theorem fin_is {a : Nat} {s : Bool} {m : Nat} {i : Int} (h : double.read a = .number s m i) : Is a s (m * 2 ^ (i + 1074).toNat) := ⟨m, i, h, read_place h, rfl⟩
abbrev C0 : Nat := 4845873199050653696
/-- What is known of a float whose value is between 0 and 2^53: its whole part, and whether it is whole. -/
def Mid (a : Nat) (T : Nat) (wh : Bool) : Prop :=
  T ≤ 9007199254740992 ∧ (∃ s m i, double.read a = .number s m i ∧ (Datum.number s m i).integral .zero = .number s T 0 ∧ signed s T 0 = (T : Int) ∧ double.order a (double.nearest s T 0) = some (if wh then .eq else .gt)) ∧
  double.order (double.nearest false T 0) a = some (if wh then .eq else .lt) ∧ (double.order a 0 = some .gt ∨ double.order a 0 = some .eq) ∧ (double.order a C0 = some .lt ∨ double.order a C0 = some .eq)
theorem cls (a : Nat) : (double.order a a = none ∧ double.order a 0 = none) ∨
    (double.order a a = some .eq ∧ double.order a 0 = some .lt) ∨
    (double.order a a = some .eq ∧ double.order a 0 = some .gt ∧ double.order a C0 = some .gt) ∨
    (double.order a a = some .eq ∧ ∃ T wh, Mid a T wh) := by
  cases h : double.read a with
  | nan s t =>
    left
    constructor <;> (unfold Format.order; rw [h]; rfl)
  | infinity s =>
    have hz : double.read 0 = .number false 0 (-1074) := by decide
    have hc : ∃ m i, double.read C0 = .number false m i := ⟨4503599627370496, 1, by decide +kernel⟩
    obtain ⟨m, i, hc⟩ := hc
    have h1 : double.order a a = some .eq := by unfold Format.order; rw [h]; cases s <;> rfl
    cases s
    · right; right; left
      refine ⟨h1, ?_, ?_⟩
      · unfold Format.order; rw [h, hz]; rfl
      · unfold Format.order; rw [h, hc]; rfl
    · right; left
      refine ⟨h1, ?_⟩
      unfold Format.order; rw [h, hz]; rfl
  | number s m i =>
    have ha := fin_is h
    obtain ⟨V, hV⟩ : ∃ V, V = m * 2 ^ (i + 1074).toNat := ⟨_, rfl⟩
    rw [← hV] at ha
    have h1 : double.order a a = some .eq := by rw [order_is ha ha, cmp_eq]
    have h0 := order_is ha is_zero
    have hC := order_is ha is_most
    have hU := U_pos
    have hz : sgn false 0 = 0 := rfl
    have hcs : sgn false (9007199254740992 * U) = ((9007199254740992 * U : Nat) : Int) := rfl
    rw [hz] at h0
    rw [hcs] at hC
    right
    by_cases hneg : sgn s V < 0
    · left
      exact ⟨h1, by rw [h0, cmp_lt hneg]⟩
    · right
      have hpos : sgn s V = (V : Int) := by
        unfold sgn at hneg ⊢
        cases s
        · rfl
        · simp only [if_true] at hneg ⊢; omega
      by_cases hbig : 9007199254740992 * U < V
      · left
        refine ⟨h1, ?_, ?_⟩
        · rw [h0, cmp_gt (by rw [hpos]; omega)]
        · rw [hC, cmp_gt (by rw [hpos]; omega)]
      · right
        refine ⟨h1, V / U, decide (V = V / U * U), ?_⟩
        have hT : V / U ≤ 9007199254740992 := by
          apply Nat.le_of_mul_le_mul_right _ hU
          exact Nat.le_trans (Nat.div_mul_le_self V U) (by omega)
        have hle := Nat.div_mul_le_self V U
        obtain ⟨m', i', e', hw⟩ := whole_part ha
        rw [h] at e'
        injection e' with _ e2 e3
        subst e2 e3
        obtain ⟨T, hTT⟩ : ∃ T, T = V / U := ⟨_, rfl⟩
        rw [← hTT] at hT hle hw ⊢
        have hX := order_is ha (is_nearest s T hT)
        have hY := order_is (is_nearest false T hT) ha
        have hsT : sgn s (T * U) = ((T * U : Nat) : Int) := by
          unfold sgn at hpos ⊢
          cases s
          · rfl
          · simp only [if_true] at hpos ⊢
            have : V = 0 := by omega
            omega
        have hfT : sgn false (T * U) = ((T * U : Nat) : Int) := rfl
        rw [hsT, hpos] at hX
        rw [hfT, hpos] at hY
        refine ⟨hT, ⟨s, m, i, h, ?_, ?_, ?_⟩, ?_, ?_, ?_⟩
        · show Datum.number s (Toward.zero.cut s (m <<< i.toNat) (-i).toNat) 0 = _
          rw [hw]
        · rw [signed_eq, Nat.pow_zero, Nat.mul_one]
          unfold sgn at hpos ⊢
          cases s
          · rfl
          · simp only [if_true] at hpos ⊢
            have h5 : V = 0 := by omega
            have h6 : T = 0 := by rw [hTT, h5, Nat.zero_div]
            rw [h6]; rfl
        · rw [hX]
          by_cases hv : V = T * U
          · rw [decide_eq_true hv, hv, cmp_eq]; rfl
          · rw [decide_eq_false hv, cmp_gt (by omega)]; rfl
        · rw [hY]
          by_cases hv : V = T * U
          · rw [decide_eq_true hv, hv, cmp_eq]; rfl
          · rw [decide_eq_false hv, cmp_lt (by omega)]; rfl
        · rw [h0, hpos]
          rcases Nat.eq_zero_or_pos V with hv | hv
          · right; rw [hv]; rfl
          · left; rw [cmp_gt (by omega)]
        · rw [hC, hpos]
          rcases Nat.lt_or_ge V (9007199254740992 * U) with hv | hv
          · left; rw [cmp_lt (by omega)]
          · right
            have : V = 9007199254740992 * U := by omega
            rw [this, cmp_eq]
end Go.Proofs.Ytckkaalejfmonaa.flo
