/- Plain law of floats: sums of whole numbers up to 2^53 are exact. -/
import Derived.Test.YtckkaalejfmonaaParts2
import Derived.Laws.ComplexArith
namespace Go.Proofs.Ytckkaalejfmonaa.flo
open Ieee

theorem read_exact2 (neg : Bool) (t : Nat) (h : t ≤ 9007199254740992) : ∃ m e, double.read (double.nearest neg t 0) = .number neg m e ∧ -1074 ≤ e ∧ (e ≤ 0 ∨ t = 9007199254740992) ∧ m * 2 ^ (e + 1074).toNat = t * U := by
  rcases Nat.eq_zero_or_pos t with rfl | ht
  · have e : double.nearest neg 0 0 = double.word neg 0 := by unfold Format.nearest; rw [if_pos rfl]
    rw [e]
    refine ⟨0, -1074, ?_, by omega, .inl (by omega), by rw [Nat.zero_mul, Nat.zero_mul]⟩
    cases neg <;> decide
  · obtain ⟨hL, kept, hk, hk1, hk2⟩ := kept_ex t ht h
    have hf := nearest_form neg t 0 kept ht hL hk hk2
    rw [Nat.pow_zero, Nat.mul_one] at hf
    rw [show (-((0 : Nat) : Int)) = 0 from rfl] at hf
    rw [hf, read_word neg _ kept hL hk1 hk2]
    refine ⟨kept, _, rfl, by omega, ?_, ?_⟩
    · rcases Nat.lt_or_ge t.log2 53 with h3 | h3
      · exact .inl (by omega)
      · right
        have h1 := Nat.log2_self_le (show t ≠ 0 by omega)
        have h2 : 2 ^ 53 ≤ 2 ^ t.log2 := Nat.pow_le_pow_right (by omega) h3
        exact Nat.le_antisymm h (Nat.le_trans h2 h1)
    · rw [show ((t.log2 : Int) - 52 + 1074).toNat = t.log2 + 1022 from by omega, Nat.pow_add, ← Nat.mul_assoc, hk, Nat.mul_assoc, U_eq 52 1022 (by rw [K0_eq])]
/-- A number's nearest word hangs on its value alone. -/
theorem nearest_value (neg : Bool) (M t : Nat) (base : Int) (h0 : base ≤ 0) (h1 : -1074 ≤ base) (ht : t ≤ 9007199254740992) (h : M * 2 ^ (base + 1074).toNat = t * U) : double.nearest neg M base = double.nearest neg t 0 := by
  obtain ⟨k, rfl⟩ : ∃ k : Nat, base = -(k : Int) := ⟨(-base).toNat, by omega⟩
  have e2 : (-(k : Int) + 1074).toNat = 1074 - k := by omega
  rw [e2, ← U_eq k (1074 - k) (by rw [K0_eq]; omega), ← Nat.mul_assoc] at h
  have hM : M = t * 2 ^ k := Nat.eq_of_mul_eq_mul_right (Nat.two_pow_pos (1074 - k)) h
  rw [hM]
  rcases Nat.eq_zero_or_pos t with rfl | hp
  · rw [Nat.zero_mul]
    unfold Format.nearest
    rw [if_pos rfl, if_pos rfl]
  · obtain ⟨hL, kept, hk, _, hk2⟩ := kept_ex t hp ht
    rw [nearest_form neg t k kept hp hL hk hk2]
    have hf := nearest_form neg t 0 kept hp hL hk hk2
    rw [Nat.pow_zero, Nat.mul_one] at hf
    exact hf.symm
theorem add_exact (a c : Nat) (h : a + c ≤ 9007199254740992) : double.add (double.nearest false a 0) (double.nearest false c 0) = some (double.nearest false (a + c) 0) := by
  obtain ⟨m, i, e1, h1, h2, h3⟩ := read_exact2 false a (by omega)
  obtain ⟨n, j, e2, h4, h5, h6⟩ := read_exact2 false c (by omega)
  have hU := U_pos
  have hb0 : min i j ≤ 0 := by
    rcases h2 with h2 | h2
    · omega
    · rcases h5 with h5 | h5
      · omega
      · omega
  have hs : (Datum.number false m i).sum (.number false n j) = some (.number false (m * 2 ^ (i - min i j).toNat + n * 2 ^ (j - min i j).toNat) (min i j)) := by
    have hz : ∀ x y : Nat, ((x : Int) + (y : Int)) = ((x + y : Nat) : Int) := fun x y => by omega
    unfold Datum.sum
    simp only [signed_eq, sgn, Bool.false_eq_true, if_false, hz, Int.natAbs_natCast]
    congr 2
    split
    · rfl
    · exact decide_eq_false (by omega)
  unfold Format.add
  rw [e1, e2, hs]
  show some (double.nearest false _ _) = _
  rw [nearest_value false _ (a + c) (min i j) hb0 (by omega) h]
  rw [Nat.add_mul, Nat.add_mul, ← h3, ← h6, Nat.mul_assoc, Nat.mul_assoc, ← Nat.pow_add, ← Nat.pow_add]
  rw [show (i - min i j).toNat + (min i j + 1074).toNat = (i + 1074).toNat from by omega, show (j - min i j).toNat + (min i j + 1074).toNat = (j + 1074).toNat from by omega]
theorem mid_of {a : Nat} {s : Bool} {V : Nat} (ha : Is a s V) (hpos : sgn s V = (V : Int)) (hbig : V ≤ 9007199254740992 * U) : double.order a a = some .eq := by rw [order_is ha ha, cmp_eq]
/-- A whole number up to 2^53 is a part. -/
theorem pg_nat (a : Nat) (h : a ≤ 9007199254740992) : PG (double.nearest false a 0) a := by
  have hI := is_nearest false a h
  have hU := U_pos
  have h1 : double.order (double.nearest false a 0) (double.nearest false a 0) = some .eq := by rw [order_is hI hI, cmp_eq]
  obtain ⟨m, i, e, hw⟩ := whole_part hI
  rw [Nat.mul_div_cancel _ hU] at hw
  obtain ⟨m', i', e', h2, h3⟩ := hI
  rw [e] at e'
  injection e' with _ e2 e3
  subst e2 e3
  have hI := is_nearest false a h
  refine ⟨h1, h, ⟨false, m, i, e, ?_, ?_, h1⟩, h1, ?_, ?_⟩
  · show Datum.number false (Toward.zero.cut false (m <<< i.toNat) (-i).toNat) 0 = _
    rw [hw]
  · rw [signed_eq, Nat.pow_zero, Nat.mul_one]; rfl
  · rw [order_is hI is_zero]
    show some (compare ((a * U : Nat) : Int) 0) = _ ∨ some (compare ((a * U : Nat) : Int) 0) = _
    rcases Nat.eq_zero_or_pos (a * U) with hv | hv
    · right; rw [hv]; rfl
    · left; rw [cmp_gt (by omega)]
  · have h9 := order_is hI is_most
    rw [h9]
    show some (compare ((a * U : Nat) : Int) ((9007199254740992 * U : Nat) : Int)) = _ ∨ some (compare ((a * U : Nat) : Int) ((9007199254740992 * U : Nat) : Int)) = _
    have hle : a * U ≤ 9007199254740992 * U := Nat.mul_le_mul_right _ h
    rcases Nat.lt_or_ge (a * U) (9007199254740992 * U) with hv | hv
    · left; rw [cmp_lt (by omega)]
    · right
      have : a * U = 9007199254740992 * U := by omega
      rw [this, cmp_eq]
theorem f_nat (a : Nat) : floatOfInt .f64 (a : Int) = double.nearest false a 0 := by
  show double.write (.number (decide ((a : Int) < 0)) (a : Int).natAbs 0) = _
  rw [decide_eq_false (by omega), Int.natAbs_natCast]
  rfl
end Go.Proofs.Ytckkaalejfmonaa.flo
