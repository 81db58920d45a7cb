/- Plain law of floats: whole numbers up to 2^53 are exact; how a float stands to its whole part. -/
import Derived.Test.YtckkaalejfmonaaWake
import Derived.Laws.FloatArith
namespace Go.Proofs.Ytckkaalejfmonaa.flo
open Ieee

theorem log2_scale (t k : Nat) (ht : 0 < t) : (t * 2 ^ k).log2 = t.log2 + k := by
  have h1 := Nat.log2_self_le (show t ≠ 0 by omega)
  have h2 := @Nat.lt_log2_self t
  have hp : 0 < 2 ^ k := Nat.two_pow_pos k
  have h0 : t * 2 ^ k ≠ 0 := Nat.ne_of_gt (Nat.mul_pos ht hp)
  apply Nat.le_antisymm
  · apply Nat.le_of_lt_succ
    rw [Nat.log2_lt h0, Nat.succ_eq_add_one, Nat.add_right_comm, Nat.pow_add]
    exact Nat.mul_lt_mul_of_pos_right h2 hp
  · rw [Nat.le_log2 h0, Nat.pow_add]
    exact Nat.mul_le_mul_right _ h1
theorem cut_exact (way : Toward) (neg : Bool) (kept D : Nat) (h : D ≤ (kept * 2 ^ D).log2 + 2) : way.cut neg (kept * 2 ^ D) D = kept := by
  have hp : 0 < 2 ^ D := Nat.two_pow_pos D
  have hr : kept * 2 ^ D % 2 ^ D = 0 := Nat.mul_mod_left _ _
  have hl : kept * 2 ^ D / 2 ^ D = kept := Nat.mul_div_cancel _ hp
  have hb : ((2 ^ D == 0) : Bool) = false := by simp
  unfold Toward.cut
  simp only [Nat.min_eq_left h, Nat.shiftLeft_eq, Nat.one_mul, hr, hl]
  cases way <;> simp
theorem cut_zero (neg : Bool) (n D : Nat) : Toward.zero.cut neg n D = n / 2 ^ D := by
  unfold Toward.cut
  simp only [Nat.shiftLeft_eq, Nat.one_mul, Bool.toNat_false, Nat.add_zero]
  rcases Nat.le_total D (n.log2 + 2) with h | h
  · rw [Nat.min_eq_left h]
  · rw [Nat.min_eq_right h]
    have h2 := @Nat.lt_log2_self n
    have h3 : 2 ^ (n.log2 + 1) ≤ 2 ^ (n.log2 + 2) := Nat.pow_le_pow_right (by omega) (by omega)
    have h4 : 2 ^ (n.log2 + 2) ≤ 2 ^ D := Nat.pow_le_pow_right (by omega) h
    rw [Nat.div_eq_of_lt (by omega), Nat.div_eq_of_lt (by omega)]
theorem leastPlace_double : double.leastPlace = -1074 := by decide
theorem nearest_form (neg : Bool) (t k kept : Nat) (ht : 0 < t) (hL : t.log2 ≤ 53) (hk : kept * 2 ^ t.log2 = t * 2 ^ 52) (hkl : kept < 2 ^ 53) :
    double.nearest neg (t * 2 ^ k) (-(k : Int)) = double.word neg ((t.log2 + 1022) * 2 ^ 52 + kept) := by
  have hp : 0 < 2 ^ k := Nat.two_pow_pos k
  have h0 : t * 2 ^ k ≠ 0 := Nat.ne_of_gt (Nat.mul_pos ht hp)
  have hlog := log2_scale t k ht
  generalize hLL : t.log2 = L at *
  have hlast : max (-(k : Int) + ((L + k : Nat) : Int) - ((52 : Nat) : Int)) (-1074) = (L : Int) - 52 := by omega
  have hkept : Toward.even.cut neg ((t * 2 ^ k) <<< (-(k : Int) - ((L : Int) - 52)).toNat) ((L : Int) - 52 - -(k : Int)).toNat = kept := by
    rw [Nat.shiftLeft_eq]
    rcases Nat.le_total (L + k) 52 with h | h
    · have e1 : (-(k : Int) - ((L : Int) - 52)).toNat = 52 - (L + k) := by omega
      have e2 : ((L : Int) - 52 - -(k : Int)).toNat = 0 := by omega
      rw [e1, e2]
      have e3 : t * 2 ^ k * 2 ^ (52 - (L + k)) = kept := by
        apply Nat.eq_of_mul_eq_mul_right (Nat.two_pow_pos L)
        rw [hk, Nat.mul_assoc, Nat.mul_assoc, ← Nat.pow_add, ← Nat.pow_add, show k + (52 - (L + k) + L) = 52 from by omega]
      rw [e3]
      have := cut_exact .even neg kept 0 (by omega)
      rwa [Nat.pow_zero, Nat.mul_one] at this
    · have e1 : (-(k : Int) - ((L : Int) - 52)).toNat = 0 := by omega
      have e2 : ((L : Int) - 52 - -(k : Int)).toNat = L + k - 52 := by omega
      rw [e1, e2, Nat.pow_zero, Nat.mul_one]
      have e3 : t * 2 ^ k = kept * 2 ^ (L + k - 52) := by
        apply Nat.eq_of_mul_eq_mul_right (Nat.two_pow_pos 52)
        rw [Nat.mul_assoc kept, ← Nat.pow_add, show L + k - 52 + 52 = L + k from by omega, Nat.pow_add, ← Nat.mul_assoc, hk, Nat.mul_right_comm]
      have hd : L + k - 52 ≤ (kept * 2 ^ (L + k - 52)).log2 + 2 := by rw [← e3, hlog]; omega
      rw [e3]
      exact cut_exact .even neg kept _ hd
  unfold Format.nearest
  rw [if_neg h0]
  simp only [hlog, leastPlace_double]
  rw [show double.fractionBits = 52 from rfl, hlast, hkept]
  have e4 : ((L : Int) - 52 - -1074).toNat = L + 1022 := by omega
  rw [e4]
  congr 1
  apply Nat.min_eq_left
  show (L + 1022) * 4503599627370496 + kept ≤ 2047 * 4503599627370496
  have : kept < 9007199254740992 := hkl
  omega
theorem kept_ex (t : Nat) (ht : 0 < t) (h : t ≤ 9007199254740992) : t.log2 ≤ 53 ∧ ∃ kept, kept * 2 ^ t.log2 = t * 2 ^ 52 ∧ 2 ^ 52 ≤ kept ∧ kept < 2 ^ 53 := by
  have h1 := Nat.log2_self_le (show t ≠ 0 by omega)
  have h2 := @Nat.lt_log2_self t
  have hL : t.log2 ≤ 53 := by
    apply Nat.le_of_lt_succ
    rw [Nat.log2_lt (by omega)]
    exact Nat.lt_of_le_of_lt h (by decide)
  refine ⟨hL, ?_⟩
  generalize t.log2 = L at *
  have key : ∀ kept, kept * 2 ^ L = t * 2 ^ 52 → 2 ^ 52 ≤ kept ∧ kept < 2 ^ 53 := by
    intro kept hk
    constructor
    · apply Nat.le_of_mul_le_mul_right _ (Nat.two_pow_pos L)
      rw [hk, Nat.mul_comm]
      exact Nat.mul_le_mul_right _ h1
    · apply Nat.lt_of_mul_lt_mul_right (a := 2 ^ L)
      rw [hk]
      have : t * 2 ^ 52 < 2 ^ (L + 1) * 2 ^ 52 := Nat.mul_lt_mul_of_pos_right h2 (Nat.two_pow_pos 52)
      rw [← Nat.pow_add, show L + 1 + 52 = 53 + L from by omega, Nat.pow_add] at this
      exact this
  rcases Nat.lt_or_ge L 53 with hl | hl
  · have e : t * 2 ^ (52 - L) * 2 ^ L = t * 2 ^ 52 := by rw [Nat.mul_assoc, ← Nat.pow_add, show 52 - L + L = 52 from by omega]
    exact ⟨_, e, key _ e⟩
  · obtain rfl : L = 53 := by omega
    have ht2 : t = 2 ^ 53 := Nat.le_antisymm h h1
    have e : 2 ^ 52 * 2 ^ 53 = t * 2 ^ 52 := by rw [ht2, Nat.mul_comm]
    exact ⟨_, e, key _ e⟩
@[irreducible] def K0 : Nat := 1074
theorem K0_eq : K0 = 1074 := by unfold K0; rfl
@[irreducible] def U : Nat := 2 ^ K0
theorem U_eq (a b : Nat) (h : a + b = K0) : 2 ^ a * 2 ^ b = U := by unfold U; rw [← Nat.pow_add, h]
theorem U_one : 2 ^ K0 = U := by unfold U; rfl
theorem U_pos : 0 < U := by unfold U; exact Nat.two_pow_pos _
/-- A number's size in units of 2^-1074. -/
def EXs (neg : Bool) (t : Nat) (d : Datum) : Prop := ∃ m e, d = .number neg m e ∧ -1074 ≤ e ∧ m * 2 ^ (e + 1074).toNat = t * U
theorem read_word (neg : Bool) (L kept : Nat) (hL : L ≤ 53) (h1 : 4503599627370496 ≤ kept) (h2 : kept < 9007199254740992) :
    double.read (double.word neg ((L + 1022) * 4503599627370496 + kept)) = .number neg kept ((L : Int) - 52) := by
  have hsw : double.signWeight = 9223372036854775808 := by decide
  have hbin : double.binade = 4503599627370496 := by decide
  have hinf : double.infRung = 2047 * 4503599627370496 := by decide
  have hr : (L + 1022) * 4503599627370496 + kept < 9223372036854775808 := by omega
  obtain ⟨r, hrr⟩ : ∃ r, r = (L + 1022) * 4503599627370496 + kept := ⟨_, rfl⟩
  rw [← hrr] at hr ⊢
  have e1 : double.word neg r / 9223372036854775808 % 2 = if neg then 1 else 0 := by
    unfold Format.word
    rw [hsw]
    cases neg
    · simp only [Bool.false_eq_true, if_false]; omega
    · simp only [if_true]; omega
  have e2 : double.word neg r % 9223372036854775808 = r := by
    unfold Format.word
    rw [hsw]
    cases neg
    · simp only [Bool.false_eq_true, if_false]; omega
    · simp only [if_true]; omega
  have e3 : r % 4503599627370496 = kept - 4503599627370496 := by omega
  have e4 : r / 4503599627370496 = L + 1023 := by omega
  unfold Format.read
  simp only [hsw, hbin, hinf, e1, e2, e3, e4, leastPlace_double]
  have i1 : ¬ r < 4503599627370496 := by rw [hrr]; omega
  have i2 : r < 2047 * 4503599627370496 := by rw [hrr]; omega
  rw [if_neg i1, if_pos i2]
  have e5 : ((if neg = true then (1 : Nat) else 0) == 1) = neg := by cases neg <;> rfl
  have e6 : 4503599627370496 + (kept - 4503599627370496) = kept := by omega
  have e7 : (-1074 + ((L + 1023 - 1 : Nat) : Int)) = (L : Int) - 52 := by omega
  rw [e5, e6, e7]
theorem read_exact (neg : Bool) (t : Nat) (h : t ≤ 9007199254740992) : EXs neg t (double.read (double.nearest neg t 0)) := by
  rcases Nat.eq_zero_or_pos t with rfl | ht
  · have e : double.nearest neg 0 0 = double.word neg 0 := by unfold Format.nearest; rw [if_pos rfl]
    rw [e]
    refine ⟨0, -1074, ?_, by omega, by rw [Nat.zero_mul, Nat.zero_mul]⟩
    cases neg <;> decide
  · obtain ⟨hL, kept, hk, hk1, hk2⟩ := kept_ex t ht h
    have hf := nearest_form neg t 0 kept ht hL hk hk2
    rw [Nat.pow_zero, Nat.mul_one] at hf
    rw [show (-((0 : Nat) : Int)) = 0 from rfl] at hf
    rw [hf, read_word neg _ kept hL hk1 hk2]
    refine ⟨kept, _, rfl, by omega, ?_⟩
    rw [show ((t.log2 : Int) - 52 + 1074).toNat = t.log2 + 1022 from by omega, Nat.pow_add, ← Nat.mul_assoc, hk, Nat.mul_assoc, U_eq 52 1022 (by rw [K0_eq])]
end Go.Proofs.Ytckkaalejfmonaa.flo
