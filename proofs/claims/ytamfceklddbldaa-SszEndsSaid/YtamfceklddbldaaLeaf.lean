/- Contracts of the smallest functions of layer 3: Bool, offset. -/
import Derived.Test.YtamfceklddbldaaMem
namespace Go.Proofs.Ytamfceklddbldaa
open Go.RowKit

def boolOf (l : Bs) : Bool × Int := if l.length ≠ 1 then (false, 4) else if 1 < (l.getD 0 0).toNat then (false, 5) else (l.getD 0 0 == 1, 0)

set_option maxHeartbeats 400000 in
theorem bool_any (v : Value) (l : Bs) (w : World) (h : BV w 0 v l) :
    Calls Try.prog 11 #[v] w fun e w' => e = .returned (.tuple #[.bool (boolOf l).1, .int .i64 (boolOf l).2]) ∧ w = w' := by
  by_cases h1 : l.length = 1
  · have hne : l ≠ [] := by intro e; rw [e] at h1; simp at h1
    obtain ⟨b, off, c, rfl, _, h2, h3, h4⟩ := h.at_ hne
    have h5 := h4 0 (by omega)
    clear h4 h
    match l, h1 with
    | [x], _ =>
    simp only [List.length_cons, List.length_nil, Nat.zero_add, List.getD_cons_zero, Nat.add_zero] at h5 ⊢
    have e1 : (boolOf [x]) = if 1 < x.toNat then (false, 5) else (x == 1, 0) := by simp [boolOf]
    rw [e1]
    by_cases hx : 1 < x.toNat
    · rw [if_pos hx]
      go_enter Try.func11, Try.ntmps11
      go_wp2
      go_ret2
      exact ⟨rfl, rfl⟩
    · rw [if_neg hx]
      have e2 : ((x.toNat : Int) == 1) = (x == 1) := by
        rw [Bool.eq_iff_iff]; simp [← UInt8.toNat_inj]; omega
      go_enter Try.func11, Try.ntmps11
      go_wp2
      go_ret2
      exact ⟨by simp, rfl⟩
  · have e1 : boolOf l = (false, 4) := by simp [boolOf, h1]
    obtain ⟨A, c, rfl, h2, h3, _⟩ := h
    rw [e1, List.length_map]
    go_enter Try.func11, Try.ntmps11
    go_wp2
    go_ret2
    exact ⟨rfl, rfl⟩
set_option maxHeartbeats 400000 in
theorem rbool_any (v : Value) (l : Bs) (w : World) (h : BV w 0 v l) :
    Calls Try.prog 12 #[v] w fun e w' => e = .returned (.tuple #[.bool (boolOf l).1, .int .i64 (boolOf l).2]) ∧ w = w' := by
  by_cases h1 : l.length = 1
  · have hne : l ≠ [] := by intro e; rw [e] at h1; simp at h1
    obtain ⟨b, off, c, rfl, _, h2, h3, h4⟩ := h.at_ hne
    have h5 := h4 0 (by omega)
    clear h4 h
    match l, h1 with
    | [x], _ =>
    simp only [List.length_cons, List.length_nil, Nat.zero_add, List.getD_cons_zero, Nat.add_zero] at h5 ⊢
    have e1 : (boolOf [x]) = if 1 < x.toNat then (false, 5) else (x == 1, 0) := by simp [boolOf]
    rw [e1]
    by_cases hx : 1 < x.toNat
    · rw [if_pos hx]
      go_enter Try.func12, Try.ntmps12
      go_wp2
      go_ret2
      exact ⟨rfl, rfl⟩
    · rw [if_neg hx]
      have e2 : ((x.toNat : Int) == 1) = (x == 1) := by
        rw [Bool.eq_iff_iff]; simp [← UInt8.toNat_inj]; omega
      go_enter Try.func12, Try.ntmps12
      go_wp2
      go_ret2
      exact ⟨by simp, rfl⟩
  · have e1 : boolOf l = (false, 4) := by simp [boolOf, h1]
    obtain ⟨A, c, rfl, h2, h3, _⟩ := h
    rw [e1, List.length_map]
    go_enter Try.func12, Try.ntmps12
    go_wp2
    go_ret2
    exact ⟨rfl, rfl⟩

theorem ofInt_i64 (a : Nat) (ha : a < 9223372036854775808) : (BitVec.ofInt 64 (a : Int)).toNat = a := by
  rw [BitVec.ofInt_natCast, BitVec.toNat_ofNat]; exact Nat.mod_eq_of_lt (by omega)
theorem i64_or_nat (a b : Nat) (ha : a < 9223372036854775808) (hb : b < 9223372036854775808) : bits .or .i64 (a : Int) (b : Int) = ((a ||| b : Nat) : Int) := by
  have hx : a ||| b < 2 ^ 63 := Nat.or_lt_two_pow (by omega) (by omega)
  show IntKind.i64.wrap ((BitVec.ofInt 64 (a : Int) ||| BitVec.ofInt 64 (b : Int)).toNat : Int) = _
  rw [BitVec.toNat_or, ofInt_i64 a ha, ofInt_i64 b hb, IntKind.wrap_i64]
  omega
theorem or_add (a b k : Nat) (ha : a < 2 ^ k) : a ||| b * 2 ^ k = a + b * 2 ^ k := by
  rw [Nat.mul_comm, Nat.or_comm, ← Nat.two_pow_add_eq_or_of_lt ha]; omega
theorem or4 (x0 x1 x2 x3 : Nat) (b0 : x0 < 2 ^ 8) (b1 : x1 < 2 ^ 8) (b2 : x2 < 2 ^ 8) (b3 : x3 < 2 ^ 8) :
    bits BinOp.or IntKind.i64 (bits BinOp.or IntKind.i64 (bits BinOp.or IntKind.i64 (x0 : Int) ((x1 : Int) * 256)) ((x2 : Int) * 65536)) ((x3 : Int) * 16777216) = ((x0 + x1 * 256 + x2 * 65536 + x3 * 16777216 : Nat) : Int) := by
  rw [show ((x1 : Int) * 256) = ((x1 * 2 ^ 8 : Nat) : Int) from by omega, show ((x2 : Int) * 65536) = ((x2 * 2 ^ 16 : Nat) : Int) from by omega, show ((x3 : Int) * 16777216) = ((x3 * 2 ^ 24 : Nat) : Int) from by omega]
  rw [i64_or_nat _ _ (by omega) (by omega), or_add _ _ 8 (by omega), i64_or_nat _ _ (by omega) (by omega), or_add _ _ 16 (by omega), i64_or_nat _ _ (by omega) (by omega), or_add _ _ 24 (by omega)]
set_option maxHeartbeats 400000 in
theorem offset_any (v : Value) (l : Bs) (w : World) (h : BV w 0 v l) (h4 : 4 ≤ l.length) :
    Calls Try.prog 27 #[v] w fun e w' => e = .returned (.int .i64 (off4 l)) ∧ ∃ n, w' = w.drewN n := by
  have hne : l ≠ [] := by intro e; rw [e] at h4; simp at h4
  obtain ⟨b, off, c, rfl, _, h2, h3, h5⟩ := h.at_ hne
  have c0 := h5 0 (by omega)
  have c1 := h5 1 (by omega)
  have c2 := h5 2 (by omega)
  have c3 := h5 3 (by omega)
  have b0 := (l.getD 0 0).toNat_lt
  have b1 := (l.getD 1 0).toNat_lt
  have b2 := (l.getD 2 0).toNat_lt
  have b3 := (l.getD 3 0).toNat_lt
  have ho : off4 l = (l.getD 0 0).toNat + (l.getD 1 0).toNat * 256 + (l.getD 2 0).toNat * 65536 + (l.getD 3 0).toNat * 16777216 := rfl
  rw [ho]
  clear ho
  generalize (l.getD 0 0).toNat = x0 at *
  generalize (l.getD 1 0).toNat = x1 at *
  generalize (l.getD 2 0).toNat = x2 at *
  generalize (l.getD 3 0).toNat = x3 at *
  clear h5 h hne
  have i0 : (0 : Int) < (l.length : Int) := by omega
  have i1 : (1 : Int) < (l.length : Int) := by omega
  have i2 : (2 : Int) < (l.length : Int) := by omega
  have i3 : (3 : Int) < (l.length : Int) := by omega
  rw [Nat.add_zero] at c0
  go_enter Try.func27, Try.ntmps27
  go_wp2_with fail
  go_quiet (fail)
  go_wp2
  go_ret
  exact ⟨ret_int (or4 x0 x1 x2 x3 b0 b1 b2 b3), nq, rfl⟩
set_option maxHeartbeats 400000 in
theorem roffset_any (v : Value) (l : Bs) (w : World) (h : BV w 0 v l) (h4 : 4 ≤ l.length) :
    Calls Try.prog 33 #[v] w fun e w' => e = .returned (.int .i64 (off4 l)) ∧ ∃ n, w' = w.drewN n := by
  have hne : l ≠ [] := by intro e; rw [e] at h4; simp at h4
  obtain ⟨b, off, c, rfl, _, h2, h3, h5⟩ := h.at_ hne
  have c0 := h5 0 (by omega)
  have c1 := h5 1 (by omega)
  have c2 := h5 2 (by omega)
  have c3 := h5 3 (by omega)
  have b0 := (l.getD 0 0).toNat_lt
  have b1 := (l.getD 1 0).toNat_lt
  have b2 := (l.getD 2 0).toNat_lt
  have b3 := (l.getD 3 0).toNat_lt
  have ho : off4 l = (l.getD 0 0).toNat + (l.getD 1 0).toNat * 256 + (l.getD 2 0).toNat * 65536 + (l.getD 3 0).toNat * 16777216 := rfl
  rw [ho]
  clear ho
  generalize (l.getD 0 0).toNat = x0 at *
  generalize (l.getD 1 0).toNat = x1 at *
  generalize (l.getD 2 0).toNat = x2 at *
  generalize (l.getD 3 0).toNat = x3 at *
  clear h5 h hne
  have i0 : (0 : Int) < (l.length : Int) := by omega
  have i1 : (1 : Int) < (l.length : Int) := by omega
  have i2 : (2 : Int) < (l.length : Int) := by omega
  have i3 : (3 : Int) < (l.length : Int) := by omega
  rw [Nat.add_zero] at c0
  go_enter Try.func33, Try.ntmps33
  go_wp2_with fail
  go_quiet (fail)
  go_wp2
  go_ret
  exact ⟨ret_int (or4 x0 x1 x2 x3 b0 b1 b2 b3), nq, rfl⟩
end Go.Proofs.Ytamfceklddbldaa
