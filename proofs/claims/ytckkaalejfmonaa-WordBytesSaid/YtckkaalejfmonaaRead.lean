/- Contracts of Read, both. -/
import Derived.Test.YtckkaalejfmonaaBytes
namespace Go.Proofs.Ytckkaalejfmonaa
open Go.RowKit Go.Shelf

def val : Bs → Nat
  | [] => 0
  | x :: r => x.toNat + 256 * val r
theorem val_snoc (a : Bs) (x : UInt8) : val (a ++ [x]) = val a + x.toNat * 2 ^ (8 * a.length) := by
  induction a with
  | nil => simp [val]
  | cons y r ih =>
    have e : 2 ^ (8 * (r.length + 1)) = 256 * 2 ^ (8 * r.length) := by rw [Nat.mul_add, Nat.pow_add, Nat.mul_comm]
    simp only [List.cons_append, val, ih, List.length_cons, e]
    rw [Nat.mul_add, Nat.add_assoc, Nat.mul_left_comm]
theorem val_lt (a : Bs) : val a < 2 ^ (8 * a.length) := by
  induction a with
  | nil => simp [val]
  | cons y r ih =>
    have e : 2 ^ (8 * (r.length + 1)) = 256 * 2 ^ (8 * r.length) := by rw [Nat.mul_add, Nat.pow_add, Nat.mul_comm]
    have := y.toNat_lt
    simp only [val, List.length_cons, e]
    omega
theorem takeB_succ (l : Bs) (k : Nat) (h : k < l.length) : l.take (k + 1) = l.take k ++ [l.getD k 0] := by
  rw [List.take_succ_eq_append_getElem h]; simp [List.getD, h]
theorem dropB_cons (l : Bs) (k : Nat) (h : k < l.length) : l.drop k = l.getD k 0 :: l.drop (k + 1) := by
  rw [List.drop_eq_getElem_cons h]; simp [List.getD, h]
theorem BV.at8 {w : World} {c : Nat} {A : Option Addr} {b : Bs} {n : Nat} (h : BV w 0 (.slice A n c) b) (hb : b.length = 8) : ∃ bb off, A = some ⟨bb, off, none⟩ ∧ ∀ j, j < 8 → w.cell? ⟨bb, off + j, none⟩ = some (.int .u8 ((b.getD j 0).toNat : Int)) := by
  obtain ⟨A', c', e, _, _, h3⟩ := h
  injection e with e1 _ _
  subst e1
  obtain ⟨bb, off, rfl, _, hc⟩ := h3 (by intro e; have := congrArg List.length e; simp at this; rw [this] at hb; simp at hb)
  refine ⟨bb, off, rfl, fun j hj => hc j _ ?_⟩
  have hj' : j < b.length := by omega
  simp [bv, List.getD, hj']
def readS (b : Bs) : Nat × Int := if b.length = 8 then (val b, 0) else (0, 4)

set_option maxHeartbeats 1600000 in
theorem read_any (v : Value) (b : Bs) (w : World) (h : BV w 0 v b) :
    Calls Try.prog 23 #[v] w fun e w' => e = .returned (.tuple #[.int .u64 ((readS b).1 : Int), .int .i64 (readS b).2]) ∧ w = w' := by
  obtain ⟨A, c, rfl, h1, h2, h3⟩ := id h
  rw [List.length_map] at h1 h ⊢
  by_cases hb : b.length = 8
  · have HS : Hid (readS b = (val b, 0)) := by show _ = _; unfold readS; rw [if_pos hb]
    obtain ⟨bb, off, rfl, hc⟩ := h.at8 hb
    have HC := Lib.hid hc
    rw [HS.out]
    have HT : Hid (b.take 8 = b) := by show _ = _; rw [← hb]; exact List.take_length
    have HB := Lib.hid hb
    rw [hb]
    clear h h1 h2 h3 hc hb
    go_enter Try.func23, Try.ntmps23
    go_wp2
    go_loop [4, 12] (fun x i => ∃ k V : Nat, k ≤ 8 ∧ i = .int .i64 k ∧ x = .int .u64 (V : Int) ∧ V = val (b.take k)) (fun _ i => 8 - (intOf i).toNat)
    case atStart => exact ⟨0, 0, by omega, rfl, rfl, by simp [val]⟩
    case round =>
      obtain ⟨k, V, hk, rfl, rfl, hV⟩ := hrel
      by_cases hlt : k < 8
      · have hcell := HC.out k hlt
        have hlt2 : (b.getD k 0).toNat < 256 := (b.getD k 0).toNat_lt
        have hVl : V < 2 ^ (8 * k) := by have := val_lt (b.take k); rw [List.length_take, HB.out, Nat.min_eq_left (by omega)] at this; omega
        have hsn := val_snoc (b.take k) (b.getD k 0)
        rw [← takeB_succ b k (by rw [HB.out]; exact hlt), List.length_take, HB.out, Nat.min_eq_left (by omega), ← hV] at hsn
        generalize (b.getD k 0).toNat = cc at *
        have hp : 2 ^ (8 * k) ≤ 72057594037927936 := by
          have h9 : 2 ^ (8 * k) ≤ 2 ^ 56 := Nat.pow_le_pow_right (by omega) (by omega)
          exact Nat.le_trans h9 (by decide)
        obtain ⟨C, hC⟩ : ∃ C, C = cc * 2 ^ (8 * k) := ⟨_, rfl⟩
        have hCl : C ≤ 255 * 72057594037927936 := by rw [hC]; exact Nat.mul_le_mul (by omega) hp
        have eC : IntKind.u64.wrap ((cc : Int) * 2 ^ (8 * k)) = (C : Int) := by rw [mul_pow_cast, ← hC]; exact wrap_id _ (by omega) (by omega)
        have eO : bits .or .u64 (V : Int) (C : Int) = ((C + V : Nat) : Int) := by
          rw [u64_or_nat _ _ (by omega) (by omega), Nat.or_comm, hC, or_addw _ _ (8 * k) hVl]
        have HN : Hid (C + V = val (b.take (k + 1))) := by show _ = _; rw [hsn, hC, Nat.add_comm]
        obtain ⟨V', hV'⟩ : ∃ V', V' = C + V := ⟨_, rfl⟩
        rw [← hV'] at eO HN
        have hV'l : V' < 18446744073709551616 := by omega
        clear hV hsn hVl hC hV'
        go_wp2
        go_round
        case rel => exact ⟨k + 1, V', by omega, by go_num, rfl, HN.out⟩
        case measure => simp [intOf]; omega
      · obtain rfl : k = 8 := by omega
        have hVv : V = val b := by rw [hV, HT.out]
        have HVv := Lib.hid hVv
        clear hV hVv
        go_wp2
        go_ret2
        exact ⟨by rw [← HVv.out]; rfl, rfl⟩
  · have HS : Hid (readS b = (0, 4)) := by show _ = _; unfold readS; rw [if_neg hb]
    rw [HS.out]
    have h8 : ((b.length : Int) != 8) = true := by simp; omega
    clear h h1 h2 h3
    generalize b.length = n at *
    go_enter Try.func23, Try.ntmps23
    go_wp2
    go_ret2
    exact ⟨rfl, rfl⟩

set_option maxHeartbeats 1600000 in
theorem rread_any (v : Value) (b : Bs) (w : World) (h : BV w 0 v b) :
    Calls Try.prog 24 #[v] w fun e w' => e = .returned (.tuple #[.int .u64 ((readS b).1 : Int), .int .i64 (readS b).2]) ∧ w = w' := by
  obtain ⟨A, c, rfl, h1, h2, h3⟩ := id h
  rw [List.length_map] at h1 h ⊢
  by_cases hb : b.length = 8
  · have HS : Hid (readS b = (val b, 0)) := by show _ = _; unfold readS; rw [if_pos hb]
    obtain ⟨bb, off, rfl, hc⟩ := h.at8 hb
    have HC := Lib.hid hc
    rw [HS.out]
    have HB := Lib.hid hb
    rw [hb]
    clear h h1 h2 h3 hc hb
    go_enter Try.func24, Try.ntmps24
    go_wp2
    go_loop [4, 5] (fun x i => ∃ k V : Nat, k ≤ 8 ∧ i = .int .i64 ((k : Int) - 1) ∧ x = .int .u64 (V : Int) ∧ V = val (b.drop k)) (fun _ i => (intOf i + 1).toNat)
    case atStart => exact ⟨8, 0, by omega, rfl, rfl, by rw [List.drop_eq_nil_of_le (by rw [HB.out]; omega)]; rfl⟩
    case round =>
      obtain ⟨k, V, hk, rfl, rfl, hV⟩ := hrel
      cases k with
      | zero =>
        have hVv : V = val b := by rw [hV, List.drop_zero]
        have HVv := Lib.hid hVv
        clear hV hVv
        go_wp2
        go_ret2
        exact ⟨by rw [← HVv.out]; rfl, rfl⟩
      | succ j =>
        have hj : j < 8 := by omega
        have hcell := HC.out j hj
        have hlt2 : (b.getD j 0).toNat < 256 := (b.getD j 0).toNat_lt
        have hVl : V < 72057594037927936 := by
          have h8 := val_lt (b.drop (j + 1))
          rw [List.length_drop, HB.out, ← hV] at h8
          have h9 : 2 ^ (8 * (8 - (j + 1))) ≤ 2 ^ 56 := Nat.pow_le_pow_right (by omega) (by omega)
          exact Nat.lt_of_lt_of_le h8 (Nat.le_trans h9 (by decide))
        have hsn : val (b.drop j) = (b.getD j 0).toNat + 256 * V := by rw [dropB_cons b j (by rw [HB.out]; exact hj), val, ← hV]
        generalize (b.getD j 0).toNat = cc at *
        have eC : IntKind.u64.wrap ((V : Int) * 256) = ((V * 2 ^ 8 : Nat) : Int) := by rw [wrap_id _ (by omega) (by omega)]; omega
        have eO : bits .or .u64 ((V * 2 ^ 8 : Nat) : Int) (cc : Int) = ((V * 2 ^ 8 + cc : Nat) : Int) := by
          rw [u64_or_nat _ _ (by omega) (by omega), or_addw _ _ 8 (by omega)]
        obtain ⟨V1, hV1⟩ : ∃ V', V' = V * 2 ^ 8 := ⟨_, rfl⟩
        rw [← hV1] at eC eO
        obtain ⟨V', hV'⟩ : ∃ V', V' = V1 + cc := ⟨_, rfl⟩
        rw [← hV'] at eO
        have eC2 : (V : Int) * 256 = (V1 : Int) := by omega
        have HN : Hid (V' = val (b.drop j)) := by show _ = _; rw [hsn]; omega
        have hV1l : V1 < 18446744073709551616 := by omega
        clear hV hsn hVl hV1 hV'
        go_wp2
        go_round
        case rel => exact ⟨j, V', by omega, by go_num, rfl, HN.out⟩
        case measure => simp [intOf]
  · have HS : Hid (readS b = (0, 4)) := by show _ = _; unfold readS; rw [if_neg hb]
    rw [HS.out]
    have h8 : ((b.length : Int) != 8) = true := by simp; omega
    clear h h1 h2 h3
    generalize b.length = n at *
    go_enter Try.func24, Try.ntmps24
    go_wp2
    go_ret2
    exact ⟨rfl, rfl⟩
end Go.Proofs.Ytckkaalejfmonaa
