/- Contracts: head, sizesOK, Head. -/
import Derived.Test.YtamfceklddbldaaLoops
namespace Go.Proofs.Ytamfceklddbldaa
open Go.RowKit

def okS (s : Int) : Bool := decide (0 ≤ s) && decide (s ≤ 65536)
theorem sizesOk_all (z : List Int) : sizesOk z = (decide (1 ≤ z.length) && decide (z.length ≤ 64) && z.all okS) := rfl
theorem headLen_append (a b : List Nat) : headLen (a ++ b) = headLen a + headLen b := by
  induction a with
  | nil => simp [headLen]
  | cons s r ih => simp [headLen, ih, Nat.add_assoc]
theorem take_snocZ (l : List Int) (k : Nat) (h : k < l.length) : l.take (k + 1) = l.take k ++ [l.getD k 0] := by
  rw [List.take_succ_eq_append_getElem h]; simp [List.getD, h]
theorem headLen_take (z : List Int) (k : Nat) (h : k < z.length) : headLen (nats (z.take (k + 1))) = headLen (nats (z.take k)) + hd (z.getD k 0).toNat := by
  rw [take_snocZ z k h, nats, List.map_append, headLen_append]; simp [nats, headLen]
theorem all_take (z : List Int) (k : Nat) (h : k < z.length) : (z.take (k + 1)).all okS = ((z.take k).all okS && okS (z.getD k 0)) := by
  rw [take_snocZ z k h, List.all_append]; simp
theorem headLen_le (z : List Int) (h : z.all okS = true) : headLen (nats z) ≤ 65536 * z.length := by
  induction z with
  | nil => simp [nats, headLen]
  | cons s r ih =>
    simp only [List.all_cons, Bool.and_eq_true] at h
    have h1 := ih h.2
    have h2 : s.toNat ≤ 65536 := by have := h.1; simp [okS] at this; omega
    simp only [nats, List.map_cons, headLen, List.length_cons] at *
    have : hd s.toNat ≤ 65536 := by unfold hd; split <;> omega
    omega
theorem all_bad (z : List Int) (k : Nat) (h : k < z.length) (hb : okS (z.getD k 0) = false) : z.all okS = false := by
  rw [← List.take_append_drop k z, List.all_append, drop_getD z k h]; simp only [List.all_cons, hb, Bool.false_and, Bool.and_false]

def headOf (z : List Int) : Int × Bool := if sizesOk z then ((headLen (nats z) : Int), true) else (0, false)

set_option maxHeartbeats 800000 in
theorem head_any (v : Value) (z : List Int) (w : World) (h : IV w 0 v z) :
    Calls Try.prog 30 #[v] w fun x w' => x = .returned (.tuple #[.int .i64 (headOf z).1, .bool (headOf z).2]) ∧ w = w' := by
  obtain ⟨A, c, rfl, h1, h2, h3⟩ := h
  rw [List.length_map] at h1 ⊢
  unfold maxLen at h2
  have H := Lib.hid h3
  clear h3
  by_cases hs : z.length < 1
  · have e : Hid (headOf z = (0, false)) := by
      show _ = _
      unfold headOf; rw [sizesOk_all]; simp; omega
    go_enter Try.func30, Try.ntmps30
    go_wp2
    go_ret2
    exact ⟨by rw [e.out]; rfl, rfl⟩
  by_cases hs2 : 64 < z.length
  · have e : Hid (headOf z = (0, false)) := by
      show _ = _
      unfold headOf; rw [sizesOk_all]; simp; omega
    go_enter Try.func30, Try.ntmps30
    go_wp2
    go_ret2
    exact ⟨by rw [e.out]; rfl, rfl⟩
  have E : Hid (headOf z = if z.all okS then ((headLen (nats z) : Int), true) else (0, false)) := by
    show _ = _
    unfold headOf; rw [sizesOk_all]
    rw [show decide (1 ≤ z.length) = true from by simp; omega, show decide (z.length ≤ 64) = true from by simp; omega]
    simp
  go_enter Try.func30, Try.ntmps30
  go_wp2
  go_loop [4, 17] (fun n i => ∃ k : Nat, k ≤ z.length ∧ i = .int .i64 k ∧ (z.take k).all okS = true ∧ n = .int .i64 (headLen (nats (z.take k)))) (fun _ i => z.length - (intOf i).toNat)
  case atStart => exact ⟨0, Nat.zero_le _, rfl, rfl, rfl⟩
  case round =>
    obtain ⟨k, hk, rfl, ha, rfl⟩ := hrel
    have hn := headLen_le _ ha
    have HA := Lib.hid ha
    clear ha
    rw [List.length_take] at hn
    have hn : headLen (nats (z.take k)) ≤ 4194304 := by omega
    by_cases hlt : k < z.length
    · obtain ⟨b, off, rfl, _, hc⟩ := H.out (by intro e; simp at e; simp [e] at hlt)
      replace hc := hc k (.int .i64 (z.getD k 0)) (by simp [iv, List.getD, hlt])
      have HB := Lib.hid (all_bad z k hlt)
      have HT := Lib.hid (all_take z k hlt)
      have HL := Lib.hid (headLen_take z k hlt)
      generalize z.getD k 0 = s at *
      generalize headLen (nats (z.take k)) = n at *
      by_cases t1 : s < 0
      · have hb : Hid (z.all okS = false) := HB.out (by simp [okS]; omega)
        go_wp2
        go_ret2
        exact ⟨by rw [E.out, hb.out]; rfl, rfl⟩
      by_cases t2 : 65536 < s
      · have hb : Hid (z.all okS = false) := HB.out (by simp [okS]; omega)
        go_wp2
        go_ret2
        exact ⟨by rw [E.out, hb.out]; rfl, rfl⟩
      have HG : Hid (okS s = true) := by show _ = _; simp [okS]; omega
      by_cases t3 : s = 0
      · subst t3
        go_wp2
        go_round
        case rel => exact ⟨k + 1, by omega, by go_num, by rw [HT.out, HA.out, HG.out]; rfl, by rw [HL.out]; simp [hd]⟩
        case measure => simp [intOf]; omega
      · have t4 : (s == 0) = false := by simp [t3]
        go_wp2
        go_round
        case rel => exact ⟨k + 1, by omega, by go_num, by rw [HT.out, HA.out, HG.out]; rfl, by rw [HL.out, hd, if_neg (by omega)]; congr 1; omega⟩
        case measure => simp [intOf]; omega
    · obtain rfl : k = z.length := by omega
      rw [List.take_length] at HA hn ⊢
      go_wp2
      go_ret2
      exact ⟨by rw [E.out, HA.out]; rfl, rfl⟩
set_option maxHeartbeats 800000 in
theorem sizesOK_any (v : Value) (z : List Int) (w : World) (h : IV w 0 v z) :
    Calls Try.prog 31 #[v] w fun x w' => x = .returned (.bool (sizesOk z)) ∧ w = w' := by
  obtain ⟨A, c, rfl, h1, h2, h3⟩ := h
  rw [List.length_map] at h1 ⊢
  unfold maxLen at h2
  have H := Lib.hid h3
  clear h3
  by_cases hs : z.length < 1
  · have e : Hid (sizesOk z = false) := by
      show _ = _
      rw [sizesOk_all]; simp; omega
    go_enter Try.func31, Try.ntmps31
    go_wp2
    go_ret
    exact ⟨by rw [e.out]; rfl, rfl⟩
  by_cases hs2 : 64 < z.length
  · have e : Hid (sizesOk z = false) := by
      show _ = _
      rw [sizesOk_all]; simp; omega
    go_enter Try.func31, Try.ntmps31
    go_wp2
    go_ret
    exact ⟨by rw [e.out]; rfl, rfl⟩
  have E : Hid (sizesOk z = z.all okS) := by
    show _ = _
    rw [sizesOk_all]
    rw [show decide (1 ≤ z.length) = true from by simp; omega, show decide (z.length ≤ 64) = true from by simp; omega]
    simp
  go_enter Try.func31, Try.ntmps31
  go_wp2
  go_loop [3] (fun i => ∃ k : Nat, k ≤ z.length ∧ i = .int .i64 k ∧ (z.take k).all okS = true) (fun i => z.length - (intOf i).toNat)
  case atStart => exact ⟨0, Nat.zero_le _, rfl, rfl⟩
  case round =>
    obtain ⟨k, hk, rfl, ha⟩ := hrel
    have HA := Lib.hid ha
    clear ha
    by_cases hlt : k < z.length
    · obtain ⟨b, off, rfl, _, hc⟩ := H.out (by intro e; simp at e; simp [e] at hlt)
      replace hc := hc k (.int .i64 (z.getD k 0)) (by simp [iv, List.getD, hlt])
      have HB := Lib.hid (all_bad z k hlt)
      have HT := Lib.hid (all_take z k hlt)
      generalize z.getD k 0 = s at *
      by_cases t1 : s < 0
      · have hb : Hid (z.all okS = false) := HB.out (by simp [okS]; omega)
        go_wp2
        go_ret
        exact ⟨by rw [E.out, hb.out]; rfl, rfl⟩
      by_cases t2 : 65536 < s
      · have hb : Hid (z.all okS = false) := HB.out (by simp [okS]; omega)
        go_wp2
        go_ret
        exact ⟨by rw [E.out, hb.out]; rfl, rfl⟩
      have HG : Hid (okS s = true) := by show _ = _; simp [okS]; omega
      go_wp2
      go_round
      case rel => exact ⟨k + 1, by omega, by go_num, by rw [HT.out, HA.out, HG.out]; rfl⟩
      case measure => simp [intOf]; omega
    · obtain rfl : k = z.length := by omega
      rw [List.take_length] at HA
      go_wp2
      go_ret
      exact ⟨by rw [E.out, HA.out]; rfl, rfl⟩
set_option maxHeartbeats 800000 in
theorem Head_any (v : Value) (z : List Int) (w : World) (h : IV w 0 v z) (ho : sizesOk z = true) :
    Calls Try.prog 32 #[v] w fun x w' => x = .returned (.int .i64 (headLen (nats z))) ∧ w = w' := by
  obtain ⟨A, c, rfl, h1, h2, h3⟩ := h
  rw [List.length_map] at h1 ⊢
  unfold maxLen at h2
  have H := Lib.hid h3
  clear h3
  rw [sizesOk_all] at ho
  simp only [Bool.and_eq_true, decide_eq_true_eq] at ho
  obtain ⟨⟨g1, g2⟩, g3⟩ := ho
  have G := Lib.hid g3
  clear g3
  go_enter Try.func32, Try.ntmps32
  go_wp2
  go_loop [3, 4] (fun n i => ∃ k : Nat, k ≤ z.length ∧ i = .int .i64 k ∧ n = .int .i64 (headLen (nats (z.take k)))) (fun _ i => z.length - (intOf i).toNat)
  case atStart => exact ⟨0, Nat.zero_le _, rfl, rfl⟩
  case round =>
    obtain ⟨k, hk, rfl, rfl⟩ := hrel
    have hn := headLen_le (z.take k) (by have := G.out; rw [List.all_eq_true] at this ⊢; exact fun x hx => this x (List.mem_of_mem_take hx))
    rw [List.length_take] at hn
    have hn : headLen (nats (z.take k)) ≤ 4194304 := by omega
    by_cases hlt : k < z.length
    · obtain ⟨b, off, rfl, _, hc⟩ := H.out (by intro e; simp at e; simp [e] at hlt)
      replace hc := hc k (.int .i64 (z.getD k 0)) (by simp [iv, List.getD, hlt])
      have hg : okS (z.getD k 0) = true := by
        cases hb : okS (z.getD k 0) with
        | true => rfl
        | false => have := all_bad z k hlt hb; rw [G.out] at this; cases this
      have HL := Lib.hid (headLen_take z k hlt)
      generalize z.getD k 0 = s at *
      generalize headLen (nats (z.take k)) = n at *
      have t1 : 0 ≤ s := by simp [okS] at hg; omega
      have t2 : s ≤ 65536 := by simp [okS] at hg; omega
      clear hg
      by_cases t3 : s = 0
      · subst t3
        go_wp2
        go_round
        case rel => exact ⟨k + 1, by omega, by go_num, by rw [HL.out]; simp [hd]⟩
        case measure => simp [intOf]; omega
      · have t4 : (s == 0) = false := by simp [t3]
        go_wp2
        go_round
        case rel => exact ⟨k + 1, by omega, by go_num, by rw [HL.out, hd, if_neg (by omega)]; congr 1; omega⟩
        case measure => simp [intOf]; omega
    · obtain rfl : k = z.length := by omega
      rw [List.take_length]
      go_wp2
      go_ret
      exact ⟨rfl, rfl⟩
end Go.Proofs.Ytamfceklddbldaa
