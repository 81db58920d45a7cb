/- Contracts of the loops of layer 3 that only read: rise, rises, head, sizesOK, Head, Same. -/
import Derived.Test.YtamfceklddbldaaLeaf
namespace Go.Proofs.Ytamfceklddbldaa
open Go.RowKit

theorem drew2 (w : World) (a b : Nat) : (w.drewN a).drewN b = w.drewN (a + b) := World.drewN_drewN w a b
def risesZ (e : Int) : Int → List Int → Bool
  | _, [] => true
  | f, n :: r => decide (f ≤ n) && decide (n ≤ e) && risesZ e n r
theorem risesZ_nat (e f : Nat) (l : List Nat) : risesZ e f (l.map (fun n : Nat => (n : Int))) = rises e f l := by
  induction l generalizing f with
  | nil => rfl
  | cons n r ih => simp [risesZ, rises, ih]
theorem drop_getD (l : List Int) (k : Nat) (h : k < l.length) : l.drop k = l.getD k 0 :: l.drop (k + 1) := by
  rw [List.drop_eq_getElem_cons h]; simp [List.getD, h]

set_option maxHeartbeats 400000 in
theorem rise_any (v : Value) (l : List Int) (f e : Int) (w : World) (h : IV w 0 v l) :
    Calls Try.prog 28 #[v, .int .i64 f, .int .i64 e] w fun x w' => x = .returned (.bool (risesZ e f l)) ∧ w = w' := by
  obtain ⟨A, c, rfl, h1, h2, h3⟩ := h
  rw [List.length_map] at h1 ⊢
  unfold maxLen at h2
  have H := Lib.hid h3
  clear h3
  go_enter Try.func28, Try.ntmps28
  go_wp2
  go_loop [1, 11] (fun x i => ∃ (k : Nat) (f' : Int), k ≤ l.length ∧ i = .int .i64 k ∧ x = .int .i64 f' ∧ risesZ e f l = risesZ e f' (l.drop k)) (fun _ i => l.length - (intOf i).toNat)
  case atStart => exact ⟨0, f, Nat.zero_le _, rfl, rfl, rfl⟩
  case round =>
    obtain ⟨k, f', hk, rfl, rfl, hr⟩ := hrel
    have HR := Lib.hid hr
    clear hr
    by_cases hlt : k < l.length
    · obtain ⟨b, off, rfl, _, hc⟩ := H.out (by intro e; simp at e; simp [e] at hlt)
      replace hc := hc k (.int .i64 (l.getD k 0)) (by simp [iv, List.getD, hlt])
      have HD := Lib.hid (drop_getD l k hlt)
      generalize l.getD k 0 = n at *
      by_cases t1 : n < f'
      · go_wp2
        go_ret
        refine ⟨?_, rfl⟩
        rw [HR.out, HD.out, risesZ]
        simp [show ¬ f' ≤ n from by omega]
      by_cases t2 : e < n
      · go_wp2
        go_ret
        refine ⟨?_, rfl⟩
        rw [HR.out, HD.out, risesZ]
        simp [show ¬ n ≤ e from by omega]
      go_wp2
      go_round
      case rel =>
        refine ⟨k + 1, n, by omega, by go_num, rfl, ?_⟩
        rw [HR.out, HD.out, risesZ]
        have : f' ≤ n := by omega
        have : n ≤ e := by omega
        simp [*]
      case measure => simp [intOf]; omega
    · go_wp2
      go_ret
      refine ⟨?_, rfl⟩
      rw [HR.out, List.drop_of_length_le (by omega)]
      rfl

def risesR (e f : Int) (l : List Int) : Bool := (l == [] || l.getD 0 0 == f) && risesZ e f l
/-- The reference's: the first is 'first', none is below the one ahead of it, none above n. -/
theorem rises_any (v : Value) (l : List Int) (f e : Int) (w : World) (h : IV w 0 v l) :
    Calls Try.prog 34 #[v, .int .i64 f, .int .i64 e] w fun x w' => x = .returned (.bool (risesR e f l)) ∧ ∃ n, w' = w.drewN n := by
  obtain ⟨A, c, rfl, h1, h2, h3⟩ := h
  rw [List.length_map] at h1 ⊢
  unfold maxLen at h2
  have H := Lib.hid h3
  clear h3
  go_enter Try.func34, Try.ntmps34
  go_wp2
  go_loopw [7] (fun i wr => ∃ (k : Nat), k ≤ l.length ∧ i = .int .i64 k ∧ risesR e f l = (if k = 0 then risesR e f l else risesZ e (l.getD (k - 1) 0) (l.drop k)) ∧ ∃ n, wr = w.drewN n) (fun i _ => l.length - (intOf i).toNat)
  case atStart => exact ⟨0, Nat.zero_le _, rfl, rfl, 0, rfl⟩
  case round =>
    obtain ⟨k, hk, rfl, hr, n, rfl⟩ := hrel
    have HR := Lib.hid hr
    clear hr
    by_cases hlt : k < l.length
    · obtain ⟨b, off, rfl, _, hc⟩ := H.out (by intro e; simp at e; simp [e] at hlt)
      have hck := hc k (.int .i64 (l.getD k 0)) (by simp [iv, List.getD, hlt])
      have HD := Lib.hid (drop_getD l k hlt)
      have hl0 : (0 : Int) < (l.length : Int) := by omega
      have hlk : (k : Int) < (l.length : Int) := by omega
      rcases Nat.eq_zero_or_pos k with hk0 | hk0
      · clear hc HR
        subst hk0
        have HX : Hid (risesR e f l = ((l.getD 0 0 == f) && risesZ e f (l.getD 0 0 :: l.drop 1))) := by
          show _ = _
          have := HD.out
          rw [List.drop_zero] at this
          unfold risesR
          conv => lhs; rw [this]
          simp [List.getD]
        clear HD
        generalize hn0 : l.getD 0 0 = n0 at *
        have HN := Lib.hid hn0
        clear hn0
        simp only [Nat.add_zero] at hck
        by_cases t1 : n0 = f
        · subst t1
          have tt : (n0 == n0) = true := by simp
          have tt' : (n0 != n0) = false := by simp
          by_cases t2 : e < n0
          · go_wp2_with fail
            go_quiet (fail)
            go_wp2
            go_ret
            exact ⟨by rw [HX.out]; simp [risesZ, show ¬ n0 ≤ e from by omega], _, drew2 _ _ _⟩
          · go_wp2_with fail
            go_quiet (fail)
            go_wp2
            go_roundw
            case rel => exact ⟨1, by omega, by go_num, by rw [HX.out]; simp [risesZ, show n0 ≤ e from by omega]; rw [← List.getD_eq_getElem?_getD, HN.out], _, rfl⟩
            case measure => simp [intOf]; omega
        · have tt : (n0 == f) = false := by simp [t1]
          have tt' : (n0 != f) = true := by simp [t1]
          go_wp2_with fail
          go_quiet (fail)
          go_wp2
          go_ret
          exact ⟨by rw [HX.out]; simp [t1], _, drew2 _ _ _⟩
      · obtain ⟨m, rfl⟩ : ∃ m, k = m + 1 := ⟨k - 1, by omega⟩
        have hcl := hc m (.int .i64 (l.getD m 0)) (by simp [iv, List.getD, show m < l.length from by omega])
        clear hc
        simp only [Nat.add_sub_cancel, Nat.add_one_ne_zero, if_false] at HR
        generalize hn0 : l.getD (m + 1) 0 = n0 at *
        have HN := Lib.hid hn0
        clear hn0
        generalize l.getD m 0 = n1 at *
        have hm : (m : Int) < (l.length : Int) := by omega
        have hz : ((m : Int) + 1 == 0) = false := by simp; omega
        have hz' : (0 : Int) < (m : Int) + 1 := by omega
        by_cases t1 : n0 < n1
        · go_wp2_with fail
          go_quiet (fail)
          go_wp2
          go_ret
          exact ⟨by rw [HR.out, HD.out]; simp [risesZ, show ¬ n1 ≤ n0 from by omega], _, drew2 _ _ _⟩
        · have hd1 : decide (n0 < n1) = false := by simp; omega
          by_cases t2 : e < n0
          · go_wp2_with fail
            go_quiet (fail)
            go_wp2
            go_ret
            exact ⟨by rw [HR.out, HD.out]; simp [risesZ, show ¬ n0 ≤ e from by omega], _, drew2 _ _ _⟩
          · go_wp2_with fail
            go_quiet (fail)
            go_wp2
            go_roundw
            case rel => exact ⟨m + 1 + 1, by omega, by go_num, by rw [HR.out, HD.out]; simp [risesZ, show n0 ≤ e from by omega, show n1 ≤ n0 from by omega]; rw [← List.getD_eq_getElem?_getD, HN.out], _, rfl⟩
            case measure => simp [intOf]; omega
    · go_wp2
      go_ret
      refine ⟨?_, _, rfl⟩
      rw [HR.out]
      by_cases hk0 : k = 0
      · subst hk0
        have : l = [] := by cases l; rfl; simp at hlt
        subst this
        simp [risesR, risesZ]
      · simp [hk0, List.drop_of_length_le (show l.length ≤ k by omega), risesZ]
end Go.Proofs.Ytamfceklddbldaa
