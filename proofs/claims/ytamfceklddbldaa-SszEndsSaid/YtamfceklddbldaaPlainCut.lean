/- The plain laws of layer 3, continued: where the parts of any size stand among all. -/
import Derived.Test.YtamfceklddbldaaPlainMany
namespace Go.Proofs.Ytamfceklddbldaa

/-- How many are zero. -/
def nz : List Nat → Nat
  | [] => 0
  | s :: r => (if s = 0 then 1 else 0) + nz r
theorem nz_append (a b : List Nat) : nz (a ++ b) = nz a + nz b := by
  induction a with
  | nil => simp [nz]
  | cons s r ih => simp [nz, ih]; omega
theorem offs_len (ss : List Nat) (b : Bs) : (offs ss b).length = nz ss := by
  induction ss generalizing b with
  | nil => rfl
  | cons s r ih => by_cases h : s = 0 <;> simp [offs, nz, h, ih]; omega
theorem headLen_app (a b : List Nat) : headLen (a ++ b) = headLen a + headLen b := by
  induction a with
  | nil => simp [headLen]
  | cons s r ih => simp [headLen, ih, Nat.add_assoc]
theorem offs_append (a c : List Nat) (b : Bs) : offs (a ++ c) b = offs a b ++ offs c (b.drop (headLen a)) := by
  induction a generalizing b with
  | nil => simp [offs, headLen]
  | cons s r ih =>
    by_cases h : s = 0
    · simp [offs, h, ih, headLen, hd, List.drop_drop]
    · simp [offs, h, ih, headLen, hd, List.drop_drop]
theorem takeN_succ (l : List Nat) (k : Nat) (h : k < l.length) : l.take (k + 1) = l.take k ++ [l.getD k 1] := by
  rw [List.take_succ_eq_append_getElem h]; simp [List.getD, h]
theorem headLen_takeN (ss : List Nat) (k : Nat) (h : k < ss.length) : headLen (ss.take (k + 1)) = headLen (ss.take k) + hd (ss.getD k 1) := by
  rw [takeN_succ ss k h, headLen_app]; simp [headLen]
theorem headLen_take_le (ss : List Nat) (k : Nat) : headLen (ss.take k) ≤ headLen ss := by
  conv => rhs; rw [← List.take_append_drop k ss, headLen_app]
  omega
theorem offs_take_zero (ss : List Nat) (b : Bs) (k : Nat) (h : k < ss.length) (h0 : ss.getD k 1 = 0) : offs (ss.take (k + 1)) b = offs (ss.take k) b ++ [off4 (b.drop (headLen (ss.take k)))] := by
  rw [takeN_succ ss k h, offs_append, h0]; simp [offs]
theorem offs_take_pos (ss : List Nat) (b : Bs) (k : Nat) (h : k < ss.length) (h0 : ss.getD k 1 ≠ 0) : offs (ss.take (k + 1)) b = offs (ss.take k) b := by
  rw [takeN_succ ss k h, offs_append]; simp only [offs]; rw [if_neg h0]; simp
/-- The places of the zeros among the first k. -/
def zpos (ss : List Nat) (k : Nat) : List Nat := (List.range k).filter fun i => ss.getD i 1 == 0
theorem zpos_zero (ss : List Nat) (k : Nat) (h0 : ss.getD k 1 = 0) : zpos ss (k + 1) = zpos ss k ++ [k] := by
  unfold zpos; rw [List.range_succ, List.filter_append]; simp only [List.filter_cons, h0]; rfl
theorem zpos_pos (ss : List Nat) (k : Nat) (h0 : ss.getD k 1 ≠ 0) : zpos ss (k + 1) = zpos ss k := by
  unfold zpos; rw [List.range_succ, List.filter_append]
  have : (ss.getD k 1 == 0) = false := by simpa using h0
  simp only [List.filter_cons, this, List.filter_nil]; simp
theorem zpos_len (ss : List Nat) (k : Nat) (h : k ≤ ss.length) : (zpos ss k).length = nz (ss.take k) := by
  induction k with
  | zero => rfl
  | succ k ih =>
    rw [takeN_succ ss k h, nz_append]
    by_cases h0 : ss.getD k 1 = 0
    · rw [zpos_zero ss k h0, List.length_append, ih (by omega), h0]; simp [nz]
    · rw [zpos_pos ss k h0, ih (by omega)]; simp only [nz, if_neg h0]; omega
theorem zpos_get (ss : List Nat) (n j : Nat) (hj : j < (zpos ss n).length) : (zpos ss n).getD j 0 < n ∧ ss.getD ((zpos ss n).getD j 0) 1 = 0 ∧ (zpos ss ((zpos ss n).getD j 0)).length = j := by
  induction n with
  | zero => simp [zpos] at hj
  | succ n ih =>
    by_cases h0 : ss.getD n 1 = 0
    · rw [zpos_zero ss n h0] at hj ⊢
      rcases Nat.lt_or_ge j (zpos ss n).length with h | h
      · have e : (zpos ss n ++ [n]).getD j 0 = (zpos ss n).getD j 0 := by simp [List.getD, List.getElem?_append_left h]
        rw [e]
        obtain ⟨h1, h2, h3⟩ := ih h
        exact ⟨by omega, h2, h3⟩
      · have hje : j = (zpos ss n).length := by simp at hj; omega
        have e : (zpos ss n ++ [n]).getD j 0 = n := by simp [List.getD, hje]
        rw [e]
        exact ⟨by omega, h0, hje.symm⟩
    · rw [zpos_pos ss n h0] at hj ⊢
      obtain ⟨h1, h2, h3⟩ := ih hj
      exact ⟨by omega, h2, h3⟩
theorem zpos_mem (ss : List Nat) (n i : Nat) (hi : i < n) (h0 : ss.getD i 1 = 0) : ∃ j, j < (zpos ss n).length ∧ (zpos ss n).getD j 0 = i := by
  have hm : i ∈ zpos ss n := by unfold zpos; rw [List.mem_filter]; exact ⟨List.mem_range.2 hi, by rw [h0]; rfl⟩
  obtain ⟨j, hj, e⟩ := List.mem_iff_getElem.1 hm
  exact ⟨j, hj, by simp [List.getD, hj, e]⟩
theorem fill_fixed (W : Bs) (ss : List Nat) (b : Bs) (os : List Nat) (i : Nat) (hi : i < ss.length) (h0 : ss.getD i 1 ≠ 0) : (fill W ss b os)[i]? = some ((b.drop (headLen (ss.take i))).take (ss.getD i 1)) := by
  induction ss generalizing b os i with
  | nil => simp at hi
  | cons s r ih =>
    cases i with
    | zero =>
      have : s ≠ 0 := by simpa using h0
      simp [fill, this, headLen]
    | succ i =>
      have hi' : i < r.length := by simpa using hi
      have h0' : r.getD i 1 ≠ 0 := by simpa using h0
      by_cases hs : s = 0
      · simp only [fill, hs, if_true, List.getElem?_cons_succ]
        rw [ih _ _ i hi' h0']
        simp [headLen, hd, List.drop_drop]
      · simp only [fill, hs, if_false, List.getElem?_cons_succ]
        rw [ih _ _ i hi' h0']
        simp [headLen, hd, hs, List.drop_drop]
theorem fill_any (W : Bs) (ss : List Nat) (b : Bs) (os : List Nat) (i : Nat) (hi : i < ss.length) (h0 : ss.getD i 1 = 0) :
    (fill W ss b os)[i]? = some ((W.take (os.getD (nz (ss.take i) + 1) 0)).drop (os.getD (nz (ss.take i)) 0)) := by
  induction ss generalizing b os i with
  | nil => simp at hi
  | cons s r ih =>
    cases i with
    | zero =>
      have : s = 0 := by simpa using h0
      simp [fill, this, nz]
    | succ i =>
      have hi' : i < r.length := by simpa using hi
      have h0' : r.getD i 1 = 0 := by simpa using h0
      by_cases hs : s = 0
      · simp only [fill, hs, if_true, List.getElem?_cons_succ, List.take_succ_cons, nz]
        rw [ih _ _ i hi' h0']
        cases os with
        | nil => simp
        | cons o os => simp [Nat.add_comm 1]
      · simp only [fill, hs, if_false, List.getElem?_cons_succ, List.take_succ_cons, nz]
        rw [ih _ _ i hi' h0', Nat.zero_add]
theorem nats_getD (z : List Int) (k : Nat) (h : k < z.length) : (nats z).getD k 1 = (z.getD k 0).toNat := by
  simp [nats, List.getD, h]
theorem nats_len (z : List Int) : (nats z).length = z.length := by simp [nats]
end Go.Proofs.Ytamfceklddbldaa
