/- The plain laws of layer 3, continued: lists of elements of any size, and of one size. -/
import Derived.Test.YtamfceklddbldaaPlain
namespace Go.Proofs.Ytamfceklddbldaa

def zeros (k : Nat) : List Nat := List.replicate k 0
theorem zeros_succ (k : Nat) : zeros (k + 1) = 0 :: zeros k := rfl
theorem headLen_zeros (k : Nat) : headLen (zeros k) = 4 * k := by
  induction k with
  | zero => rfl
  | succ k ih => rw [zeros_succ, headLen, ih]; simp [hd]; omega
theorem fits_zeros (ps : List Bs) : fits ps (zeros ps.length) = true := by
  induction ps with
  | nil => rfl
  | cons p ps ih => rw [List.length_cons, zeros_succ]; simp [fits, ih]
theorem behind_zeros (ps : List Bs) : behind ps (zeros ps.length) = ps.flatten := by
  induction ps with
  | nil => rfl
  | cons p ps ih => rw [List.length_cons, zeros_succ]; simp [behind, ih]

/-- P3.4. -/
def many (b : Bs) (most : Int) : List Bs × Nat :=
  if most < 0 then ([], 1)
  else if b = [] then ([], 0)
  else if b.length < 4 then ([], 4)
  else if off4 b = 0 ∨ off4 b % 4 ≠ 0 ∨ b.length < off4 b then ([], 5)
  else if most < ((off4 b / 4 : Nat) : Int) then ([], 6)
  else if rises b.length (off4 b) (offs (zeros (off4 b / 4)) b) = false then ([], 5)
  else (cutParts b (zeros (off4 b / 4)), 0)
def layMany (ps : List Bs) : Bs := laid ps (zeros ps.length)

theorem layMany_len (ps : List Bs) : (layMany ps).length = 4 * ps.length + ps.flatten.length := by
  simp [layMany, laid, front_len ps _ _ (fits_zeros ps), headLen_zeros, behind_zeros]
theorem many_lay (ps : List Bs) (most : Int) (h : (layMany ps).length < 4294967296) :
    many (layMany ps) most = if most < 0 then ([], 1) else if most < (ps.length : Int) then ([], 6) else (ps, 0) := by
  have hl := layMany_len ps
  cases ps with
  | nil =>
    have e : layMany [] = [] := rfl
    unfold many
    rw [e]
    by_cases hm : most < 0
    · simp [hm]
    · simp [hm]
  | cons p r =>
    have hk : (p :: r).length = r.length + 1 := rfl
    have hf := fits_zeros (p :: r)
    obtain ⟨hc, ho⟩ := cutOk_laid (p :: r) _ hf h
    have hp := cutParts_laid (p :: r) _ hf h
    have h4 : off4 (layMany (p :: r)) = 4 * (p :: r).length := by
      have hfr : layMany (p :: r) = four (headLen (zeros (p :: r).length)) ++ (front r (zeros r.length) (headLen (zeros (p :: r).length) + p.length) ++ behind (p :: r) (zeros (p :: r).length)) := by
        unfold layMany laid
        simp only [List.length_cons, zeros_succ, front, if_true, List.append_assoc]
      rw [hfr, off4_four _ (by rw [headLen_zeros]; omega), headLen_zeros]
    have hne : layMany (p :: r) ≠ [] := by intro e; rw [e] at hl; simp at hl; omega
    have hk4 : 4 * (p :: r).length / 4 = (p :: r).length := by omega
    unfold many
    by_cases hm : most < 0
    · rw [if_pos hm, if_pos hm]
    rw [if_neg hm, if_neg hm, if_neg hne, if_neg (by omega), if_neg (by rw [h4]; omega), h4, hk4]
    by_cases hmm : most < ((p :: r).length : Int)
    · rw [if_pos hmm, if_pos hmm]
    rw [if_neg hmm, if_neg hmm, if_neg, show cutParts (layMany (p :: r)) (zeros (p :: r).length) = p :: r from hp]
    have hr := places_le (p :: r) (zeros (p :: r).length) (headLen (zeros (p :: r).length)) (layMany (p :: r)).length (by rw [hl, headLen_zeros, behind_zeros]; omega)
    rw [headLen_zeros] at hr
    have ho' : offs (zeros (p :: r).length) (layMany (p :: r)) = places (p :: r) (zeros (p :: r).length) (4 * (p :: r).length) := by rw [← headLen_zeros]; exact ho
    rw [ho', hr]
    simp
theorem fill_len (W : Bs) (ss : List Nat) (b : Bs) (os : List Nat) : (fill W ss b os).length = ss.length := by
  induction ss generalizing b os with
  | nil => simp [fill]
  | cons s ss ih => by_cases hs : s = 0 <;> simp [fill, hs, ih]
theorem offs_zeros_cons (k : Nat) (b : Bs) : offs (zeros (k + 1)) b = off4 b :: offs (zeros k) (b.drop 4) := by
  rw [zeros_succ]; simp [offs]
theorem lay_many {b : Bs} {most : Int} {l : List Bs} (h : many b most = (l, 0)) : layMany l = b ∧ l.length * 4 ≤ b.length := by
  unfold many at h
  split at h
  · simp at h
  split at h
  · rename_i hb
    obtain rfl : [] = l := by simpa using h
    subst hb
    exact ⟨rfl, by simp⟩
  split at h
  · simp at h
  split at h
  · simp at h
  rename_i h5
  split at h
  · simp at h
  split at h
  · simp at h
  rename_i h6
  obtain rfl : cutParts b (zeros (off4 b / 4)) = l := by simpa using h
  obtain ⟨k, hk⟩ : ∃ k, off4 b = 4 * (k + 1) := ⟨off4 b / 4 - 1, by omega⟩
  have hk4 : off4 b / 4 = k + 1 := by omega
  rw [hk4] at h6 ⊢
  have hlen : (cutParts b (zeros (k + 1))).length = k + 1 := by unfold cutParts; rw [fill_len]; simp [zeros]
  have hb : headLen (zeros (k + 1)) ≤ b.length := by rw [headLen_zeros]; omega
  simp only [Bool.not_eq_false] at h6
  have := front_fill b (zeros (k + 1)) b (off4 b) hb h6 (.inr ⟨_, offs_zeros_cons k b⟩)
  refine ⟨?_, by rw [hlen]; omega⟩
  unfold layMany laid
  rw [hlen]
  unfold cutParts
  rw [headLen_zeros, ← hk, this.1, this.2.1 (by rw [offs_zeros_cons]; simp), headLen_zeros, hk, List.take_append_drop]

/-- P3.3: pieces of n bytes. -/
def pieces (n : Nat) (k : Nat) (b : Bs) : List Bs := (List.range k).map fun i => (b.drop (i * n)).take n
def each (b : Bs) (size most : Int) : List Bs × Nat :=
  if size < 1 ∨ most < 0 then ([], 1)
  else if b.length % size.toNat ≠ 0 then ([], 4)
  else if most < ((b.length / size.toNat : Nat) : Int) then ([], 6)
  else (pieces size.toNat (b.length / size.toNat) b, 0)
end Go.Proofs.Ytamfceklddbldaa
