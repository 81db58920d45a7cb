/- The shuffle, plain. -/
import Derived.Test.YtfagmjlgpfnniaaDoorClone
namespace Go.Proofs.YtfagmjlgpfnniaaDoor
open Go.RowKit

def swapL (l : List Nat) (i f : Nat) : List Nat := (l.set i (l.getD f 0)).set f (l.getD i 0)
theorem swapL_length (l : List Nat) (i f : Nat) : (swapL l i f).length = l.length := by simp [swapL]
theorem swapL_perm (l : List Nat) (i f : Nat) (hi : i < l.length) (hf : f < l.length) : (swapL l i f).Perm l := by
  have := List.set_set_perm hi hf
  unfold swapL
  rwa [List.getD_eq_getElem?_getD, List.getD_eq_getElem?_getD, List.getElem?_eq_getElem hi, List.getElem?_eq_getElem hf]
def innerF (pv n : Nat) (B : Nat → Nat) (l : List Nat) : Nat → List Nat
  | 0 => l
  | i + 1 => if i < flipF pv n i ∧ bitF B (flipF pv n i) = 1 then swapL (innerF pv n B l i) i (flipF pv n i) else innerF pv n B l i
theorem flipF_lt {pv n i : Nat} (hpv : pv < n) (hi : i < n) : flipF pv n i < n := by unfold flipF; split <;> omega
theorem innerF_perm {pv n : Nat} {B : Nat → Nat} {l : List Nat} (hpv : pv < n) (hl : l.length = n) : ∀ i, i ≤ n → (innerF pv n B l i).Perm l ∧ (innerF pv n B l i).length = n
  | 0, _ => ⟨List.Perm.refl _, hl⟩
  | i + 1, h => by
    obtain ⟨h1, h2⟩ := innerF_perm (B := B) hpv hl i (by omega)
    have hf := flipF_lt hpv (show i < n by omega)
    rw [innerF]
    split
    · exact ⟨(swapL_perm _ _ _ (by omega) (by omega)).trans h1, by rw [swapL_length, h2]⟩
    · exact ⟨h1, h2⟩
def roundL (S : Nat → Nat) (n : Nat) (l : List Nat) (k : Nat) : List Nat := innerF (pivotF S k n) n (blockF (roundR S k) 0) l n
def shufR (S : Nat → Nat) (n : Nat) (l : List Nat) : Nat → List Nat
  | 0 => l
  | m + 1 => roundL S n (shufR S n l m) (5 - m)
theorem pivotF_lt (S : Nat → Nat) (k n : Nat) (hn : 0 < n) : pivotF S k n < n := Nat.mod_lt _ hn
theorem shufR_perm (S : Nat → Nat) (n : Nat) (l : List Nat) (hl : l.length = n) : ∀ m, (shufR S n l m).Perm l ∧ (shufR S n l m).length = n
  | 0 => ⟨List.Perm.refl _, hl⟩
  | m + 1 => by
    obtain ⟨h1, h2⟩ := shufR_perm S n l hl m
    rw [shufR]
    unfold roundL
    rcases Nat.eq_zero_or_pos n with h0 | h0
    · subst h0; exact ⟨h1, h2⟩
    · obtain ⟨h3, h4⟩ := innerF_perm (B := blockF (roundR S (5 - m)) 0) (pivotF_lt S (5 - m) n h0) h2 n (Nat.le_refl _)
      exact ⟨h3.trans h1, h4⟩
/-- The list that is shuffled. -/
def shufF (S : Nat → Nat) (l : List Nat) : List Nat := shufR S l.length l 6
theorem shufF_perm (S : Nat → Nat) (l : List Nat) : (shufF S l).Perm l := (shufR_perm S _ l rfl 6).1
theorem shufF_length (S : Nat → Nat) (l : List Nat) : (shufF S l).length = l.length := (shufR_perm S _ l rfl 6).2
theorem shufF_nil (S : Nat → Nat) : shufF S [] = [] := List.eq_nil_of_length_eq_zero (shufF_length S [])
theorem u64s_swap (l : List Nat) (tail : List Value) (i f : Nat) (hi : i < l.length) (hf : f < l.length) :
    ((u64s l ++ tail).set i (.int .u64 (l.getD f 0 : Nat))).set f (.int .u64 (l.getD i 0 : Nat)) = u64s (swapL l i f) ++ tail := by
  rw [List.set_append_left _ _ (by rw [u64s_length]; exact hi), u64s_set, List.set_append_left _ _ (by rw [u64s_length, List.length_set]; exact hf), u64s_set]
  rfl
def ListPost (w : World) (S : Nat → Nat) (L : List Nat) (e : Ending) (w' : World) : Prop := ∃ v, e = .returned (.tuple #[v, .int .i64 0]) ∧ OL w' w.heap.size v (shufF S L) ∧ Below w.heap.size w w'
/-- What stands at the label: the list so far, the rounds. -/
structure LI (w : World) (n : Nat) (S : Nat → Nat) (l : List Nat) (og ocap ag : Nat) (tail : List Value) (ps : Nat → Nat) (wr : World) : Prop where
  below : Below w.heap.size w wr
  base : w.heap.size ≤ og
  len : l.length = n
  out : Blk wr og 22 (u64s l ++ tail)
  cap : (u64s l ++ tail).length = ocap
  max : ocap ≤ maxLen
  cells : ∀ r, r < 6 → wr.cell? ⟨ag, 2 * r, none⟩ = some (.int .u64 (pivotF S r n : Nat)) ∧ wr.cell? ⟨ag, 2 * r + 1, none⟩ = some (.pointer (some ⟨ps r, 0, none⟩))
  other : ag ≠ og
  digs : ∀ r, r < 6 → ps r ≠ og ∧ Dig wr (ps r) startF (roundR S r) 33 33
theorem LI.pure {w : World} {n : Nat} {S : Nat → Nat} {l : List Nat} {og ocap ag : Nat} {tail : List Value} {ps : Nat → Nat} {wr wr' : World} (h : LI w n S l og ocap ag tail ps wr) (hb : Below wr.heap.size wr wr') : LI w n S l og ocap ag tail ps wr' := by
  refine ⟨h.below.trans (hb.mono h.below.size), h.base, h.len, h.out.below hb h.out.lt, h.cap, h.max, fun r hr => ?_, h.other, fun r hr => ⟨(h.digs r hr).1, (h.digs r hr).2.below hb (h.digs r hr).2.blks⟩⟩
  have hl := World.block_lt_of_cell? wr _ (h.cells r hr).1
  exact ⟨(hb.cell (p := ⟨ag, 2 * r, none⟩) hl).trans (h.cells r hr).1, (hb.cell (p := ⟨ag, 2 * r + 1, none⟩) hl).trans (h.cells r hr).2⟩
theorem LI.turn {w : World} {n : Nat} {S : Nat → Nat} {l l' : List Nat} {og ocap ag : Nat} {tail : List Value} {ps : Nat → Nat} {wr wr' : World} (h : LI w n S l og ocap ag tail ps wr) (ho : Only og wr wr') (hl : l'.length = n) (hb : Blk wr' og 22 (u64s l' ++ tail)) : LI w n S l' og ocap ag tail ps wr' := by
  have hle := h.below.size
  refine ⟨h.below.trans (ho.below hle h.base), h.base, hl, hb, ?_, h.max, fun r hr => ?_, h.other, fun r hr => ⟨(h.digs r hr).1, (h.digs r hr).2.only ho (h.digs r hr).1⟩⟩
  · have := h.cap; rw [List.length_append, u64s_length] at this ⊢; rw [h.len] at this; rw [hl]; exact this
  · have hl := World.block_lt_of_cell? wr _ (h.cells r hr).1
    exact ⟨(ho.cell (p := ⟨ag, 2 * r, none⟩) hl h.other).trans (h.cells r hr).1, (ho.cell (p := ⟨ag, 2 * r + 1, none⟩) hl h.other).trans (h.cells r hr).2⟩
theorem LI.ol {w : World} {n : Nat} {S : Nat → Nat} {l : List Nat} {og ocap ag : Nat} {tail : List Value} {ps : Nat → Nat} {wr : World} (h : LI w n S l og ocap ag tail ps wr) : OL wr w.heap.size (.slice (some ⟨og, 0, none⟩) n ocap) l := by
  refine OL.mk (n := n) (xs := u64s l) ⟨by rw [u64s_length, h.len]; omega, .inr ⟨og, ocap, (u64s l ++ tail).toArray, rfl, h.base, h.out, ?_, h.max, ?_, ?_⟩⟩ h.len.symm rfl
  · have := h.cap; rw [List.length_append, u64s_length, h.len] at this; omega
  · have := h.cap; simp at this ⊢; omega
  · rw [Nat.mul_one, List.take_append_of_le_length (by rw [u64s_length, h.len]; omega), List.take_of_length_le (by rw [u64s_length, h.len]; omega)]
end Go.Proofs.YtfagmjlgpfnniaaDoor
