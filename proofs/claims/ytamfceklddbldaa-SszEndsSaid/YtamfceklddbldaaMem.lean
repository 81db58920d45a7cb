/- Words for memory: a byte slice, an int slice, a slice of byte slices, each read as a list. -/
import Derived.Test.YtamfceklddbldaaPlainMany
import Derived.Test.YtamfceklddbldaaRows
import Derived.WalkKit
import Derived.WalkSpells
import Derived.WalkLawsBesides
import Derived.Deep.QuietTactic
import Derived.BigQuiet
import Derived.Deep.Draws
import Derived.Lib.Hide
namespace Go.Proofs.Ytamfceklddbldaa
open Go.RowKit

def bv (b : UInt8) : Value := .int .u8 (b.toNat : Int)
def iv (n : Int) : Value := .int .i64 n

/-- A slice value of n one-cell elements whose first cells are xs, in a block from lo on. -/
def Sl (w : World) (lo : Nat) (v : Value) (xs : List Value) : Prop :=
  ∃ A c, v = .slice A xs.length c ∧ xs.length ≤ c ∧ c ≤ maxLen ∧ (xs ≠ [] → ∃ b off, A = some ⟨b, off, none⟩ ∧ lo ≤ b ∧ ∀ j u, xs[j]? = some u → w.cell? ⟨b, off + j, none⟩ = some u)
def BV (w : World) (lo : Nat) (v : Value) (l : Bs) : Prop := Sl w lo v (l.map bv)
def IV (w : World) (lo : Nat) (v : Value) (l : List Int) : Prop := Sl w lo v (l.map iv)
/-- A slice of byte slices. -/
def RV (w : World) (lo : Nat) (v : Value) (ls : List Bs) : Prop := ∃ vs, Sl w lo v vs ∧ vs.length = ls.length ∧ ∀ (j : Nat) u l, vs[j]? = some u → ls[j]? = some l → BV w lo u l

theorem blk_lt {w : World} {b o : Nat} {u : Value} (h : w.cell? ⟨b, o, none⟩ = some u) : b < w.heap.size := World.block_lt_of_cell? w _ h

theorem Sl.below {w w' : World} {B lo : Nat} {v : Value} {xs : List Value} (h : Sl w lo v xs) (hb : Below B w w') (hB : w.heap.size ≤ B) : Sl w' lo v xs := by
  obtain ⟨A, c, rfl, h1, h2, h3⟩ := h
  refine ⟨A, c, rfl, h1, h2, fun hne => ?_⟩
  obtain ⟨b, off, e, hlo, hc⟩ := h3 hne
  exact ⟨b, off, e, hlo, fun j u hu => by
    have := hc j u hu
    rw [hb.cell (p := ⟨b, off + j, none⟩) (Nat.lt_of_lt_of_le (blk_lt this) hB)]; exact this⟩
theorem Sl.lower {w : World} {lo lo' : Nat} {v : Value} {xs : List Value} (h : Sl w lo v xs) (hl : lo' ≤ lo) : Sl w lo' v xs := by
  obtain ⟨A, c, rfl, h1, h2, h3⟩ := h
  refine ⟨A, c, rfl, h1, h2, fun hne => ?_⟩
  obtain ⟨b, off, e, hlo, hc⟩ := h3 hne
  exact ⟨b, off, e, by omega, hc⟩
theorem Sl.alloc {w : World} {lo : Nat} {v : Value} {xs : List Value} (h : Sl w lo v xs) (o : Obj) : Sl (w.alloc o) lo v xs := h.below ((Below.refl _ w).alloc (Nat.le_refl _) o) (Nat.le_refl _)
theorem Sl.drewN {w : World} {lo : Nat} {v : Value} {xs : List Value} (h : Sl w lo v xs) (n : Nat) : Sl (w.drewN n) lo v xs := h
theorem RV.drewN {w : World} {lo : Nat} {v : Value} {xs : List Bs} (h : RV w lo v xs) (n : Nat) : RV (w.drewN n) lo v xs := h
theorem RV.below {w w' : World} {B lo : Nat} {v : Value} {ls : List Bs} (h : RV w lo v ls) (hb : Below B w w') (hB : w.heap.size ≤ B) : RV w' lo v ls := by
  obtain ⟨vs, h1, h2, h3⟩ := h
  exact ⟨vs, h1.below hb hB, h2, fun j u l hu hl => Sl.below (h3 j u l hu hl) hb hB⟩
theorem Sl.nil_ (w : World) (lo : Nat) : Sl w lo (.slice none 0 0) [] := ⟨none, 0, rfl, Nat.le_refl _, Nat.zero_le _, fun h => absurd rfl h⟩
theorem RV.nil_ (w : World) (lo : Nat) : RV w lo (.slice none 0 0) [] := ⟨[], Sl.nil_ w lo, rfl, fun j u l h => by simp at h⟩
/-- Out of an owned row. -/
theorem Sl.own {w : World} {lo : Nat} {e : TypeId} {v : Value} {n : Nat} {xs : List Value} (h : w.ownsRow lo e 1 v n xs) : Sl w lo v xs := by
  obtain ⟨hl, h⟩ := h
  rw [Nat.mul_one] at hl
  rcases h with ⟨rfl, rfl⟩ | ⟨g, cap, cur, rfl, hg, hh, h1, h2, h3, h4⟩
  · obtain rfl : xs = [] := List.eq_nil_of_length_eq_zero hl
    exact Sl.nil_ w lo
  · refine ⟨some ⟨g, 0, none⟩, cap, by rw [hl], by omega, h2, fun _ => ⟨g, 0, rfl, hg, fun j u hu => ?_⟩⟩
    rw [cell_of_row w g (0 + j) cur e (0, 0) hh]
    rw [← h4, List.getElem?_take] at hu
    split at hu
    · simpa using hu
    · cases hu
/-- A byte at a place. -/
theorem Sl.at_ {w : World} {lo : Nat} {v : Value} {xs : List Value} (h : Sl w lo v xs) (hne : xs ≠ []) : ∃ b off c, v = .slice (some ⟨b, off, none⟩) xs.length c ∧ lo ≤ b ∧ xs.length ≤ c ∧ c ≤ maxLen ∧ ∀ j u, xs[j]? = some u → w.cell? ⟨b, off + j, none⟩ = some u := by
  obtain ⟨A, c, rfl, h1, h2, h3⟩ := h
  obtain ⟨b, off, rfl, hlo, hc⟩ := h3 hne
  exact ⟨b, off, c, rfl, hlo, h1, h2, hc⟩
theorem BV.at_ {w : World} {lo : Nat} {v : Value} {l : Bs} (h : BV w lo v l) (hne : l ≠ []) : ∃ b off c, v = .slice (some ⟨b, off, none⟩) l.length c ∧ lo ≤ b ∧ l.length ≤ c ∧ c ≤ maxLen ∧ ∀ j, j < l.length → w.cell? ⟨b, off + j, none⟩ = some (.int .u8 ((l.getD j 0).toNat : Int)) := by
  obtain ⟨b, off, c, e, h1, h2, h3, h4⟩ := Sl.at_ h (by simpa using hne)
  rw [List.length_map] at e h2
  refine ⟨b, off, c, e, h1, h2, h3, fun j hj => h4 j _ ?_⟩
  rw [List.getElem?_map, List.getElem?_eq_getElem hj]
  simp [bv, List.getD, hj]
theorem IV.at_ {w : World} {lo : Nat} {v : Value} {l : List Int} (h : IV w lo v l) (hne : l ≠ []) : ∃ b off c, v = .slice (some ⟨b, off, none⟩) l.length c ∧ lo ≤ b ∧ l.length ≤ c ∧ c ≤ maxLen ∧ ∀ j, j < l.length → w.cell? ⟨b, off + j, none⟩ = some (.int .i64 (l.getD j 0)) := by
  obtain ⟨b, off, c, e, h1, h2, h3, h4⟩ := Sl.at_ h (by simpa using hne)
  rw [List.length_map] at e h2
  refine ⟨b, off, c, e, h1, h2, h3, fun j hj => h4 j _ ?_⟩
  rw [List.getElem?_map, List.getElem?_eq_getElem hj]
  simp [iv, List.getD, hj]
theorem Sl.nilform {w : World} {lo : Nat} {v : Value} (h : Sl w lo v []) : ∃ A c, v = .slice A 0 c ∧ c ≤ maxLen := by
  obtain ⟨A, c, rfl, h1, h2, h3⟩ := h
  exact ⟨A, c, rfl, h2⟩
theorem ret_int {k : IntKind} {a b : Int} (h : a = b) : Ending.returned (.int k a) = .returned (.int k b) := by rw [h]
end Go.Proofs.Ytamfceklddbldaa
