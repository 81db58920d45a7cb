/- Contract of shuf.List at every list. -/
import Derived.Test.YtfagmjlgpfnniaaDoorList
namespace Go.Proofs.YtfagmjlgpfnniaaDoor
open Go.RowKit

set_option maxHeartbeats 1600000 in
set_option maxRecDepth 100000 in
theorem list_empty (A : Option Addr) (c : Nat) (S : Nat → Nat) (w : World) (h : Sl w 0 (.slice A 0 c) (u64s [])) :
    Calls Tryd.prog 17 #[.slice A 0 c, bytesV S 32] w (ListPost w S []) := by
  unfold bytesV
  have H0 := Lib.hid (h.alloc (.cells (nums .u8 S 32).toArray 24))
  have CL := Lib.hid (clone_any _ [] _ 0 H0.out (by simp))
  clear h
  go_enter Tryd.func17, Tryd.ntmps17
  go_wp2
  go_step3
  go_upto_region 4 with (go_at_call 18; refine CL.out.mono ?_; rintro e w1 ⟨v1, rfl, hol1, hb1⟩; have HO1 := Lib.hid hol1; have HB1 := Lib.hid hb1; obtain ⟨A1, c1, rfl, h1, h2, h3⟩ := hol1.sl; rw [u64s_length]; clear h1 h2 h3 hol1 hb1)
  go_wp2
  rw [Exit.noGoto_ret]
  go_ret2
  refine ⟨_, rfl, ?_, ((Below.refl _ w).alloc (Nat.le_refl _) _).trans (HB1.out.mono (by simp))⟩
  rw [shufF_nil]
  have := HO1.out
  rw [u64s_length] at this
  rw [World.size_alloc] at this
  obtain ⟨q1, q2⟩ := this
  refine ⟨q1, ?_⟩
  rcases q2 with ⟨e, _⟩ | ⟨g, cap, cur, e, hg, rest⟩
  · exact .inl ⟨e, rfl⟩
  · exact .inr ⟨g, cap, cur, e, by omega, rest⟩
theorem list_any (v : Value) (L : List Nat) (S : Nat → Nat) (hS : ∀ i, S i < 256) (w : World) (lo : Nat) (tab : Tab w) (h : Sl w lo v (u64s L)) (hl : L.length ≤ 100) :
    Calls Tryd.prog 17 #[v, bytesV S 32] w (ListPost w S L) := by
  have h' := h.lower (Nat.zero_le lo)
  obtain ⟨A, c, rfl, h1, h2, h3⟩ := id h'
  cases L with
  | nil => exact list_empty A c S w h'
  | cons x r =>
    obtain ⟨b, off, rfl, _, _⟩ := h3 (by simp [u64s])
    rw [u64s_length] at h' ⊢
    exact list_some b off c (x :: r) S hS w tab h' _ rfl (by simp) hl
end Go.Proofs.YtfagmjlgpfnniaaDoor
