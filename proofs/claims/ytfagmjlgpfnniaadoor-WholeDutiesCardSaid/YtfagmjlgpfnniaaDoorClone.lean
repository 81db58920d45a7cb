/- Contract of slices.Clone at numbers. -/
import Derived.Test.YtfagmjlgpfnniaaDoorRounds
import Derived.Lib.LazyBuf
namespace Go.Proofs.YtfagmjlgpfnniaaDoor
open Go.RowKit

def ClonePost (w : World) (L : List Nat) (e : Ending) (w' : World) : Prop := ∃ v, e = .returned v ∧ OL w' w.heap.size v L ∧ Below w.heap.size w w'
set_option maxHeartbeats 1600000 in
theorem clone_any (v : Value) (L : List Nat) (w : World) (lo : Nat) (h : Sl w lo v (u64s L)) (hl : L.length ≤ 1000000) :
    Calls Tryd.prog 18 #[v] w (ClonePost w L) := by
  obtain ⟨A, c, rfl, h1, h2, h3⟩ := id h
  have HH := Lib.hid h
  rw [u64s_length] at h1 ⊢
  obtain ⟨i0, hi, hz0, hz1, hz2⟩ := info_parts Tryd.info_u64
  have qn : ∀ (w : World) (p : Option Addr) (n c : Nat), (binOp .eql 37 (.slice p n c) (.slice none 0 0)).run Tryd.prog w = .ok (.bool p.isNone) w := fun w p n c => Go.run_eql_slice_nil w _ _ p n c Tryd.underlying37
  cases A with
  | none =>
    have e : L = [] := by
      cases L with
      | nil => rfl
      | cons x r => obtain ⟨b, off, e, _⟩ := h3 (by simp [u64s]); cases e
    subst e
    clear h h3 h1 h2
    go_enter Tryd.func18, Tryd.ntmps18
    go_wp2
    go_ret
    exact ⟨_, rfl, World.ownsRow_nil _ _ _ _, Below.refl _ _⟩
  | some ad =>
    have hown : (w.alloc (.cells #[] 22)).ownsRow w.heap.size 22 1 (.slice (some ⟨w.heap.size, 0, none⟩) 0 0) 0 [] := World.ownsRow_made w #[] 0 (Nat.le_refl _) (Nat.zero_le _) rfl
    have HX := HH.out.alloc (.cells #[] 22)
    rw [u64s_length] at HX
    have HXX := Lib.hid HX
    have HOW := Lib.hid hown
    have HON := Lib.hid (u64s_one L)
    have h63 : 0 + (u64s L).length ≤ maxLen := by rw [u64s_length]; unfold maxLen; omega
    have hby : (0 + (u64s L).length) * 8 ≤ 140737488355328 := by rw [u64s_length]; omega
    have hba : w.heap.size ≤ (w.alloc (.cells #[] 22)).heap.size := by simp
    have H63 := Lib.hid h63
    have HBY := Lib.hid hby
    have HBA := Lib.hid hba
    clear h h3 h1 h2 HX hown h63 hby hba
    go_enter Tryd.func18, Tryd.ntmps18
    go_wp2_with (at_builtin; refine wpList_append_sl _ rfl _ _ _ rfl w.heap.size lo 22 i0 _ 8 Tryd.underlying37 hi hz0 hz1 hz2 rfl _ 0 [] rfl HOW.out _ (u64s L) rfl HXX.out HON.out H63.out HBY.out HBA.out ?_; intro v' w' hown' hg' hm'; have HO := Lib.hid hown'; have HG := Lib.hid hg'; clear hown' hg' hm')
    go_ret
    refine ⟨_, rfl, OL.mk HO.out (by rw [u64s_length]; omega) (by simp), ?_⟩
    exact ((Below.refl _ w).alloc (Nat.le_refl _) _).grown HG.out (by simp) (fun k hk => by have e : some w.heap.size = some k := hk; injection e with e; omega)
end Go.Proofs.YtfagmjlgpfnniaaDoor
