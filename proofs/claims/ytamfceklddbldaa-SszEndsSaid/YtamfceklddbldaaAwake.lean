/- Contract of the law's 'awake': it answers true and leaves what was there. -/
import Derived.Test.YtamfceklddbldaaCut1
namespace Go.Proofs.Ytamfceklddbldaa
open Go.RowKit

theorem cut_ex : cut [1, 2, 7, 0, 0, 0, 3, 4, 5] [2, 0, 1] = ([[1, 2], [4, 5], [3]], 0) := by decide +kernel
theorem many_ex : many [8, 0, 0, 0, 9, 0, 0, 0, 0xaa, 0xbb] 5 = ([[0xaa], [0xbb]], 0) := by decide +kernel

def TruePost (w : World) (e : Ending) (w' : World) : Prop := e = .returned (.bool true) ∧ Below w.heap.size w w'
theorem RO.at2 {w : World} {B n c : Nat} {A : Option Addr} {ls : List Bs} (h : RO w B (.slice A n c) ls) (hne : ls ≠ []) : ∃ g, A = some ⟨g, 0, none⟩ ∧ n = ls.length ∧ ∀ j, j < ls.length → ∃ u, w.cell? ⟨g, j, none⟩ = some u ∧ OB w B u (ls.getD j []) := by
  obtain ⟨vs, h1, h2⟩ := h
  have hl := h1.1
  rcases h1.2 with ⟨_, h⟩ | ⟨g, cap, cur, e, _⟩
  · exact absurd (List.eq_nil_of_length_eq_zero h) hne
  · injection e with e1 e2 e3
    subst e1 e2 e3
    refine ⟨g, rfl, rfl, fun j hj => ?_⟩
    have hlen : j < vs.length := by omega
    exact ⟨vs[j], by rw [World.ownsRow.cellAt h1 j (by omega)]; simp [hlen], h2 j _ _ (List.getElem?_eq_getElem hlen) (by simp [List.getD, hj])⟩
theorem RO.form {w : World} {B : Nat} {v : Value} {ls : List Bs} (h : RO w B v ls) : ∃ A c, v = .slice A ls.length c := by
  obtain ⟨vs, h1, _⟩ := h
  rcases h1.2 with ⟨rfl, h⟩ | ⟨g, cap, cur, rfl, _⟩
  · exact ⟨none, 0, by rw [h]⟩
  · exact ⟨_, _, rfl⟩
theorem RO.below {w w' : World} {B : Nat} {v : Value} {ls : List Bs} (h : RO w B v ls) (hb : Below w.heap.size w w') : RO w' B v ls := by
  obtain ⟨vs, h1, h2⟩ := h
  exact ⟨vs, World.ownsRow.kept h1 (grown_of_below hb none) (by cases hv : v.ownBlock <;> simp), fun j u l hu hl => (h2 j u l hu hl).below hb⟩
theorem bv_new (w : World) (b : Bs) (hb : b.length ≤ 1000) (vs : List Value) (hv : vs = b.map bv) (n : Nat) (hn : n = b.length) : BV (w.alloc (.cells vs.toArray 5)) 0 (.slice (some ⟨w.heap.size, 0, none⟩) n n) b := by
  subst hv hn
  have := sl_new w (b.map bv) 5 (by simp [maxLen]; omega)
  rw [List.length_map] at this
  exact Sl.lower this (Nat.zero_le _)
theorem iv_new (w : World) (z : List Int) (hb : z.length ≤ 1000) (vs : List Value) (hv : vs = z.map iv) (n : Nat) (hn : n = z.length) : IV (w.alloc (.cells vs.toArray 3)) 0 (.slice (some ⟨w.heap.size, 0, none⟩) n n) z := by
  subst hv hn
  have := sl_new w (z.map iv) 3 (by simp [maxLen]; omega)
  rw [List.length_map] at this
  exact Sl.lower this (Nat.zero_le _)

theorem two_new (w : World) (b : Bs) (z : List Int) (B : Array Value) (Z : Array Value) (n m : Nat) (hB : (b.map bv).toArray = B) (hZ : (z.map iv).toArray = Z) (hn : b.length = n) (hm : z.length = m) (h1 : n ≤ 1000) (h2 : m ≤ 1000) :
    BV ((w.alloc (.cells B 5)).alloc (.cells Z 3)) 0 (.slice (some ⟨w.heap.size, 0, none⟩) n n) b ∧ IV ((w.alloc (.cells B 5)).alloc (.cells Z 3)) 0 (.slice (some ⟨w.heap.size + 1, 0, none⟩) m m) z ∧
    Below w.heap.size w ((w.alloc (.cells B 5)).alloc (.cells Z 3)) := by
  subst hB hZ hn hm
  refine ⟨Sl.alloc (bv_new w b h1 _ rfl _ rfl) _, ?_, ((Below.refl _ w).alloc (Nat.le_refl _) _).alloc (by simp) _⟩
  have := iv_new (w.alloc (.cells (b.map bv).toArray 5)) z h2 _ rfl _ rfl
  simpa using this
theorem one_new (w : World) (b : Bs) (B : Array Value) (n : Nat) (hB : (b.map bv).toArray = B) (hn : b.length = n) (h1 : n ≤ 1000) :
    BV (w.alloc (.cells B 5)) 0 (.slice (some ⟨w.heap.size, 0, none⟩) n n) b ∧ Below w.heap.size w (w.alloc (.cells B 5)) := by
  subst hB hn
  exact ⟨bv_new w b h1 _ rfl _ rfl, (Below.refl _ w).alloc (Nat.le_refl _) _⟩

set_option maxHeartbeats 800000 in
theorem awake_any (w : World) : Calls Try.prog 10 #[] w (TruePost w) := by
  have F := fun w => two_new w [1, 2, 7, 0, 0, 0, 3, 4, 5] [2, 0, 1] #[.int .u8 1, .int .u8 2, .int .u8 7, .int .u8 0, .int .u8 0, .int .u8 0, .int .u8 3, .int .u8 4, .int .u8 5] #[.int .i64 2, .int .i64 0, .int .i64 1] 9 3 (by rfl) (by rfl) (by rfl) (by rfl) (by omega) (by omega)
  have G := fun w => one_new w [8, 0, 0, 0, 9, 0, 0, 0, 0xaa, 0xbb] #[.int .u8 8, .int .u8 0, .int .u8 0, .int .u8 0, .int .u8 9, .int .u8 0, .int .u8 0, .int .u8 0, .int .u8 170, .int .u8 187] 10 (by rfl) (by rfl) (by omega)
  have HF := Lib.hid F
  have HG := Lib.hid G
  clear F G
  go_enter Try.func10, Try.ntmps10
  go_wp2_with fail
  obtain ⟨f1, f2, f3⟩ := HF.out w
  refine (cut_any _ _ [1, 2, 7, 0, 0, 0, 3, 4, 5] [2, 0, 1] _ f1 f2 (by simp)).mono ?_
  rintro e w1 ⟨v1, rfl, r1, b1⟩
  rw [cut_ex] at r1 ⊢
  simp only at r1
  have B1 : Hid (Below w.heap.size w w1) := f3.trans (b1.mono f3.size)
  obtain ⟨A1, c1, rfl⟩ := r1.form
  obtain ⟨g1, rfl, _, hc⟩ := r1.at2 (by simp)
  obtain ⟨u1, hu1, ho1⟩ := hc 1 (by simp)
  have HO1 := Lib.hid ho1
  have HU1 := Lib.hid hu1
  have hsz1 := B1.out.size
  clear hc r1 b1 ho1 f1 f2 f3 hu1
  go_wp2_with fail
  obtain ⟨f1, f3⟩ := HG.out w1
  refine (many_any _ [8, 0, 0, 0, 9, 0, 0, 0, 0xaa, 0xbb] 5 _ f1 (by simp)).mono ?_
  rintro e w2 ⟨v2, rfl, r2, b2⟩
  rw [many_ex] at r2 ⊢
  simp only at r2
  have B2' : Hid (Below w1.heap.size w1 w2) := f3.trans (b2.mono f3.size)
  have B2 : Hid (Below w.heap.size w w2) := B1.out.trans (B2'.out.mono hsz1)
  obtain ⟨A2, c2, rfl⟩ := r2.form
  obtain ⟨g2, rfl, _, hc⟩ := r2.at2 (by simp)
  obtain ⟨u2, hu2, ho2⟩ := hc 1 (by simp)
  have hu1' := (B2'.out.cell (p := ⟨g1, 1, none⟩) (blk_lt HU1.out)).trans HU1.out
  have q1 := Try.conv_str (HO1.out.below B2'.out).toBV
  have q2 := Try.conv_str ho2.toBV
  have e1 : ((str [4, 5]).toList == [4, 5]) = true := by rw [str_toList]; rfl
  have e2 : ((str [0xbb]).toList == [0xbb]) = true := by rw [str_toList]; rfl
  simp only [List.getD_cons_succ, List.getD_cons_zero] at q1 q2
  clear hc r2 b2 ho2 HU1 f1 f3 HF HG
  go_wp2
  go_ret
  exact ⟨rfl, B2.out⟩
end Go.Proofs.Ytamfceklddbldaa
