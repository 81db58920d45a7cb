/- Contract of slices.Chunk's iterator at this dump: the pieces of one length of a row. -/
import Derived.RangeFuncNested
import Derived.RangeFuncBound
import Derived.RangeFuncCalls
import Derived.RangeFuncLeaves
import Derived.RangeFuncBox
import Derived.Shelf.Abstract
import Derived.WalkKit
import Derived.OwnWalkIn
import Derived.TacticsInMore
import Derived.LoopNIn
import Derived.LoopIn
import Derived.RegionIn
import Derived.Maps.AppendAt
import Derived.Test.YtamfceklddbldaaEach1
namespace Go.Proofs.Ytamfceklddbldaa
open Go.RowKit Go.Shelf
attribute [local go_sem] Oper.semAt_some

/-- The k-th piece's value, as the iterator hands it on. -/
def chunkV (b off n K k : Nat) : Value := if k < K then .slice (some ⟨b, off + k * n, none⟩) n n else .slice none 0 0
/-- What a round keeps: what lay below B0, and the iterator's two boxes. -/
def KpC (B0 g : Nat) (W W' : World) : Prop := Below B0 W W' ∧ W.heap.size ≤ W'.heap.size ∧ (g + 1 < W.heap.size → W'.heap[g]? = W.heap[g]? ∧ W'.heap[g + 1]? = W.heap[g + 1]?)
theorem KpC.t {B0 g : Nat} {A B C : World} (h : KpC B0 g A B) (k : KpC B0 g B C) : KpC B0 g A C :=
  ⟨h.1.trans k.1, Nat.le_trans h.2.1 k.2.1, fun hg => ⟨(k.2.2 (by have := h.2.1; omega)).1.trans (h.2.2 hg).1, (k.2.2 (by have := h.2.1; omega)).2.trans (h.2.2 hg).2⟩⟩
theorem KpC.refl {B0 g : Nat} (A : World) : KpC B0 g A A := ⟨Below.refl _ _, Nat.le_refl _, fun _ => ⟨rfl, rfl⟩⟩
theorem KpC.b {B0 g : Nat} {w : World} (hn : B0 ≤ w.heap.size) (hg : g + 1 < w.heap.size) (W : World) (l : Nat) (o o' : Obj) (hl : w.heap.size ≤ l) (h : W.heap[l]? = some o) (h1 : o.isCells = false) (h2 : o.isWalk = false) : KpC B0 g W (W.putObj l o') :=
  ⟨belowK_b hn W l o o' hl h h1 h2, by simp, fun _ => ⟨World.putObj_heap_other (by omega), World.putObj_heap_other (by omega)⟩⟩
theorem heap_cell {W W' : World} {g : Nat} {u : Value} (h : W'.heap[g]? = W.heap[g]?) (hc : W.cell? ⟨g, 0, none⟩ = some u) : W'.cell? ⟨g, 0, none⟩ = some u := by
  unfold World.cell? at hc ⊢
  simpa only [h] using hc

set_option maxHeartbeats 1000000 in
theorem chunk_in (n : Nat) (a : Option Addr) (len cap : Nat) (size : Int) (hs : 1 ≤ size) (w : World) :
    CallsIn Fence.wide n Try.prog 35 #[.slice a len cap, .int .i64 size] w fun e w' =>
      e = .returned (.func (.func 36) #[] #[.pointer (some ⟨w.heap.size, 0, none⟩), .pointer (some ⟨w.heap.size + 1, 0, none⟩)]) ∧ w' = (w.alloc (.cells #[.slice a len cap] 22)).alloc (.cells #[.int .i64 size] 3) := by
  refine callsIn_of_wp Try.func35 rfl trivial ?_ rfl
  simp only [Try.ntmps35, List.size_toArray, List.length_cons, List.length_nil, Nat.reduceAdd, Nat.reduceSub, Array.replicate_succ, Array.replicate_zero, List.push_toArray, List.append_toArray, List.nil_append, List.cons_append]
  gi_wp2
  go_ret
  exact ⟨rfl, rfl⟩

set_option maxRecDepth 100000 in
set_option maxHeartbeats 2000000 in
theorem chunk1_in (n : Nat) (hn : 1 ≤ n) (l g B0 b off cap sz K : Nat) (hsz : 1 ≤ sz) (hszl : sz < 1000000000) (hlen : K * sz < 1000000000) (hcap : K * sz ≤ cap) (hcapl : cap ≤ maxLen) (J Jx : List Nat → World → Prop)
    (W : World) (hg : g + 1 < W.heap.size) (hJ : AbidesFrom W.heap.size J)
    (hY : ∀ pre x W1, J pre W1 → pre.length < K → YieldAt Fence.wide (n - 1) Try.prog l #[chunkV b off sz K x] W1 fun e W' =>
      (e = .returned (.bool true) ∧ J (pre ++ [x]) W' ∧ KpC B0 g W1 W') ∨ (e = .returned (.bool false) ∧ Jx (pre ++ [x]) W'))
    (hB1 : W.cell? ⟨g, 0, none⟩ = some (.slice (some ⟨b, off, none⟩) (K * sz) cap)) (hB2 : W.cell? ⟨g + 1, 0, none⟩ = some (.int .i64 sz)) (h0 : J [] W) :
    CallsIn Fence.wide n Try.prog 36 #[.func (.yield l) #[] #[], .pointer (some ⟨g, 0, none⟩), .pointer (some ⟨g + 1, 0, none⟩)] W fun e W' => (∃ v, e = .returned v) ∧
      ((∃ ys, ys = List.range K ∧ J ys W') ∨ (∃ pre, True ∧ Jx pre W')) := by
  refine callsIn_of_wp Try.func36 rfl trivial ?_ rfl
  simp only [Try.ntmps36, List.size_toArray, List.length_cons, List.length_nil, Nat.reduceAdd, Nat.reduceSub, Array.replicate_succ, Array.replicate_zero, List.push_toArray, List.append_toArray, List.nil_append, List.cons_append]
  gi_wp2
  gi_loopw [4] (fun i wr => ∃ k p : Nat, k ≤ K ∧ p = k * sz ∧ i = .int .i64 (p : Int) ∧ J (List.range k) wr ∧ W.heap.size ≤ wr.heap.size ∧ wr.heap[g]? = W.heap[g]? ∧ wr.heap[g + 1]? = W.heap[g + 1]?)
    (fun i _ => K * sz - (intOf i).toNat)
  case atStart => exact ⟨0, 0, Nat.zero_le _, by simp, rfl, h0, Nat.le_refl _, rfl, rfl⟩
  case round =>
    obtain ⟨k, p, hk, hp, rfl, hJs, hsz2, hx1, hx2⟩ := hrel
    have hc1 := heap_cell hx1 hB1
    have hc2 := heap_cell hx2 hB2
    have HP := Lib.hid hp
    have HX1 := Lib.hid hx1
    have HX2 := Lib.hid hx2
    have HJS := Lib.hid hJs
    by_cases hlt : k < K
    · have hpn : p + sz ≤ K * sz := by
        have h1 : (k + 1) * sz ≤ K * sz := Nat.mul_le_mul_right sz hlt
        rw [Nat.add_mul, Nat.one_mul] at h1
        omega
      obtain ⟨M, hM⟩ : ∃ M, M = K * sz := ⟨_, rfl⟩
      have HM := Lib.hid hM
      rw [← hM] at hc1 hpn hlen hcap ⊢
      clear hp hx1 hx2 hJs hM hB1 hB2
      have hmin : (sz : Int) ≤ (M : Int) - (p : Int) := by omega
      have hmin' : min (sz : Int) ((M : Int) - (p : Int)) = (sz : Int) := by omega
      have hV : chunkV b off sz K k = .slice (some ⟨b, off + p, none⟩) sz sz := by unfold chunkV; rw [if_pos hlt, HP.out]
      have hJd : J (List.range k) wr.drew := hJ _ wr _ none HJS.out ⟨rfl, rfl, rfl, Nat.le_refl _, fun _ _ _ => rfl⟩ (fun r e => by cases e)
      obtain ⟨fn, tmps, assign, body, hy, hR⟩ := hY _ k wr.drew hJd (by rw [List.length_range]; exact hlt)
      rw [hV] at hy
      have HY := Lib.hid hY
      have HV := Lib.hid hV
      have hd1 : (wr.drew).cell? ⟨g, 0, none⟩ = some (.slice (some ⟨b, off, none⟩) M cap) := hc1
      have hd2 : (wr.drew).cell? ⟨g + 1, 0, none⟩ = some (.int .i64 sz) := hc2
      clear hY hJd hV h0
      gi_wp2
      gi_region
      gi_wp2
      refine hR.mono ?_
      rintro e W3 (⟨rfl, hJ3, hk3⟩ | ⟨rfl, hJx3⟩)
      · have hsz3 : W.heap.size ≤ W3.heap.size := Nat.le_trans hsz2 hk3.2.1
        have hk4 := hk3.2.2 (by show g + 1 < wr.heap.size; omega)
        have he1 := heap_cell hk4.1 hd1
        have he2 := heap_cell hk4.2 hd2
        have X1 := Lib.hid (hk4.1.trans HX1.out)
        have X2 := Lib.hid (hk4.2.trans HX2.out)
        have J3 : Hid (J (List.range (k + 1)) W3) := by show J _ _; rw [List.range_succ]; exact hJ3
        have hmin3 : (p : Int) + (sz : Int) < 2000000000 := by omega
        clear hk3 hk4 hJ3
        gi_wp2
        go_roundw
        case rel =>
          refine ⟨k + 1, p + sz, by omega, ?_, by go_num, J3.out, hsz3, X1.out, X2.out⟩
          rw [HP.out, Nat.add_mul, Nat.one_mul]
        case measure => simp [intOf]; omega
      · gi_wp2
        refine bodyPost_ret (results_none rfl _ _ _) rfl ?_
        exact ⟨⟨_, rfl⟩, .inr ⟨_, trivial, hJx3⟩⟩
    · obtain rfl : k = K := by omega
      obtain ⟨M, hM⟩ : ∃ M, M = k * sz := ⟨_, rfl⟩
      rw [← hM] at hc1 hp hlen hcap ⊢
      subst hp
      clear hx1 hx2 hJs hB1 hB2
      gi_wp2
      go_end0
      exact ⟨⟨_, rfl⟩, .inl ⟨_, rfl, HJS.out⟩⟩
end Go.Proofs.Ytamfceklddbldaa
