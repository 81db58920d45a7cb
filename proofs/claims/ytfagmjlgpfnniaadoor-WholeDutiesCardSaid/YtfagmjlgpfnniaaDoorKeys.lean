/- Contracts of sha.Sum (of a hash) and pick.Sum. -/
import Derived.Test.YtfagmjlgpfnniaaDoorDraw
namespace Go.Proofs.YtfagmjlgpfnniaaDoor
open Go.RowKit

abbrev dig0 : List Value := [.int .u32 0, .int .u32 0, .int .u32 0, .int .u32 0, .int .u32 0, .int .u32 0, .int .u32 0, .int .u32 0, .int .u8 0, .int .u8 0, .int .u8 0, .int .u8 0, .int .u8 0, .int .u8 0, .int .u8 0, .int .u8 0, .int .u8 0, .int .u8 0, .int .u8 0, .int .u8 0, .int .u8 0, .int .u8 0, .int .u8 0, .int .u8 0, .int .u8 0, .int .u8 0, .int .u8 0, .int .u8 0, .int .u8 0, .int .u8 0, .int .u8 0, .int .u8 0, .int .u8 0, .int .u8 0, .int .u8 0, .int .u8 0, .int .u8 0, .int .u8 0, .int .u8 0, .int .u8 0, .int .u8 0, .int .u8 0, .int .u8 0, .int .u8 0, .int .u8 0, .int .u8 0, .int .u8 0, .int .u8 0, .int .u8 0, .int .u8 0, .int .u8 0, .int .u8 0, .int .u8 0, .int .u8 0, .int .u8 0, .int .u8 0, .int .u8 0, .int .u8 0, .int .u8 0, .int .u8 0, .int .u8 0, .int .u8 0, .int .u8 0, .int .u8 0, .int .u8 0, .int .u8 0, .int .u8 0, .int .u8 0, .int .u8 0, .int .u8 0, .int .u8 0, .int .u8 0, .int .i64 0, .int .u64 0]
set_option maxHeartbeats 3200000 in
set_option maxRecDepth 100000 in
theorem hash_any (g o cap : Nat) (B : Nat → Nat) (w : World) (tab : Tab w) (hB : Row w g o 32 .u8 B) (hB2 : ∀ i, B i < 256) :
    Calls Tryd.prog 28 #[.slice (some ⟨g, o, none⟩) 32 cap] w (SumPost w (sumF startF (over zeroF 0 B 32) 32 32)) := by
  have HT := Lib.hid tab
  have HB := Lib.hid hB
  have HB2 := Lib.hid hB2
  have h2 := tab.size
  have hg := hB.lt (by omega)
  have z100 : ∀ w, (zeroValue 100).run Tryd.prog w = .ok (.agg dig0.toArray) w := (zero_of_info (n := 74) (by kernel_rfl)).1
  have tw := tab.alloc (.cells (nums .u8 zeroF 32).toArray 24)
  have c0 : (w.alloc (.cells (nums .u8 zeroF 32).toArray 24)).cell? ⟨0, 0, none⟩ = some (.int .u32 (startF 0 : Nat)) := tw.start 0 (by omega)
  have c1 : (w.alloc (.cells (nums .u8 zeroF 32).toArray 24)).cell? ⟨0, 1, none⟩ = some (.int .u32 (startF 1 : Nat)) := tw.start 1 (by omega)
  have c2 : (w.alloc (.cells (nums .u8 zeroF 32).toArray 24)).cell? ⟨0, 2, none⟩ = some (.int .u32 (startF 2 : Nat)) := tw.start 2 (by omega)
  have c3 : (w.alloc (.cells (nums .u8 zeroF 32).toArray 24)).cell? ⟨0, 3, none⟩ = some (.int .u32 (startF 3 : Nat)) := tw.start 3 (by omega)
  have c4 : (w.alloc (.cells (nums .u8 zeroF 32).toArray 24)).cell? ⟨0, 4, none⟩ = some (.int .u32 (startF 4 : Nat)) := tw.start 4 (by omega)
  have c5 : (w.alloc (.cells (nums .u8 zeroF 32).toArray 24)).cell? ⟨0, 5, none⟩ = some (.int .u32 (startF 5 : Nat)) := tw.start 5 (by omega)
  have c6 : (w.alloc (.cells (nums .u8 zeroF 32).toArray 24)).cell? ⟨0, 6, none⟩ = some (.int .u32 (startF 6 : Nat)) := tw.start 6 (by omega)
  have c7 : (w.alloc (.cells (nums .u8 zeroF 32).toArray 24)).cell? ⟨0, 7, none⟩ = some (.int .u32 (startF 7 : Nat)) := tw.start 7 (by omega)
  clear tab hB hB2 tw
  go_enter Tryd.func28, Tryd.ntmps28
  go_upto_region 1 with fail
  refine wp_world ?_
  intro w1 hw1
  have R1 := Lib.hid (show Blk w1 w.heap.size 24 (nums .u8 zeroF 32) by rw [hw1]; exact Blk.new w _ _)
  have B1 := Lib.hid (show Below w.heap.size w w1 by rw [hw1]; exact (Below.refl _ w).alloc (Nat.le_refl _) _)
  have e0 : w1 = w.alloc (.cells (nums .u8 zeroF 32).toArray 24) := hw1
  rw [← e0] at c0 c1 c2 c3 c4 c5 c6 c7
  have Z1 := Blk.new w1 100 dig0
  have hz1 := Lib.hid (show w1.heap.size = w.heap.size + 1 by rw [hw1]; simp)
  have HZ := Lib.hid Z1
  clear hw1 e0
  have D0l : (digL startF zeroF 0 0).length = 74 := digL_length _ _ _ _
  have D0one : ∀ v ∈ digL startF zeroF 0 0, v.oneCell' = true := by
    intro v hv
    simp only [digL, List.mem_append, List.mem_cons, List.not_mem_nil, or_false] at hv
    rcases hv with h | h | rfl | rfl
    · exact nums_mem v h
    · exact nums_mem v h
    · rfl
    · rfl
  have H0l := Lib.hid D0l
  have H01 := Lib.hid D0one
  clear D0l D0one Z1
  go_upto_region 2 with (refine wpList_store_blk rfl 100 _ _ rfl w1.heap.size (digL startF zeroF 0 0) rfl rfl _ _ HZ.out 74 Tryd.size_dig rfl H0l.out H01.out ?_; intro w2 ho2 hb2 hz2; have O2 := Lib.hid ho2; have K2 := Lib.hid hb2; have Z2 := Lib.hid hz2; clear ho2 hb2 hz2)
  have z1 := hz1.out
  have z2 := Z2.out
  rw [World.size_alloc] at z2
  have B2 := Lib.hid (show Below w.heap.size w w2 from (B1.out.alloc (by omega) _).trans (O2.out.below (by simp; omega) (by omega)))
  have R2 := Lib.hid ((R1.out.alloc (.cells dig0.toArray 100)).only O2.out (by omega))
  have WR := Lib.hid (write_first w1.heap.size g o 32 cap startF zeroF B 0 w2 ⟨K2.out, startF_lt, fun _ => by unfold zeroF; omega, by omega⟩ (HB.out.below B2.out hg) HB2.out (by omega) (by omega) (by omega) (by omega))
  have HZZ := Lib.hid (And.intro z1 z2)
  clear c0 c1 c2 c3 c4 c5 c6 c7 z1 z2
  go_upto_region 3 with (go_at_call 22; refine WR.out.mono ?_; rintro en w3 ⟨rfl, ho3, d3, z3⟩; have O3 := Lib.hid ho3; have D3 := Lib.hid d3; clear ho3 d3 z3)
  obtain ⟨z1, z2⟩ := HZZ.out
  have B3 := Lib.hid (B2.out.trans (O3.out.below B2.out.size (by omega)))
  have R3 := Lib.hid (R2.out.only O3.out (by omega))
  have T3 := Lib.hid (HT.out.below B3.out h2)
  have SM := Lib.hid (sum_any w1.heap.size 32 32 startF (over zeroF 0 B 32) w3 T3.out (show Dig w3 w1.heap.size startF (over zeroF 0 B 32) 32 32 from D3.out) (by omega))
  clear WR z1 z2
  go_wp2_with (first | (go_at_call 23; refine SM.out.mono ?_; rintro en w7 ⟨rfl, hb7⟩; unfold bytesV; have HB7 := Lib.hid hb7; have R7 := R3.out.below hb7 R3.out.lt; clear hb7) | (with_reducible refine wpList_store_blk rfl _ _ _ rfl _ _ rfl rfl _ _ R7 32 Tryd.size_root (nums_length _ _ _) (nums_length _ _ _) nums_mem ?_; intro w8 ho8 hb8 hz8; have HO8 := Lib.hid ho8; have HK8 := Lib.hid hb8; clear ho8 hb8 hz8))
  refine bodyPost_ret (v := bytesV (sumF startF (over zeroF 0 B 32) 32 32) 32) ?_ rfl ⟨rfl, ?_⟩
  · exact results_blk (by rfl) _ _ _ _ _ _ (by rfl) HK8.out Tryd.underlying24 rfl 32 Tryd.size_root (nums_length _ _ _)
  · have b7 := B3.out.trans (HB7.out.mono B3.out.size)
    exact b7.trans (HO8.out.below b7.size (by omega))

/-- A write of a key's bytes, whatever came before. -/
def WriteAny (w : World) (p m : Nat) (en : Ending) (w' : World) : Prop := en = .returned (.tuple #[]) ∧ Only p w w' ∧ ∃ H R n, Dig w' p H R n m
theorem write_key (p bb bo cap n all : Nat) (H R B : Nat → Nat) (w : World) (tab : Tab w) (hp2 : 2 ≤ p) (d : Dig w p H R n all) (hB : Row w bb bo 48 .u8 B) (hB2 : ∀ i, B i < 256) (hbb : bb ≠ p) (hcap : 48 ≤ cap) (hall : all + 48 < 18446744073709551616) :
    Calls Tryd.prog 22 #[.pointer (some ⟨p, 0, none⟩), .slice (some ⟨bb, bo, none⟩) 48 cap] w (WriteAny w p (all + 48)) := by
  have hn := d.nl
  by_cases h0 : n = 0
  · subst h0
    exact (write_first p bb bo 48 cap H R B all w d hB hB2 hbb (by omega) (by omega) hall).mono fun e w' h => ⟨h.1, h.2.1, _, _, _, h.2.2.1⟩
  · by_cases h1 : n + 48 ≤ 63
    · exact (write_more p bb bo 48 cap n H R B all w d hB hB2 hbb (by omega) (by omega) h1 hcap hall).mono fun e w' h => ⟨h.1, h.2.1, _, _, _, h.2.2.1⟩
    · exact (write_over p bb bo 48 cap n (64 - n) (48 - (64 - n)) H R B all w tab hp2 d hB hB2 hbb (by omega) (by omega) (by omega) (by omega) hcap hall).mono fun e w' h => ⟨h.1, h.2.1, _, _, _, h.2.2⟩
theorem step_copy_blk {P : Program} {ops : Array Oper} {o : Oper} {a : Act} {w : World} {K : Act → World → Prop} {Q : Exit → Act → World → Prop} {E : Prop} (hgd : o.guard = none) (d s : Operand) (dT sT : TypeId)
    (ho : o.op = .call { callee := .builtin .copy, args := #[d, s], argTypes := #[dT, sT] }) (elem : TypeId) (hu : P.underlying dT = some (.slice elem)) (hsz : (P.info? elem).map (·.size) = some 1)
    (g off dLen dCap b o' sLen sCap : Nat) (hd : a.eval d = .slice (some ⟨g, off, none⟩) dLen dCap) (hs : a.eval s = .slice (some ⟨b, o', none⟩) sLen sCap)
    (cur : List Value) (T : TypeId) (hg : Blk w g T cur) (f : Nat → Nat) (n : Nat) (hn : n = Nat.min sLen dLen) (hsrc : Row w b o' n .u8 f) (hfit : off + n ≤ cur.length)
    (h : ∀ w', Only g w w' → Blk w' g T (splice cur off (nums .u8 f n)) → K (a.put o.dst (goInt n)) w') :
    if Region.wanted o (yielded ops a.tmps) = true then Oper.wp P o a w K Q else E := by
  have hw : Region.wanted o (yielded ops a.tmps) = true := by simp [Region.wanted, hgd]
  rw [if_pos hw]
  have hrun := run_copy_row (P := P) w dT sT o.type elem g off dLen dCap ⟨b, o', none⟩ sLen sCap cur.toArray T (nums .u8 f n) hu hsz hg (by rw [nums_length]; exact hn) (by
    intro j v hv
    have hj : j < n := by
      rcases Nat.lt_or_ge j n with h | h
      · exact h
      · rw [nums_none _ _ _ _ h] at hv; cases hv
    rw [nums_get _ _ _ _ hj] at hv
    cases hv
    rw [show (⟨b, o', none⟩ : Addr).add j = ⟨b, o' + j, none⟩ from by unfold Addr.add; split <;> simp_all]
    exact hsrc j hj) (by rw [nums_length]; simpa using hfit) nums_mem
  rw [nums_length] at hrun
  unfold Oper.wp
  simp [execOp, ho, resolve, invoke, builtin, hd, hs, hrun, Result.andThen]
  refine h _ ((Only.refl _ _).setRow _) ?_
  have := hg.setRow (cur.take off ++ (nums .u8 f n ++ cur.drop (off + n)))
  simpa [splice, nums_length] using this
end Go.Proofs.YtfagmjlgpfnniaaDoor
