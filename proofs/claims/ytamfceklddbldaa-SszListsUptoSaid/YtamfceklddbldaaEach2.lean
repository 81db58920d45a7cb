/- Contract of Each. -/
import Derived.Test.YtamfceklddbldaaChunk
import Derived.Stop.RegionWithIn
namespace Go.Proofs.Ytamfceklddbldaa
open Go.RowKit Go.Shelf
attribute [local go_sem] Oper.semAt_some

set_option maxRecDepth 100000 in
set_option maxHeartbeats 1000000 in
theorem chunk1_nil (n : Nat) (l g c : Nat) (A : Option Addr) (J : List Nat → World → Prop) (W : World) (hB1 : W.cell? ⟨g, 0, none⟩ = some (.slice A 0 c)) (h0 : J [] W) :
    CallsIn Fence.wide n Try.prog 36 #[.func (.yield l) #[] #[], .pointer (some ⟨g, 0, none⟩), .pointer (some ⟨g + 1, 0, none⟩)] W fun e W' => (∃ v, e = .returned v) ∧ J [] W' := by
  refine callsIn_of_wp Try.func36 rfl trivial ?_ rfl
  simp only [Try.ntmps36, List.size_toArray, List.length_cons, List.length_nil, Nat.reduceAdd, Nat.reduceSub, Array.replicate_succ, Array.replicate_zero, List.push_toArray, List.append_toArray, List.nil_append, List.cons_append]
  gi_wp2
  gi_loopw [4] (fun i wr => i = .int .i64 0 ∧ J [] wr ∧ wr.cell? ⟨g, 0, none⟩ = some (.slice A 0 c)) (fun _ _ => 0)
  case atStart => exact ⟨rfl, h0, hB1⟩
  case round =>
    obtain ⟨rfl, hJs, hc⟩ := hrel
    gi_wp2
    go_end0
    exact ⟨⟨_, rfl⟩, hJs⟩
theorem chunk_stops (n : Nat) (hn : 1 ≤ n) (g B0 b off cap sz K : Nat) (hsz : 1 ≤ sz) (hlen : K * sz < 1000000000) (hcap : K * sz ≤ cap) (hcapl : cap ≤ maxLen) (A : Option Addr) (hA : 0 < K → A = some ⟨b, off, none⟩)
    (w : World) (hg : g + 1 < w.heap.size) (hB1 : w.cell? ⟨g, 0, none⟩ = some (.slice A (K * sz) cap)) (hB2 : w.cell? ⟨g + 1, 0, none⟩ = some (.int .i64 sz)) :
    SeqStopsK Fence.wide n Try.prog 36 #[.pointer (some ⟨g, 0, none⟩), .pointer (some ⟨g + 1, 0, none⟩)] (fun k : Nat => #[chunkV b off sz K k]) (KpC B0 g) (fun ys => ys = List.range K) (fun _ => True) K w := fun l J Jx W hW hJ _ hY h0 => by
  have h1 := (hW.cell (p := ⟨g, 0, none⟩) (by show g < _; omega)).trans hB1
  have h2 := (hW.cell (p := ⟨g + 1, 0, none⟩) (by show g + 1 < _; omega)).trans hB2
  have hs := hW.size
  rcases Nat.eq_zero_or_pos K with rfl | hK
  · rw [Nat.zero_mul] at h1
    exact (chunk1_nil n l g cap A J W h1 h0).mono fun e W' ⟨he, hj⟩ => ⟨he, .inl ⟨[], rfl, hj⟩⟩
  · obtain rfl := hA hK
    exact chunk1_in n hn l g B0 b off cap sz K hsz (Nat.lt_of_le_of_lt (Nat.le_mul_of_pos_left sz hK) hlen) hlen hcap hcapl J Jx W (by omega) hJ hY h1 h2 h0

/-- A piece's value reads as the piece. -/
theorem chunkV_bv {w : World} {A : Option Addr} {c sz K rb off : Nat} {b : Bs} (h : BV w 0 (.slice A b.length c) b) (hA : 0 < K → A = some ⟨rb, off, none⟩) (hK : b.length = K * sz) (x : Nat) : BV w 0 (chunkV rb off sz K x) ((b.drop (x * sz)).take sz) := by
  unfold chunkV
  by_cases hx : x < K
  · rw [if_pos hx]
    obtain rfl := hA (by omega)
    have h1 : (x + 1) * sz ≤ K * sz := Nat.mul_le_mul_right sz hx
    rw [Nat.add_mul, Nat.one_mul] at h1
    have h2 := BV.cut h (i := x * sz) (j := x * sz + sz) (by omega) (by omega)
    rw [List.drop_take, show x * sz + sz - x * sz = sz from by omega] at h2
    obtain ⟨A', c', e, e1, e2, e3⟩ := h2
    injection e with ea en ec
    subst ea
    have hl : (((b.drop (x * sz)).take sz).map bv).length = sz := by simp only [List.length_map, List.length_take, List.length_drop]; omega
    refine ⟨_, sz, by rw [hl], by omega, by omega, e3⟩
  · rw [if_neg hx]
    have h1 : K * sz ≤ x * sz := Nat.mul_le_mul_right sz (by omega)
    rw [List.drop_eq_nil_of_le (by omega), List.take_nil]
    exact Sl.nil_ w 0
/-- What a list owns abides the turn of a block that is no cells. -/
theorem RO.turn {W W' : World} {B : Nat} {v : Value} {ls : List Bs} {row : Option Nat} (h : RO W B v ls) (hg : W.grownBy W' row) (hr : ∀ r, row = some r → ∃ o : Obj, W.heap[r]? = some o ∧ o.isCells = false) : RO W' B v ls := by
  have key : ∀ {e : TypeId} {u : Value} {n : Nat} {xs : List Value}, W.ownsRow B e 1 u n xs → W'.ownsRow B e 1 u n xs := by
    intro e u n xs hu
    refine hu.kept hg ?_
    rcases hu.2 with ⟨rfl, _⟩ | ⟨g, cap, cur, rfl, _, hgb, _⟩
    · exact .inl rfl
    · refine .inr fun e' => ?_
      obtain ⟨o, ho, hc⟩ := hr g (by simpa [Value.ownBlock] using e'.symm)
      rw [hgb] at ho; cases ho; cases hc
  obtain ⟨vs, h1, h2⟩ := h
  exact ⟨vs, key h1, fun j u l hu hl => key (h2 j u l hu hl)⟩
/-- .. and a store into a block below its own. -/
theorem RO.store {W : World} {B g : Nat} {v u : Value} {ls : List Bs} (h : RO W B v ls) (hgB : g < B) : RO (W.setCell ⟨g, 0, none⟩ u) B v ls := by
  have key : ∀ {e : TypeId} {x : Value} {n : Nat} {xs : List Value}, W.ownsRow B e 1 x n xs → (W.setCell ⟨g, 0, none⟩ u).ownsRow B e 1 x n xs := by
    intro e x n xs hu
    refine hu.kept (grownBy_setCell' W g u) (.inr fun e' => ?_)
    have := (World.ownsRow.lt hu g e').1
    omega
  obtain ⟨vs, h1, h2⟩ := h
  exact ⟨vs, key h1, fun j u l hu hl => key (h2 j u l hu hl)⟩
theorem RO.lower {W : World} {B B' : Nat} {v : Value} {ls : List Bs} (h : RO W B v ls) (hb : B' ≤ B) : RO W B' v ls := by
  obtain ⟨vs, h1, h2⟩ := h
  refine ⟨vs, ⟨h1.1, ?_⟩, fun j u l hu hl => (h2 j u l hu hl).lower hb⟩
  rcases h1.2 with h | ⟨g, cap, cur, e, e1, e2⟩
  · exact .inl h
  · exact .inr ⟨g, cap, cur, e, Nat.le_trans hb e1, e2⟩
def EachI (w : World) (sz : Nat) (b : Bs) (pre : List Nat) (W : World) : Prop :=
  (∃ v, Boxed W w.heap.size 28 v ∧ RO W (w.heap.size + 3) v (pre.map fun k => (b.drop (k * sz)).take sz)) ∧ w.heap.size + 3 ≤ W.heap.size ∧ Below w.heap.size w W
theorem EachI.own (w : World) (sz : Nat) (b : Bs) : OwnFrom (w.heap.size + 3) (EachI w sz b) := by
  rintro s X Y row ⟨⟨v, hv, hr⟩, hs, hb⟩ hg hrow
  refine ⟨⟨v, hv.kept hg (fun e' => ?_), hr.turn hg (fun r e => (hrow r e).2)⟩, Nat.le_trans hs hg.size, hb.grown hg hb.size (fun k e => Nat.le_trans (Nat.le_add_right _ 3) (hrow k e).1)⟩
  have := (hrow _ e'.symm).1
  omega
theorem EachI.kept {W W1 : World} {B n : Nat} {e : TypeId} {u : Value} {xs : List Value} (h : W.ownsRow B e 1 u n xs) (hb : Below W.heap.size W W1) : W1.ownsRow B e 1 u n xs := by
  refine ⟨h.1, ?_⟩
  rcases h.2 with h | ⟨g, cap, cur, e1, e2, e3, e4⟩
  · exact .inl h
  · exact .inr ⟨g, cap, cur, e1, e2, (hb.block g (Array.getElem?_eq_some_iff.1 e3).1).trans e3, e4⟩
/-- THE STEP: what a round has done is what the loop asks. -/
theorem EachI.step {w W W1 W2 : World} {sz x : Nat} {b : Bs} {pre : List Nat} {v u v' : Value} {n : Nat} {vs : List Value} {o : Obj} (hv : Boxed W w.heap.size 28 v) (hs : w.heap.size + 3 ≤ W.heap.size) (hB : Below w.heap.size w W)
    (hu : OB W1 W.heap.size u ((b.drop (x * sz)).take sz)) (hb1 : Below W.heap.size W W1)
    (hvs : W1.ownsRow (w.heap.size + 3) 22 1 v (pre.map fun k => (b.drop (k * sz)).take sz).length vs) (he : ∀ (j : Nat) u l', vs[j]? = some u → (pre.map fun k => (b.drop (k * sz)).take sz)[j]? = some l' → OB W1 (w.heap.size + 3) u l')
    (hown : W2.ownsRow (w.heap.size + 3) 22 1 v' n (vs ++ [u])) (hn : n = (pre.map fun k => (b.drop (k * sz)).take sz).length + 1) (hg : (W1.alloc o).grownBy W2 v.ownBlock) :
    W2.cell? ⟨w.heap.size, 0, none⟩ = some v ∧ W2.frozen? ⟨w.heap.size, 0, none⟩ = false ∧
    (KeepsFrom (w.heap.size + 3) W (W2.setCell ⟨w.heap.size, 0, none⟩ v') ∧ KpC w.heap.size (w.heap.size + 1) W (W2.setCell ⟨w.heap.size, 0, none⟩ v') ∧ EachI w sz b (pre ++ [x]) (W2.setCell ⟨w.heap.size, 0, none⟩ v')) := by
  have hge : ∀ k, v.ownBlock = some k → w.heap.size + 3 ≤ k := fun k hk => (World.ownsRow.lt hvs k hk).1
  have hcl : ∀ k, v.ownBlock = some k → ∃ o : Obj, W1.heap[k]? = some o ∧ o.isCells = true := by
    intro k hk
    rcases hvs.2 with ⟨rfl, _⟩ | ⟨g, cap, cur, rfl, _, hgb, _⟩
    · simp [Value.ownBlock] at hk
    · obtain rfl : g = k := by simpa [Value.ownBlock] using hk
      exact ⟨_, hgb, rfl⟩
  have hv1 : Boxed W1 w.heap.size 28 v := (hb1.block w.heap.size (by have := hv.lt; omega)).trans hv
  have hv2 : Boxed W2 w.heap.size 28 v := (hv1.alloc o).kept hg (fun e => by have := hge _ e.symm; omega)
  have hkeep : ∀ j, j < W.heap.size → v.ownBlock ≠ some j → j ≠ w.heap.size → (W2.setCell ⟨w.heap.size, 0, none⟩ v').heap[j]? = W.heap[j]? := by
    intro j hj hne hne2
    have hj1 : j < W1.heap.size := Nat.lt_of_lt_of_le hj hb1.size
    rw [Below.heap_setCell _ _ _ j (fun e => hne2 e), hg.block j (by simp; omega) (fun e => hne e.symm), Below.heap_alloc W1 o j hj1]
    exact hb1.block j hj
  have hsz : W.heap.size ≤ (W2.setCell ⟨w.heap.size, 0, none⟩ v').heap.size := by
    have h1 := (KeepsWalks.setCell W2 ⟨w.heap.size, 0, none⟩ v').size
    have h2 := hg.size
    have h3 := hb1.size
    simp only [World.size_alloc] at h2
    omega
  have hBw : Below w.heap.size w (W2.setCell ⟨w.heap.size, 0, none⟩ v') := ((((hB.trans (hb1.mono hB.size)).alloc (by have := hb1.size; omega) o).grown hg (by have := hb1.size; simp; omega) (fun k e => by have := hge k e; omega)).setCell (p := ⟨w.heap.size, 0, none⟩) (Nat.le_refl _) v')
  have hsW : w.heap.size ≤ W.heap.size := by omega
  have hs1 := hb1.size
  have hb2 : Below w.heap.size W W1 := hb1.mono hsW
  have hb3 : Below w.heap.size W (W1.alloc o) := hb2.alloc (by omega) o
  have hb4 : Below w.heap.size W W2 := hb3.grown hg (by simp; omega) (fun k e => by have := hge k e; omega)
  have hBW : Below w.heap.size W (W2.setCell ⟨w.heap.size, 0, none⟩ v') := hb4.setCell (p := ⟨w.heap.size, 0, none⟩) (Nat.le_refl _) v'
  refine ⟨hv2.cell, hv2.frozen, ⟨hsz, fun k q hk0 hk ho => ?_⟩, ⟨hBW, hsz, fun _ => ⟨hkeep _ (by omega) (fun e => by have := hge _ e; omega) (by omega), hkeep _ (by omega) (fun e => by have := hge _ e; omega) (by omega)⟩⟩, ⟨⟨v', hv2.set v', ?_⟩, Nat.le_trans hs hsz, hBw⟩⟩
  · have hkl : k < W.heap.size := (Array.getElem?_eq_some_iff.1 hk).1
    refine (hkeep k hkl (fun e => ?_) (by omega)).trans hk
    obtain ⟨o2, ho2, hc2⟩ := hcl k e
    rw [hb1.block k hkl] at ho2
    rw [hk] at ho2
    cases ho2
    rw [hc2] at ho
    cases ho
  · rw [List.map_append, List.map_singleton]
    exact (RO.snoc (w := W1.alloc o) (World.ownsRow.alloc hvs _) (fun j u l' h1 h2 => World.ownsRow.alloc (he j u l' h1 h2) _) (World.ownsRow.alloc (OB.lower hu (by omega)) _) hown hn hg).store (by omega)

theorem stepIn_append_own {F : Fence} {n : Nat} {P : Program} (w : World) {ops : Array Oper} {o : Oper} {a : Act} {K : Act → World → Prop} {Q : Exit → Act → World → Prop} {E : Prop} (hgd : o.guard = none) (s x : Operand) (t : TypeId)
    (hop : o.op = .call { callee := .builtin .append, args := #[s, x], argTypes := #[t, t] })
    (base : Nat) (e : TypeId) (i : TypeInfo) (z : Value) (size bytes : Nat) (h1 : P.underlying t = some (.slice e)) (h2 : P.info? e = some i) (h3 : i.zero = some z) (h4 : i.size = size) (h5 : i.bytes = bytes) (h6 : z.cells.size = size) (h7 : 0 < size)
    (v : Value) (k : Nat) (xs : List Value) (hs : a.eval s = v) (hown : w.ownsRow base e size v k xs) (ad : Addr) (m c : Nat) (news : List Value) (hx : a.eval x = .slice (some ad) m c) (hn : news.length = m * size)
    (hc : ∀ j u, news[j]? = some u → w.cell? (ad.add j) = some u) (h1c : ∀ u ∈ news, u.oneCell' = true) (b1 : k + m ≤ maxLen) (b2 : (k + m) * bytes ≤ 140737488355328) (b3 : base ≤ w.heap.size)
    (h : ∀ v' w', w'.ownsRow base e size v' (k + m) (xs ++ news) → w.grownBy w' v.ownBlock → K (a.put o.dst v') w') :
    if Region.wanted o (yielded ops a.tmps) = true then Oper.wpIn F n P o a w K Q else E := by
  have hw : Region.wanted o (yielded ops a.tmps) = true := by simp [Region.wanted, hgd]
  rw [if_pos hw]
  obtain ⟨v', w', hrun, r1, r2, r3⟩ := run_append_own (P := P) (w := w) base t o.type e i z size bytes h1 h2 h3 h4 h5 h6 h7 v k xs hown ad m c news hn hc h1c b1 b2 b3
  unfold Oper.wpIn
  refine ⟨?_, ?_⟩
  · simp [Oper.about, hop, resolve, Target.leads, Sem.run_pure]
  · rw [Oper.semAt_plain F _ _ (by rw [hop]; intro c hc'; cases hc')]
    simp [execOp, hop, resolve, invoke, builtin, hs, hx, hrun, Result.andThen]
    exact h v' w' r1 r2
set_option maxRecDepth 100000 in
set_option maxHeartbeats 4000000 in
theorem each_walk (A : Option Addr) (c sz K M most rb off : Nat) (b : Bs) (w : World) (h : BV w 0 (.slice A b.length c) b) (hM : M = b.length) (hA : 0 < K → A = some ⟨rb, off, none⟩) (hsz : 1 ≤ sz) (hK : b.length = K * sz) (hm : K ≤ most) (hml : most < 9223372036854775808) (hbl : b.length < 1000000000) (hcap : b.length ≤ c) (hcapl : c ≤ maxLen) :
    CallsIn Fence.wide 3 Try.prog 22 #[.slice A M c, .int .i64 sz, .int .i64 most] w (ManyPost w (pieces sz K b, 0)) := by
  have hmod : ((M : Int) % (sz : Int)) = 0 := by rw [hM, hK]; simp
  have hdiv : ((M : Int) / (sz : Int)) = (K : Int) := by
    rw [hM, hK, Int.natCast_mul]
    exact Int.mul_ediv_cancel _ (by omega)
  have hMK : M = K * sz := hM.trans hK
  have hMl : M < 1000000000 := by omega
  have hMc : M ≤ c := by omega
  have hKM : K ≤ M := by rw [hMK]; exact Nat.le_mul_of_pos_right K hsz
  have HPV := Lib.hid (fun x => chunkV_bv (sz := sz) (K := K) (rb := rb) (off := off) h hA hK x)
  have HMK := Lib.hid hMK
  have HA := Lib.hid hA
  have hd1 : decide ((sz : Int) < 1) = false := decide_eq_false (by omega)
  have hd2 : decide ((most : Int) < 0) = false := decide_eq_false (by omega)
  have hd3 : decide ((most : Int) < (K : Int)) = false := decide_eq_false (by omega)
  obtain ⟨i1, hj, hy0, hy1, hy2⟩ := info_parts Try.info_bs
  have HBL := Lib.hid hbl
  clear h hM hK hbl hcap hMK hA
  refine callsIn_of_wp_marks Try.func22 rfl trivial ?_ rfl
  simp only [Try.ntmps22, List.size_toArray, List.length_cons, List.length_nil, Nat.reduceAdd, Nat.reduceSub, Array.replicate_succ, Array.replicate_zero, List.push_toArray, List.append_toArray, List.nil_append, List.cons_append]
  gi_wp2_with (refine ⟨trivial, ?_⟩; gi_at_call 35; refine (chunk_in _ _ _ _ _ (by omega) _).mono ?_; rintro e w' ⟨rfl, rfl⟩)
  clear hmod hdiv
  have bO := Boxed.new w 28 (.slice none 0 0)
  have bS := Boxed.new (w.alloc (.cells #[.slice none 0 0] 28)) 22 (.slice A M c)
  have bN := Boxed.new ((w.alloc (.cells #[.slice none 0 0] 28)).alloc (.cells #[.slice A M c] 22)) 3 (.int .i64 sz)
  simp only [World.size_alloc] at bS bN
  have hB0 : Below w.heap.size w (((w.alloc (.cells #[.slice none 0 0] 28)).alloc (.cells #[.slice A M c] 22)).alloc (.cells #[.int .i64 sz] 3)) := (((Below.refl _ w).alloc (Nat.le_refl _) _).alloc (by simp) _).alloc (by simp; omega) _
  obtain ⟨w3, hw3⟩ : ∃ w3, w3 = (((w.alloc (.cells #[.slice none 0 0] 28)).alloc (.cells #[.slice A M c] 22)).alloc (.cells #[.int .i64 sz] 3)) := ⟨_, rfl⟩
  have hs3 : w3.heap.size = w.heap.size + 3 := by rw [hw3]; simp
  have hc3 := (bS.alloc (.cells #[.int .i64 sz] 3)).cell
  have hb3 := (bO.alloc (.cells #[.slice A M c] 22)).alloc (.cells #[.int .i64 sz] 3)
  have hn3 := bN.cell
  rw [← hw3] at hc3 hb3 hn3 hB0 ⊢
  clear bO bS bN hw3
  refine wpIn_rangeFunc_ownG rfl (by omega) (gf := 36) (lb := #[.pointer (some ⟨w.heap.size + 1, 0, none⟩), .pointer (some ⟨w.heap.size + 1 + 1, 0, none⟩)]) rfl trivial (enters_of Try.func36 (by kernel_rfl) rfl)
    (chunk_stops 2 (by omega) (w.heap.size + 1) w.heap.size rb off c sz K hsz (by rw [← HMK.out]; exact hMl) (by rw [← HMK.out]; exact hMc) hcapl A HA.out w3 (by omega) (by rw [← HMK.out]; exact hc3) hn3) KpC.t (KpC.b (by omega) (by omega)) (Below.refl _ _) (fun _ => rfl)
    (EachI w sz b)
    (fun _ _ _ => False)
    (by rw [hs3]; exact EachI.own w sz b)
    (fun _ _ _ _ _ hs _ _ => hs)
    ⟨⟨_, hb3, RO.nil_ _ _⟩, by omega, hB0⟩
    (fun x => { tmps := #[.slice A M c, .int .i64 sz, .int .i64 most, undef, undef, undef, .slice none 0 0, .int .i64 0, .pointer (some ⟨w.heap.size, 0, none⟩), chunkV rb off sz K x, .bool false, .int .i64 sz, .bool false, .bool false, .int .i64 most, .bool false, .bool false, .bool false, .slice A M c, .int .i64 M, .int .i64 sz, .int .i64 0, .bool false, .bool false, .slice A M c, .int .i64 M, .int .i64 sz, .int .i64 K, .int .i64 most, .bool false, .slice A M c, .int .i64 sz, .func (.func 36) #[] #[.pointer (some ⟨w.heap.size + 1, 0, none⟩), .pointer (some ⟨w.heap.size + 1 + 1, 0, none⟩)], chunkV rb off sz K x, undef, undef, undef, undef, undef, undef], defers := [] }) ?assign ?body ?done ?stop
  case assign =>
    intro l x W Q hQ
    gi_wp2
    exact hQ
  case body =>
    rintro l pre x W ⟨⟨v, hv, hro⟩, hs, hB⟩ hlt
    have hc : W.drew.cell? ⟨w.heap.size, 0, none⟩ = some v := hv.cell
    rw [hs3]
    obtain ⟨vs, hvs, hel⟩ := hro
    have hpl : (pre.map fun k => (b.drop (k * sz)).take sz).length = pre.length := by simp
    obtain ⟨part, hpart⟩ : ∃ part, part = (b.drop (x * sz)).take sz := ⟨_, rfl⟩
    have HPX : Hid (BV W.drew 0 (chunkV rb off sz K x) part) := by
      show BV _ _ _ _
      rw [hpart]
      exact BV.below (HPV.out x) (below_drewN hB 1) (Nat.le_refl _)
    have hpn : part.length ≤ 1000000000 := by rw [hpart]; simp only [List.length_take, List.length_drop]; have := HBL.out; omega
    have HPN := Lib.hid hpn
    have HPD := Lib.hid hpart
    have HV := Lib.hid hv
    have HVS := Lib.hid hvs
    have HEL := Lib.hid hel
    have HPL := Lib.hid hpl
    have HBW := Lib.hid hB
    clear hvs hel hpl hpart hv hB hpn HPV
    have hbytes : ∀ k, k ≤ 1000000000 → (k + 1) * 24 ≤ 140737488355328 := by intro k hk; omega
    have HBY := Lib.hid hbytes
    clear hbytes
    gi_wp2
    refine wpIn_region_any (by kernel_rfl) ?_
    change wpAnyIn _ _ _ _ _ _ _ _ _ (World.drew _)
    refine wpAnyIn_ready (rs := [0, 1]) (by kernel_rfl) (by simp) ?_
    refine AllReadyIn.cons rfl (fun K hK => ?_) (AllReadyIn.cons rfl (fun K hK => ?_) AllReadyIn.nil)
    · go_simp
      refine hK _ _ ?_
      clear hK K
      refine wpAnyIn_ready (rs := [1]) (by kernel_rfl) (by simp) ?_
      refine AllReadyIn.cons rfl (fun K hK => ?_) AllReadyIn.nil
      go_simp
      refine hK _ _ ?_
      clear hK K
      refine wpAnyIn_ready (rs := [2]) (by kernel_rfl) (by simp) ?_
      refine AllReadyIn.cons rfl (fun K hK => ?_) AllReadyIn.nil
      go_simp
      gi_wp2_with (refine ⟨trivial, ?_⟩; gi_at_call 29; refine (CallsIn.inRound l (callsIn_wide.2 (clone_any _ part _ HPX.out (by have := HPN.out; omega)))).mono ?_; rintro e w' ⟨u, rfl, hu, hb0⟩; have hb : Below W.heap.size W w' := (below_drewN (Below.refl _ W) 1).trans hb0; have HU := Lib.hid hu; have HBB := Lib.hid hb; obtain ⟨A5, c5, rfl⟩ := hu.form; have hv1 : Boxed w' w.heap.size 28 v := (hb.block w.heap.size (by omega)).trans HV.out; have hc1 := hv1.cell; have hc2 := (hv1.alloc (.cells #[.slice A5 part.length c5] 22)).cell; clear hv1 hb hb0 hu)
      first | (refine hK _ _ ?_; clear hK K) | skip
      refine wpAnyIn_ready (rs := [3]) (by kernel_rfl) (by simp) ?_
      refine AllReadyIn.cons rfl (fun K hK => ?_) AllReadyIn.nil
      go_simp
      refine hK _ _ ?_
      clear hK K
      refine wpAnyIn_ready (rs := [4]) (by kernel_rfl) (by simp) ?_
      refine AllReadyIn.cons rfl (fun K hK => ?_) AllReadyIn.nil
      have hvs := EachI.kept HVS.out HBB.out
      refine stepIn_append_own _ rfl _ _ 28 rfl (w.heap.size + 3) 22 i1 (.slice none 0 0) 1 24 Try.underlying28 hj hy0 hy1 hy2 rfl (by decide) v _ vs rfl (World.ownsRow.alloc hvs _) ⟨w'.heap.size, 0, none⟩ 1 1 [.slice A5 part.length c5] rfl rfl (cell_one_new _ _ _) (by simp [Value.oneCell']) (by rw [HPL.out]; unfold maxLen; omega) (HBY.out _ (by rw [HPL.out]; omega)) (by have := HBB.out.size; simp; omega) ?_
      intro v' w2 hown hgrow
      obtain ⟨g9, cap9, rfl⟩ := ownsRow_succ hown
      have hst := EachI.step HV.out hs HBW.out (by rw [← HPD.out]; exact HU.out) HBB.out hvs (fun j u l' h1 h2 => EachI.kept (HEL.out j u l' h1 h2) HBB.out) hown rfl hgrow
      have hc3 := hst.1
      have hf3 := hst.2.1
      rw [HPL.out] at hst
      have HST := Lib.hid hst.2.2
      clear hst hown hgrow hvs
      refine hK _ _ ?_
      clear hK K
      refine wpAnyIn_ready (rs := [5]) (by kernel_rfl) (by simp) ?_
      refine AllReadyIn.cons rfl (fun K hK => ?_) AllReadyIn.nil
      go_simp
      refine hK _ _ ?_
      clear hK K
      refine wpAnyIn_done (by kernel_rfl) ?_ _
      gi_wp2
      exact HST.out
    · go_simp
      refine hK _ _ ?_
      clear hK K
      refine wpAnyIn_ready (rs := [0, 2]) (by kernel_rfl) (by simp) ?_
      refine AllReadyIn.cons rfl (fun K hK => ?_) (AllReadyIn.cons rfl (fun K hK => ?_) AllReadyIn.nil)
      · go_simp
        refine hK _ _ ?_
        clear hK K
        refine wpAnyIn_ready (rs := [2]) (by kernel_rfl) (by simp) ?_
        refine AllReadyIn.cons rfl (fun K hK => ?_) AllReadyIn.nil
        go_simp
        gi_wp2_with (refine ⟨trivial, ?_⟩; gi_at_call 29; refine (CallsIn.inRound l (callsIn_wide.2 (clone_any _ part _ HPX.out (by have := HPN.out; omega)))).mono ?_; rintro e w' ⟨u, rfl, hu, hb0⟩; have hb : Below W.heap.size W w' := (below_drewN (Below.refl _ W) 1).trans hb0; have HU := Lib.hid hu; have HBB := Lib.hid hb; obtain ⟨A5, c5, rfl⟩ := hu.form; have hv1 : Boxed w' w.heap.size 28 v := (hb.block w.heap.size (by omega)).trans HV.out; have hc1 := hv1.cell; have hc2 := (hv1.alloc (.cells #[.slice A5 part.length c5] 22)).cell; clear hv1 hb hb0 hu)
        first | (refine hK _ _ ?_; clear hK K) | skip
        refine wpAnyIn_ready (rs := [3]) (by kernel_rfl) (by simp) ?_
        refine AllReadyIn.cons rfl (fun K hK => ?_) AllReadyIn.nil
        go_simp
        refine hK _ _ ?_
        clear hK K
        refine wpAnyIn_ready (rs := [4]) (by kernel_rfl) (by simp) ?_
        refine AllReadyIn.cons rfl (fun K hK => ?_) AllReadyIn.nil
        have hvs := EachI.kept HVS.out HBB.out
        refine stepIn_append_own _ rfl _ _ 28 rfl (w.heap.size + 3) 22 i1 (.slice none 0 0) 1 24 Try.underlying28 hj hy0 hy1 hy2 rfl (by decide) v _ vs rfl (World.ownsRow.alloc hvs _) ⟨w'.heap.size, 0, none⟩ 1 1 [.slice A5 part.length c5] rfl rfl (cell_one_new _ _ _) (by simp [Value.oneCell']) (by rw [HPL.out]; unfold maxLen; omega) (HBY.out _ (by rw [HPL.out]; omega)) (by have := HBB.out.size; simp; omega) ?_
        intro v' w2 hown hgrow
        obtain ⟨g9, cap9, rfl⟩ := ownsRow_succ hown
        have hst := EachI.step HV.out hs HBW.out (by rw [← HPD.out]; exact HU.out) HBB.out hvs (fun j u l' h1 h2 => EachI.kept (HEL.out j u l' h1 h2) HBB.out) hown rfl hgrow
        have hc3 := hst.1
        have hf3 := hst.2.1
        rw [HPL.out] at hst
        have HST := Lib.hid hst.2.2
        clear hst hown hgrow hvs
        refine hK _ _ ?_
        clear hK K
        refine wpAnyIn_ready (rs := [5]) (by kernel_rfl) (by simp) ?_
        refine AllReadyIn.cons rfl (fun K hK => ?_) AllReadyIn.nil
        go_simp
        refine hK _ _ ?_
        clear hK K
        refine wpAnyIn_done (by kernel_rfl) ?_ _
        gi_wp2
        exact HST.out
      · go_simp
        gi_wp2_with (refine ⟨trivial, ?_⟩; gi_at_call 29; refine (CallsIn.inRound l (callsIn_wide.2 (clone_any _ part _ HPX.out (by have := HPN.out; omega)))).mono ?_; rintro e w' ⟨u, rfl, hu, hb0⟩; have hb : Below W.heap.size W w' := (below_drewN (Below.refl _ W) 1).trans hb0; have HU := Lib.hid hu; have HBB := Lib.hid hb; obtain ⟨A5, c5, rfl⟩ := hu.form; have hv1 : Boxed w' w.heap.size 28 v := (hb.block w.heap.size (by omega)).trans HV.out; have hc1 := hv1.cell; have hc2 := (hv1.alloc (.cells #[.slice A5 part.length c5] 22)).cell; clear hv1 hb hb0 hu)
        first | (refine hK _ _ ?_; clear hK K) | skip
        refine wpAnyIn_ready (rs := [0, 3]) (by kernel_rfl) (by simp) ?_
        refine AllReadyIn.cons rfl (fun K hK => ?_) (AllReadyIn.cons rfl (fun K hK => ?_) AllReadyIn.nil)
        · go_simp
          refine hK _ _ ?_
          clear hK K
          refine wpAnyIn_ready (rs := [3]) (by kernel_rfl) (by simp) ?_
          refine AllReadyIn.cons rfl (fun K hK => ?_) AllReadyIn.nil
          go_simp
          refine hK _ _ ?_
          clear hK K
          refine wpAnyIn_ready (rs := [4]) (by kernel_rfl) (by simp) ?_
          refine AllReadyIn.cons rfl (fun K hK => ?_) AllReadyIn.nil
          have hvs := EachI.kept HVS.out HBB.out
          refine stepIn_append_own _ rfl _ _ 28 rfl (w.heap.size + 3) 22 i1 (.slice none 0 0) 1 24 Try.underlying28 hj hy0 hy1 hy2 rfl (by decide) v _ vs rfl (World.ownsRow.alloc hvs _) ⟨w'.heap.size, 0, none⟩ 1 1 [.slice A5 part.length c5] rfl rfl (cell_one_new _ _ _) (by simp [Value.oneCell']) (by rw [HPL.out]; unfold maxLen; omega) (HBY.out _ (by rw [HPL.out]; omega)) (by have := HBB.out.size; simp; omega) ?_
          intro v' w2 hown hgrow
          obtain ⟨g9, cap9, rfl⟩ := ownsRow_succ hown
          have hst := EachI.step HV.out hs HBW.out (by rw [← HPD.out]; exact HU.out) HBB.out hvs (fun j u l' h1 h2 => EachI.kept (HEL.out j u l' h1 h2) HBB.out) hown rfl hgrow
          have hc3 := hst.1
          have hf3 := hst.2.1
          rw [HPL.out] at hst
          have HST := Lib.hid hst.2.2
          clear hst hown hgrow hvs
          refine hK _ _ ?_
          clear hK K
          refine wpAnyIn_ready (rs := [5]) (by kernel_rfl) (by simp) ?_
          refine AllReadyIn.cons rfl (fun K hK => ?_) AllReadyIn.nil
          go_simp
          refine hK _ _ ?_
          clear hK K
          refine wpAnyIn_done (by kernel_rfl) ?_ _
          gi_wp2
          exact HST.out
        · go_simp
          refine hK _ _ ?_
          clear hK K
          refine wpAnyIn_ready (rs := [0]) (by kernel_rfl) (by simp) ?_
          refine AllReadyIn.cons rfl (fun K hK => ?_) AllReadyIn.nil
          go_simp
          refine hK _ _ ?_
          clear hK K
          refine wpAnyIn_ready (rs := [4]) (by kernel_rfl) (by simp) ?_
          refine AllReadyIn.cons rfl (fun K hK => ?_) AllReadyIn.nil
          have hvs := EachI.kept HVS.out HBB.out
          refine stepIn_append_own _ rfl _ _ 28 rfl (w.heap.size + 3) 22 i1 (.slice none 0 0) 1 24 Try.underlying28 hj hy0 hy1 hy2 rfl (by decide) v _ vs rfl (World.ownsRow.alloc hvs _) ⟨w'.heap.size, 0, none⟩ 1 1 [.slice A5 part.length c5] rfl rfl (cell_one_new _ _ _) (by simp [Value.oneCell']) (by rw [HPL.out]; unfold maxLen; omega) (HBY.out _ (by rw [HPL.out]; omega)) (by have := HBB.out.size; simp; omega) ?_
          intro v' w2 hown hgrow
          obtain ⟨g9, cap9, rfl⟩ := ownsRow_succ hown
          have hst := EachI.step HV.out hs HBW.out (by rw [← HPD.out]; exact HU.out) HBB.out hvs (fun j u l' h1 h2 => EachI.kept (HEL.out j u l' h1 h2) HBB.out) hown rfl hgrow
          have hc3 := hst.1
          have hf3 := hst.2.1
          rw [HPL.out] at hst
          have HST := Lib.hid hst.2.2
          clear hst hown hgrow hvs
          refine hK _ _ ?_
          clear hK K
          refine wpAnyIn_ready (rs := [5]) (by kernel_rfl) (by simp) ?_
          refine AllReadyIn.cons rfl (fun K hK => ?_) AllReadyIn.nil
          go_simp
          refine hK _ _ ?_
          clear hK K
          refine wpAnyIn_done (by kernel_rfl) ?_ _
          gi_wp2
          exact HST.out
  case done =>
    rintro D ys W hD rfl ⟨⟨v, hv, hro⟩, hs, hB⟩ hK
    have hc := hv.cell
    have HR := Lib.hid hro
    have HBW := Lib.hid hB
    clear hro hB
    gi_wp2
    refine ⟨by simp, .inl ⟨_, _, rfl, run_takeDeferred hK, ?_⟩⟩
    have hro := RO.turn HR.out (grownBy_putObj' W D (.deferred none)) (fun r e => by cases e; exact ⟨_, hK, rfl⟩)
    exact ⟨_, results_tmp2 rfl _ _ _, v, rfl, hro.lower (by omega), HBW.out.trans (belowK_b (w := w) (Nat.le_refl _) W D _ _ (by omega) hK rfl rfl)⟩
  case stop =>
    rintro D c pre W _ _ h _
    exact h.elim

set_option maxHeartbeats 1600000 in
theorem each_any (v : Value) (b : Bs) (size most : Int) (w : World) (h : BV w 0 v b) (hm : most < 9223372036854775808) (hbl : b.length < 1000000000) :
    Calls Try.prog 22 #[v, .int .i64 size, .int .i64 most] w (ManyPost w (each b size most)) := by
  obtain ⟨A, c, rfl, h1, h2⟩ := h.form
  by_cases t1 : size < 1
  · have HE : Hid (each b size most = ([], 1)) := by show _ = _; unfold each; rw [if_pos (.inl t1)]
    have hd1 : decide (size < 1) = true := decide_eq_true t1
    rw [HE.out]
    clear h h1 h2 hbl hm
    go_enter Try.func22, Try.ntmps22
    go_wp2
    go_ret2
    exact ⟨_, rfl, RO.nil_ _ _, Below.refl _ _⟩
  · have hd1 : decide (size < 1) = false := decide_eq_false t1
    obtain ⟨sz, rfl⟩ := Int.eq_ofNat_of_zero_le (show 0 ≤ size by omega)
    by_cases t2 : most < 0
    · have HE : Hid (each b sz most = ([], 1)) := by show _ = _; unfold each; rw [if_pos (.inr t2)]
      have hd2 : decide (most < 0) = true := decide_eq_true t2
      rw [HE.out]
      clear h h1 h2 hbl hm
      go_enter Try.func22, Try.ntmps22
      go_wp2
      go_ret2
      exact ⟨_, rfl, RO.nil_ _ _, Below.refl _ _⟩
    · obtain ⟨mo, rfl⟩ := Int.eq_ofNat_of_zero_le (show 0 ≤ most by omega)
      have hd2 : decide ((mo : Int) < 0) = false := decide_eq_false t2
      have hsz : 1 ≤ sz := by omega
      have e0 : each b sz mo = if b.length % sz ≠ 0 then ([], 4) else if (mo : Int) < ((b.length / sz : Nat) : Int) then ([], 6) else (pieces sz (b.length / sz) b, 0) := by
        unfold each
        rw [if_neg (by omega), Int.toNat_natCast]
      obtain ⟨r, hr⟩ : ∃ r, r = b.length % sz := ⟨_, rfl⟩
      obtain ⟨K, hK⟩ : ∃ r, r = b.length / sz := ⟨_, rfl⟩
      rw [← hr, ← hK] at e0
      have er : ((b.length : Int) % (sz : Int)) = (r : Int) := by rw [hr]; simp
      have ek : ((b.length : Int) / (sz : Int)) = (K : Int) := by rw [hK]; simp
      by_cases t3 : r = 0
      · rw [if_neg (by omega)] at e0
        by_cases t4 : (mo : Int) < (K : Int)
        · have HE : Hid (each b sz mo = ([], 6)) := by show _ = _; rw [e0, if_pos t4]
          have hd4 : decide ((mo : Int) < (K : Int)) = true := decide_eq_true t4
          have hd3 : ((r : Int) != 0) = false := by simp; omega
          have hKl : K < 1000000000 := by have : K ≤ b.length := by rw [hK]; exact Nat.div_le_self _ _
                                          omega
          rw [HE.out]
          clear h h1 h2 hbl hm e0 hr hK t3
          generalize b.length = M at *
          go_enter Try.func22, Try.ntmps22
          go_wp2
          go_ret2
          exact ⟨_, rfl, RO.nil_ _ _, Below.refl _ _⟩
        · have HE : Hid (each b sz mo = (pieces sz K b, 0)) := by show _ = _; rw [e0, if_neg t4]
          rw [HE.out]
          have hKs : b.length = K * sz := by
            have := Nat.div_add_mod b.length sz
            rw [← hr, ← hK, t3, Nat.add_zero, Nat.mul_comm] at this
            exact this.symm
          refine (callsIn_wide (n := 3)).1 ?_
          by_cases hK0 : 0 < K
          · have hne : b ≠ [] := by
              intro e
              rw [e, List.length_nil] at hKs
              have := Nat.mul_pos hK0 hsz
              omega
            obtain ⟨rb, off, rfl⟩ := BV.at2 h hne
            exact each_walk _ c sz K b.length mo rb off b w h rfl (fun _ => rfl) hsz hKs (by omega) (by omega) hbl h1 h2
          · exact each_walk A c sz K b.length mo 0 0 b w h rfl (fun h => absurd h hK0) hsz hKs (by omega) (by omega) hbl h1 h2
      · have HE : Hid (each b sz mo = ([], 4)) := by show _ = _; rw [e0, if_pos t3]
        have hd3 : ((r : Int) != 0) = true := by simp; omega
        have hd3' : ((r : Int) == 0) = false := by simp; omega
        rw [HE.out]
        clear h h1 h2 hbl hm e0 hr hK t3
        generalize b.length = M at *
        go_enter Try.func22, Try.ntmps22
        go_wp2
        go_ret2
        exact ⟨_, rfl, RO.nil_ _ _, Below.refl _ _⟩
end Go.Proofs.Ytamfceklddbldaa
