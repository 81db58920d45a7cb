/- Words for memory: a slice read as a list; appends (turned from the seat of layer 1). -/
import Derived.Test.YtfagmjlgpfnniaaDoorBlock
import Derived.Maps.AppendAt
namespace Go.Proofs.YtfagmjlgpfnniaaDoor
open Go.RowKit
/-- A slice value of n one-cell elements whose first cells are xs, in a block from lo on. -/
def Sl (w : World) (lo : Nat) (v : Value) (xs : List Value) : Prop :=
  ∃ A c, v = .slice A xs.length c ∧ xs.length ≤ c ∧ c ≤ maxLen ∧ (xs ≠ [] → ∃ b off, A = some ⟨b, off, none⟩ ∧ lo ≤ b ∧ ∀ j u, xs[j]? = some u → w.cell? ⟨b, off + j, none⟩ = some u)
theorem blk_lt {w : World} {b o : Nat} {u : Value} (h : w.cell? ⟨b, o, none⟩ = some u) : b < w.heap.size := World.block_lt_of_cell? w _ h

theorem Sl.below {w w' : World} {B lo : Nat} {v : Value} {xs : List Value} (h : Sl w lo v xs) (hb : Below B w w') (hB : w.heap.size ≤ B) : Sl w' lo v xs := by
  obtain ⟨A, c, rfl, h1, h2, h3⟩ := h
  refine ⟨A, c, rfl, h1, h2, fun hne => ?_⟩
  obtain ⟨b, off, e, hlo, hc⟩ := h3 hne
  exact ⟨b, off, e, hlo, fun j u hu => by
    have := hc j u hu
    rw [hb.cell (p := ⟨b, off + j, none⟩) (Nat.lt_of_lt_of_le (blk_lt this) hB)]; exact this⟩
theorem Sl.lower {w : World} {lo lo' : Nat} {v : Value} {xs : List Value} (h : Sl w lo v xs) (hl : lo' ≤ lo) : Sl w lo' v xs := by
  obtain ⟨A, c, rfl, h1, h2, h3⟩ := h
  refine ⟨A, c, rfl, h1, h2, fun hne => ?_⟩
  obtain ⟨b, off, e, hlo, hc⟩ := h3 hne
  exact ⟨b, off, e, by omega, hc⟩
theorem Sl.alloc {w : World} {lo : Nat} {v : Value} {xs : List Value} (h : Sl w lo v xs) (o : Obj) : Sl (w.alloc o) lo v xs := h.below ((Below.refl _ w).alloc (Nat.le_refl _) o) (Nat.le_refl _)
theorem Sl.drewN {w : World} {lo : Nat} {v : Value} {xs : List Value} (h : Sl w lo v xs) (n : Nat) : Sl (w.drewN n) lo v xs := h
theorem Sl.nil_ (w : World) (lo : Nat) : Sl w lo (.slice none 0 0) [] := ⟨none, 0, rfl, Nat.le_refl _, Nat.zero_le _, fun h => absurd rfl h⟩
/-- Out of an owned row. -/
theorem Sl.own {w : World} {lo : Nat} {e : TypeId} {v : Value} {n : Nat} {xs : List Value} (h : w.ownsRow lo e 1 v n xs) : Sl w lo v xs := by
  obtain ⟨hl, h⟩ := h
  rw [Nat.mul_one] at hl
  rcases h with ⟨rfl, rfl⟩ | ⟨g, cap, cur, rfl, hg, hh, h1, h2, h3, h4⟩
  · obtain rfl : xs = [] := List.eq_nil_of_length_eq_zero hl
    exact Sl.nil_ w lo
  · refine ⟨some ⟨g, 0, none⟩, cap, by rw [hl], by omega, h2, fun _ => ⟨g, 0, rfl, hg, fun j u hu => ?_⟩⟩
    rw [cell_of_row w g (0 + j) cur e (0, 0) hh]
    rw [← h4, List.getElem?_take] at hu
    split at hu
    · simpa using hu
    · cases hu
/-- A byte at a place. -/
theorem Sl.at_ {w : World} {lo : Nat} {v : Value} {xs : List Value} (h : Sl w lo v xs) (hne : xs ≠ []) : ∃ b off c, v = .slice (some ⟨b, off, none⟩) xs.length c ∧ lo ≤ b ∧ xs.length ≤ c ∧ c ≤ maxLen ∧ ∀ j u, xs[j]? = some u → w.cell? ⟨b, off + j, none⟩ = some u := by
  obtain ⟨A, c, rfl, h1, h2, h3⟩ := h
  obtain ⟨b, off, rfl, hlo, hc⟩ := h3 hne
  exact ⟨b, off, c, rfl, hlo, h1, h2, hc⟩
/-- Where the value lies behind an append. -/
def Moves (w : World) (v v' : Value) : Prop := v'.ownBlock = v.ownBlock ∨ ∃ k, w.heap.size ≤ k ∧ v'.ownBlock = some k
theorem Moves.refl (w : World) (v : Value) : Moves w v v := .inl rfl
theorem Moves.trans {w w' : World} {a b c : Value} (h : Moves w a b) (h' : Moves w' b c) (hw : w.heap.size ≤ w'.heap.size) : Moves w a c := by
  rcases h' with h' | ⟨k, hk, h'⟩
  · rcases h with h | ⟨k, hk, h⟩
    · exact .inl (h'.trans h)
    · exact .inr ⟨k, hk, h'.trans h⟩
  · exact .inr ⟨k, by omega, h'⟩

section
variable {P : Program} (w : World)
theorem run_append_nil_src (base : Nat) (t ty e : TypeId) (i : TypeInfo) (size : Nat) (ht : P.underlying t = some (.slice e)) (hi : P.info? e = some i)
    (v : Value) (n : Nat) (xs : List Value) (hown : w.ownsRow base e size v n xs) (c : Nat) : (Builtin.append_ #[t, t] ty #[v, .slice none 0 c]).run P w = .ok v w := by
  rcases hown.2 with ⟨rfl, rfl⟩ | ⟨g, cap, cur, rfl, _, _, hnc, _⟩
  · simp [Builtin.append_, run_underlying ht, sizeOf, typeInfo, hi, Builtin.lenOf, Builtin.firstCells]
  · simp [Builtin.append_, run_underlying ht, sizeOf, typeInfo, hi, Builtin.lenOf, Builtin.firstCells, hnc, storeCells]

theorem run_append_sl (base lo : Nat) (t ty e : TypeId) (i : TypeInfo) (z : Value) (bytes : Nat) (ht : P.underlying t = some (.slice e)) (hi : P.info? e = some i) (hz : i.zero = some z)
    (hsize : i.size = 1) (hby : i.bytes = bytes) (hzs : z.cells.size = 1)
    (v : Value) (n : Nat) (xs : List Value) (hown : w.ownsRow base e 1 v n xs) (x : Value) (news : List Value) (hx : Sl w lo x news) (h1 : ∀ u ∈ news, u.oneCell' = true)
    (h63 : n + news.length ≤ maxLen) (hbytes : (n + news.length) * bytes ≤ 140737488355328) (hbase : base ≤ w.heap.size) :
    ∃ v' w', (Builtin.append_ #[t, t] ty #[v, x]).run P w = .ok v' w' ∧ w'.ownsRow base e 1 v' (n + news.length) (xs ++ news) ∧ w.grownBy w' v.ownBlock ∧ Moves w v v' := by
  obtain ⟨A, c, rfl, _, _, h3⟩ := hx
  rcases A with _ | ad
  · have hn : news = [] := by
      cases news with
      | nil => rfl
      | cons u r => obtain ⟨b, off, e, _⟩ := h3 (by simp); cases e
    subst hn
    exact ⟨v, w, run_append_nil_src w base t ty e i 1 ht hi v n xs hown c, by simpa using hown, World.grownBy.refl w _, .inl rfl⟩
  · have hcells : ∀ j u, news[j]? = some u → w.cell? (ad.add j) = some u := by
      intro j u hu
      obtain ⟨b, off, e, _, hc⟩ := h3 (by rintro rfl; simp at hu)
      injection e with e
      subst e
      rw [show (⟨b, off, none⟩ : Addr).add j = ⟨b, off + j, none⟩ from by unfold Addr.add; split <;> simp_all]
      exact hc j u hu
    obtain ⟨v', w', hrun, h2, h3, _, h5⟩ := run_append_own_at (P := P) w base t ty e i z 1 bytes ht hi hz hsize hby hzs (by omega) v n xs hown ad news.length c news (by simp) hcells h1 h63 hbytes hbase
    refine ⟨v', w', hrun, h2, h3, ?_⟩
    rcases h5 with h5 | h5
    · exact .inl h5
    · exact .inr ⟨_, Nat.le_refl _, h5⟩

theorem wpList_append_sl {ops : Array Oper} {rest : List Oper} {o : Oper} {a : Act} {Q : Exit → Act → World → Prop} (hgd : o.guard = none) (s y : Operand) (t : TypeId)
    (ho : o.op = .call { callee := .builtin .append, args := #[s, y], argTypes := #[t, t] })
    (base lo : Nat) (e : TypeId) (i : TypeInfo) (z : Value) (bytes : Nat) (ht : P.underlying t = some (.slice e)) (hi : P.info? e = some i) (hz : i.zero = some z)
    (hsize : i.size = 1) (hby : i.bytes = bytes) (hzs : z.cells.size = 1)
    (v : Value) (n : Nat) (xs : List Value) (hs : a.eval s = v) (hown : w.ownsRow base e 1 v n xs) (x : Value) (news : List Value) (hy : a.eval y = x) (hx : Sl w lo x news) (h1 : ∀ u ∈ news, u.oneCell' = true)
    (h63 : n + news.length ≤ maxLen) (hbytes : (n + news.length) * bytes ≤ 140737488355328) (hbase : base ≤ w.heap.size)
    (h : ∀ v' w', w'.ownsRow base e 1 v' (n + news.length) (xs ++ news) → w.grownBy w' v.ownBlock → Moves w v v' → wpList P ops Q rest (a.put o.dst v') w') : wpList P ops Q (o :: rest) a w := by
  refine wpList_plain hgd fun K hK => ?_
  obtain ⟨v', w', hr, h2, h3, h4⟩ := run_append_sl (P := P) w base lo t o.type e i z bytes ht hi hz hsize hby hzs v n xs hown x news hx h1 h63 hbytes hbase
  unfold Oper.wp execOp
  simp only [ho, resolve, invoke, builtin, Sem.run_bind, Sem.run_pure, Result.andThen_ok, List.map_toArray, List.map_cons, List.map_nil, hs, hy, hr]
  exact hK _ _ (h v' w' h2 h3 h4)
end


/-- Numbers as values. -/
def u64s (l : List Nat) : List Value := l.map fun x => .int .u64 (x : Nat)
theorem u64s_length (l : List Nat) : (u64s l).length = l.length := by simp [u64s]
theorem u64s_get (l : List Nat) (i : Nat) (h : i < l.length) : (u64s l)[i]? = some (.int .u64 (l.getD i 0 : Nat)) := by simp [u64s, h]
theorem u64s_one (l : List Nat) : ∀ u ∈ u64s l, u.oneCell' = true := by
  intro u hu; obtain ⟨x, _, rfl⟩ := List.mem_map.1 hu; rfl
theorem u64s_set (l : List Nat) (i x : Nat) : (u64s l).set i (.int .u64 (x : Nat)) = u64s (l.set i x) := by simp [u64s, List.map_set]
theorem Tryd.info_u64 : (Tryd.prog.info? 22).map (fun i => (i.zero, i.size, i.bytes)) = some (some (.int .u64 0), 1, 8) := by kernel_rfl
/-- Numbers in a row of the call's own. -/
def OL (w : World) (B : Nat) (v : Value) (l : List Nat) : Prop := w.ownsRow B 22 1 v l.length (u64s l)
theorem OL.sl {w : World} {B : Nat} {v : Value} {l : List Nat} (h : OL w B v l) : Sl w B v (u64s l) := Sl.own h
theorem OL.mk {w : World} {B n : Nat} {v : Value} {l : List Nat} {xs : List Value} (h : w.ownsRow B 22 1 v n xs) (hn : n = l.length) (hx : xs = u64s l) : OL w B v l := by subst hn hx; exact h
end Go.Proofs.YtfagmjlgpfnniaaDoor
