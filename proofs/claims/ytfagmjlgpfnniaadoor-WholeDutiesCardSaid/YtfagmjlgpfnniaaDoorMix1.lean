/- sha: mix: what a store into a part of one block turns. -/
import Derived.Test.YtfagmjlgpfnniaaDoorSha1
import Derived.StillTailTactics
import Derived.Laws.NewBlocks
namespace Go.Proofs.YtfagmjlgpfnniaaDoor
open Go.RowKit

theorem drewN_drew' (w : World) (n : Nat) : (w.drewN n).drew = w.drewN (n + 1) := rfl
theorem drew_alloc (w : World) (o : Obj) (n : Nat) : ((w.drewN n).alloc o).drew = (w.drewN (n + 1)).alloc o := rfl
/-- Of what was there, the cells from lo to hi of block hb alone may have turned. -/
structure Upd (hb lo hi : Nat) (w w' : World) : Prop where
  os : w'.os = w.os
  tape : w'.tape = w.tape
  output : w'.output = w.output
  size : w.heap.size ≤ w'.heap.size
  block : ∀ k, k < w.heap.size → k ≠ hb → w'.heap[k]? = w.heap[k]?
  cell : ∀ i, i < lo ∨ hi ≤ i → w'.cell? ⟨hb, i, none⟩ = w.cell? ⟨hb, i, none⟩
  frozen : ∀ i, w'.frozen? ⟨hb, i, none⟩ = w.frozen? ⟨hb, i, none⟩
  row : ∀ C t fr, w.heap[hb]? = some (.cells C t fr) → ∃ C', w'.heap[hb]? = some (.cells C' t fr) ∧ C'.size = C.size
theorem Upd.refl (hb lo hi : Nat) (w : World) : Upd hb lo hi w w := ⟨rfl, rfl, rfl, Nat.le_refl _, fun _ _ _ => rfl, fun _ _ => rfl, fun _ => rfl, fun C _ _ h => ⟨C, h, rfl⟩⟩
theorem Upd.trans {hb lo hi : Nat} {a b c : World} (h : Upd hb lo hi a b) (k : Upd hb lo hi b c) : Upd hb lo hi a c :=
  ⟨k.os.trans h.os, k.tape.trans h.tape, k.output.trans h.output, Nat.le_trans h.size k.size, fun i hi hn => (k.block i (Nat.lt_of_lt_of_le hi h.size) hn).trans (h.block i hi hn),
    fun i hi => (k.cell i hi).trans (h.cell i hi), fun i => (k.frozen i).trans (h.frozen i),
    fun C t fr e => by obtain ⟨C1, e1, s1⟩ := h.row C t fr e; obtain ⟨C2, e2, s2⟩ := k.row C1 t fr e1; exact ⟨C2, e2, s2.trans s1⟩⟩
theorem Upd.wide {hb lo hi lo' hi' : Nat} {a b : World} (h : Upd hb lo hi a b) (h1 : lo' ≤ lo) (h2 : hi ≤ hi') : Upd hb lo' hi' a b :=
  ⟨h.os, h.tape, h.output, h.size, h.block, fun i hi => h.cell i (by omega), h.frozen, h.row⟩
theorem Upd.of {hb lo hi : Nat} {w w' : World} (h : Below w.heap.size w w') (hb' : hb < w.heap.size) : Upd hb lo hi w w' :=
  ⟨h.os, h.tape, h.output, h.size, fun k hk _ => h.block k hk, fun _ _ => h.cell hb', fun _ => h.frozen hb', fun C _ _ e => ⟨C, (h.block hb hb').trans e, rfl⟩⟩
theorem Upd.drew {hb lo hi : Nat} {a w : World} (h : Upd hb lo hi a w) : Upd hb lo hi a w.drew := h.trans ⟨rfl, rfl, rfl, Nat.le_refl _, fun _ _ _ => rfl, fun _ _ => rfl, fun _ => rfl, fun C _ _ h => ⟨C, h, rfl⟩⟩
theorem Upd.setCell {hb lo hi : Nat} {a w : World} (h : Upd hb lo hi a w) (o : Nat) (v : Value) (h1 : lo ≤ o) (h2 : o < hi) : Upd hb lo hi a (w.setCell ⟨hb, o, none⟩ v) :=
  h.trans ⟨rfl, rfl, rfl, by simp [World.setCell], fun k _ hn => Below.heap_setCell _ _ _ _ hn,
    fun i hi => World.cell?_setCell_other _ _ _ _ (by intro e; injection e with _ e2; omega), fun i => World.frozen?_setCell _ _ _ _, fun C t fr e => ⟨C.setIfInBounds o v, by simp [World.setCell, Array.getElem?_modify, e], by simp⟩⟩
/-- Where the block is a new one, all that was there stands. -/
theorem Upd.below {hb lo hi B : Nat} {w w' : World} (h : Upd hb lo hi w w') (hB : B ≤ w.heap.size) (hn : B ≤ hb) : Below B w w' :=
  ⟨h.os, h.tape, h.output, h.size, fun k hk => h.block k (by omega) (by omega)⟩
theorem Upd.other {hb lo hi : Nat} {w w' : World} (h : Upd hb lo hi w w') {p : Addr} (h1 : p.block < w.heap.size) (h2 : p.block ≠ hb) : w'.cell? p = w.cell? p := World.cell?_of_block (w := w) (h.block p.block h1 h2)
theorem drewN_alloc (w : World) (n N : Nat) (o : Obj) : (((w.drewN n).alloc o).drewN N) = (w.drewN (n + N)).alloc o := by
  show ({ heap := w.heap.push _, tape := w.tape, drawn := w.drawn + n + N, os := w.os, output := w.output } : World) = { heap := w.heap.push _, tape := w.tape, drawn := w.drawn + (n + N), os := w.os, output := w.output }
  rw [Nat.add_assoc]
theorem mix_world (w : World) (n N i : Nat) (arr : Array Value) (t : TypeId) (v : Value) :
    (((w.drewN n).alloc (.cells arr t)).drewN N).setCell ⟨w.heap.size, i, none⟩ v = (w.drewN (n + N)).alloc (.cells (arr.setIfInBounds i v) t) := by
  have e : (((w.drewN n).alloc (.cells arr t)).drewN N) = (w.drewN (n + N)).alloc (.cells arr t) := by
    show ({ heap := w.heap.push _, tape := w.tape, drawn := w.drawn + n + N, os := w.os, output := w.output } : World) = { heap := w.heap.push _, tape := w.tape, drawn := w.drawn + (n + N), os := w.os, output := w.output }
    rw [Nat.add_assoc]
  rw [e]
  exact World.setCell_alloc_new (w := w.drewN (n + N)) _ _ _ _
end Go.Proofs.YtfagmjlgpfnniaaDoor
