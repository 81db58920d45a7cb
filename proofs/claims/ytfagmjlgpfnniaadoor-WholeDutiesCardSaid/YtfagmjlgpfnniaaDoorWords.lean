/- Words for memory: rows of numbers, blocks known whole. -/
import Derived.Test.YtfagmjlgpfnniaaDoorMix1
import Derived.Laws.Rows
import Derived.Laws.CopyOwn
import Derived.WalkMore
namespace Go.Proofs.YtfagmjlgpfnniaaDoor
open Go.RowKit

/-- Cells that hold numbers. -/
def Row (w : World) (b o n : Nat) (k : IntKind) (f : Nat → Nat) : Prop := ∀ i, i < n → w.cell? ⟨b, o + i, none⟩ = some (.int k (f i : Nat))
/-- n numbers as values. -/
def nums (k : IntKind) (f : Nat → Nat) (n : Nat) : List Value := (List.range n).map fun i => .int k (f i : Nat)
theorem nums_length (k : IntKind) (f : Nat → Nat) (n : Nat) : (nums k f n).length = n := by simp [nums]
theorem nums_get (k : IntKind) (f : Nat → Nat) (n i : Nat) (h : i < n) : (nums k f n)[i]? = some (.int k (f i : Nat)) := by simp [nums, h]
theorem nums_none (k : IntKind) (f : Nat → Nat) (n i : Nat) (h : n ≤ i) : (nums k f n)[i]? = none := by simp [nums, h]
theorem nums_mem {k : IntKind} {f : Nat → Nat} {n : Nat} : ∀ v ∈ nums k f n, v.oneCell' = true := by
  intro v hv
  obtain ⟨i, _, rfl⟩ := List.mem_map.1 hv
  rfl
/-- A block known whole. -/
def Blk (w : World) (g : Nat) (T : TypeId) (L : List Value) : Prop := w.heap[g]? = some (.cells L.toArray T (0, 0))
theorem Blk.cell {w : World} {g : Nat} {T : TypeId} {L : List Value} (h : Blk w g T L) (i : Nat) : w.cell? ⟨g, i, none⟩ = L[i]? := by
  unfold Blk at h
  simp [World.cell?, h]
theorem Blk.frozen {w : World} {g : Nat} {T : TypeId} {L : List Value} (h : Blk w g T L) (i : Nat) : w.frozen? ⟨g, i, none⟩ = false := by
  unfold Blk at h
  simp [World.frozen?, h]
theorem Blk.lt {w : World} {g : Nat} {T : TypeId} {L : List Value} (h : Blk w g T L) : g < w.heap.size := by
  rcases Nat.lt_or_ge g w.heap.size with h' | h'
  · exact h'
  · unfold Blk at h; rw [Array.getElem?_eq_none h'] at h; cases h
theorem Blk.new (w : World) (T : TypeId) (L : List Value) : Blk (w.alloc (.cells L.toArray T)) w.heap.size T L := by
  show (w.heap.push _)[w.heap.size]? = _
  simp
theorem Blk.below {w w' : World} {g B : Nat} {T : TypeId} {L : List Value} (h : Blk w g T L) (hb : Below B w w') (hg : g < B) : Blk w' g T L := (hb.block g hg).trans h
theorem Blk.alloc {w : World} {g : Nat} {T : TypeId} {L : List Value} (h : Blk w g T L) (o : Obj) : Blk (w.alloc o) g T L := h.below ((Below.refl _ w).alloc (Nat.le_refl _) o) h.lt
theorem Blk.drewN {w : World} {g : Nat} {T : TypeId} {L : List Value} (h : Blk w g T L) (n : Nat) : Blk (w.drewN n) g T L := h
theorem Blk.drew {w : World} {g : Nat} {T : TypeId} {L : List Value} (h : Blk w g T L) : Blk w.drew g T L := h
theorem Blk.set {w : World} {g : Nat} {T : TypeId} {L : List Value} (h : Blk w g T L) (i : Nat) (v : Value) : Blk (w.setCell ⟨g, i, none⟩ v) g T (L.set i v) := by
  unfold Blk at h ⊢
  simp [World.setCell, Array.getElem?_modify, h]
theorem Blk.setOther {w : World} {g : Nat} {T : TypeId} {L : List Value} (h : Blk w g T L) (a : Addr) (v : Value) (ha : a.block ≠ g) : Blk (w.setCell a v) g T L := by
  unfold Blk at h ⊢
  rw [← h]
  simp [World.setCell, Array.getElem?_modify, ha]
theorem Blk.setRow {w : World} {g : Nat} {T : TypeId} {L : List Value} (h : Blk w g T L) (L' : List Value) : Blk (w.setRow g L'.toArray) g T L' := setRow_heap w g _ L'.toArray T _ h
theorem Blk.upd {w w' : World} {hb lo hi g : Nat} {T : TypeId} {L : List Value} (h : Blk w g T L) (hu : Upd hb lo hi w w') (hg : g ≠ hb) : Blk w' g T L := (hu.block g h.lt hg).trans h
theorem Row.blk {w : World} {g o n : Nat} {T : TypeId} {L : List Value} {k : IntKind} {f : Nat → Nat} (h : Blk w g T L) (hL : ∀ i, i < n → L[o + i]? = some (.int k (f i : Nat))) : Row w g o n k f := fun i hi => by rw [h.cell]; exact hL i hi
theorem Row.below {w w' : World} {b o n B : Nat} {k : IntKind} {f : Nat → Nat} (h : Row w b o n k f) (hb : Below B w w') (hg : b < B) : Row w' b o n k f := fun i hi => by rw [hb.cell (p := ⟨b, o + i, none⟩) hg]; exact h i hi
theorem Row.lt {w : World} {b o n : Nat} {k : IntKind} {f : Nat → Nat} (h : Row w b o n k f) (hn : 0 < n) : b < w.heap.size := World.block_lt_of_cell? w _ (h 0 hn)
theorem Row.alloc {w : World} {b o n : Nat} {k : IntKind} {f : Nat → Nat} (h : Row w b o n k f) (hn : 0 < n) (ob : Obj) : Row (w.alloc ob) b o n k f := h.below ((Below.refl _ w).alloc (Nat.le_refl _) ob) (h.lt hn)
theorem Row.drewN {w : World} {b o n : Nat} {k : IntKind} {f : Nat → Nat} (h : Row w b o n k f) (m : Nat) : Row (w.drewN m) b o n k f := h
theorem Row.upd {w w' : World} {hb lo hi b o n : Nat} {k : IntKind} {f : Nat → Nat} (h : Row w b o n k f) (hn : 0 < n) (hu : Upd hb lo hi w w') (hg : b ≠ hb) : Row w' b o n k f := fun i hi => by rw [hu.other (p := ⟨b, o + i, none⟩) (h.lt hn) hg]; exact h i hi

/-- The hash's two tables. -/
def startF (i : Nat) : Nat := [1779033703, 3144134277, 1013904242, 2773480762, 1359893119, 2600822924, 528734635, 1541459225].getD i 0
def roundF (i : Nat) : Nat := [1116352408, 1899447441, 3049323471, 3921009573, 961987163, 1508970993, 2453635748, 2870763221, 3624381080, 310598401, 607225278, 1426881987, 1925078388, 2162078206, 2614888103, 3248222580, 3835390401, 4022224774, 264347078, 604807628, 770255983, 1249150122, 1555081692, 1996064986, 2554220882, 2821834349, 2952996808, 3210313671, 3336571891, 3584528711, 113926993, 338241895, 666307205, 773529912, 1294757372, 1396182291, 1695183700, 1986661051, 2177026350, 2456956037, 2730485921, 2820302411, 3259730800, 3345764771, 3516065817, 3600352804, 4094571909, 275423344, 430227734, 506948616, 659060556, 883997877, 958139571, 1322822218, 1537002063, 1747873779, 1955562222, 2024104815, 2227730452, 2361852424, 2428436474, 2756734187, 3204031479, 3329325298].getD i 0
theorem getD_lt (l : List Nat) (b i : Nat) (h : ∀ x ∈ l, x < b) (hb : 0 < b) : l.getD i 0 < b := by
  rw [List.getD_eq_getElem?_getD]
  rcases Nat.lt_or_ge i l.length with h' | h'
  · rw [List.getElem?_eq_getElem h']; exact h _ (List.getElem_mem h')
  · rw [List.getElem?_eq_none h']; exact hb
theorem startF_lt (i : Nat) : startF i < 4294967296 := getD_lt _ _ _ (by decide) (by decide)
theorem roundF_lt (i : Nat) : roundF i < 4294967296 := getD_lt _ _ _ (by decide) (by decide)
/-- The tables lie where the program's variables are. -/
structure Tab (w : World) : Prop where
  start : Row w 0 0 8 .u32 startF
  round : Row w 1 0 64 .u32 roundF
  size : 2 ≤ w.heap.size
theorem Tab.below {w w' : World} {B : Nat} (h : Tab w) (hb : Below B w w') (h2 : 2 ≤ B) : Tab w' :=
  ⟨h.start.below hb (by omega), h.round.below hb (by omega), Nat.le_trans h.size hb.size⟩
theorem Tab.alloc {w : World} (h : Tab w) (o : Obj) : Tab (w.alloc o) := h.below ((Below.refl _ w).alloc (Nat.le_refl _) o) h.size
theorem Tab.drewN {w : World} (h : Tab w) (n : Nat) : Tab (w.drewN n) := ⟨h.start, h.round, h.size⟩
theorem Tab.upd {w w' : World} {hb lo hi : Nat} (h : Tab w) (hu : Upd hb lo hi w w') (h2 : 2 ≤ hb) : Tab w' :=
  ⟨h.start.upd (by omega) hu (by omega), h.round.upd (by omega) hu (by omega), Nat.le_trans h.size hu.size⟩
/-- A number of bytes as one value. -/
def bytesV (f : Nat → Nat) (n : Nat) : Value := .agg (nums .u8 f n).toArray
end Go.Proofs.YtfagmjlgpfnniaaDoor
