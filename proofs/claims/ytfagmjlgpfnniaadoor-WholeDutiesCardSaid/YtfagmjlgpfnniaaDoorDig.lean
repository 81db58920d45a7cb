/- The digest in memory; New. -/
import Derived.Test.YtfagmjlgpfnniaaDoorMix3
import Derived.Test.YtfagmjlgpfnniaaDoorRoot
import Derived.Handy
import Derived.Deep.WholeRow
namespace Go.Proofs.YtfagmjlgpfnniaaDoor
open Go.RowKit

/-- Of what was there, block g alone may have turned. -/
structure Only (g : Nat) (w w' : World) : Prop where
  os : w'.os = w.os
  tape : w'.tape = w.tape
  output : w'.output = w.output
  size : w.heap.size ≤ w'.heap.size
  block : ∀ k, k < w.heap.size → k ≠ g → w'.heap[k]? = w.heap[k]?
theorem Only.refl (g : Nat) (w : World) : Only g w w := ⟨rfl, rfl, rfl, Nat.le_refl _, fun _ _ _ => rfl⟩
theorem Only.trans {g : Nat} {a b c : World} (h : Only g a b) (k : Only g b c) : Only g a c :=
  ⟨k.os.trans h.os, k.tape.trans h.tape, k.output.trans h.output, Nat.le_trans h.size k.size, fun i hi hn => (k.block i (Nat.lt_of_lt_of_le hi h.size) hn).trans (h.block i hi hn)⟩
theorem Upd.only {g lo hi : Nat} {w w' : World} (h : Upd g lo hi w w') : Only g w w' := ⟨h.os, h.tape, h.output, h.size, h.block⟩
theorem Only.of {g B : Nat} {w w' : World} (h : Below B w w') (hB : w.heap.size ≤ B) : Only g w w' := ⟨h.os, h.tape, h.output, h.size, fun k hk _ => h.block k (by omega)⟩
theorem Only.below {g B : Nat} {w w' : World} (h : Only g w w') (hB : B ≤ w.heap.size) (hn : B ≤ g) : Below B w w' := ⟨h.os, h.tape, h.output, h.size, fun k hk => h.block k (by omega) (by omega)⟩
theorem Only.drewN {g : Nat} {a w : World} (h : Only g a w) (n : Nat) : Only g a (w.drewN n) := h.trans ⟨rfl, rfl, rfl, Nat.le_refl _, fun _ _ _ => rfl⟩
theorem Only.drew {g : Nat} {a w : World} (h : Only g a w) : Only g a w.drew := h.drewN 1
theorem Only.alloc {g : Nat} {a w : World} (h : Only g a w) (o : Obj) : Only g a (w.alloc o) := h.trans (Only.of ((Below.refl _ w).alloc (Nat.le_refl _) o) (Nat.le_refl _))
theorem Only.setCell {g : Nat} {a w : World} (h : Only g a w) (o : Nat) (v : Value) : Only g a (w.setCell ⟨g, o, none⟩ v) :=
  h.trans ⟨rfl, rfl, rfl, by simp [World.setCell], fun k _ hn => Below.heap_setCell _ _ _ _ hn⟩
theorem Only.setRow {g : Nat} {a w : World} (h : Only g a w) (c : Array Value) : Only g a (w.setRow g c) :=
  h.trans ⟨rfl, rfl, rfl, by simp, fun k _ hn => setRow_other w g k c (by omega)⟩
theorem Blk.only {w w' : World} {h g : Nat} {T : TypeId} {L : List Value} (b : Blk w g T L) (ho : Only h w w') (hn : g ≠ h) : Blk w' g T L := (ho.block g b.lt hn).trans b
theorem Only.cell {g : Nat} {w w' : World} (h : Only g w w') {p : Addr} (h1 : p.block < w.heap.size) (h2 : p.block ≠ g) : w'.cell? p = w.cell? p := World.cell?_of_block (w := w) (h.block p.block h1 h2)
theorem Row.only {w w' : World} {g b o n : Nat} {k : IntKind} {f : Nat → Nat} (h : Row w b o n k f) (hn : 0 < n) (hu : Only g w w') (hg : b ≠ g) : Row w' b o n k f := fun i hi => by rw [hu.cell (p := ⟨b, o + i, none⟩) (h.lt hn) hg]; exact h i hi
theorem Tab.only {w w' : World} {g : Nat} (h : Tab w) (hu : Only g w w') (h2 : 2 ≤ g) : Tab w' :=
  ⟨h.start.only (by omega) hu (by omega), h.round.only (by omega) hu (by omega), Nat.le_trans h.size hu.size⟩

/-- What a copy of bytes into a block known whole leaves. -/
theorem wpList_copy_blk {P : Program} {w : World} {ops : Array Oper} {rest : List Oper} {o : Oper} {a : Act} {Q : Exit → Act → World → Prop} (hgd : o.guard = none) (d s : Operand) (dT sT : TypeId)
    (ho : o.op = .call { callee := .builtin .copy, args := #[d, s], argTypes := #[dT, sT] }) (elem : TypeId) (hu : P.underlying dT = some (.slice elem)) (hsz : (P.info? elem).map (·.size) = some 1)
    (dp sp : Option Addr) (dLen dCap sLen sCap : Nat) (hd : a.eval d = .slice dp dLen dCap) (hs : a.eval s = .slice sp sLen sCap)
    (g off : Nat) (cur : List Value) (T : TypeId) (hg : Blk w g T cur) (f : Nat → Nat) (n : Nat) (hn : n = Nat.min sLen dLen)
    (hpos : 0 < n → dp = some ⟨g, off, none⟩ ∧ ∃ b o, sp = some ⟨b, o, none⟩ ∧ Row w b o n .u8 f)
    (hfit : off + n ≤ cur.length)
    (h : ∀ w', Only g w w' → Blk w' g T (splice cur off (nums .u8 f n)) → w'.heap.size = w.heap.size → wpList P ops Q rest (a.put o.dst (goInt n)) w') :
    wpList P ops Q (o :: rest) a w := by
  by_cases h0 : n = 0
  · subst h0
    refine wpList_copy_nothing hgd d s dT sT ho elem hu hsz dp sp dLen dCap sLen sCap hd hs (by simpa using hn.symm) ?_
    exact h w (Only.refl _ _) (by simpa [splice, nums] using hg) rfl
  · obtain ⟨rfl, b, o', rfl, hsrc⟩ := hpos (by omega)
    refine wpList_copy_own hgd d s dT sT ho elem hu hsz g off dLen dCap ⟨b, o', none⟩ sLen sCap hd hs cur.toArray T hg (nums .u8 f n) (by rw [nums_length]; exact hn) ?_ (by rw [nums_length]; simpa using hfit) nums_mem ?_
    · intro j v hv
      have hj : j < n := by
        rcases Nat.lt_or_ge j n with h | h
        · exact h
        · rw [nums_none _ _ _ _ h] at hv; cases hv
      rw [nums_get _ _ _ _ hj] at hv
      cases hv
      rw [show (⟨b, o', none⟩ : Addr).add j = ⟨b, o' + j, none⟩ from by unfold Addr.add; split <;> simp_all]
      exact hsrc j hj
    · rw [nums_length]
      refine h _ ((Only.refl _ _).setRow _) ?_ (by simp)
      have := hg.setRow (cur.take off ++ (nums .u8 f n ++ cur.drop (off + n)))
      simpa [splice, nums_length] using this

/-- A digest's cells. -/
def digL (H R : Nat → Nat) (n all : Nat) : List Value := nums .u32 H 8 ++ (nums .u8 R 64 ++ [.int .i64 (n : Nat), .int .u64 (all : Nat)])
theorem digL_length (H R : Nat → Nat) (n all : Nat) : (digL H R n all).length = 74 := by simp [digL, nums_length]
theorem digL_h (H R : Nat → Nat) (n all i : Nat) (h : i < 8) : (digL H R n all)[i]? = some (.int .u32 (H i : Nat)) := by
  rw [digL, List.getElem?_append_left (by rw [nums_length]; exact h), nums_get _ _ _ _ h]
theorem digL_r (H R : Nat → Nat) (n all i : Nat) (h : i < 64) : (digL H R n all)[8 + i]? = some (.int .u8 (R i : Nat)) := by
  rw [digL, List.getElem?_append_right (by rw [nums_length]; omega), nums_length, show 8 + i - 8 = i by omega, List.getElem?_append_left (by rw [nums_length]; exact h), nums_get _ _ _ _ h]
theorem digL_n (H R : Nat → Nat) (n all : Nat) : (digL H R n all)[72]? = some (.int .i64 (n : Nat)) := by
  rw [digL, List.getElem?_append_right (by rw [nums_length]; omega), nums_length, List.getElem?_append_right (by rw [nums_length]; omega), nums_length]; rfl
theorem digL_all (H R : Nat → Nat) (n all : Nat) : (digL H R n all)[73]? = some (.int .u64 (all : Nat)) := by
  rw [digL, List.getElem?_append_right (by rw [nums_length]; omega), nums_length, List.getElem?_append_right (by rw [nums_length]; omega), nums_length]; rfl
theorem digL_ext {H R : Nat → Nat} {n all : Nat} {L : List Value} (hl : L.length = 74) (h1 : ∀ i, i < 8 → L[i]? = some (.int .u32 (H i : Nat))) (h2 : ∀ i, i < 64 → L[8 + i]? = some (.int .u8 (R i : Nat)))
    (h3 : L[72]? = some (.int .i64 (n : Nat))) (h4 : L[73]? = some (.int .u64 (all : Nat))) : L = digL H R n all := by
  apply List.ext_getElem?
  intro i
  by_cases e1 : i < 8
  · rw [h1 i e1, digL_h _ _ _ _ _ e1]
  · by_cases e2 : i < 72
    · obtain ⟨j, rfl⟩ : ∃ j, i = 8 + j := ⟨i - 8, by omega⟩
      rw [h2 j (by omega), digL_r _ _ _ _ _ (by omega)]
    · by_cases e3 : i = 72
      · subst e3; rw [h3, digL_n]
      · by_cases e4 : i = 73
        · subst e4; rw [h4, digL_all]
        · rw [List.getElem?_eq_none (by omega), List.getElem?_eq_none (by rw [digL_length]; omega)]
theorem digL_setN (H R : Nat → Nat) (n all m : Nat) : (digL H R n all).set 72 (.int .i64 (m : Nat)) = digL H R m all :=
  digL_ext (by rw [List.length_set, digL_length]) (fun i hi => by rw [List.getElem?_set_ne (by omega), digL_h _ _ _ _ _ hi]) (fun i hi => by rw [List.getElem?_set_ne (by omega), digL_r _ _ _ _ _ hi])
    (by rw [List.getElem?_set_self (by rw [digL_length]; omega)]) (by rw [List.getElem?_set_ne (by omega), digL_all])
theorem digL_setAll (H R : Nat → Nat) (n all m : Nat) : (digL H R n all).set 73 (.int .u64 (m : Nat)) = digL H R n m :=
  digL_ext (by rw [List.length_set, digL_length]) (fun i hi => by rw [List.getElem?_set_ne (by omega), digL_h _ _ _ _ _ hi]) (fun i hi => by rw [List.getElem?_set_ne (by omega), digL_r _ _ _ _ _ hi])
    (by rw [List.getElem?_set_ne (by omega), digL_n]) (by rw [List.getElem?_set_self (by rw [digL_length]; omega)])
/-- Bytes laid over others. -/
def over (R : Nat → Nat) (off : Nat) (B : Nat → Nat) (len : Nat) (i : Nat) : Nat := if off ≤ i ∧ i < off + len then B (i - off) else R i
theorem splice_get (L : List Value) (off : Nat) (cs : List Value) (i : Nat) (h : off + cs.length ≤ L.length) : (splice L off cs)[i]? = if off ≤ i ∧ i < off + cs.length then cs[i - off]? else L[i]? := by
  unfold splice
  by_cases h1 : i < off
  · rw [if_neg (by omega), List.getElem?_append_left (by simp; omega), List.getElem?_take_of_lt h1]
  · rw [List.getElem?_append_right (by simp; omega), List.length_take, Nat.min_eq_left (by omega)]
    by_cases h2 : i < off + cs.length
    · rw [if_pos ⟨by omega, h2⟩, List.getElem?_append_left (by omega)]
    · rw [if_neg (by omega), List.getElem?_append_right (by omega), List.getElem?_drop]
      congr 1
      omega
theorem digL_splice (H R : Nat → Nat) (n all off len : Nat) (B : Nat → Nat) (h : off + len ≤ 64) : splice (digL H R n all) (8 + off) (nums .u8 B len) = digL H (over R off B len) n all := by
  have hl : 8 + off + (nums .u8 B len).length ≤ (digL H R n all).length := by rw [nums_length, digL_length]; omega
  refine digL_ext (by rw [length_splice _ _ _ hl, digL_length]) (fun i hi => ?_) (fun i hi => ?_) ?_ ?_
  · rw [splice_get _ _ _ _ hl, if_neg (by omega), digL_h _ _ _ _ _ hi]
  · rw [splice_get _ _ _ _ hl, nums_length]
    unfold over
    by_cases e : off ≤ i ∧ i < off + len
    · rw [if_pos (by omega), if_pos e, show 8 + i - (8 + off) = i - off by omega, nums_get _ _ _ _ (by omega)]
    · rw [if_neg (by omega), if_neg e, digL_r _ _ _ _ _ hi]
  · rw [splice_get _ _ _ _ hl, nums_length, if_neg (by omega), digL_n]
  · rw [splice_get _ _ _ _ hl, nums_length, if_neg (by omega), digL_all]
theorem over_lt {R B : Nat → Nat} {off len m : Nat} (h1 : ∀ i, R i < m) (h2 : ∀ i, B i < m) (i : Nat) : over R off B len i < m := by
  unfold over; split
  · exact h2 _
  · exact h1 _
/-- A digest in memory. -/
structure Dig (w : World) (p : Nat) (H R : Nat → Nat) (n all : Nat) : Prop where
  blk : Blk w p 100 (digL H R n all)
  hl : ∀ i, H i < 4294967296
  rl : ∀ i, R i < 256
  nl : n < 64
theorem Dig.only {w w' : World} {p g : Nat} {H R : Nat → Nat} {n all : Nat} (h : Dig w p H R n all) (ho : Only g w w') (hg : p ≠ g) : Dig w' p H R n all := ⟨h.blk.only ho hg, h.hl, h.rl, h.nl⟩
theorem Dig.below {w w' : World} {p B : Nat} {H R : Nat → Nat} {n all : Nat} (h : Dig w p H R n all) (hb : Below B w w') (hg : p < B) : Dig w' p H R n all := ⟨h.blk.below hb hg, h.hl, h.rl, h.nl⟩
def NewPost (w : World) (e : Ending) (w' : World) : Prop := e = .returned (.pointer (some ⟨w.heap.size, 0, none⟩)) ∧ w' = w.alloc (.cells (digL startF (fun _ => 0) 0 0).toArray 100)
theorem NewPost.dig {w w' : World} {e : Ending} (h : NewPost w e w') : Dig w' w.heap.size startF (fun _ => 0) 0 0 ∧ Below w.heap.size w w' := by
  obtain ⟨_, rfl⟩ := h
  exact ⟨⟨Blk.new w _ _, startF_lt, fun _ => by omega, by omega⟩, (Below.refl _ w).alloc (Nat.le_refl _) _⟩
set_option maxRecDepth 100000 in
theorem new_any (w : World) (tab : Tab w) : Calls Tryd.prog 21 #[] w (NewPost w) := by
  have c0 : w.cell? ⟨0, 0, none⟩ = some (.int .u32 (startF 0 : Nat)) := tab.start 0 (by omega)
  have c1 : w.cell? ⟨0, 1, none⟩ = some (.int .u32 (startF 1 : Nat)) := tab.start 1 (by omega)
  have c2 : w.cell? ⟨0, 2, none⟩ = some (.int .u32 (startF 2 : Nat)) := tab.start 2 (by omega)
  have c3 : w.cell? ⟨0, 3, none⟩ = some (.int .u32 (startF 3 : Nat)) := tab.start 3 (by omega)
  have c4 : w.cell? ⟨0, 4, none⟩ = some (.int .u32 (startF 4 : Nat)) := tab.start 4 (by omega)
  have c5 : w.cell? ⟨0, 5, none⟩ = some (.int .u32 (startF 5 : Nat)) := tab.start 5 (by omega)
  have c6 : w.cell? ⟨0, 6, none⟩ = some (.int .u32 (startF 6 : Nat)) := tab.start 6 (by omega)
  have c7 : w.cell? ⟨0, 7, none⟩ = some (.int .u32 (startF 7 : Nat)) := tab.start 7 (by omega)
  have z100 : ∀ w, (zeroValue 100).run Tryd.prog w = .ok (.agg #[.int .u32 0, .int .u32 0, .int .u32 0, .int .u32 0, .int .u32 0, .int .u32 0, .int .u32 0, .int .u32 0, .int .u8 0, .int .u8 0, .int .u8 0, .int .u8 0, .int .u8 0, .int .u8 0, .int .u8 0, .int .u8 0, .int .u8 0, .int .u8 0, .int .u8 0, .int .u8 0, .int .u8 0, .int .u8 0, .int .u8 0, .int .u8 0, .int .u8 0, .int .u8 0, .int .u8 0, .int .u8 0, .int .u8 0, .int .u8 0, .int .u8 0, .int .u8 0, .int .u8 0, .int .u8 0, .int .u8 0, .int .u8 0, .int .u8 0, .int .u8 0, .int .u8 0, .int .u8 0, .int .u8 0, .int .u8 0, .int .u8 0, .int .u8 0, .int .u8 0, .int .u8 0, .int .u8 0, .int .u8 0, .int .u8 0, .int .u8 0, .int .u8 0, .int .u8 0, .int .u8 0, .int .u8 0, .int .u8 0, .int .u8 0, .int .u8 0, .int .u8 0, .int .u8 0, .int .u8 0, .int .u8 0, .int .u8 0, .int .u8 0, .int .u8 0, .int .u8 0, .int .u8 0, .int .u8 0, .int .u8 0, .int .u8 0, .int .u8 0, .int .u8 0, .int .u8 0, .int .i64 0, .int .u64 0]) w := (zero_of_info (n := 74) (by kernel_rfl)).1
  go_enter Tryd.func21, Tryd.ntmps21
  go_wp2
  go_ret
  exact ⟨rfl, rfl⟩
end Go.Proofs.YtfagmjlgpfnniaaDoor
