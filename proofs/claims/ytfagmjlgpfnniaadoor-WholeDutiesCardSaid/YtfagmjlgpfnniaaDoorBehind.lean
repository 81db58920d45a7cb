/- Contracts of pick.behind and of a round's block. -/
import Derived.Test.YtfagmjlgpfnniaaDoorSmall
namespace Go.Proofs.YtfagmjlgpfnniaaDoor
open Go.RowKit

/-- The world under a name. -/
theorem wp_world {P : Program} {c : Code} {Q : Exit → Act → World → Prop} {a : Act} {w : World} (h : ∀ W, W = w → c.wp P Q a W) : c.wp P Q a w := h w rfl
/-- A whole value into a block known whole. -/
theorem wpList_store_blk {P : Program} {ops : Array Oper} {rest : List Oper} {o : Oper} {a : Act} {w : World} {Q : Exit → Act → World → Prop} (hgd : o.guard = none) (ty : TypeId) (x y : Operand) (ho : o.op = .store ty x y)
    (g : Nat) (new : List Value) (hx : a.eval x = .pointer (some ⟨g, 0, none⟩)) (hy : a.eval y = .agg new.toArray)
    (T : TypeId) (old : List Value) (hg : Blk w g T old) (n : Nat) (hi : (P.info? ty).map (·.size) = some n) (h1 : old.length = n) (h2 : new.length = n) (h3 : ∀ v ∈ new, v.oneCell' = true)
    (h : ∀ w', Only g w w' → Blk w' g T new → w'.heap.size = w.heap.size → wpList P ops Q rest (a.put o.dst undef) w') : wpList P ops Q (o :: rest) a w :=
  wpList_store_row hgd ty x y ho g new.toArray hx hy T old.toArray hg (by rw [hi]; simp [h2]) (by simp [h1, h2]) (all_oneCell_toArray h3)
    (h _ ((Only.refl _ _).setRow _) (hg.setRow _) (by simp))
/-- A whole value out of a block known whole. -/
theorem wpList_load_blk {P : Program} {ops : Array Oper} {rest : List Oper} {o : Oper} {a : Act} {w : World} {Q : Exit → Act → World → Prop} (hgd : o.guard = none) (ty : TypeId) (x : Operand) (ho : o.op = .load ty x)
    (g : Nat) (hx : a.eval x = .pointer (some ⟨g, 0, none⟩)) (T : TypeId) (L : List Value) (hg : Blk w g T L) (d : TypeDesc)
    (hu : P.underlying ty = some d) (hd : (match d with | .struct _ | .array _ _ => true | _ => false) = true) (n : Nat) (hi : (P.info? ty).map (·.size) = some n) (hl : L.length = n)
    (h : wpList P ops Q rest (a.put o.dst (.agg L.toArray)) w) : wpList P ops Q (o :: rest) a w :=
  wpList_load_row hgd ty x ho g hx T L.toArray (0, 0) d hg hu hd (by rw [hi]; simp [hl]) h
/-- A result that lies in a block known whole. -/
theorem results_blk {P : Program} {fn : Func} {p : Tmp} {ty : TypeId} (h : fn.results = #[.cell p ty]) (tmps : Array Value) (w : World) (g : Nat) (T : TypeId) (L : List Value) (d : TypeDesc)
    (hp : tmps.getD p undef = .pointer (some ⟨g, 0, none⟩)) (hg : Blk w g T L) (hu : P.underlying ty = some d) (hd : (match d with | .struct _ | .array _ _ => true | _ => false) = true) (n : Nat) (hi : (P.info? ty).map (·.size) = some n) (hl : L.length = n) :
    (results fn tmps).run P w = .ok (.agg L.toArray) w :=
  results_cell_row h tmps w g T L.toArray (0, 0) d hp hg hu hd (by rw [hi]; simp [hl])
theorem Dig.blks {w : World} {p : Nat} {H R : Nat → Nat} {n all : Nat} (h : Dig w p H R n all) : p < w.heap.size := h.blk.lt
theorem Tryd.size_8 : (Tryd.prog.info? 79).map (·.size) = some 8 := by kernel_rfl
abbrev zero8 : List Value := [.int .u8 0, .int .u8 0, .int .u8 0, .int .u8 0, .int .u8 0, .int .u8 0, .int .u8 0, .int .u8 0]
def zeroF : Nat → Nat := fun _ => 0
/-- A seed, and a number behind it, hashed. -/
def behindF (S : Nat → Nat) (n : Nat) : Nat → Nat := sumF startF (over (over zeroF 0 S 32) 32 (byteF n) 8) 40 40
theorem behindF_lt (S : Nat → Nat) (n i : Nat) : behindF S n i < 256 := sumF_lt _ _ _ _ _
set_option maxHeartbeats 3200000 in
theorem behind_any (S : Nat → Nat) (hS : ∀ i, S i < 256) (n : Nat) (hn : n < 18446744073709551616) (w : World) (tab : Tab w) :
    Calls Tryd.prog 13 #[bytesV S 32, .int .u64 n] w (SumPost w (behindF S n)) := by
  unfold bytesV
  have HT := Lib.hid tab
  have HS := Lib.hid hS
  have h2 := tab.size
  clear tab hS
  go_enter Tryd.func13, Tryd.ntmps13
  go_upto_region 1 with fail
  refine wp_world ?_
  intro w1 hw1
  have HS1 := Lib.hid (show Blk w1 w.heap.size 24 (nums .u8 S 32) by rw [hw1]; exact (Blk.new w _ _).alloc _)
  have HR1 := Lib.hid (show Blk w1 (w.heap.size + 1) 24 (nums .u8 zeroF 32) by
    rw [hw1]; have := Blk.new (w.alloc (.cells (nums .u8 S 32).toArray 24)) 24 (nums .u8 zeroF 32); rwa [World.size_alloc] at this)
  have HB1 := Lib.hid (show Below w.heap.size w w1 by rw [hw1]; exact ((Below.refl _ w).alloc (Nat.le_refl _) _).alloc (by simp) _)
  have hz1 : w1.heap.size = w.heap.size + 2 := by rw [hw1]; simp
  have HT1 := Lib.hid (HT.out.below HB1.out h2)
  have HZ1 := Lib.hid hz1
  clear hw1 hz1
  go_upto_region 2 with (first | (go_at_call 20; refine (bytes_any n hn _).mono ?_; rintro e w2 ⟨rfl, hb2⟩; have HB2 := Lib.hid hb2; have Z2 := Blk.new w2 79 zero8; clear hb2) | (with_reducible refine wpList_store_blk rfl _ _ _ rfl _ _ rfl rfl _ _ Z2 8 Tryd.size_8 rfl (nums_length _ _ _) nums_mem ?_; intro w3 ho3 hb3 hz3; have HO3 := Lib.hid ho3; have HK3 := Lib.hid hb3; have HZ3 := Lib.hid hz3; clear ho3 hb3 hz3 Z2))
  have hb12 := HB2.out.size
  have hz1 := HZ1.out
  have z3 : w3.heap.size = w2.heap.size + 1 := by have := HZ3.out; rw [World.size_alloc] at this; exact this
  have HB13 := Lib.hid (show Below w1.heap.size w1 w3 from HB2.out.trans ((((Below.refl _ w2).alloc (Nat.le_refl _) _).trans (HO3.out.below (by simp) (Nat.le_refl _))).mono hb12))
  have HS3 := Lib.hid (HS1.out.below HB13.out (by omega))
  have HR3 := Lib.hid (HR1.out.below HB13.out (by omega))
  have HB3 := Lib.hid (HB1.out.trans (HB13.out.mono (by omega)))
  have HT3 := Lib.hid (HT.out.below HB3.out h2)
  clear HS1 HR1 HB1 HT1 HO3 HB2
  have l3 : w.heap.size + 2 ≤ w2.heap.size := by omega
  have Hz3 := Lib.hid z3
  clear z3 hb12 hz1 HZ3 HB13 HZ1
  go_upto_region 3 with (go_at_call 21; refine (new_any w3 HT3.out).mono ?_; rintro e w4 h4; have D4 := Lib.hid h4.dig.1; have B4 := Lib.hid h4.dig.2; obtain ⟨rfl, hw4⟩ := h4; clear hw4)
  have l4 : w2.heap.size < w3.heap.size := by have := Hz3.out; omega
  have hw3 := B4.out.size
  have WR4 := Lib.hid (write_first w3.heap.size w.heap.size 0 32 32 startF zeroF S 0 w4 D4.out (Row.blk (o := 0) (HS3.out.below B4.out (by omega)) fun i hi => by rw [Nat.zero_add]; exact nums_get _ _ _ _ hi) HS.out (by omega) (by omega) (by omega) (by omega))
  go_upto_region 4 with (go_at_call 22; refine WR4.out.mono ?_; rintro e w5 ⟨rfl, ho5, d5, z5⟩; have HO5 := Lib.hid ho5; have D5 := Lib.hid d5; have HZ5 := Lib.hid z5; clear ho5 d5 z5)
  have HB35 := Lib.hid (B4.out.trans (HO5.out.below hw3 (Nat.le_refl _)))
  have WR5 := Lib.hid (write_more w3.heap.size w2.heap.size 0 8 8 32 startF _ (byteF n) (0 + 32) w5 D5.out (Row.blk (o := 0) (HK3.out.below HB35.out l4) fun i hi => by rw [Nat.zero_add]; exact nums_get _ _ _ _ hi) (byteF_lt n) (by omega) (by omega) (by omega) (by omega) (by omega) (by omega))
  clear WR4
  go_upto_region 5 with (go_at_call 22; refine WR5.out.mono ?_; rintro e w6 ⟨rfl, ho6, d6, z6⟩; have HO6 := Lib.hid ho6; have D6 := Lib.hid d6; have HZ6 := Lib.hid z6; clear ho6 d6 z6)
  have hw5 := HB35.out.size
  have HB36 := Lib.hid (HB35.out.trans (HO6.out.below hw5 (Nat.le_refl _)))
  have HB6 := Lib.hid (HB3.out.trans (HB36.out.mono HB3.out.size))
  have HT6 := Lib.hid (HT.out.below HB6.out h2)
  have HR6 := Lib.hid (HR3.out.below HB36.out (by omega))
  have SM := Lib.hid (sum_any w3.heap.size 40 40 startF (over (over zeroF 0 S 32) 32 (byteF n) 8) w6 HT6.out D6.out (by omega))
  clear WR5
  go_wp2_with (first | (go_at_call 23; refine SM.out.mono ?_; rintro e w7 ⟨rfl, hb7⟩; unfold bytesV; have HB7 := Lib.hid hb7; have R7 := HR6.out.below hb7 HR6.out.lt; clear hb7) | (with_reducible refine wpList_store_blk rfl _ _ _ rfl _ _ rfl rfl _ _ R7 32 Tryd.size_root (nums_length _ _ _) (nums_length _ _ _) nums_mem ?_; intro w8 ho8 hb8 hz8; have HO8 := Lib.hid ho8; have HK8 := Lib.hid hb8; clear ho8 hb8 hz8))
  refine bodyPost_ret (v := bytesV (behindF S n) 32) ?_ rfl ⟨rfl, ?_⟩
  · exact results_blk (by rfl) _ _ _ _ _ _ (by rfl) HK8.out Tryd.underlying24 rfl 32 Tryd.size_root (nums_length _ _ _)
  · have b7 := HB6.out.trans (HB7.out.mono HB6.out.size)
    exact b7.trans (HO8.out.below b7.size (by omega))
end Go.Proofs.YtfagmjlgpfnniaaDoor
