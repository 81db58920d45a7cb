/- sha: mix: one round. -/
import Derived.Test.YtfagmjlgpfnniaaDoorMix1
import Derived.WalkMore
import Derived.ScopeJumps
namespace Go.Proofs.YtfagmjlgpfnniaaDoor
open Go.RowKit

structure SS where
  a : Nat
  b : Nat
  c : Nat
  d : Nat
  e : Nat
  f : Nat
  g : Nat
  l : Nat
  w : Nat → Nat
def SS.ok (s : SS) : Prop := s.a < 4294967296 ∧ s.b < 4294967296 ∧ s.c < 4294967296 ∧ s.d < 4294967296 ∧ s.e < 4294967296 ∧ s.f < 4294967296 ∧ s.g < 4294967296 ∧ s.l < 4294967296 ∧ ∀ i, s.w i < 4294967296
def oneI (k x e f g l : Nat) : Int := ((l + bits .xor .u32 (bits .xor .u32 (rotr 6 e : Nat) (rotr 11 e : Nat)) (rotr 25 e : Nat) + bits .xor .u32 g (bits .and .u32 e (bits .xor .u32 f g)) + k) % 4294967296 + x) % 4294967296
def twoI (a b c : Nat) : Int := (bits .xor .u32 (bits .xor .u32 (rotr 2 a : Nat) (rotr 13 a : Nat)) (rotr 22 a : Nat) + bits .or .u32 (bits .and .u32 a b) (bits .and .u32 c (bits .or .u32 a b))) % 4294967296
def nextI (x y z m : Nat) : Int := (((x + bits .xor .u32 (bits .xor .u32 (rotr 7 y : Nat) (rotr 18 y : Nat)) ((y : Int) / 8)) % 4294967296 + m) % 4294967296 + bits .xor .u32 (bits .xor .u32 (rotr 17 z : Nat) (rotr 19 z : Nat)) ((z : Int) / 1024)) % 4294967296
def one (k x e f g l : Nat) : Nat := (oneI k x e f g l).toNat
def two (a b c : Nat) : Nat := (twoI a b c).toNat
def nextw (x y z m : Nat) : Nat := (nextI x y z m).toNat
theorem toNat_mod (i : Int) : ((i % 4294967296).toNat : Int) = i % 4294967296 ∧ (i % 4294967296).toNat < 4294967296 := by omega
def SS.step (K : Nat → Nat) (t : Nat) (s : SS) : SS :=
  let x := s.w (t % 16)
  let p := one (K (t % 64)) x s.e s.f s.g s.l
  ⟨(p + two s.a s.b s.c) % 4294967296, s.a, s.b, s.c, (s.d + p) % 4294967296, s.e, s.f, s.g, fun i => if i = t % 16 then nextw x (s.w ((t + 1) % 16)) (s.w ((t + 14) % 16)) (s.w ((t + 9) % 16)) else s.w i⟩

set_option maxRecDepth 100000 in
def MixJ (w : World) (hb ho bb bo len cap : Nat) (R : Nat → SS → Prop) (a' : Act) (w' : World) : Prop := ∃ (t n : Nat) (s : SS) (arr : Array Value) (U : Nat → Value), a' = { tmps := #[.pointer (some ⟨hb, ho, none⟩), .slice (some ⟨bb, bo, none⟩) len cap, undef, undef, .pointer (some ⟨w.heap.size, 0, none⟩), U 5, .int .u32 (s.a : Nat), .int .u32 (s.b : Nat), .int .u32 (s.c : Nat), .int .u32 (s.d : Nat), .int .u32 (s.e : Nat), .int .u32 (s.f : Nat), .int .u32 (s.g : Nat), .int .u32 (s.l : Nat), .int .i64 (t : Nat), U 15, U 16, U 17, U 18, U 19, U 20, U 21, U 22, U 23, U 24, U 25, U 26, U 27, U 28, U 29, U 30, U 31, U 32, U 33, U 34, U 35, U 36, U 37, U 38, U 39, U 40, U 41, U 42, U 43, U 44, U 45, U 46, U 47, U 48, U 49, U 50, U 51, U 52, U 53, U 54, U 55, U 56, U 57, U 58, U 59, U 60, U 61, U 62, U 63, U 64, U 65, U 66, U 67, U 68, U 69, U 70, U 71, U 72, U 73, U 74, U 75, U 76, U 77, U 78, U 79, U 80, U 81, U 82, U 83, U 84, U 85, U 86, U 87, U 88, U 89, U 90, U 91, U 92, U 93, U 94, U 95, U 96, U 97, U 98, U 99, U 100, U 101, U 102, U 103, U 104, U 105, U 106, U 107, U 108, U 109, U 110, U 111, U 112, U 113, U 114, U 115, U 116, U 117, U 118, U 119, U 120, U 121, U 122, U 123, U 124, U 125, U 126, U 127, U 128, U 129, U 130, U 131, U 132, U 133, U 134, U 135, U 136, U 137, U 138, U 139, U 140, U 141, U 142, U 143, U 144, U 145, U 146, U 147, U 148, U 149, U 150, U 151, U 152, U 153, U 154, U 155, U 156, U 157, U 158, U 159, U 160, U 161, U 162, U 163, U 164, U 165, U 166, U 167, U 168, U 169, U 170, U 171, U 172, U 173, U 174, U 175, U 176, U 177, U 178, U 179, U 180, U 181, U 182, U 183, U 184, U 185, U 186, U 187, U 188, U 189, U 190, U 191, U 192, U 193, undef, undef, undef, undef, undef, undef, undef, undef, undef, undef, undef, undef, undef, undef, undef, undef, undef, undef, undef, undef, undef, undef, undef], defers := [] } ∧ t ≤ 63 ∧ s.ok ∧ R t s ∧ arr.size = 16 ∧ (∀ i, i < 16 → arr[i]? = some (.int .u32 (s.w i : Nat))) ∧ w' = (w.drewN n).alloc (.cells arr 104)
set_option maxRecDepth 100000 in
theorem MixJ.of {w : World} {hb ho bb bo len cap : Nat} {R : Nat → SS → Prop} {a' : Act} {w' : World} (t n : Nat) (s : SS) (arr : Array Value) (hf : a' = { tmps := #[.pointer (some ⟨hb, ho, none⟩), .slice (some ⟨bb, bo, none⟩) len cap, undef, undef, .pointer (some ⟨w.heap.size, 0, none⟩), a'.tmps.getD 5 undef, .int .u32 (s.a : Nat), .int .u32 (s.b : Nat), .int .u32 (s.c : Nat), .int .u32 (s.d : Nat), .int .u32 (s.e : Nat), .int .u32 (s.f : Nat), .int .u32 (s.g : Nat), .int .u32 (s.l : Nat), .int .i64 (t : Nat), a'.tmps.getD 15 undef, a'.tmps.getD 16 undef, a'.tmps.getD 17 undef, a'.tmps.getD 18 undef, a'.tmps.getD 19 undef, a'.tmps.getD 20 undef, a'.tmps.getD 21 undef, a'.tmps.getD 22 undef, a'.tmps.getD 23 undef, a'.tmps.getD 24 undef, a'.tmps.getD 25 undef, a'.tmps.getD 26 undef, a'.tmps.getD 27 undef, a'.tmps.getD 28 undef, a'.tmps.getD 29 undef, a'.tmps.getD 30 undef, a'.tmps.getD 31 undef, a'.tmps.getD 32 undef, a'.tmps.getD 33 undef, a'.tmps.getD 34 undef, a'.tmps.getD 35 undef, a'.tmps.getD 36 undef, a'.tmps.getD 37 undef, a'.tmps.getD 38 undef, a'.tmps.getD 39 undef, a'.tmps.getD 40 undef, a'.tmps.getD 41 undef, a'.tmps.getD 42 undef, a'.tmps.getD 43 undef, a'.tmps.getD 44 undef, a'.tmps.getD 45 undef, a'.tmps.getD 46 undef, a'.tmps.getD 47 undef, a'.tmps.getD 48 undef, a'.tmps.getD 49 undef, a'.tmps.getD 50 undef, a'.tmps.getD 51 undef, a'.tmps.getD 52 undef, a'.tmps.getD 53 undef, a'.tmps.getD 54 undef, a'.tmps.getD 55 undef, a'.tmps.getD 56 undef, a'.tmps.getD 57 undef, a'.tmps.getD 58 undef, a'.tmps.getD 59 undef, a'.tmps.getD 60 undef, a'.tmps.getD 61 undef, a'.tmps.getD 62 undef, a'.tmps.getD 63 undef, a'.tmps.getD 64 undef, a'.tmps.getD 65 undef, a'.tmps.getD 66 undef, a'.tmps.getD 67 undef, a'.tmps.getD 68 undef, a'.tmps.getD 69 undef, a'.tmps.getD 70 undef, a'.tmps.getD 71 undef, a'.tmps.getD 72 undef, a'.tmps.getD 73 undef, a'.tmps.getD 74 undef, a'.tmps.getD 75 undef, a'.tmps.getD 76 undef, a'.tmps.getD 77 undef, a'.tmps.getD 78 undef, a'.tmps.getD 79 undef, a'.tmps.getD 80 undef, a'.tmps.getD 81 undef, a'.tmps.getD 82 undef, a'.tmps.getD 83 undef, a'.tmps.getD 84 undef, a'.tmps.getD 85 undef, a'.tmps.getD 86 undef, a'.tmps.getD 87 undef, a'.tmps.getD 88 undef, a'.tmps.getD 89 undef, a'.tmps.getD 90 undef, a'.tmps.getD 91 undef, a'.tmps.getD 92 undef, a'.tmps.getD 93 undef, a'.tmps.getD 94 undef, a'.tmps.getD 95 undef, a'.tmps.getD 96 undef, a'.tmps.getD 97 undef, a'.tmps.getD 98 undef, a'.tmps.getD 99 undef, a'.tmps.getD 100 undef, a'.tmps.getD 101 undef, a'.tmps.getD 102 undef, a'.tmps.getD 103 undef, a'.tmps.getD 104 undef, a'.tmps.getD 105 undef, a'.tmps.getD 106 undef, a'.tmps.getD 107 undef, a'.tmps.getD 108 undef, a'.tmps.getD 109 undef, a'.tmps.getD 110 undef, a'.tmps.getD 111 undef, a'.tmps.getD 112 undef, a'.tmps.getD 113 undef, a'.tmps.getD 114 undef, a'.tmps.getD 115 undef, a'.tmps.getD 116 undef, a'.tmps.getD 117 undef, a'.tmps.getD 118 undef, a'.tmps.getD 119 undef, a'.tmps.getD 120 undef, a'.tmps.getD 121 undef, a'.tmps.getD 122 undef, a'.tmps.getD 123 undef, a'.tmps.getD 124 undef, a'.tmps.getD 125 undef, a'.tmps.getD 126 undef, a'.tmps.getD 127 undef, a'.tmps.getD 128 undef, a'.tmps.getD 129 undef, a'.tmps.getD 130 undef, a'.tmps.getD 131 undef, a'.tmps.getD 132 undef, a'.tmps.getD 133 undef, a'.tmps.getD 134 undef, a'.tmps.getD 135 undef, a'.tmps.getD 136 undef, a'.tmps.getD 137 undef, a'.tmps.getD 138 undef, a'.tmps.getD 139 undef, a'.tmps.getD 140 undef, a'.tmps.getD 141 undef, a'.tmps.getD 142 undef, a'.tmps.getD 143 undef, a'.tmps.getD 144 undef, a'.tmps.getD 145 undef, a'.tmps.getD 146 undef, a'.tmps.getD 147 undef, a'.tmps.getD 148 undef, a'.tmps.getD 149 undef, a'.tmps.getD 150 undef, a'.tmps.getD 151 undef, a'.tmps.getD 152 undef, a'.tmps.getD 153 undef, a'.tmps.getD 154 undef, a'.tmps.getD 155 undef, a'.tmps.getD 156 undef, a'.tmps.getD 157 undef, a'.tmps.getD 158 undef, a'.tmps.getD 159 undef, a'.tmps.getD 160 undef, a'.tmps.getD 161 undef, a'.tmps.getD 162 undef, a'.tmps.getD 163 undef, a'.tmps.getD 164 undef, a'.tmps.getD 165 undef, a'.tmps.getD 166 undef, a'.tmps.getD 167 undef, a'.tmps.getD 168 undef, a'.tmps.getD 169 undef, a'.tmps.getD 170 undef, a'.tmps.getD 171 undef, a'.tmps.getD 172 undef, a'.tmps.getD 173 undef, a'.tmps.getD 174 undef, a'.tmps.getD 175 undef, a'.tmps.getD 176 undef, a'.tmps.getD 177 undef, a'.tmps.getD 178 undef, a'.tmps.getD 179 undef, a'.tmps.getD 180 undef, a'.tmps.getD 181 undef, a'.tmps.getD 182 undef, a'.tmps.getD 183 undef, a'.tmps.getD 184 undef, a'.tmps.getD 185 undef, a'.tmps.getD 186 undef, a'.tmps.getD 187 undef, a'.tmps.getD 188 undef, a'.tmps.getD 189 undef, a'.tmps.getD 190 undef, a'.tmps.getD 191 undef, a'.tmps.getD 192 undef, a'.tmps.getD 193 undef, undef, undef, undef, undef, undef, undef, undef, undef, undef, undef, undef, undef, undef, undef, undef, undef, undef, undef, undef, undef, undef, undef, undef], defers := [] }) (ht : t ≤ 63) (hs : s.ok) (hr : R t s) (has : arr.size = 16) (harr : ∀ i, i < 16 → arr[i]? = some (.int .u32 (s.w i : Nat))) (hw : w' = (w.drewN n).alloc (.cells arr 104)) : MixJ w hb ho bb bo len cap R a' w' := ⟨t, n, s, arr, fun i => a'.tmps.getD i undef, hf, ht, hs, hr, has, harr, hw⟩
theorem and_lit (t m k i : Nat) (ht : t < 1000000) (hm : m = 2 ^ k - 1) (hi : i = t % 2 ^ k) (hk : k ≤ 10 := by omega) : bits .and .i64 (t : Int) (m : Int) = (i : Int) := by
  have hp : 2 ^ k ≤ 2 ^ 10 := Nat.pow_le_pow_right (by omega) hk
  have hm2 : m < 18446744073709551616 := by omega
  show IntKind.i64.wrap ((BitVec.ofInt 64 (t : Int) &&& BitVec.ofInt 64 (m : Int)).toNat : Int) = _
  rw [BitVec.toNat_and, ofInt_u64 _ (by omega), ofInt_u64 _ hm2, hm, Nat.and_two_pow_sub_one_eq_mod, ← hi, IntKind.wrap_i64]
  have : i ≤ t := by rw [hi]; exact Nat.mod_le _ _
  omega
theorem wp_scope_jumps2 {P : Program} {c rest : Code} {a : Act} {w : World} {Q : Exit → Act → World → Prop} (l : Nat) (J : Act → World → Prop) (μ : Act → World → Nat) (hf : findLabel c l = some (.seq .skip rest))
    (pass : ∀ a w, J a w → rest.wp P (Exit.jump l (fun a' w' => J a' w' ∧ μ a' w' < μ a w) Q) a w)
    (first : (∀ a w, J a w → rest.wp P (Exit.jump l J Q) a w) → c.wp P (Exit.jump l J Q) a w) : (Code.scope c).wp P Q a w :=
  wp_scope_jumps l J μ hf (first fun a w h => wp_mono (pass a w h) fun e a w q => by
    cases e <;> first | exact q | exact ⟨q.1, q.2.1⟩) fun a w h => wp_seq (wp_skip (pass a w h))
theorem step_eq (K : Nat → Nat) (t sa sb sc sd se sf sg sl : Nat) (sw : Nat → Nat) (i0 i1 i9 i14 x y z m k p q a1 d1 m1 : Nat) (ht : t ≤ 63) (hi0 : i0 = t % 16) (hi1 : i1 = (t + 1) % 16) (hi9 : i9 = (t + 9) % 16) (hi14 : i14 = (t + 14) % 16)
    (hx : x = sw i0) (hy : y = sw i1) (hm : m = sw i9) (hz : z = sw i14) (hk : k = K t) (hp : p = one k x se sf sg sl) (hq : q = two sa sb sc) (ha : a1 = (p + q) % 4294967296) (hd : d1 = (sd + p) % 4294967296) (hm1 : m1 = nextw x y z m) :
    SS.step K t ⟨sa, sb, sc, sd, se, sf, sg, sl, sw⟩ = ⟨a1, sa, sb, sc, d1, se, sf, sg, fun i => if i = i0 then m1 else sw i⟩ := by
  subst hx hy hm hz hk hp hq ha hd hm1 hi0 hi1 hi9 hi14
  simp only [SS.step, Nat.mod_eq_of_lt (show t < 64 by omega)]
theorem arr_set (arr : Array Value) (sw : Nat → Nat) (i0 m1 : Nat) (has : arr.size = 16) (h : ∀ i, i < 16 → arr[i]? = some (.int .u32 (sw i : Nat))) (hi : i0 < 16) :
    ∀ i, i < 16 → (arr.setIfInBounds i0 (.int .u32 (m1 : Nat)))[i]? = some (.int .u32 ((if i = i0 then m1 else sw i : Nat))) := by
  intro i h16
  rw [Array.getElem?_setIfInBounds]
  by_cases e : i0 = i
  · subst e; simp [has, hi]
  · rw [if_neg e, if_neg (fun h => e h.symm), h i h16]
def SS.get (s : SS) : Nat → Nat
  | 0 => s.a | 1 => s.b | 2 => s.c | 3 => s.d | 4 => s.e | 5 => s.f | 6 => s.g | _ => s.l
/-- A word of the block, as the program makes it of four bytes. -/
def word4I (a b c d : Nat) : Int := bits .or .u32 (bits .or .u32 (bits .or .u32 ((a : Int) * 16777216) ((b : Int) * 65536)) ((c : Int) * 256)) d
theorem bits_u32 (op : BinOp) (x y : Int) : 0 ≤ bits op .u32 x y ∧ bits op .u32 x y < 4294967296 := by
  unfold bits
  have h : ∀ z : Int, 0 ≤ IntKind.u32.wrap z ∧ IntKind.u32.wrap z < 4294967296 := fun z => by rw [IntKind.wrap_u32]; omega
  split <;> exact h _
theorem word4I_nat (a b c d : Nat) : ((word4I a b c d).toNat : Int) = word4I a b c d := Int.toNat_of_nonneg (bits_u32 _ _ _).1
theorem word4I_lt (a b c d : Nat) : (word4I a b c d).toNat < 4294967296 := by
  have := (bits_u32 .or (bits .or .u32 (bits .or .u32 ((a : Int) * 16777216) ((b : Int) * 65536)) ((c : Int) * 256)) d).2
  have h2 := word4I_nat a b c d
  unfold word4I at h2 ⊢
  omega
def SS.start (H B : Nat → Nat) : SS := ⟨H 0, H 1, H 2, H 3, H 4, H 5, H 6, H 7, fun i => (word4I (B (4 * i)) (B (4 * i + 1)) (B (4 * i + 2)) (B (4 * i + 3))).toNat⟩
theorem still_tail2 {P : Program} {id : Nat} {Q : Exit → Act → World → Prop} {a : Act} {w : World} {l : List Oper} (n : Nat) (hm : P.follows .mixedOrders = true) (hB : Region.lexTailB .any l.toArray n = true)
    (h : ∀ W, W = w.drew → wpStill P l.toArray W (fun a' => wpList P l.toArray Q (l.drop n) a' W) (l.take n) a) : (Code.region id l.toArray true).wp P Q a w :=
  wp_region_still_tail n hm hB (h _ rfl)
/-- The words of the block, as far as they are made. -/
def WRel (w : World) (B : Nat → Nat) (j n : Nat) (arr : Array Value) (wr : World) : Prop :=
  wr = (w.drewN n).alloc (.cells arr 104) ∧ arr.size = 16 ∧ ∀ i, i < j → arr[i]? = some (.int .u32 ((word4I (B (4 * i)) (B (4 * i + 1)) (B (4 * i + 2)) (B (4 * i + 3))).toNat : Nat))
theorem WRel.start (w : World) (B : Nat → Nat) (arr : Array Value) (h : arr.size = 16) : WRel w B 0 0 arr (w.alloc (.cells arr 104)) := ⟨rfl, h, fun i hi => by omega⟩
theorem WRel.step {w : World} {B : Nat → Nat} {j n V : Nat} {arr : Array Value} (has : arr.size = 16) (harr : ∀ i, i < j → arr[i]? = some (.int .u32 ((word4I (B (4 * i)) (B (4 * i + 1)) (B (4 * i + 2)) (B (4 * i + 3))).toNat : Nat))) (hj : j < 16)
    (hV : V = (word4I (B (4 * j)) (B (4 * j + 1)) (B (4 * j + 2)) (B (4 * j + 3))).toNat) : WRel w B (j + 1) (n + 1) (arr.setIfInBounds j (.int .u32 (V : Nat))) (((w.drewN n).alloc (.cells arr 104)).drew.setCell ⟨w.heap.size, j, none⟩ (.int .u32 (V : Nat))) := by
  refine ⟨mix_world w n 1 j arr _ _, by rw [Array.size_setIfInBounds]; exact has, fun i hi => ?_⟩
  rw [Array.getElem?_setIfInBounds]
  by_cases e : j = i
  · subst e; simp [has, hj, hV]
  · rw [if_neg e]; exact harr i (by omega)
/-- What the last loop has written. -/
def HRel (w : World) (hb ho : Nat) (H G : Nat → Nat) (j : Nat) (wr : World) : Prop :=
  (∀ i, i < 8 → wr.cell? ⟨hb, ho + i, none⟩ = some (.int .u32 (((if i < j then (H i + G i) % 4294967296 else H i) : Nat) : Int))) ∧ Upd hb ho (ho + 8) w wr ∧ hb < w.heap.size
theorem HRel.start {w wz : World} {hb ho : Nat} {H G : Nat → Nat} (h : Upd hb ho (ho + 8) w wz) (hc : ∀ i, i < 8 → wz.cell? ⟨hb, ho + i, none⟩ = some (.int .u32 (H i : Nat))) (hs : hb < w.heap.size) : HRel w hb ho H G 0 wz :=
  ⟨fun i hi => by rw [if_neg (by omega)]; exact hc i hi, h, hs⟩
theorem HRel.step {w wr : World} {hb ho : Nat} {H G : Nat → Nat} {j x : Nat} (h : HRel w hb ho H G j wr) (hj : j < 8) (hx : x = (H j + G j) % 4294967296) : HRel w hb ho H G (j + 1) ((wr.setCell ⟨hb, ho + j, none⟩ (.int .u32 (x : Nat))).drew) := by
  refine ⟨fun i hi => ?_, (h.2.1.setCell _ _ (by omega) (by omega)).drew, h.2.2⟩
  rw [World.cell?_drew]
  by_cases e : i = j
  · subst e
    rw [if_pos (by omega), World.cell?_setCell_same wr _ _ (u := .int .u32 (((if i < i then (H i + G i) % 4294967296 else H i) : Nat) : Int)) (h.1 i hj), hx]
  · rw [World.cell?_setCell_other _ _ _ _ (by intro e2; injection e2 with _ e3; omega)]
    have := h.1 i hi
    by_cases e4 : i < j
    · rw [if_pos e4] at this; rw [if_pos (by omega)]; exact this
    · rw [if_neg e4] at this; rw [if_neg (by omega)]; exact this
set_option maxHeartbeats 3200000 in
set_option maxRecDepth 100000 in
theorem mix_try (hb ho bb bo len cap : Nat) (H B : Nat → Nat) (K : Nat → Nat) (R : Nat → SS → Prop) (w : World) (Post : Ending → World → Prop) (hR : ∀ t s, t ≤ 63 → R t s → R (t + 1) (s.step K t)) (hK : ∀ i, i < 64 → K i < 4294967296)
    (KC : ∀ (n : Nat) (arr : Array Value) (i : Nat), i < 64 → ((w.drewN n).alloc (.cells arr 104)).cell? ⟨1, i, none⟩ = some (.int .u32 (K i : Nat)))
    (hH : ∀ i, i < 8 → w.cell? ⟨hb, ho + i, none⟩ = some (.int .u32 (H i : Nat)) ∧ w.frozen? ⟨hb, ho + i, none⟩ = false) (hH2 : ∀ i, H i < 4294967296) (hbs : hb < w.heap.size)
    (hBy : ∀ i, i < 64 → w.cell? ⟨bb, bo + i, none⟩ = some (.int .u8 (B i : Nat))) (hB2 : ∀ i, B i < 256) (hbb : bb < w.heap.size) (hlen : 64 ≤ len) (h0 : R 0 (SS.start H B))
    (fin : ∀ s w', R 64 s → Upd hb ho (ho + 8) w w' → (∀ i, i < 8 → w'.cell? ⟨hb, ho + i, none⟩ = some (.int .u32 ((H i + s.get i) % 4294967296 : Nat))) → Post (.returned (.tuple #[])) w') :
    Calls Tryd.prog 29 #[.pointer (some ⟨hb, ho, none⟩), .slice (some ⟨bb, bo, none⟩) len cap] w Post := by
  have HKC := Lib.hid KC
  have HRR := Lib.hid hR
  have HKK := Lib.hid hK
  have HH := Lib.hid hH
  have HH2 := Lib.hid hH2
  have HBY := Lib.hid hBy
  have HB2 := Lib.hid hB2
  have H0 := Lib.hid h0
  have FIN := Lib.hid fin
  clear KC hR hK hH hH2 hBy hB2 h0 fin
  go_enter Tryd.func29, Tryd.ntmps29
  go_wp2
  refine wp_scope_jumps2 0 (MixJ w hb ho bb bo len cap R) (fun a' _ => 64 - (intOf (a'.tmps.getD 14 undef)).toNat) rfl ?pass ?first
  case first =>
    intro jump
    go_wp2
    go_loopw [22] (fun k wr => ∃ (j n : Nat) (arr : Array Value), j ≤ 16 ∧ k = .int .i64 (j : Nat) ∧ WRel w B j n arr wr) (fun k _ => 16 - (intOf k).toNat)
    case atStart => exact ⟨0, 0, _, Nat.zero_le _, rfl, WRel.start _ _ _ rfl⟩
    case round =>
      obtain ⟨j, n, arr, hj, rfl, rfl, has, harr⟩ := hrel
      by_cases hlt : j < 16
      · have HAS := Lib.hid has
        have HARR := Lib.hid harr
        clear has harr
        obtain ⟨b0, hb0⟩ : ∃ b, b = B (4 * j) := ⟨_, rfl⟩
        obtain ⟨b1, hb1⟩ : ∃ b, b = B (4 * j + 1) := ⟨_, rfl⟩
        obtain ⟨b2, hb2⟩ : ∃ b, b = B (4 * j + 2) := ⟨_, rfl⟩
        obtain ⟨b3, hb3⟩ : ∃ b, b = B (4 * j + 3) := ⟨_, rfl⟩
        have l0 : b0 < 256 := by rw [hb0]; exact HB2.out _
        have l1 : b1 < 256 := by rw [hb1]; exact HB2.out _
        have l2 : b2 < 256 := by rw [hb2]; exact HB2.out _
        have l3 : b3 < 256 := by rw [hb3]; exact HB2.out _
        obtain ⟨W, hW⟩ : ∃ W, W = (w.drewN n).alloc (.cells arr 104) := ⟨_, rfl⟩
        have cell : ∀ i, i < 64 → W.cell? ⟨bb, bo + i, none⟩ = some (.int .u8 (B i : Nat)) := by
          intro i hi
          rw [hW, World.cell?_alloc_lt (w.drewN n) _ ⟨bb, bo + i, none⟩ hbb]
          exact HBY.out i hi
        have c0 := cell (4 * j) (by omega)
        have c1 := cell (4 * j + 1) (by omega)
        have c2 := cell (4 * j + 2) (by omega)
        have c3 := cell (4 * j + 3) (by omega)
        rw [← hb0] at c0
        rw [← hb1] at c1
        rw [← hb2] at c2
        rw [← hb3] at c3
        have HB0 := Lib.hid hb0
        have HB1 := Lib.hid hb1
        have HB2' := Lib.hid hb2
        have HB3 := Lib.hid hb3
        have cw : W.cell? ⟨w.heap.size, j, none⟩ = some (arr.getD j undef) := by
          rw [hW, show w.heap.size = (w.drewN n).heap.size from rfl, World.cell?_alloc_new, Array.getD_eq_getD_getElem?]
          rw [Array.getElem?_eq_getElem (by have := HAS.out; omega)]; rfl
        have hfz : W.frozen? ⟨w.heap.size, j, none⟩ = false := by rw [hW]; exact World.frozen?_alloc_new (w := w.drewN n) _ _ _
        have HW := Lib.hid hW
        rw [← hW]
        clear hW cell hb0 hb1 hb2 hb3
        obtain ⟨q, hq⟩ : ∃ q, q = 4 * j := ⟨_, rfl⟩
        obtain ⟨q1, hq1⟩ : ∃ q1, q1 = q + 1 := ⟨_, rfl⟩
        obtain ⟨q2, hq2⟩ : ∃ q2, q2 = q + 2 := ⟨_, rfl⟩
        obtain ⟨q3, hq3⟩ : ∃ q3, q3 = q + 3 := ⟨_, rfl⟩
        rw [← hq] at c0 c1 c2 c3
        rw [← hq1] at c1
        rw [← hq2] at c2
        rw [← hq3] at c3
        have B0 : q < len ∧ q1 < len ∧ q2 < len ∧ q3 < len := by omega
        obtain ⟨k0, k1, k2, k3⟩ := B0
        go_upto_region 4 with fail
        have e0 : IntKind.i64.wrap (4 * (j : Int)) = (q : Int) := by rw [IntKind.wrap_i64]; omega
        have e1 : IntKind.i64.wrap ((q : Int) + 1) = (q1 : Int) := by rw [IntKind.wrap_i64]; omega
        have e2 : IntKind.i64.wrap ((q : Int) + 2) = (q2 : Int) := by rw [IntKind.wrap_i64]; omega
        have e3 : IntKind.i64.wrap ((q : Int) + 3) = (q3 : Int) := by rw [IntKind.wrap_i64]; omega
        have HQ := Lib.hid hq
        clear hq hq1 hq2 hq3
        refine still_tail2 35 (by kernel_rfl) (by kernel_rfl) ?_
        intro W2 hW2
        have HW2 := Lib.hid hW2
        have d0 : W2.cell? ⟨bb, bo + q, none⟩ = some (.int .u8 (b0 : Nat)) := by rw [hW2]; exact c0
        have d1 : W2.cell? ⟨bb, bo + q1, none⟩ = some (.int .u8 (b1 : Nat)) := by rw [hW2]; exact c1
        have d2 : W2.cell? ⟨bb, bo + q2, none⟩ = some (.int .u8 (b2 : Nat)) := by rw [hW2]; exact c2
        have d3 : W2.cell? ⟨bb, bo + q3, none⟩ = some (.int .u8 (b3 : Nat)) := by rw [hW2]; exact c3
        have dw : W2.cell? ⟨w.heap.size, j, none⟩ = some (arr.getD j undef) := by rw [hW2]; exact cw
        have hfz2 : W2.frozen? ⟨w.heap.size, j, none⟩ = false := by rw [hW2]; exact hfz
        clear hW2 c0 c1 c2 c3 cw hfz
        simp only [List.take_succ_cons, List.take_zero, List.drop_succ_cons, List.drop_zero]
        repeat (refine wpStill_step (fun K hK => ?_); go_simp; (try (simp only [e0, e1, e2, e3]; go_simp)); refine hK _ ?_; clear hK K)
        refine wpStill_nil ?_
        go_wp2
        obtain ⟨V, hV⟩ : ∃ V : Nat, V = (word4I b0 b1 b2 b3).toNat := ⟨_, rfl⟩
        have EV : bits .or .u32 (bits .or .u32 (bits .or .u32 ((b0 : Int) * 16777216) ((b1 : Int) * 65536)) ((b2 : Int) * 256)) b3 = (V : Int) := by rw [hV]; exact (word4I_nat b0 b1 b2 b3).symm
        rw [EV]
        go_roundw
        case rel =>
          refine ⟨j + 1, n + 1, arr.setIfInBounds j (.int .u32 (V : Nat)), by omega, by go_num, ?_⟩
          rw [HW2.out, HW.out]
          exact WRel.step HAS.out HARR.out hlt (by rw [hV, HB0.out, HB1.out, HB2'.out, HB3.out])
        case measure => simp [intOf]; omega
      · obtain rfl : j = 16 := by omega
        obtain ⟨W, hW⟩ : ∃ W, W = (w.drewN n).alloc (.cells arr 104) := ⟨_, rfl⟩
        have cell : ∀ i, i < 8 → W.cell? ⟨hb, ho + i, none⟩ = some (.int .u32 (H i : Nat)) := by
          intro i hi
          rw [hW, World.cell?_alloc_lt (w.drewN n) _ ⟨hb, ho + i, none⟩ hbs]
          exact (HH.out i hi).1
        have c0 : W.cell? ⟨hb, ho, none⟩ = some (.int .u32 (H 0 : Nat)) := cell 0 (by omega)
        have c1 := cell 1 (by omega)
        have c2 := cell 2 (by omega)
        have c3 := cell 3 (by omega)
        have c4 := cell 4 (by omega)
        have c5 := cell 5 (by omega)
        have c6 := cell 6 (by omega)
        have c7 := cell 7 (by omega)
        have HAS := Lib.hid has
        have HARR := Lib.hid harr
        have HW := Lib.hid hW
        rw [← hW]
        clear hW cell has harr
        go_upto_region 6 with fail
        go_quiet (fail)
        rename_i nq _
        clear c0 c1 c2 c3 c4 c5 c6 c7
        rw [HW.out]
        go_wp2
        go_step3
        rename_i hk
        refine hk _ _ (jump _ _ (MixJ.of 0 (n + nq) (SS.start H B) arr (by rfl) (by omega) ?_ H0.out HAS.out HARR.out (drewN_alloc w n nq _)))
        exact ⟨HH2.out _, HH2.out _, HH2.out _, HH2.out _, HH2.out _, HH2.out _, HH2.out _, HH2.out _, fun i => word4I_lt _ _ _ _⟩
  case pass =>
    rintro a' w' ⟨t, n, s, arr, U, rfl, ht, hok, hr, has, harr, rfl⟩
    obtain ⟨sa, sb, sc, sd, se, sf, sg, sl, sw⟩ := s
    obtain ⟨ha, hb', hc, hd, he, hf, hg, hl, hw⟩ := hok
    simp only at ha hb' hc hd he hf hg hl hw harr
    have HR := Lib.hid hr
    have HW := Lib.hid hw
    have HARR := Lib.hid harr
    have HAS := Lib.hid has
    clear hr hw harr has
    obtain ⟨i0, hi0⟩ : ∃ i, i = t % 16 := ⟨_, rfl⟩
    obtain ⟨i1, hi1⟩ : ∃ i, i = (t + 1) % 16 := ⟨_, rfl⟩
    obtain ⟨i9, hi9⟩ : ∃ i, i = (t + 9) % 16 := ⟨_, rfl⟩
    obtain ⟨i14, hi14⟩ : ∃ i, i = (t + 14) % 16 := ⟨_, rfl⟩
    obtain ⟨W, hWd⟩ : ∃ W, W = (w.drewN n).alloc (.cells arr 104) := ⟨_, rfl⟩
    have cell : ∀ i, i < 16 → W.cell? ⟨w.heap.size, i, none⟩ = some (.int .u32 (sw i : Nat)) := by
      intro i hi
      rw [hWd, show w.heap.size = (w.drewN n).heap.size from rfl, World.cell?_alloc_new]
      exact HARR.out i hi
    have cx := cell i0 (by omega)
    have cy := cell i1 (by omega)
    have cm := cell i9 (by omega)
    have cz := cell i14 (by omega)
    have ck : W.cell? ⟨1, t, none⟩ = some (.int .u32 (K t : Nat)) := by rw [hWd]; exact HKC.out n arr t (by omega)
    have e0 : bits .and .i64 (t : Int) 15 = (i0 : Int) := and_lit t 15 4 i0 (by omega) (by rfl) hi0
    have e1 : bits .and .i64 ((t : Int) + 1) 15 = (i1 : Int) := and_lit (t + 1) 15 4 i1 (by omega) (by rfl) hi1
    have e9 : bits .and .i64 ((t : Int) + 9) 15 = (i9 : Int) := and_lit (t + 9) 15 4 i9 (by omega) (by rfl) hi9
    have e14 : bits .and .i64 ((t : Int) + 14) 15 = (i14 : Int) := and_lit (t + 14) 15 4 i14 (by omega) (by rfl) hi14
    have eK : bits .and .i64 (t : Int) 63 = (t : Int) := and_lit t 63 6 t (by omega) (by rfl) (by omega)
    have hx := HW.out i0
    have hy := HW.out i1
    have hm := HW.out i9
    have hz := HW.out i14
    have hk := HKK.out t (by omega)
    obtain ⟨x, hxd⟩ : ∃ x, x = sw i0 := ⟨_, rfl⟩
    obtain ⟨y, hyd⟩ : ∃ x, x = sw i1 := ⟨_, rfl⟩
    obtain ⟨m, hmd⟩ : ∃ x, x = sw i9 := ⟨_, rfl⟩
    obtain ⟨z, hzd⟩ : ∃ x, x = sw i14 := ⟨_, rfl⟩
    obtain ⟨k, hkd⟩ : ∃ x, x = K t := ⟨_, rfl⟩
    rw [← hxd] at cx hx
    rw [← hyd] at cy hy
    rw [← hmd] at cm hm
    rw [← hzd] at cz hz
    rw [← hkd] at ck hk
    have hl16 : i0 < 16 ∧ i1 < 16 ∧ i9 < 16 ∧ i14 < 16 := by omega
    obtain ⟨l0, l1, l9, l14⟩ := hl16
    have HI0 := Lib.hid hi0
    have HI1 := Lib.hid hi1
    have HI9 := Lib.hid hi9
    have HI14 := Lib.hid hi14
    have HXD := Lib.hid hxd
    have HYD := Lib.hid hyd
    have HMD := Lib.hid hmd
    have HZD := Lib.hid hzd
    have HKD := Lib.hid hkd
    have HWD := Lib.hid hWd
    rw [← hWd]
    clear hi0 hi1 hi9 hi14 hxd hyd hmd hzd hkd hWd cell
    have T6 := Lib.hid (fun w => turn_any se 6 he (by omega) (by omega) w)
    have T11 := Lib.hid (fun w => turn_any se 11 he (by omega) (by omega) w)
    have T25 := Lib.hid (fun w => turn_any se 25 he (by omega) (by omega) w)
    have r6 := rotr_lt 6 se he
    have r11 := rotr_lt 11 se he
    have r25 := rotr_lt 25 se he
    go_upto_region 9 with fail
    go_quiet ((go_at_call 33; first | exact Calls.quiet_of_same (T6.out _) | exact Calls.quiet_of_same (T11.out _) | exact Calls.quiet_of_same (T25.out _)))
    obtain ⟨p, hp⟩ : ∃ p, p = one k x se sf sg sl := ⟨_, rfl⟩
    have E1 : (((sl : Int) + bits .xor .u32 (bits .xor .u32 (rotr 6 se : Nat) (rotr 11 se : Nat)) (rotr 25 se : Nat) + bits .xor .u32 sg (bits .and .u32 se (bits .xor .u32 sf sg)) + k) % 4294967296 + x) % 4294967296 = (p : Int) := by rw [hp]; exact (toNat_mod _).1.symm
    have hpl : p < 4294967296 := by rw [hp]; exact (toNat_mod _).2
    rw [E1]
    clear E1 r6 r11 r25 T6 T11 T25
    have HP := Lib.hid hp
    clear hp
    have T2 := Lib.hid (fun w => turn_any sa 2 ha (by omega) (by omega) w)
    have T13 := Lib.hid (fun w => turn_any sa 13 ha (by omega) (by omega) w)
    have T22 := Lib.hid (fun w => turn_any sa 22 ha (by omega) (by omega) w)
    have r2 := rotr_lt 2 sa ha
    have r13 := rotr_lt 13 sa ha
    have r22 := rotr_lt 22 sa ha
    go_wp2_with fail
    refine (T2.out _).mono ?_
    rintro _ _ ⟨rfl, rfl⟩
    go_wp2_with fail
    refine (T13.out _).mono ?_
    rintro _ _ ⟨rfl, rfl⟩
    go_wp2_with fail
    refine (T22.out _).mono ?_
    rintro _ _ ⟨rfl, rfl⟩
    go_upto_region 12 with fail
    obtain ⟨q, hq⟩ : ∃ q, q = two sa sb sc := ⟨_, rfl⟩
    have E2 : (bits .xor .u32 (bits .xor .u32 (rotr 2 sa : Nat) (rotr 13 sa : Nat)) (rotr 22 sa : Nat) + bits .or .u32 (bits .and .u32 sa sb) (bits .and .u32 sc (bits .or .u32 sa sb))) % 4294967296 = (q : Int) := by rw [hq]; exact (toNat_mod _).1.symm
    have hql : q < 4294967296 := by rw [hq]; exact (toNat_mod _).2
    rw [E2]
    have HQ := Lib.hid hq
    clear hq E2 r2 r13 r22 T2 T13 T22
    obtain ⟨a1, hA1⟩ : ∃ a, a = (p + q) % 4294967296 := ⟨_, rfl⟩
    obtain ⟨d1, hD1⟩ : ∃ a, a = (sd + p) % 4294967296 := ⟨_, rfl⟩
    rw [show ((p : Int) + q) % 4294967296 = (a1 : Int) by omega, show ((sd : Int) + p) % 4294967296 = (d1 : Int) by omega]
    have ha1 : a1 < 4294967296 := by omega
    have hd1 : d1 < 4294967296 := by omega
    have HA1 := Lib.hid hA1
    have HD1 := Lib.hid hD1
    clear hA1 hD1
    go_quiet (fail)
    have T7 := Lib.hid (fun w => turn_any y 7 hy (by omega) (by omega) w)
    have T18 := Lib.hid (fun w => turn_any y 18 hy (by omega) (by omega) w)
    have T17 := Lib.hid (fun w => turn_any z 17 hz (by omega) (by omega) w)
    have T19 := Lib.hid (fun w => turn_any z 19 hz (by omega) (by omega) w)
    have r7 := rotr_lt 7 y hy
    have r18 := rotr_lt 18 y hy
    have r17 := rotr_lt 17 z hz
    have r19 := rotr_lt 19 z hz
    go_upto_region 13 with fail
    have e9w : bits .and .i64 (IntKind.i64.wrap ((t : Int) + 9)) 15 = (i9 : Int) := by rw [show IntKind.i64.wrap ((t : Int) + 9) = (t : Int) + 9 by rw [IntKind.wrap_i64]; omega]; exact e9
    have L9 : (i9 : Int) < 16 := by omega
    have L0 : (i0 : Int) < 16 := by omega
    refine still_tail2 28 (by kernel_rfl) (by kernel_rfl) ?_
    intro W2 hW2
    simp only [World.drewN_drewN, drewN_drew'] at hW2
    obtain ⟨N, hN⟩ : ∃ N, W2 = W.drewN N := ⟨_, hW2⟩
    have HN := Lib.hid hN
    clear hN
    have cm2 : W2.cell? ⟨w.heap.size, i9, none⟩ = some (.int .u32 (m : Nat)) := by rw [hW2]; exact cm
    have HW2 := Lib.hid hW2
    clear hW2
    simp only [List.take_succ_cons, List.take_zero, List.drop_succ_cons, List.drop_zero]
    repeat (refine wpStill_step (fun K hK => ?_); go_simp; (try (simp only [e0, e9w]; go_simp)); refine hK _ ?_; clear hK K)
    still_call (T7.out _)
    repeat (refine wpStill_step (fun K hK => ?_); go_simp; (try (simp only [e0, e9w]; go_simp)); refine hK _ ?_; clear hK K)
    still_call (T18.out _)
    repeat (refine wpStill_step (fun K hK => ?_); go_simp; (try (simp only [e0, e9w]; go_simp)); refine hK _ ?_; clear hK K)
    still_call (T17.out _)
    repeat (refine wpStill_step (fun K hK => ?_); go_simp; (try (simp only [e0, e9w]; go_simp)); refine hK _ ?_; clear hK K)
    still_call (T19.out _)
    repeat (refine wpStill_step (fun K hK => ?_); go_simp; (try (simp only [e0, e9w]; go_simp)); refine hK _ ?_; clear hK K)
    refine wpStill_nil ?_
    have cx2 : W2.cell? ⟨w.heap.size, i0, none⟩ = some (.int .u32 (x : Nat)) := by rw [HW2.out]; exact cx
    have hfz : W2.frozen? ⟨w.heap.size, i0, none⟩ = false := by
      rw [HW2.out, HWD.out]
      exact World.frozen?_alloc_new (w := w.drewN n) _ _ _
    go_upto_region 14 with fail
    obtain ⟨m1, hm1⟩ : ∃ m1, m1 = nextw x y z m := ⟨_, rfl⟩
    have E3 : ((((x : Int) + bits .xor .u32 (bits .xor .u32 (rotr 7 y : Nat) (rotr 18 y : Nat)) ((y : Int) / 8)) % 4294967296 + m) % 4294967296 + bits .xor .u32 (bits .xor .u32 (rotr 17 z : Nat) (rotr 19 z : Nat)) ((z : Int) / 1024)) % 4294967296 = (m1 : Int) := by rw [hm1]; exact (toNat_mod _).1.symm
    have hml : m1 < 4294967296 := by rw [hm1]; exact (toNat_mod _).2
    rw [E3]
    have HM1 := Lib.hid hm1
    clear hm1 E3 r7 r18 r17 r19 T7 T18 T17 T19
    clear hfz cx2 cm2
    have hst := Lib.hid (step_eq K t sa sb sc sd se sf sg sl sw i0 i1 i9 i14 x y z m k p q a1 d1 m1 ht HI0.out HI1.out HI9.out HI14.out HXD.out HYD.out HMD.out HZD.out HKD.out HP.out HQ.out HA1.out HD1.out HM1.out)
    have hR1 := Lib.hid (HRR.out t _ ht HR.out)
    have hWS : Hid (W2.setCell ⟨w.heap.size, i0, none⟩ (.int .u32 (m1 : Nat)) = (w.drewN (n + N)).alloc (.cells (arr.setIfInBounds i0 (.int .u32 (m1 : Nat))) 104)) := by
      show _ = _
      rw [HN.out, HWD.out]
      exact mix_world w n N i0 arr _ _
    rw [hWS.out]
    by_cases ht2 : t = 63
    · subst ht2
      obtain ⟨S, hS⟩ : ∃ S : SS, S = ⟨a1, sa, sb, sc, d1, se, sf, sg, fun i => if i = i0 then m1 else sw i⟩ := ⟨_, rfl⟩
      have hRS : Hid (R 64 S) := by show R 64 S; rw [hS, ← hst.out]; exact hR1.out
      have hget : ∃ G : Nat → Nat, (∀ i, i < 8 → G i < 4294967296) ∧ (∀ i, i < 8 → S.get i = G i) ∧ G 0 = a1 ∧ G 1 = sa ∧ G 2 = sb ∧ G 3 = sc ∧ G 4 = d1 ∧ G 5 = se ∧ G 6 = sf ∧ G 7 = sg := by
        refine ⟨S.get, ?_, fun _ _ => rfl, by rw [hS]; rfl, by rw [hS]; rfl, by rw [hS]; rfl, by rw [hS]; rfl, by rw [hS]; rfl, by rw [hS]; rfl, by rw [hS]; rfl, by rw [hS]; rfl⟩
        intro i hi
        rw [hS]
        rcases i with _ | _ | _ | _ | _ | _ | _ | _ | i <;> first | assumption | omega
      obtain ⟨G, hGl, hGS, rfl, rfl, rfl, rfl, rfl, rfl, rfl, rfl⟩ := hget
      have HGL := Lib.hid hGl
      have HGS := Lib.hid hGS
      obtain ⟨wz, hwz⟩ : ∃ wz, wz = (w.drewN (n + N)).alloc (.cells (arr.setIfInBounds i0 (.int .u32 (m1 : Nat))) 104) := ⟨_, rfl⟩
      have U0 : Upd hb ho (ho + 8) w wz := by
        rw [hwz]
        exact Upd.of ((show Below w.heap.size w (w.drewN (n + N)) from ⟨rfl, rfl, rfl, Nat.le_refl _, fun _ _ => rfl⟩).alloc (Nat.le_refl _) _) hbs
      have CZ : ∀ i, i < 8 → wz.cell? ⟨hb, ho + i, none⟩ = some (.int .u32 (H i : Nat)) := by
        intro i hi
        rw [hwz, World.cell?_alloc_lt (w.drewN (n + N)) _ ⟨hb, ho + i, none⟩ hbs]
        exact (HH.out i hi).1
      rw [← hwz]
      have hwzs : w.heap.size < wz.heap.size := by rw [hwz]; simp
      clear hGl hGS hS hst hR1 hWS HR HW HARR HAS HI0 HI1 HI9 HI14 HXD HYD HMD HZD HKD HWD HN HW2 HP HQ HA1 HD1 HM1 e0 e1 e9 e14 eK e9w cx cy cm cz ck hx hy hm hz hk hpl hql hml L9 L0 l0 l1 l9 l14 HKC HRR HKK HBY HB2 H0 ht
      clear hwz
      have hrel0 := Lib.hid (HRel.start (G := G) U0 CZ hbs)
      clear U0 CZ
      go_wp2
      go_loopw [203] (fun k wr => ∃ j : Nat, j ≤ 8 ∧ k = .int .i64 (j : Nat) ∧ HRel w hb ho H G j wr ∧ w.heap.size ≤ wr.heap.size) (fun k _ => 8 - (intOf k).toNat)
      case atStart => exact ⟨0, Nat.zero_le _, rfl, hrel0.out, by omega⟩
      case round =>
        obtain ⟨j, hj, rfl, hr, hsz⟩ := hrel
        by_cases hlt : j < 8
        · have hidx : ∀ w, (Instr.index 96 (.agg #[.int .u32 (G 0 : Nat), .int .u32 (G 1 : Nat), .int .u32 (G 2 : Nat), .int .u32 (G 3 : Nat), .int .u32 (G 4 : Nat), .int .u32 (G 5 : Nat), .int .u32 (G 6 : Nat), .int .u32 (G 7 : Nat)]) (.int .i64 (j : Nat))).run Tryd.prog w = .ok (.int .u32 (G j : Nat)) w := by
            intro w
            clear hrel0 hr hsz
            rcases j with _ | _ | _ | _ | _ | _ | _ | _ | j <;> first | (exfalso; omega) | kernel_rfl
          have hc1 := hr.1 j hlt
          rw [if_neg (by omega)] at hc1
          have hf1 := (hr.2.1.frozen (ho + j)).trans (HH.out j hlt).2
          have hl1 := HGL.out j hlt
          have hl2 := HH2.out j
          obtain ⟨x1, hx1⟩ : ∃ x, x = G j := ⟨_, rfl⟩
          obtain ⟨x2, hx2⟩ : ∃ x, x = H j := ⟨_, rfl⟩
          rw [← hx1] at hidx hl1
          rw [← hx2] at hc1 hl2
          have HX1 := Lib.hid hx1
          have HX2 := Lib.hid hx2
          have HR := Lib.hid hr
          clear hx1 hx2 hr hrel0
          go_upto_region 19 with fail
          go_still_tail 9, (by kernel_rfl)
          go_wp2
          go_roundw
          case rel =>
            obtain ⟨x3, hx3⟩ : ∃ x3, x3 = (x2 + x1) % 4294967296 := ⟨_, rfl⟩
            rw [show ((x2 : Int) + (x1 : Int)) % 4294967296 = (x3 : Int) by omega]
            refine ⟨_, _, _, _, _, _, _, _, _, _, _, _, _, _, _, _, ⟨j + 1, by omega, by go_num, HRel.step HR.out hlt (by rw [hx3, HX1.out, HX2.out]), by simp only [World.size_drew, World.size_setCell]; exact hsz⟩, rfl⟩
          case measure => simp [intOf]; omega
        · obtain rfl : j = 8 := by omega
          have HR := Lib.hid hr
          clear hr hrel0
          go_wp2
          simp only [Exit.jump]
          go_end0
          exact FIN.out S _ hRS.out HR.out.2.1 (fun i hi => by
            have := HR.out.1 i hi
            rw [if_pos hi] at this
            rw [this, HGS.out i hi])
    · have htl : ((t : Int) + 1 < 64) = True := by simp; omega
      go_wp2
      go_step3
      refine ⟨rfl, MixJ.of (t + 1) (n + N) ⟨a1, sa, sb, sc, d1, se, sf, sg, fun i => if i = i0 then m1 else sw i⟩ (arr.setIfInBounds i0 (.int .u32 (m1 : Nat))) (by rfl) (by omega) ⟨ha1, ha, hb', hc, hd1, he, hf, hg, fun i => ?_⟩ ?_ (by rw [Array.size_setIfInBounds]; exact HAS.out) (arr_set arr sw i0 m1 HAS.out HARR.out l0) rfl, ?_⟩
      · show (if i = i0 then m1 else sw i) < 4294967296
        by_cases e : i = i0
        · rw [if_pos e]; exact hml
        · rw [if_neg e]; exact HW.out i
      · have := hR1.out
        rw [hst.out] at this
        exact this
      · show 64 - (intOf (.int .i64 ((t : Int) + 1))).toNat < 64 - (intOf (.int .i64 (t : Int))).toNat
        simp only [intOf]
        omega
end Go.Proofs.YtfagmjlgpfnniaaDoor
