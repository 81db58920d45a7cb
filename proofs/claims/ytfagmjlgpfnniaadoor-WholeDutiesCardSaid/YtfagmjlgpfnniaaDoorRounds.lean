/- Contract of rounds: six pivots and digests. -/
import Derived.Test.YtfagmjlgpfnniaaDoorBit
namespace Go.Proofs.YtfagmjlgpfnniaaDoor
open Go.RowKit

theorem Blk.grown {w w' : World} {g : Nat} {T : TypeId} {L : List Value} {row : Option Nat} (b : Blk w g T L) (h : w.grownBy w' row) (hn : some g ≠ row) : Blk w' g T L := (h.block g b.lt hn).trans b
theorem Dig.grown {w w' : World} {p : Nat} {H R : Nat → Nat} {n all : Nat} {row : Option Nat} (h : Dig w p H R n all) (hg : w.grownBy w' row) (hn : some p ≠ row) : Dig w' p H R n all := ⟨h.blk.grown hg hn, h.hl, h.rl, h.nl⟩
theorem grownBy_of {w w' : World} (h : Below w.heap.size w w') (row : Option Nat) : w.grownBy w' row := ⟨h.os, h.tape, h.output, h.size, fun k hk _ => h.block k hk⟩
theorem wpList_append_at {P : Program} {w : World} {ops : Array Oper} {rest : List Oper} {o : Oper} {a : Act} {Q : Exit → Act → World → Prop} (hgd : o.guard = none) (s y : Operand) (t : TypeId)
    (ho : o.op = .call { callee := .builtin .append, args := #[s, y], argTypes := #[t, t] })
    (base : Nat) (e : TypeId) (i : TypeInfo) (z : Value) (size bytes : Nat) (ht : P.underlying t = some (.slice e)) (hi : P.info? e = some i) (hz : i.zero = some z)
    (hsize : i.size = size) (hby : i.bytes = bytes) (hzs : z.cells.size = size) (hsz : 0 < size)
    (v : Value) (n : Nat) (xs : List Value) (hs : a.eval s = v) (hown : w.ownsRow base e size v n xs) (ad : Addr) (m c : Nat) (news : List Value) (hy : a.eval y = .slice (some ad) m c) (hl : news.length = m * size)
    (hnews : ∀ j u, news[j]? = some u → w.cell? (ad.add j) = some u) (h1 : ∀ u ∈ news, u.oneCell' = true)
    (h63 : n + m ≤ maxLen) (hbytes : (n + m) * bytes ≤ 140737488355328) (hbase : base ≤ w.heap.size)
    (h : ∀ v' w', w'.ownsRow base e size v' (n + m) (xs ++ news) → w.grownBy w' v.ownBlock → (v'.ownBlock = v.ownBlock ∨ v'.ownBlock = some w.heap.size) → wpList P ops Q rest (a.put o.dst v') w') : wpList P ops Q (o :: rest) a w := by
  refine wpList_plain hgd fun K hK => ?_
  obtain ⟨v', w', hr, h2, h3, _, h4⟩ := run_append_own_at (P := P) w base t o.type e i z size bytes ht hi hz hsize hby hzs hsz v n xs hown ad m c news hl hnews h1 h63 hbytes hbase
  unfold Oper.wp execOp
  simp only [ho, resolve, invoke, builtin, Sem.run_bind, Sem.run_pure, Result.andThen_ok, List.map_toArray, List.map_cons, List.map_nil, hs, hy, hr]
  exact hK _ _ (h v' w' h2 h3 h4)

/-- The bytes that a round's digest holds. -/
def roundR (S : Nat → Nat) (r : Nat) : Nat → Nat := over (over zeroF 0 S 32) 32 (fun _ => r) 1
def pivotF (S : Nat → Nat) (r n : Nat) : Nat := readJ (sumF startF (roundR S r) 33 33) 8 % n
def rcells (n : Nat) (S ps : Nat → Nat) : Nat → List Value
  | 0 => []
  | j + 1 => rcells n S ps j ++ [.int .u64 (pivotF S j n : Nat), .pointer (some ⟨ps j, 0, none⟩)]
theorem rcells_congr {n : Nat} {S ps ps' : Nat → Nat} : ∀ {j : Nat}, (∀ r, r < j → ps r = ps' r) → rcells n S ps j = rcells n S ps' j
  | 0, _ => rfl
  | j + 1, h => by rw [rcells, rcells, rcells_congr (fun r hr => h r (by omega)), h j (by omega)]
theorem rcells_length (n : Nat) (S ps : Nat → Nat) (j : Nat) : (rcells n S ps j).length = 2 * j := by
  induction j with
  | zero => rfl
  | succ j ih => simp [rcells, ih]; omega
theorem rcells_get (n : Nat) (S ps : Nat → Nat) (j r : Nat) (h : r < j) : (rcells n S ps j)[2 * r]? = some (.int .u64 (pivotF S r n : Nat)) ∧ (rcells n S ps j)[2 * r + 1]? = some (.pointer (some ⟨ps r, 0, none⟩)) := by
  induction j with
  | zero => omega
  | succ j ih =>
    rw [rcells]
    by_cases e : r = j
    · subst e
      rw [List.getElem?_append_right (by rw [rcells_length]; omega), List.getElem?_append_right (by rw [rcells_length]; omega), rcells_length, show 2 * r - 2 * r = 0 by omega, show 2 * r + 1 - 2 * r = 1 by omega]
      exact ⟨rfl, rfl⟩
    · rw [List.getElem?_append_left (by rw [rcells_length]; omega), List.getElem?_append_left (by rw [rcells_length]; omega)]
      exact ih (by omega)
structure RR (w : World) (n : Nat) (S : Nat → Nat) (j : Nat) (v : Value) (wr : World) : Prop where
  below : Below w.heap.size w wr
  seed : Blk wr w.heap.size 24 (nums .u8 S 32)
  own : ∃ ps : Nat → Nat, wr.ownsRow (w.heap.size + 1) 88 2 v j (rcells n S ps j) ∧ ∀ r, r < j → w.heap.size < ps r ∧ v.ownBlock ≠ some (ps r) ∧ Dig wr (ps r) startF (roundR S r) 33 33
theorem RR.start (w : World) (n : Nat) (S : Nat → Nat) : RR w n S 0 (.slice none 0 0) (w.alloc (.cells (nums .u8 S 32).toArray 24)) :=
  ⟨(Below.refl _ w).alloc (Nat.le_refl _) _, Blk.new w _ _, fun _ => 0, World.ownsRow_nil _ _ _ _, fun r hr => by omega⟩
theorem RR.step {w wr w5 W6 W7 : World} {n : Nat} {S ps : Nat → Nat} {j : Nat} {v v' : Value} {x : Nat} (h : RR w n S j v wr) (hown : wr.ownsRow (w.heap.size + 1) 88 2 v j (rcells n S ps j))
    (hps : ∀ r, r < j → w.heap.size < ps r ∧ v.ownBlock ≠ some (ps r) ∧ Dig wr (ps r) startF (roundR S r) 33 33)
    (h5 : Below wr.heap.size wr w5) (d5 : Dig w5 wr.heap.size startF (roundR S j) 33 33) (h6 : Below w5.heap.size w5 W6)
    (h7 : W7.ownsRow (w.heap.size + 1) 88 2 v' (j + 1) (rcells n S ps j ++ [.int .u64 (x : Nat), .pointer (some ⟨wr.heap.size, 0, none⟩)])) (hx : x = pivotF S j n) (hg : W6.grownBy W7 v.ownBlock) (hm : v'.ownBlock = v.ownBlock ∨ v'.ownBlock = some W6.heap.size) :
    RR w n S (j + 1) v' W7 := by
  have hs := h.seed.lt
  have hlt := hown.lt
  have hs5 := h5.size
  have hs6 := h6.size
  have h56 : Below wr.heap.size wr W6 := h5.trans (h6.mono hs5)
  have d6 := d5.below h6 d5.blks
  refine ⟨?_, ?_, fun r => if r = j then wr.heap.size else ps r, ?_, ?_⟩
  · exact (h.below.trans (h56.mono h.below.size)).grown hg (by have := h.below.size; omega) fun k hk => by have := (hlt k hk).1; omega
  · exact (h.seed.below h56 hs).grown hg fun e => by have := (hlt _ e.symm).1; omega
  · rw [rcells, if_pos rfl, ← rcells_congr (ps := ps) (fun r hr => by rw [if_neg (by omega)]), ← hx]
    exact h7
  · intro r hr
    by_cases e : r = j
    · subst e
      dsimp only
      rw [if_pos rfl]
      refine ⟨hs, ?_, d6.grown hg fun e => by have := (hlt _ e.symm).2; omega⟩
      rcases hm with hm | hm
      · rw [hm]; intro e; have := (hlt _ e).2; omega
      · rw [hm]; intro e; injection e with e; have := d5.blks; omega
    · dsimp only
      rw [if_neg e]
      obtain ⟨p1, p2, p3⟩ := hps r (by omega)
      have p4 := p3.blks
      refine ⟨p1, ?_, (p3.below h56 p4).grown hg fun e => p2 e.symm⟩
      rcases hm with hm | hm
      · rw [hm]; exact p2
      · rw [hm]; intro e; injection e with e; omega
def RoundsPost (w : World) (n : Nat) (S : Nat → Nat) (e : Ending) (w' : World) : Prop := ∃ v, e = .returned v ∧ RR w n S 6 v w'
abbrev zero32 : List Value := [.int .u8 0, .int .u8 0, .int .u8 0, .int .u8 0, .int .u8 0, .int .u8 0, .int .u8 0, .int .u8 0, .int .u8 0, .int .u8 0, .int .u8 0, .int .u8 0, .int .u8 0, .int .u8 0, .int .u8 0, .int .u8 0, .int .u8 0, .int .u8 0, .int .u8 0, .int .u8 0, .int .u8 0, .int .u8 0, .int .u8 0, .int .u8 0, .int .u8 0, .int .u8 0, .int .u8 0, .int .u8 0, .int .u8 0, .int .u8 0, .int .u8 0, .int .u8 0]
theorem Tryd.info_round : (Tryd.prog.info? 88).map (fun i => (i.zero, i.size, i.bytes)) = some (some (.agg #[.int .u64 0, .pointer none]), 2, 16) := by kernel_rfl
set_option maxHeartbeats 3200000 in
set_option maxRecDepth 100000 in
theorem rounds_any (n : Nat) (hn : 1 ≤ n) (hn2 : n < 4294967296) (S : Nat → Nat) (hS : ∀ i, S i < 256) (w : World) (tab : Tab w) :
    Calls Tryd.prog 24 #[.int .u64 n, bytesV S 32] w (RoundsPost w n S) := by
  unfold bytesV
  have HT := Lib.hid tab
  have HS := Lib.hid hS
  have h2 := tab.size
  obtain ⟨i0, hi, hz0, hz1, hz2⟩ := info_parts Tryd.info_round
  clear tab hS
  go_enter Tryd.func24, Tryd.ntmps24
  go_wp2
  go_loopw [5, 11] (fun v k wr => ∃ j : Nat, j ≤ 6 ∧ k = .int .i64 (j : Nat) ∧ RR w n S j v wr) (fun _ k _ => 6 - (intOf k).toNat)
  case atStart => exact ⟨0, Nat.zero_le _, rfl, RR.start w n S⟩
  case round =>
    obtain ⟨j, hj, rfl, hr⟩ := hrel
    have HR := Lib.hid hr
    clear hr
    by_cases hlt : j < 6
    · obtain ⟨ps, hown, hps⟩ := HR.out.own
      have HOW := Lib.hid hown
      have HPS := Lib.hid hps
      have hsz := HR.out.seed.lt
      have TR := Lib.hid (HT.out.below HR.out.below h2)
      clear hown hps
      go_upto_region 6 with (go_at_call 21; refine (new_any _ TR.out).mono ?_; rintro e w1 h1; have D1 := Lib.hid h1.dig.1; have B1 := Lib.hid h1.dig.2; obtain ⟨rfl, hw1⟩ := h1; clear hw1)
      have WR1 := Lib.hid (write_first wr.heap.size w.heap.size 0 32 32 startF zeroF S 0 w1 D1.out (Row.blk (o := 0) (HR.out.seed.below B1.out hsz) fun i hi => by rw [Nat.zero_add]; exact nums_get _ _ _ _ hi) HS.out (by omega) (by omega) (by omega) (by omega))
      go_upto_region 7 with (go_at_call 22; refine WR1.out.mono ?_; rintro e w2 ⟨rfl, ho2, d2, z2⟩; have HO2 := Lib.hid ho2; have D2 := Lib.hid d2; have HZ2 := Lib.hid z2; clear ho2 d2 z2)
      have s1 := B1.out.size
      have B2 := Lib.hid (B1.out.trans (HO2.out.below s1 (Nat.le_refl _)))
      have s2 := D2.out.blks
      have RB : Row (w2.alloc (.cells #[.int .u8 (j : Nat)] 5)) w2.heap.size 0 1 .u8 (fun _ => j) := by
        intro i hi
        obtain rfl : i = 0 := by omega
        rw [Nat.zero_add, World.cell?_alloc_new]
        rfl
      have WR2 := Lib.hid (write_more wr.heap.size w2.heap.size 0 1 1 32 startF _ (fun _ => j) (0 + 32) (w2.alloc (.cells #[.int .u8 (j : Nat)] 5)) (D2.out.below ((Below.refl _ w2).alloc (Nat.le_refl _) _) s2) RB (fun _ => by omega) (by omega) (by omega) (by omega) (by omega) (by omega) (by omega))
      have HW := Lib.hid (And.intro s1 s2)
      clear WR1 s1 s2 RB
      go_upto_region 8 with (go_at_call 22; refine WR2.out.mono ?_; rintro e w3 ⟨rfl, ho3, d3, z3⟩; have HO3 := Lib.hid ho3; have D3 := Lib.hid d3; have HZ3 := Lib.hid z3; clear ho3 d3 z3)
      have B3 := Lib.hid (show Below wr.heap.size wr w3 from by
        have h := HW.out
        have b := (B2.out.alloc (by omega) (.cells #[.int .u8 (j : Nat)] 5)).trans (HO3.out.below (by simp; omega) (Nat.le_refl _))
        exact b)
      have T3 := Lib.hid (TR.out.below B3.out TR.out.size)
      have D3' := Lib.hid (show Dig w3 wr.heap.size startF (roundR S j) 33 33 from D3.out)
      have SM := Lib.hid (sum_any wr.heap.size 33 33 startF (roundR S j) w3 T3.out D3'.out (by omega))
      clear WR2 HO3 HZ3 HZ2 HO2 D2 D1 B1 B2 D3 HW
      go_upto_region 9 with (first | (go_at_call 23; refine SM.out.mono ?_; rintro e w4 ⟨rfl, hb4⟩; unfold bytesV; have HB4 := Lib.hid hb4; have Z4 := Blk.new w4 24 zero32; clear hb4) | (with_reducible refine wpList_store_blk rfl _ _ _ rfl _ _ rfl rfl _ _ Z4 32 Tryd.size_root rfl (nums_length _ _ _) nums_mem ?_; intro w5 ho5 hb5 hz5; have HO5 := Lib.hid ho5; have HK5 := Lib.hid hb5; have HZ5 := Lib.hid hz5; clear ho5 hb5 hz5 Z4))
      have B4 := Lib.hid (B3.out.trans (HB4.out.mono B3.out.size))
      have B5 := Lib.hid (show Below wr.heap.size wr w5 from by
        have h := B4.out.size
        exact (B4.out.alloc h _).trans (HO5.out.below (by simp; omega) h))
      have D5 := Lib.hid ((D3'.out.below HB4.out D3'.out.blks).only ((Only.refl w4.heap.size w4).alloc (.cells zero32.toArray 24) |>.trans HO5.out) (by have := D3'.out.blks; have := HB4.out.size; omega))
      have RD := Lib.hid (read_any w4.heap.size 0 32 (sumF startF (roundR S j) 33 33) w5 (Row.blk (o := 0) HK5.out fun i hi => by rw [Nat.zero_add]; exact nums_get _ _ _ _ (by omega)) (sumF_lt _ _ _ _))
      clear SM
      go_upto_region 10 with (go_at_call 31; refine RD.out.mono ?_; rintro e w6 ⟨rfl, rfl⟩)
      obtain ⟨V, hV⟩ : ∃ V, V = readJ (sumF startF (roundR S j) 33 33) 8 := ⟨_, rfl⟩
      have lV : V < 18446744073709551616 := by rw [hV]; exact readJ_lt _ _
      obtain ⟨x, hx⟩ : ∃ x, x = V % n := ⟨_, rfl⟩
      have ex : (V : Int) % (n : Int) = (x : Int) := by rw [hx]; simp
      rw [← hV]
      have HX := Lib.hid (show x = pivotF S j n by rw [hx, hV]; rfl)
      clear hV hx
      have HW5 := Lib.hid ((HOW.out.kept (grownBy_of B5.out none) (by
        cases hb : u5.ownBlock with
        | none => exact .inl rfl
        | some k => exact .inr (by simp))).alloc (.cells #[.int .u64 (x : Nat), .pointer (some ⟨wr.heap.size, 0, none⟩)] 88))
      have hnews : ∀ (i : Nat) (u : Value), [(.int .u64 (x : Nat) : Value), .pointer (some ⟨wr.heap.size, 0, none⟩)][i]? = some u → (w5.alloc (.cells #[.int .u64 (x : Nat), .pointer (some ⟨wr.heap.size, 0, none⟩)] 88)).cell? ((⟨w5.heap.size, 0, none⟩ : Addr).add i) = some u := by
        intro i u hu
        rw [show (⟨w5.heap.size, 0, none⟩ : Addr).add i = ⟨w5.heap.size, i, none⟩ from by unfold Addr.add; split <;> simp_all, World.cell?_alloc_new]
        simpa using hu
      have HN := Lib.hid hnews
      have hone : ∀ u ∈ [(.int .u64 (x : Nat) : Value), .pointer (some ⟨wr.heap.size, 0, none⟩)], u.oneCell' = true := by
        intro u hu
        simp only [List.mem_cons, List.not_mem_nil, or_false] at hu
        rcases hu with rfl | rfl <;> rfl
      have HO := Lib.hid hone
      have h63 : j + 1 ≤ maxLen := by unfold maxLen; omega
      have hby : (j + 1) * 16 ≤ 140737488355328 := by omega
      have hbase : w.heap.size + 1 ≤ (w5.alloc (.cells #[.int .u64 (x : Nat), .pointer (some ⟨wr.heap.size, 0, none⟩)] 88)).heap.size := by have := B5.out.size; simp; omega
      have HBA := Lib.hid hbase
      clear hnews hone hbase
      go_wp2_with (at_builtin; refine wpList_append_at rfl _ _ _ rfl (w.heap.size + 1) 88 i0 _ 2 16 Tryd.underlying85 hi hz0 hz1 hz2 rfl (by decide) _ j _ rfl HW5.out ⟨w5.heap.size, 0, none⟩ 1 1 _ rfl rfl HN.out HO.out h63 hby HBA.out ?_; intro v' w7 hown7 hg7 hm7; have HO7 := Lib.hid hown7; have HG7 := Lib.hid hg7; have HM7 := Lib.hid hm7; clear hown7 hg7 hm7)
      go_roundw
      case rel => exact ⟨j + 1, by omega, by go_num, HR.out.step HOW.out HPS.out B5.out D5.out ((Below.refl _ w5).alloc (Nat.le_refl _) _) HO7.out HX.out HG7.out HM7.out⟩
      case measure => simp [intOf]; omega
    · obtain rfl : j = 6 := by omega
      go_wp2
      go_ret
      exact ⟨_, rfl, HR.out⟩
end Go.Proofs.YtfagmjlgpfnniaaDoor
