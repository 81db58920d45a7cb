/- Contract of the statements' wipe: whatever rows the elements lie in, even one row for several. -/
import Derived.Test.YtamfceklddbldaaAwake
import Derived.OneCell
namespace Go.Proofs.Ytamfceklddbldaa
open Go.RowKit

/-- n bytes, whichever, in a row of the call's own. -/
def EB (w : World) (B : Nat) (u : Value) (n : Nat) : Prop := ∃ xs, w.ownsRow B 5 1 u n xs ∧ ∀ x ∈ xs, ∃ b, x = bv b
theorem OB.toEB {w : World} {B : Nat} {v : Value} {l : Bs} (h : OB w B v l) : EB w B v l.length :=
  ⟨_, h, fun x hx => by obtain ⟨b, _, rfl⟩ := List.mem_map.1 hx; exact ⟨b, rfl⟩⟩
theorem EB.form {w : World} {B n : Nat} {u : Value} (h : EB w B u n) : ∃ A c, u = .slice A n c ∧ n ≤ c ∧ c ≤ maxLen := by
  obtain ⟨xs, h, _⟩ := h
  rcases h.2 with ⟨rfl, rfl⟩ | ⟨g, cap, cur, rfl, _, _, h1, h2, _⟩
  · exact ⟨_, _, rfl, Nat.le_refl _, by simp⟩
  · exact ⟨_, _, rfl, h1, h2⟩
theorem EB.at {w : World} {B n c : Nat} {A : Option Addr} (h : EB w B (.slice A n c) n) (k : Nat) (hk : k < n) : ∃ g b, A = some ⟨g, 0, none⟩ ∧ B ≤ g ∧ w.cell? ⟨g, k, none⟩ = some (.int .u8 ((b : UInt8).toNat : Int)) ∧ w.frozen? ⟨g, k, none⟩ = false := by
  obtain ⟨xs, h, hb⟩ := h
  rcases h.2 with ⟨_, rfl⟩ | ⟨g, cap, cur, e, hg, _⟩
  · omega
  · injection e with e1 e2 e3
    subst e1 e3
    have hl : k < xs.length := by have := h.1; omega
    obtain ⟨b, e⟩ := hb xs[k] (List.getElem_mem hl)
    exact ⟨g, b, rfl, hg, by rw [World.ownsRow.cellAt h k (by omega), List.getElem?_eq_getElem hl, e]; rfl, World.ownsRow.frozenAt h k⟩
theorem EB.set {w : World} {B n : Nat} {u : Value} (h : EB w B u n) (g j : Nat) (y : UInt8) : EB (w.setCell ⟨g, j, none⟩ (bv y)) B u n := by
  obtain ⟨xs, h, hb⟩ := h
  by_cases hg : u.ownBlock = some g
  · rcases h.2 with ⟨rfl, _⟩ | ⟨g', cap, cur, rfl, _⟩
    · simp [Value.ownBlock] at hg
    · simp only [Value.ownBlock, Option.some.injEq] at hg
      subst hg
      refine ⟨_, (World.ownsRow.stored h j (bv y)).1, fun x hx => ?_⟩
      rcases List.mem_or_eq_of_mem_set hx with hx | hx
      · exact hb x hx
      · exact ⟨y, hx⟩
  · exact ⟨xs, ownsRow_setCell_other h hg _, hb⟩
theorem EB.kept {w w' : World} {B n : Nat} {u : Value} {row : Option Nat} (h : EB w B u n) (hg : w.grownBy w' row) (hne : u.ownBlock = none ∨ u.ownBlock ≠ row) : EB w' B u n := by
  obtain ⟨xs, h, hb⟩ := h
  exact ⟨xs, h.kept hg hne, hb⟩
theorem EB.setOther {w : World} {B n g : Nat} {u v : Value} {j : Nat} (h : EB w B u n) (hne : u.ownBlock ≠ some g) : EB (w.setCell ⟨g, j, none⟩ v) B u n := by
  obtain ⟨xs, h, hb⟩ := h
  exact ⟨xs, ownsRow_setCell_other h hne _, hb⟩

section
variable {P : Program} (w : World)
theorem run_append_one (B : Nat) (t ty : TypeId) (i : TypeInfo) (z : Value) (ht : P.underlying t = some (.slice 5)) (hi : P.info? 5 = some i) (hz : i.zero = some z)
    (hsize : i.size = 1) (hby : i.bytes = 1) (hzs : z.cells.size = 1) (v : Value) (n : Nat) (hown : EB w B v n) (a : Addr) (c : Nat) (y : UInt8) (hy : w.cell? a = some (bv y))
    (hn : n + 1 ≤ 140737488355328) (hbase : B ≤ w.heap.size) :
    ∃ v' w', (Builtin.append_ #[t, t] ty #[v, .slice (some a) 1 c]).run P w = .ok v' w' ∧ EB w' B v' (n + 1) ∧ w.grownBy w' v.ownBlock ∧ ∀ u m, EB w B u m → EB w' B u m := by
  obtain ⟨xs, hown, hb⟩ := hown
  have hnews : ∀ j u, [bv y][j]? = some u → w.cell? (a.add j) = some u := by
    intro j u hu
    cases j with
    | zero => simp at hu; subst hu; simpa [Addr.add] using hy
    | succ j => simp at hu
  have h1 : ∀ u ∈ [bv y], u.oneCell' = true := by intro u hu; simp at hu; subst hu; rfl
  obtain ⟨v', w', hr, ho, hg, _, _⟩ := run_append_own_at (P := P) w B t ty 5 i z 1 1 ht hi hz hsize hby hzs (by omega) v n xs hown a 1 c [bv y] rfl hnews h1 (by unfold maxLen; omega) (by omega) hbase
  refine ⟨v', w', hr, ⟨_, ho, fun x hx => ?_⟩, hg, fun u m hu => ?_⟩
  · rcases List.mem_append.1 hx with hx | hx
    · exact hb x hx
    · simp at hx; exact ⟨y, hx⟩
  rcases hown.2 with ⟨rfl, rfl⟩ | ⟨g, cap, cur, rfl, hbg, hgc, hnc, hcm, hcs, htake⟩
  · exact hu.kept hg (by cases u.ownBlock <;> simp [Value.ownBlock])
  · have holds : ∀ j u, xs[j]? = some u → w.cell? ((⟨g, 0, none⟩ : Addr).add j) = some u := hown.cells (g := g) rfl
    by_cases hroom : n + 1 ≤ cap
    · have hr2 := run_append_room (P := P) w t ty 5 i ht hi g n cap cur hgc a 1 c [bv y] (by rw [hsize]; rfl) hnews h1 hroom (by rw [hsize]; simp; omega)
      rw [hr] at hr2
      injection hr2 with e1 e2
      subst e2
      by_cases hug : u.ownBlock = some g
      · obtain ⟨ys, hu, hby'⟩ := hu
        rcases hu.2 with ⟨rfl, _⟩ | ⟨g', cap', cur', rfl, hb1, hb2, hb3, hb4, hb5, hb6⟩
        · simp [Value.ownBlock] at hug
        · simp only [Value.ownBlock, Option.some.injEq] at hug
          subst hug
          rw [hgc] at hb2
          injection hb2 with hb2
          injection hb2 with hb2 _ _
          subst hb2
          have e : (cur.toList.take (n * i.size) ++ [bv y] ++ cur.toList.drop (n * i.size + [bv y].length)) = cur.toList.set n (bv y) := by
            rw [hsize, Nat.mul_one, List.set_eq_take_append_cons_drop, if_pos (by rw [Array.length_toList]; omega)]
            simp
          rw [e]
          refine ⟨ys.set n (bv y), ⟨by rw [List.length_set]; exact hu.1, .inr ⟨g', cap', _, rfl, hb1, setRow_heap w g' cur _ _ _ hgc, hb3, hb4, by simpa using hb5, ?_⟩⟩, fun x hx => ?_⟩
          · rw [← hb6, List.take_set]
          · rcases List.mem_or_eq_of_mem_set hx with hx | hx
            · exact hby' x hx
            · exact ⟨y, hx⟩
      · exact hu.kept hg (.inr (by simpa [Value.ownBlock] using hug))
    · have hr2 := run_append_grow (P := P) w t ty 5 i z ht hi hz ⟨g, 0, none⟩ n cap xs (by rw [hsize]; exact hown.1) holds a 1 c [bv y] (by rw [hsize]; rfl) hnews (by omega) (by omega) (growslice_fits (by omega) (by rw [hby]; omega))
      rw [hr] at hr2
      injection hr2 with e1 e2
      subst e2
      refine hu.kept (row := none) ⟨rfl, rfl, rfl, by simp, fun k hk _ => Below.heap_alloc w.drew _ k hk⟩ (by cases u.ownBlock <;> simp)

theorem wpList_append_one {ops : Array Oper} {rest : List Oper} {o : Oper} {a : Act} {Q : Exit → Act → World → Prop} (hgd : o.guard = none) (s y : Operand) (t : TypeId)
    (ho : o.op = .call { callee := .builtin .append, args := #[s, y], argTypes := #[t, t] })
    (B : Nat) (i : TypeInfo) (z : Value) (ht : P.underlying t = some (.slice 5)) (hi : P.info? 5 = some i) (hz : i.zero = some z)
    (hsize : i.size = 1) (hby : i.bytes = 1) (hzs : z.cells.size = 1)
    (v : Value) (n : Nat) (hs : a.eval s = v) (hown : EB w B v n) (ad : Addr) (c : Nat) (b : UInt8) (hy : a.eval y = .slice (some ad) 1 c) (hc : w.cell? ad = some (bv b))
    (hn : n + 1 ≤ 140737488355328) (hbase : B ≤ w.heap.size)
    (h : ∀ v' w', EB w' B v' (n + 1) → w.grownBy w' v.ownBlock → (∀ u m, EB w B u m → EB w' B u m) → wpList P ops Q rest (a.put o.dst v') w') : wpList P ops Q (o :: rest) a w := by
  refine wpList_plain hgd fun K hK => ?_
  obtain ⟨v', w', hr, h2, h3, h4⟩ := run_append_one (P := P) w B t o.type i z ht hi hz hsize hby hzs v n hown ad c b hc hn hbase
  unfold Oper.wp execOp
  simp only [ho, resolve, invoke, builtin, Sem.run_bind, Sem.run_pure, Result.andThen_ok, List.map_toArray, List.map_cons, List.map_nil, hs, hy, hr]
  exact hK _ _ (h v' w' h2 h3 h4)
end

/-- n such elements in a row of the call's own; those from k on are no longer than M. -/
def RE (w : World) (B : Nat) (v : Value) (n : Nat) (vs : List Value) (k M : Nat) : Prop :=
  w.ownsRow B 22 1 v n vs ∧ ∀ (j : Nat) u, vs[j]? = some u → ∃ m, EB w B u m ∧ (k ≤ j → m ≤ M)
def WipePost (w : World) (B : Nat) (e : Ending) (w' : World) : Prop := (∃ x, e = .returned x) ∧ Below B w w'
theorem RE.at {w : World} {B n c k M : Nat} {A : Option Addr} {vs : List Value} (h : RE w B (.slice A n c) n vs k M) (j : Nat) (hj : j < n) :
    ∃ g A' m c', A = some ⟨g, 0, none⟩ ∧ B ≤ g ∧ vs[j]? = some (.slice A' m c') ∧ w.cell? ⟨g, j, none⟩ = some (.slice A' m c') ∧ w.frozen? ⟨g, j, none⟩ = false ∧ EB w B (.slice A' m c') m ∧ (k ≤ j → m ≤ M) ∧ m ≤ maxLen := by
  obtain ⟨h1, h2⟩ := h
  rcases h1.2 with ⟨_, rfl⟩ | ⟨g, cap, cur, e, hg, _⟩
  · omega
  · injection e with e1 e2 e3
    subst e1 e3
    have hl : j < vs.length := by have := h1.1; omega
    obtain ⟨m, hm, hM⟩ := h2 j _ (List.getElem?_eq_getElem hl)
    obtain ⟨A', c', e, h3, h4⟩ := hm.form
    rw [e] at hm
    exact ⟨g, A', m, c', rfl, hg, by rw [List.getElem?_eq_getElem hl, e], by rw [World.ownsRow.cellAt h1 j (by omega), List.getElem?_eq_getElem hl, e], World.ownsRow.frozenAt h1 j, hm, hM, by omega⟩
theorem EB.apart {w : World} {B B' m n s : Nat} {e : TypeId} {u v : Value} {vs : List Value} (h : EB w B u m) (hv : w.ownsRow B' e s v n vs) (hne : 5 ≠ e) : Apart u v := by
  obtain ⟨xs, h, _⟩ := h
  exact own_ne h hv hne
theorem EB.block {w : World} {B m c : Nat} {a : Addr} (h : EB w B (.slice (some a) m c) m) : (Value.slice (some a) m c).ownBlock = some a.block ∧ B ≤ a.block := by
  obtain ⟨xs, h, _⟩ := h
  rcases h.2 with ⟨e, _⟩ | ⟨g, cap, cur, e, hg, _⟩
  · cases e
  · injection e with e1 _ _
    injection e1 with e1
    subst e1
    exact ⟨rfl, hg⟩
/-- Behind a byte's store. -/
theorem RE.byte {w : World} {B n k M m c g j : Nat} {v : Value} {vs : List Value} (h : RE w B v n vs k M) (hu : EB w B (.slice (some ⟨g, 0, none⟩) m c) m) (y : UInt8) :
    RE (w.setCell ⟨g, j, none⟩ (.int .u8 (y.toNat : Int))) B v n vs k M := by
  have ha : v.ownBlock ≠ some g := fun e => hu.apart h.1 (by decide) g hu.block.1 e
  refine ⟨ownsRow_setCell_other h.1 ha _, fun i u hi => ?_⟩
  obtain ⟨m', h1, h2⟩ := h.2 i u hi
  exact ⟨m', h1.set g j y, h2⟩
/-- Behind an append to an element. -/
theorem RE.app {w w' : World} {B n k M m : Nat} {v u : Value} {vs : List Value} (h : RE w B v n vs k M) (hu : EB w B u m) (hg : w.grownBy w' u.ownBlock) (hk : ∀ u m, EB w B u m → EB w' B u m) : RE w' B v n vs k M := by
  refine ⟨h.1.kept hg ?_, fun i x hi => ?_⟩
  · cases hv : v.ownBlock with
    | none => exact .inl rfl
    | some g => exact .inr (fun e => hu.apart h.1 (by decide) g e.symm hv)
  · obtain ⟨m', h1, h2⟩ := h.2 i x hi
    exact ⟨m', hk _ _ h1, h2⟩
/-- Behind an element's store. -/
theorem RE.elem {w : World} {B n c k M m g : Nat} {u : Value} {vs : List Value} (h : RE w B (.slice (some ⟨g, 0, none⟩) n c) n vs k M) (hu : EB w B u m) :
    RE (w.setCell ⟨g, k, none⟩ u) B (.slice (some ⟨g, 0, none⟩) n c) n (vs.set k u) (k + 1) M ∧ w.grownBy (w.setCell ⟨g, k, none⟩ u) (some g) := by
  obtain ⟨h3, h4⟩ := World.ownsRow.stored h.1 k u
  have other : ∀ x m, EB w B x m → EB (w.setCell ⟨g, k, none⟩ u) B x m := fun x m hx => hx.setOther (fun e => hx.apart h.1 (by decide) g e rfl)
  refine ⟨⟨h3, fun j x hj => ?_⟩, h4⟩
  rw [List.getElem?_set] at hj
  split at hj
  · rename_i e
    subst e
    split at hj
    · injection hj with hj
      subst hj
      exact ⟨m, other _ _ hu, fun h => by omega⟩
    · cases hj
  · obtain ⟨m', h1, h2⟩ := h.2 j x hj
    exact ⟨m', other _ _ h1, fun h => h2 (by omega)⟩

theorem RE.alloc {w : World} {B n k M : Nat} {v : Value} {vs : List Value} (h : RE w B v n vs k M) (o : Obj) : RE (w.alloc o) B v n vs k M :=
  ⟨World.ownsRow.alloc h.1 o, fun i u hi => by
    obtain ⟨m, h1, h2⟩ := h.2 i u hi
    exact ⟨m, h1.kept (World.grownBy_alloc w o none) (by cases u.ownBlock <;> simp), h2⟩⟩
theorem wrapU8 (n : Int) : IntKind.u8.wrap n = n % 256 := by simp [IntKind.wrap, IntKind.bits, IntKind.signed]
theorem xorU8 (a b : Nat) (ha : a < 256) (hb : b < 256) : bits .xor .u8 (a : Int) (b : Int) = ((a ^^^ b : Nat) : Int) := by
  have hx : a ^^^ b < 2 ^ 8 := Nat.xor_lt_two_pow (by omega) (by omega)
  have h1 : (BitVec.ofInt 8 (a : Int)).toNat = a := by
    rw [BitVec.ofInt_natCast, BitVec.toNat_ofNat]; exact Nat.mod_eq_of_lt (by omega)
  have h2 : (BitVec.ofInt 8 (b : Int)).toNat = b := by
    rw [BitVec.ofInt_natCast, BitVec.toNat_ofNat]; exact Nat.mod_eq_of_lt (by omega)
  show IntKind.u8.wrap ((BitVec.ofInt 8 (a : Int) ^^^ BitVec.ofInt 8 (b : Int)).toNat : Int) = _
  rw [BitVec.toNat_xor, h1, h2, wrapU8]
  omega
theorem not_fact (b : UInt8) : ∃ y : UInt8, bits .xor .u8 (if IntKind.u8.signed = true then -1 else IntKind.u8.max) (b.toNat : Int) = (y.toNat : Int) := by
  have hc := b.toNat_lt
  have hlt : 255 ^^^ b.toNat < 256 := Nat.xor_lt_two_pow (n := 8) (by omega) (by omega)
  refine ⟨UInt8.ofNat (255 ^^^ b.toNat), ?_⟩
  rw [UInt8.toNat_ofNat_of_lt' (by simpa [UInt8.size] using hlt)]
  exact xorU8 255 b.toNat (by omega) (by omega)

set_option maxHeartbeats 1600000 in
set_option maxRecDepth 100000 in
theorem wipe_any (v : Value) (n B M : Nat) (vs : List Value) (w : World) (h : RE w B v n vs 0 M) (hB : B ≤ w.heap.size) (hM : M ≤ 100000000) (hn : n ≤ 140737488355328) :
    Calls Try.prog 20 #[v] w (WipePost w B) := by
  obtain ⟨i0, hi, hz0, hz1, hz2⟩ := info_parts Try.info_u8
  obtain ⟨A, c, rfl⟩ : ∃ A c, v = .slice A n c := by
    rcases h.1.2 with ⟨rfl, rfl⟩ | ⟨g, cap, cur, rfl, _⟩
    · exact ⟨_, _, rfl⟩
    · exact ⟨_, _, rfl⟩
  have H0 := Lib.hid h
  have HI := Lib.hid one_new
  clear h
  go_enter Try.func20, Try.ntmps20
  go_wp2
  go_loopw [2] (fun i wr => ∃ k : Nat, k ≤ n ∧ i = .int .i64 k ∧ (∃ vs, RE wr B (.slice A n c) n vs k M) ∧ Below B w wr) (fun i _ => n - (intOf i).toNat)
  case atStart => exact ⟨0, Nat.zero_le _, rfl, ⟨vs, H0.out⟩, Below.refl _ _⟩
  case round =>
    obtain ⟨k, hk, rfl, ⟨us, hre⟩, hbw⟩ := hrel
    have R := Lib.hid hre
    have BW := Lib.hid hbw
    clear hre hbw
    by_cases hlt : k < n
    · obtain ⟨g, A1, m, c1, rfl, hg, hu1, hu2, hu3, hu4, hu5, hu6⟩ := R.out.at k hlt
      have hmM := hu5 (Nat.le_refl _)
      have U1 := Lib.hid hu1
      have U4 := Lib.hid hu4
      have hki : (k : Int) < (n : Int) := by omega
      clear hu1 hu3 hu4 hu5
      go_wp2_with fail
      go_loopw [3] (fun j wq => ∃ q : Nat, q ≤ m ∧ j = .int .i64 q ∧ RE wq B (.slice (some ⟨g, 0, none⟩) n c) n us k M ∧ Below B w wq) (fun j _ => m - (intOf j).toNat)
      case atStart => exact ⟨0, Nat.zero_le _, rfl, R.out, BW.out⟩
      case round =>
        clear hu2 R BW U4
        obtain ⟨q, hq, rfl, hre, hbw⟩ := hrel
        have R := Lib.hid hre
        have BW := Lib.hid hbw
        clear hre hbw
        obtain ⟨g', A1', m', c1', e1, _, hv1, hv2, hv3, hv4, _, _⟩ := R.out.at k hlt
        injection e1 with e1
        injection e1 with e1 _ _
        subst e1
        rw [U1.out] at hv1
        injection hv1 with hv1
        injection hv1 with e1 e2 e3
        subst e1 e2 e3
        have U4 := Lib.hid hv4
        have U3 := Lib.hid hv3
        clear hv3 hv4
        by_cases hlt2 : q < m
        · obtain ⟨g2, b, rfl, hg2, hb1, hb2⟩ := U4.out.at q hlt2
          have hqi : (q : Int) < (m : Int) := by omega
          go_upto_region 6 with fail
          go_region
          obtain ⟨y, hy⟩ := not_fact b
          rw [hy]
          have R' : Hid (RE (wr.setCell ⟨g2, q, none⟩ (.int .u8 (y.toNat : Int))).drew B (.slice (some ⟨g, 0, none⟩) n c) n us k M) := R.out.byte U4.out y
          have BW' : Hid (Below B w (wr.setCell ⟨g2, q, none⟩ (.int .u8 (y.toNat : Int))).drew) := (BW.out.setCell (p := ⟨g2, q, none⟩) hg2 _).drew
          generalize (wr.setCell ⟨g2, q, none⟩ (.int .u8 (y.toNat : Int))).drew = wd at *
          clear hy hb1 hb2 hv2 R BW U3 U4
          go_wp2
          go_roundw
          case rel => exact ⟨q + 1, by omega, by go_num, R'.out, BW'.out⟩
          case measure => simp [intOf]; omega
        · obtain rfl : q = m := by omega
          have hsz : B ≤ wr.heap.size := Nat.le_trans hB BW.out.size
          have R1 : Hid (RE (wr.alloc (.cells #[.int .u8 7] 5)) B (.slice (some ⟨g, 0, none⟩) n c) n us k M) := R.out.alloc _
          have B1 : Hid (Below B w (wr.alloc (.cells #[.int .u8 7] 5))) := BW.out.alloc hsz _
          have U5 : Hid (EB (wr.alloc (.cells #[.int .u8 7] 5)) B (.slice A1 q c1) q) := U4.out.kept (World.grownBy_alloc wr _ none) (by cases (Value.slice A1 q c1).ownBlock <;> simp)
          have C7 : Hid ((wr.alloc (.cells #[.int .u8 7] 5)).cell? ⟨wr.heap.size, 0, none⟩ = some (bv 7)) := by
            show _ = _
            rw [World.cell?_alloc_new]; rfl
          go_wp2_with (at_builtin; refine wpList_append_one _ rfl _ _ 22 rfl B i0 (.int .u8 0) Try.underlying22 hi hz0 hz1 hz2 rfl _ q rfl U5.out ⟨wr.heap.size, 0, none⟩ 1 7 rfl C7.out ?c3 ?c4 ?_)
          case c3 => omega
          case c4 => first | omega | (simp; omega)
          intro v2 w2 hown hgrow hall
          obtain ⟨A3, c3', rfl, _, _⟩ := hown.form
          have R2 : Hid (RE w2 B (.slice (some ⟨g, 0, none⟩) n c) n us k M) := R1.out.app U5.out hgrow hall
          have E2 := Lib.hid hown
          have hs1 : B ≤ (wr.alloc (.cells #[.int .u8 7] 5)).heap.size := by simp; omega
          have B2 : Hid (Below B w w2) := B1.out.grown hgrow hs1 (fun i hi => by
            obtain ⟨xs, h, _⟩ := U5.out
            exact (World.ownsRow.lt h i hi).1)
          obtain ⟨g', A2', m2', c2', e1, _, _, hx2, hx3, _⟩ := R2.out.at k hlt
          injection e1 with e1
          injection e1 with e1 _ _
          subst e1
          clear hown hgrow hall R R1 B1 U5 C7 BW hv2 U3 U4
          go_wp2
          obtain ⟨r3, r4⟩ := R2.out.elem E2.out
          have B3 : Hid (Below B w (w2.setCell ⟨g, k, none⟩ (.slice A3 (q + 1) c3'))) := B2.out.setCell (p := ⟨g, k, none⟩) hg _
          have R3 := Lib.hid r3
          clear r3 r4
          go_roundw
          case rel => exact ⟨k + 1, by omega, by go_num, ⟨_, R3.out⟩, B3.out⟩
          case measure => simp [intOf]; omega
    · obtain rfl : k = n := by omega
      go_wp2
      go_end0
      exact ⟨⟨_, rfl⟩, BW.out⟩
end Go.Proofs.Ytamfceklddbldaa
