/- Words for states; contracts of look.Actives, look.Active, comm.count, comm.Count. -/
import Derived.Test.YtfagmjlgpfnniaaDoorList2
namespace Go.Proofs.YtfagmjlgpfnniaaDoor
open Go.RowKit

/-- What of a state is read. -/
structure SD where
  slot : Nat
  nv : Nat
  A : Option Addr
  vcap : Nat
  vb : Nat
  vo : Nat
  act : Nat → Nat
  ext : Nat → Nat
  eff : Nat → Nat
  key : Nat → Nat → Nat
  mix : Nat → Nat
  val : Nat → List Value
/-- The validators in memory. -/
structure VC (w : World) (D : SD) (i : Nat) : Prop where
  len : (D.val i).length = 86
  one : ∀ v ∈ D.val i, v.oneCell' = true
  act' : (D.val i)[83]? = some (.int .u64 (D.act i : Nat))
  ext' : (D.val i)[84]? = some (.int .u64 (D.ext i : Nat))
  eff' : (D.val i)[80]? = some (.int .u64 (D.eff i : Nat))
  key' : ∀ j, j < 48 → (D.val i)[j]? = some (.int .u8 (D.key i j : Nat))
  row : w.rangeAt D.vb (D.vo + i * 86) (D.val i)
theorem VC.act {w : World} {D : SD} {i : Nat} (h : VC w D i) : w.cell? ⟨D.vb, D.vo + i * 86 + 83, none⟩ = some (.int .u64 (D.act i : Nat)) := h.row _ _ h.act'
theorem VC.ext {w : World} {D : SD} {i : Nat} (h : VC w D i) : w.cell? ⟨D.vb, D.vo + i * 86 + 84, none⟩ = some (.int .u64 (D.ext i : Nat)) := h.row _ _ h.ext'
theorem VC.eff {w : World} {D : SD} {i : Nat} (h : VC w D i) : w.cell? ⟨D.vb, D.vo + i * 86 + 80, none⟩ = some (.int .u64 (D.eff i : Nat)) := h.row _ _ h.eff'
theorem VC.key {w : World} {D : SD} {i : Nat} (h : VC w D i) : Row w D.vb (D.vo + i * 86) 48 .u8 (D.key i) := fun j hj => h.row _ _ (h.key' j hj)
theorem VC.lt {w : World} {D : SD} {i : Nat} (h : VC w D i) : D.vb < w.heap.size := World.block_lt_of_cell? w _ h.act
theorem VC.below {w w' : World} {D : SD} {i B : Nat} (h : VC w D i) (hb : Below B w w') (hB : w.heap.size ≤ B) : VC w' D i :=
  ⟨h.len, h.one, h.act', h.ext', h.eff', h.key', fun j v hv => (hb.cell (p := ⟨D.vb, _, none⟩) (Nat.lt_of_lt_of_le h.lt hB)).trans (h.row j v hv)⟩
theorem VC.only {w w' : World} {D : SD} {i g : Nat} (h : VC w D i) (hb : Only g w w') (hB : D.vb ≠ g) : VC w' D i :=
  ⟨h.len, h.one, h.act', h.ext', h.eff', h.key', fun j v hv => (hb.cell (p := ⟨D.vb, _, none⟩) h.lt hB).trans (h.row j v hv)⟩
structure St (w : World) (X : List Value) (D : SD) : Prop where
  len : X.length = 1957
  one : ∀ v ∈ X, v.oneCell' = true
  slot : X[33]? = some (.int .u64 (D.slot : Nat))
  slotl : D.slot < 18446744073709551616
  vals : X[721]? = some (.slice D.A D.nv D.vcap)
  addr : 0 < D.nv → D.A = some ⟨D.vb, D.vo, none⟩
  cap : D.nv ≤ D.vcap
  capl : D.vcap ≤ maxLen
  vc : ∀ i, i < D.nv → VC w D i
  actl : ∀ i, D.act i < 18446744073709551616
  extl : ∀ i, D.ext i < 18446744073709551616
  effl : ∀ i, D.eff i < 18446744073709551616
  mix : ∀ i, i < 256 → X[723 + i]? = some (.int .u8 (D.mix i : Nat))
  mixl : ∀ i, D.mix i < 256
theorem St.below {w w' : World} {X : List Value} {D : SD} {B : Nat} (h : St w X D) (hb : Below B w w') (hB : w.heap.size ≤ B) : St w' X D :=
  ⟨h.len, h.one, h.slot, h.slotl, h.vals, h.addr, h.cap, h.capl, fun i hi => (h.vc i hi).below hb hB, h.actl, h.extl, h.effl, h.mix, h.mixl⟩
theorem St.only {w w' : World} {X : List Value} {D : SD} {g : Nat} (h : St w X D) (hb : Only g w w') (hg : ∀ i, i < D.nv → D.vb ≠ g) : St w' X D :=
  ⟨h.len, h.one, h.slot, h.slotl, h.vals, h.addr, h.cap, h.capl, fun i hi => (h.vc i hi).only hb (hg i hi), h.actl, h.extl, h.effl, h.mix, h.mixl⟩
theorem Tryd.size_state : (Tryd.prog.info? 49).map (·.size) = some 1957 := by kernel_rfl
/-- Those that are active. -/
def actF (D : SD) (e : Nat) (i : Nat) : Bool := decide (D.act i ≤ e) && decide (e < D.ext i)
def activesF (D : SD) (e n : Nat) : List Nat := (List.range n).filter (actF D e)
theorem activesF_length (D : SD) (e n : Nat) : (activesF D e n).length ≤ n := by
  have := List.length_filter_le (actF D e) (List.range n)
  rwa [List.length_range] at this
theorem activesF_succ (D : SD) (e n : Nat) : activesF D e (n + 1) = if actF D e n = true then activesF D e n ++ [n] else activesF D e n := by
  unfold activesF
  rw [List.range_succ, List.filter_append]
  cases h : actF D e n <;> simp [List.filter_cons, h]
structure AR (w : World) (X : List Value) (D : SD) (e j : Nat) (v : Value) (wr : World) : Prop where
  below : Below w.heap.size w wr
  box : Blk wr w.heap.size 49 X
  own : OL wr (w.heap.size + 1) v (activesF D e j)
theorem AR.keep {w wr : World} {X : List Value} {D : SD} {e j : Nat} {v : Value} (h : AR w X D e j v wr) (hn : actF D e j = false) : AR w X D e (j + 1) v wr :=
  ⟨h.below, h.box, by rw [activesF_succ, hn]; exact h.own⟩
theorem AR.add {w wr w6 w7 : World} {X : List Value} {D : SD} {e j : Nat} {v v' : Value} (h : AR w X D e j v wr) (hn : actF D e j = true) (h6 : Below wr.heap.size wr w6)
    (h7 : w7.ownsRow (w.heap.size + 1) 22 1 v' ((activesF D e j).length + 1) (u64s (activesF D e j) ++ [.int .u64 (j : Nat)])) (hg : w6.grownBy w7 v.ownBlock) : AR w X D e (j + 1) v' w7 := by
  have hlt := h.own.lt
  have hs := h.below.size
  refine ⟨?_, ?_, ?_⟩
  · exact (h.below.trans (h6.mono hs)).grown hg (by have := h6.size; omega) fun k hk => by have := (hlt k hk).1; omega
  · exact (h.box.below h6 h.box.lt).grown hg fun e => by have := (hlt _ e.symm).1; omega
  · rw [activesF_succ, if_pos hn]
    exact OL.mk h7 (by simp) (by simp [u64s])
def ActPost (w : World) (D : SD) (e : Nat) (en : Ending) (w' : World) : Prop := ∃ v, en = .returned v ∧ OL w' w.heap.size v (activesF D e D.nv) ∧ Below w.heap.size w w'
theorem OL.lower {w : World} {B B' : Nat} {v : Value} {l : List Nat} (h : OL w B v l) (hB : B' ≤ B) : OL w B' v l := by
  obtain ⟨h1, h2⟩ := h
  refine ⟨h1, ?_⟩
  rcases h2 with h2 | ⟨g, cap, cur, e, hg, rest⟩
  · exact .inl h2
  · exact .inr ⟨g, cap, cur, e, by omega, rest⟩
set_option maxHeartbeats 3200000 in
set_option maxRecDepth 100000 in
theorem actives_any (X : List Value) (D : SD) (e : Nat) (he : e < 18446744073709551616) (w : World) (st : St w X D) (hn : D.nv ≤ 100) :
    Calls Tryd.prog 12 #[.agg X.toArray, .int .u64 e] w (ActPost w D e) := by
  have HST := Lib.hid st
  obtain ⟨i0, hi, hz0, hz1, hz2⟩ := info_parts Tryd.info_u64
  have bx := Lib.hid (Blk.new w 49 X)
  have c721 : (w.alloc (.cells X.toArray 49)).cell? ⟨w.heap.size, 721, none⟩ = some (.slice D.A D.nv D.vcap) := by rw [bx.out.cell]; exact st.vals
  clear st
  go_enter Tryd.func12, Tryd.ntmps12
  go_wp2
  clear c721
  go_loopw [5, 11] (fun v k wr => ∃ j : Nat, j ≤ D.nv ∧ k = .int .i64 (j : Nat) ∧ AR w X D e j v wr) (fun _ k _ => D.nv - (intOf k).toNat)
  case atStart => exact ⟨0, Nat.zero_le _, rfl, (Below.refl _ w).alloc (Nat.le_refl _) _, bx.out, World.ownsRow_nil _ _ _ _⟩
  case round =>
    obtain ⟨j, hj, rfl, hr⟩ := hrel
    have HR := Lib.hid hr
    by_cases hlt : j < D.nv
    · have c721 : wr.cell? ⟨w.heap.size, 721, none⟩ = some (.slice D.A D.nv D.vcap) := by rw [hr.box.cell]; exact HST.out.vals
      have hvc := ((HST.out.vc j hlt).below hr.below (Nat.le_refl _))
      have c1 := hvc.act
      have c2 := hvc.ext
      have hA := HST.out.addr (by omega)
      rw [hA] at c721
      have la := HST.out.actl j
      have lx := HST.out.extl j
      obtain ⟨a, hau⟩ : ∃ a, a = D.act j := ⟨_, rfl⟩
      obtain ⟨x, hxu⟩ : ∃ a, a = D.ext j := ⟨_, rfl⟩
      rw [← hau] at c1 la
      rw [← hxu] at c2 lx
      have HAU := Lib.hid hau
      have HXU := Lib.hid hxu
      clear hau hxu hA hvc hr
      by_cases h1 : a ≤ e
      · have d1 : decide (a ≤ e) = true := by simp [h1]
        have d1' : decide ((a : Int) ≤ (e : Int)) = true := by simp; omega
        by_cases h2 : e < x
        · have d2 : decide (e < x) = true := by simp [h2]
          have d2' : decide ((e : Int) < (x : Int)) = true := by simp; omega
          have HAC := Lib.hid (show actF D e j = true by unfold actF; rw [← HAU.out, ← HXU.out, d1, d2]; rfl)
          have hal := activesF_length D e j
          have HOW := Lib.hid (HR.out.own.alloc (.cells #[.int .u64 (j : Nat)] 22))
          have hnews : ∀ (i : Nat) (u : Value), [(.int .u64 (j : Nat) : Value)][i]? = some u → (wr.alloc (.cells #[.int .u64 (j : Nat)] 22)).cell? ((⟨wr.heap.size, 0, none⟩ : Addr).add i) = some u := by
            intro i u hu
            rw [show (⟨wr.heap.size, 0, none⟩ : Addr).add i = ⟨wr.heap.size, i, none⟩ from by unfold Addr.add; split <;> simp_all, World.cell?_alloc_new]
            simpa using hu
          have HN := Lib.hid hnews
          have hone : ∀ u ∈ [(.int .u64 (j : Nat) : Value)], u.oneCell' = true := by
            intro u hu
            simp only [List.mem_cons, List.not_mem_nil, or_false] at hu
            subst hu; rfl
          have HO := Lib.hid hone
          have H63 := Lib.hid (show (activesF D e j).length + 1 ≤ maxLen by unfold maxLen; omega)
          have HBY := Lib.hid (show ((activesF D e j).length + 1) * 8 ≤ 140737488355328 by omega)
          have HBA := Lib.hid (show w.heap.size + 1 ≤ (wr.alloc (.cells #[.int .u64 (j : Nat)] 22)).heap.size by have := HR.out.box.lt; simp; omega)
          clear hnews hone hal
          go_wp2_with (at_builtin; refine wpList_append_at rfl _ _ _ rfl (w.heap.size + 1) 22 i0 _ 1 8 Tryd.underlying37 hi hz0 hz1 hz2 rfl (by decide) _ (activesF D e j).length _ rfl HOW.out ⟨wr.heap.size, 0, none⟩ 1 1 _ rfl rfl HN.out HO.out H63.out HBY.out HBA.out ?_; intro v' w7 hown7 hg7 hm7; have HO7 := Lib.hid hown7; have HG7 := Lib.hid hg7; clear hown7 hg7 hm7)
          go_roundw
          case rel => exact ⟨j + 1, by omega, by go_num, HR.out.add HAC.out ((Below.refl _ wr).alloc (Nat.le_refl _) _) HO7.out HG7.out⟩
          case measure => simp [intOf]; omega
        · have d2 : decide (e < x) = false := by simp; omega
          have d2' : decide ((e : Int) < (x : Int)) = false := by simp; omega
          have HAC := Lib.hid (show actF D e j = false by unfold actF; rw [← HAU.out, ← HXU.out, d1, d2]; rfl)
          go_wp2
          go_roundw
          case rel => exact ⟨j + 1, by omega, by go_num, HR.out.keep HAC.out⟩
          case measure => simp [intOf]; omega
      · have d1 : decide (a ≤ e) = false := by simp; omega
        have d1' : decide ((a : Int) ≤ (e : Int)) = false := by simp; omega
        have HAC := Lib.hid (show actF D e j = false by unfold actF; rw [← HAU.out, d1]; rfl)
        go_wp2
        go_roundw
        case rel => exact ⟨j + 1, by omega, by go_num, HR.out.keep HAC.out⟩
        case measure => simp [intOf]; omega
    · obtain rfl : j = D.nv := by omega
      clear hr
      go_wp2
      go_ret
      exact ⟨_, rfl, HR.out.own.lower (by omega), HR.out.below⟩
set_option maxHeartbeats 1600000 in
theorem count_any (n : Nat) (hn : n ≤ 1000) (w : World) : Calls Tryd.prog 15 #[.int .i64 n] w fun e w' => e = .returned (.int .u64 ((min 2 (max 1 (n / 8)) : Nat) : Int)) ∧ w = w' := by
  obtain ⟨q, hq⟩ : ∃ q, q = n / 8 := ⟨_, rfl⟩
  have eq : (n : Int) / 8 = (q : Int) := by omega
  rw [← hq]
  clear hq
  by_cases h1 : q ≤ 1
  · have e1 : max 1 q = 1 := by omega
    have e2 : max (1 : Int) (q : Int) = 1 := by omega
    rw [e1]
    go_enter Tryd.func15, Tryd.ntmps15
    go_wp2
    go_ret
    exact ⟨rfl, rfl⟩
  · have e1 : min 2 (max 1 q) = 2 := by omega
    have e2 : max (1 : Int) (q : Int) = (q : Int) := by omega
    have e3 : min (2 : Int) (q : Int) = 2 := by omega
    rw [e1]
    go_enter Tryd.func15, Tryd.ntmps15
    go_wp2
    go_ret
    exact ⟨rfl, rfl⟩
def countF (n : Nat) : Nat := min 2 (max 1 (n / 8))
def CountPost (w : World) (D : SD) (e : Nat) (en : Ending) (w' : World) : Prop := en = .returned (.int .u64 ((countF (activesF D e D.nv).length : Nat) : Int)) ∧ Below w.heap.size w w'
set_option maxHeartbeats 1600000 in
set_option maxRecDepth 100000 in
theorem Count_any (X : List Value) (D : SD) (e : Nat) (he : e < 18446744073709551616) (w : World) (st : St w X D) (hn : D.nv ≤ 100) :
    Calls Tryd.prog 5 #[.agg X.toArray, .int .u64 e] w (CountPost w D e) := by
  have HST := Lib.hid st
  have bx := Lib.hid (Blk.new w 49 X)
  have b0 := Lib.hid ((Below.refl _ w).alloc (Nat.le_refl _) (.cells X.toArray 49))
  have AC := Lib.hid (actives_any X D e he _ (st.below b0.out (Nat.le_refl _)) hn)
  have hal := activesF_length D e D.nv
  have hlen := Lib.hid st.len
  obtain ⟨m, hm⟩ : ∃ m, m = (activesF D e D.nv).length := ⟨_, rfl⟩
  rw [← hm] at hal
  have CN := Lib.hid (fun w => count_any m (by omega) w)
  have HM := Lib.hid hm
  clear st hm hal
  go_enter Tryd.func5, Tryd.ntmps5
  go_wp2_with (first | (with_reducible refine wpList_load_blk rfl _ _ rfl _ rfl _ _ bx.out _ Tryd.underlying49 rfl 1957 Tryd.size_state hlen.out ?_) | (go_at_call 12; refine AC.out.mono ?_; rintro en w1 ⟨v1, rfl, hol1, hb1⟩; have HB1 := Lib.hid hb1; obtain ⟨A1, c1, rfl, q1, q2, q3⟩ := hol1.sl; rw [u64s_length, ← HM.out]; clear q1 q2 q3 hol1 hb1) | (go_at_call 15; refine (CN.out _).mono ?_; rintro en w2 ⟨rfl, rfl⟩))
  go_ret
  refine ⟨?_, b0.out.trans (HB1.out.mono (by simp))⟩
  show Ending.returned (.int .u64 ((min 2 (max 1 (m / 8)) : Nat) : Int)) = _
  rw [HM.out]; rfl
def ActiveB (V : List Value) (a x : Nat) : Prop := V.length = 86 ∧ V[83]? = some (.int .u64 (a : Nat)) ∧ V[84]? = some (.int .u64 (x : Nat))
set_option maxHeartbeats 1600000 in
set_option maxRecDepth 100000 in
theorem active_any (V : List Value) (a x e : Nat) (hV : ActiveB V a x) (la : a < 18446744073709551616) (lx : x < 18446744073709551616) (he : e < 18446744073709551616) (w : World) :
    Calls Tryd.prog 8 #[.agg V.toArray, .int .u64 e] w fun en w' => en = .returned (.bool (decide (a ≤ e) && decide (e < x))) ∧ Below w.heap.size w w' := by
  have bx := Lib.hid (Blk.new w 60 V)
  have b0 := Lib.hid ((Below.refl _ w).alloc (Nat.le_refl _) (.cells V.toArray 60))
  have c1 : (w.alloc (.cells V.toArray 60)).cell? ⟨w.heap.size, 83, none⟩ = some (.int .u64 (a : Nat)) := by rw [bx.out.cell]; exact hV.2.1
  have c2 : (w.alloc (.cells V.toArray 60)).cell? ⟨w.heap.size, 84, none⟩ = some (.int .u64 (x : Nat)) := by rw [bx.out.cell]; exact hV.2.2
  clear hV
  by_cases h1 : a ≤ e
  · have d1 : decide (a ≤ e) = true := by simp [h1]
    have d1' : decide ((a : Int) ≤ (e : Int)) = true := by simp; omega
    rw [d1]
    by_cases h2 : e < x
    · have d2 : decide (e < x) = true := by simp [h2]
      have d2' : decide ((e : Int) < (x : Int)) = true := by simp; omega
      rw [d2]
      go_enter Tryd.func8, Tryd.ntmps8
      go_wp2
      go_ret
      exact ⟨rfl, b0.out⟩
    · have d2 : decide (e < x) = false := by simp; omega
      have d2' : decide ((e : Int) < (x : Int)) = false := by simp; omega
      rw [d2]
      go_enter Tryd.func8, Tryd.ntmps8
      go_wp2
      go_ret
      exact ⟨rfl, b0.out⟩
  · have d1 : decide (a ≤ e) = false := by simp; omega
    have d1' : decide ((a : Int) ≤ (e : Int)) = false := by simp; omega
    rw [d1]
    go_enter Tryd.func8, Tryd.ntmps8
    go_wp2
    go_ret
    exact ⟨rfl, b0.out⟩
end Go.Proofs.YtfagmjlgpfnniaaDoor
