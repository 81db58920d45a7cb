/- Contracts of pick.Sync, pick.Proposer. -/
import Derived.Test.YtfagmjlgpfnniaaDoorKeys2
import Derived.Deep.RegionHeld3
namespace Go.Proofs.YtfagmjlgpfnniaaDoor
open Go.RowKit

theorem yieldsIf_load_blk {P : Program} {ops : Array Oper} {op : Oper} {a : Act} (hw : Region.wanted op (yielded ops a.tmps) = true) (ty : TypeId) (x : Operand) (ho : op.op = .load ty x)
    (g : Nat) (hx : a.eval x = .pointer (some ⟨g, 0, none⟩)) (T : TypeId) (L : List Value) {S : World → Prop} (hS : ∀ w, S w → Blk w g T L) {d : TypeDesc}
    (hu : P.underlying ty = some d) (hd : d.isRow = true) (n : Nat) (hi : (P.info? ty).map (·.size) = some n) (hl : L.length = n) : YieldsIf P ops S op (.agg L.toArray) a :=
  yieldsIf_load_mid hw ty x ho g 0 hx L d (fun w hw j v hv => by rw [Nat.zero_add, (hS w hw).cell]; exact hv) hu hd (by rw [hi, hl])
theorem YieldsIf.pure {P : Program} {ops : Array Oper} {S : World → Prop} {op : Oper} {a : Act} {v : Value} (hw : Region.wanted op (yielded ops a.tmps) = true) (h : ∀ w, (execOp a.eval op).run P w = .ok (.value v) w) : YieldsIf P ops S op v a := .inl ⟨hw, fun w _ => h w⟩
theorem YieldsIf.cell {P : Program} {ops : Array Oper} {S : World → Prop} {op : Oper} {a : Act} {v : Value} (hw : Region.wanted op (yielded ops a.tmps) = true) (h : ∀ w, S w → (execOp a.eval op).run P w = .ok (.value v) w) : YieldsIf P ops S op v a := .inl ⟨hw, h⟩
theorem wpAnyH_take2 {P : Program} {ops : Array Oper} {Q : Exit → Act → World → Prop} {md : Region.Mode} {S : World → Prop} {i : Nat} {oi : Oper} {v : Value} {fuel : Nat} {listed : Array Bool} {a : Act} {w : World} (d : Option Tmp) (hi : ops[i]? = some oi) (hd : oi.dst = d)
    (hs : Region.noSelect ops = true) (hf : Region.free md ops listed i = true) (hr : (Region.ready md ops listed).contains i = true)
    (hQ : ∀ c a w, Q (.panic c) (a.put d v) w → Q (.panic c) a w) (hy : YieldsIf P ops S oi v a) (hS : S w)
    (h : wpAnyH P md ops Q S fuel (listed.setIfInBounds i true) (a.put d v) w) : wpAnyH P md ops Q S (fuel + 1) listed a w := by
  subst hd
  exact wpAnyH_take hi hs hf hr hQ hy hS h
def syncR (D : SD) : Option (List Nat) := drawR D (activesF D (D.slot / 4 + 1) D.nv) (seedF D (D.slot / 4 + 1) 7) 8
theorem actives_lt {D : SD} {e n v : Nat} (h : v ∈ activesF D e n) : v < n ∧ actF D e v = true := by
  unfold activesF at h
  rw [List.mem_filter, List.mem_range] at h
  exact h
set_option maxHeartbeats 3200000 in
set_option maxRecDepth 100000 in
theorem sync_any (X : List Value) (D : SD) (w : World) (tab : Tab w) (st : St w X D) (hn : D.nv ≤ 100) :
    Calls Tryd.prog 9 #[.agg X.toArray] w (DrawPost w (syncR D)) := by
  have HT := Lib.hid tab
  have HST := Lib.hid st
  have h2 := tab.size
  have HLEN := Lib.hid st.len
  obtain ⟨sl, hsl⟩ : ∃ sl, sl = D.slot := ⟨_, rfl⟩
  have lsl : sl < 18446744073709551616 := by rw [hsl]; exact st.slotl
  obtain ⟨e, he⟩ : ∃ e, e = sl / 4 + 1 := ⟨_, rfl⟩
  have ee : (sl : Int) / 4 + 1 = (e : Int) := by omega
  have le : e < 9223372036854775807 := by omega
  have HSY := Lib.hid (show syncR D = drawR D (activesF D e D.nv) (seedF D e 7) 8 by rw [he, hsl]; rfl)
  rw [HSY.out]
  have bx := Lib.hid (Blk.new w 49 X)
  have b0 := Lib.hid ((Below.refl _ w).alloc (Nat.le_refl _) (.cells X.toArray 49))
  have c33 : (w.alloc (.cells X.toArray 49)).cell? ⟨w.heap.size, 33, none⟩ = some (.int .u64 (sl : Nat)) := by rw [bx.out.cell, hsl]; exact st.slot
  have hal := Lib.hid (show (activesF D e D.nv).length ≤ 100 by have := activesF_length D e D.nv; omega)
  clear tab st hsl he
  go_enter Tryd.func9, Tryd.ntmps9
  go_upto_region 2 with fail
  clear c33
  refine wp_region_held_drew (S := fun W => Blk W w.heap.size 49 X) (by kernel_rfl) bx.out.drew (fun hH => ?_)
  obtain ⟨W0, hW0⟩ : ∃ W0, W0 = (w.alloc (.cells X.toArray 49)).drew := ⟨_, rfl⟩
  have B0 := Lib.hid (show Below w.heap.size w W0 by rw [hW0]; exact b0.out.drew)
  rw [← hW0] at hH ⊢
  have T0 := Lib.hid (HT.out.below B0.out h2)
  have S0 := Lib.hid (HST.out.below B0.out (Nat.le_refl _))
  clear hW0
  refine wpAnyH_take2 (i := 0) (some 9) rfl rfl (by kernel_rfl) (by kernel_rfl) (by kernel_rfl) (fun _ _ _ h => h) (yieldsIf_load_blk (by rfl) _ _ rfl _ rfl _ X (fun _ h => h) Tryd.underlying49 rfl 1957 Tryd.size_state HLEN.out) hH ?_
  simp only [Act.put, List.setIfInBounds_toArray, List.set_cons_zero, List.set_cons_succ]
  refine wpAnyH_take2 (i := 1) (some 10) rfl rfl (by kernel_rfl) (by kernel_rfl) (by kernel_rfl) (fun _ _ _ h => h) (YieldsIf.pure (v := .int .u64 (e : Nat)) (by rfl) (fun W => by go_simp)) hH ?_
  simp only [Act.put, List.setIfInBounds_toArray, List.set_cons_zero, List.set_cons_succ]
  refine wpAnyH_take2 (i := 3) (some 12) rfl rfl (by kernel_rfl) (by kernel_rfl) (by kernel_rfl) (fun _ _ _ h => h) (yieldsIf_load_blk (by rfl) _ _ rfl _ rfl _ X (fun _ h => h) Tryd.underlying49 rfl 1957 Tryd.size_state HLEN.out) hH ?_
  simp only [Act.put, List.setIfInBounds_toArray, List.set_cons_zero, List.set_cons_succ]
  refine wpAnyH_take2 (i := 4) (some 13) rfl rfl (by kernel_rfl) (by kernel_rfl) (by kernel_rfl) (fun _ _ _ h => h) (YieldsIf.pure (v := .int .u64 (e : Nat)) (by rfl) (fun W => by go_simp)) hH ?_
  simp only [Act.put, List.setIfInBounds_toArray, List.set_cons_zero, List.set_cons_succ]
  have AC := Lib.hid (actives_any X D e (by omega) W0 S0.out hn)
  refine wpAnyH_ready (rs := [2]) (by kernel_rfl) (by simp) ?_
  refine AllReadyH.cons rfl (fun K hK => ?_) AllReadyH.nil
  go_simp
  go_wp2_with (go_at_call 12; refine (AC.out).mono ?_; rintro en W1 ⟨v1, rfl, hol1, hb1⟩; have O1 := Lib.hid hol1; have B1 := Lib.hid hb1; clear hol1 hb1)
  refine hK.out _ _ (hH.below B1.out hH.lt) (fun hH => ?_)
  clear hK K
  have S1 := Lib.hid (S0.out.below B1.out (Nat.le_refl _))
  have T1 := Lib.hid (T0.out.below B1.out T0.out.size)
  have SE := Lib.hid (seed_any X D e 7 (by omega) (by omega) W1 T1.out S1.out)
  refine wpAnyH_ready (rs := [5]) (by kernel_rfl) (by simp) ?_
  refine AllReadyH.cons rfl (fun K hK => ?_) AllReadyH.nil
  go_simp
  go_wp2_with (go_at_call 14; refine (SE.out).mono ?_; rintro en W2 ⟨rfl, hb2⟩; have B2 := Lib.hid hb2; clear hb2)
  refine hK.out _ _ (hH.below B2.out hH.lt) (fun hH => ?_)
  clear hK K
  have S2 := Lib.hid (S1.out.below B2.out (Nat.le_refl _))
  have T2 := Lib.hid (T1.out.below B2.out T1.out.size)
  have DR := Lib.hid (draw_any w.heap.size X D v1 (activesF D e D.nv) (seedF D e 7) 8 W0.heap.size (seedF_lt D e 7) (by omega) W2 T2.out S2.out hH (O1.out.sl.below B2.out (Nat.le_refl _)) hal.out (fun v hv => (actives_lt hv).1))
  refine wpAnyH_ready (rs := [6]) (by kernel_rfl) (by simp) ?_
  refine AllReadyH.cons rfl (fun K hK => ?_) AllReadyH.nil
  go_simp
  go_wp2_with (go_at_call 11; refine (DR.out).mono ?_; rintro en W3 ⟨hb3, v3, rfl, hol3⟩; have B3 := Lib.hid hb3; have O3 := Lib.hid hol3; clear hb3 hol3)
  refine hK.out _ _ (hH.below B3.out hH.lt) (fun hH => ?_)
  clear hK K
  refine wpAnyH_take2 (i := 7) (some 16) rfl rfl (by kernel_rfl) (by kernel_rfl) (by kernel_rfl) (fun _ _ _ h => h) (YieldsIf.pure (v := v3) (by rfl) (fun W => by go_simp)) hH ?_
  simp only [Act.put, List.setIfInBounds_toArray, List.set_cons_zero, List.set_cons_succ]
  refine wpAnyH_take2 (i := 8) (some 17) rfl rfl (by kernel_rfl) (by kernel_rfl) (by kernel_rfl) (fun _ _ _ h => h) (YieldsIf.pure (v := .int .i64 (codeR (drawR D (activesF D e D.nv) (seedF D e 7) 8))) (by rfl) (fun W => by go_simp)) hH ?_
  simp only [Act.put, List.setIfInBounds_toArray, List.set_cons_zero, List.set_cons_succ]
  refine wpAnyH_take2 (i := 9) (some 2) rfl rfl (by kernel_rfl) (by kernel_rfl) (by kernel_rfl) (fun _ _ _ h => h) (YieldsIf.pure (v := v3) (by rfl) (fun W => by go_simp)) hH ?_
  simp only [Act.put, List.setIfInBounds_toArray, List.set_cons_zero, List.set_cons_succ]
  refine wpAnyH_take2 (i := 10) (some 3) rfl rfl (by kernel_rfl) (by kernel_rfl) (by kernel_rfl) (fun _ _ _ h => h) (YieldsIf.pure (v := .int .i64 (codeR (drawR D (activesF D e D.nv) (seedF D e 7) 8))) (by rfl) (fun W => by go_simp)) hH ?_
  simp only [Act.put, List.setIfInBounds_toArray, List.set_cons_zero, List.set_cons_succ]
  refine wpAnyH_done (by kernel_rfl) ?_ _
  go_wp2
  go_ret2
  have b1 := B0.out.trans (B1.out.mono B0.out.size)
  have b2 := b1.trans (B2.out.mono b1.size)
  exact ⟨b2.trans (B3.out.mono b2.size), _, rfl, O3.out.lower b2.size⟩
def propR (D : SD) : Option (List Nat) := drawR D (activesF D (D.slot / 4) D.nv) (behindF (seedF D (D.slot / 4) 0) D.slot) 1
def PropPost (w : World) (D : SD) (en : Ending) (w' : World) : Prop := Below w.heap.size w w' ∧ ∃ p : Nat, en = .returned (.tuple #[.int .u64 (p : Nat), .int .i64 (codeR (propR D))]) ∧ (codeR (propR D) = 0 → p ∈ activesF D (D.slot / 4) D.nv)
set_option maxHeartbeats 3200000 in
set_option maxRecDepth 100000 in
theorem proposer_any (X : List Value) (D : SD) (w : World) (tab : Tab w) (st : St w X D) (hn : D.nv ≤ 100) :
    Calls Tryd.prog 4 #[.agg X.toArray] w (PropPost w D) := by
  have HT := Lib.hid tab
  have HST := Lib.hid st
  have h2 := tab.size
  have HLEN := Lib.hid st.len
  unfold PropPost
  obtain ⟨res, hres⟩ : ∃ r, r = propR D := ⟨_, rfl⟩
  obtain ⟨sl, hsl⟩ : ∃ sl, sl = D.slot := ⟨_, rfl⟩
  have lsl : sl < 18446744073709551616 := by rw [hsl]; exact st.slotl
  obtain ⟨e, he⟩ : ∃ e, e = sl / 4 := ⟨_, rfl⟩
  have ee : (sl : Int) / 4 = (e : Int) := by omega
  have le : e < 9223372036854775807 := by omega
  have HSY := Lib.hid (show res = drawR D (activesF D e D.nv) (behindF (seedF D e 0) sl) 1 by rw [hres, he, hsl]; rfl)
  rw [← hres, ← hsl, ← he]
  have bx := Lib.hid (Blk.new w 49 X)
  have b0 := Lib.hid ((Below.refl _ w).alloc (Nat.le_refl _) (.cells X.toArray 49))
  have hslot := Lib.hid (show X[33]? = some (.int .u64 (sl : Nat)) by rw [hsl]; exact st.slot)
  have c33 : (w.alloc (.cells X.toArray 49)).cell? ⟨w.heap.size, 33, none⟩ = some (.int .u64 (sl : Nat)) := by rw [bx.out.cell]; exact hslot.out
  have hal := Lib.hid (show (activesF D e D.nv).length ≤ 100 by have := activesF_length D e D.nv; omega)
  clear tab st hsl he hres
  go_enter Tryd.func4, Tryd.ntmps4
  go_upto_region 2 with fail
  clear c33
  refine wp_region_held_drew (S := fun W => Blk W w.heap.size 49 X) (by kernel_rfl) bx.out.drew (fun hH => ?_)
  obtain ⟨W0, hW0⟩ : ∃ W0, W0 = (w.alloc (.cells X.toArray 49)).drew := ⟨_, rfl⟩
  have B0 := Lib.hid (show Below w.heap.size w W0 by rw [hW0]; exact b0.out.drew)
  rw [← hW0] at hH ⊢
  have T0 := Lib.hid (HT.out.below B0.out h2)
  have S0 := Lib.hid (HST.out.below B0.out (Nat.le_refl _))
  clear hW0
  refine wpAnyH_take2 (i := 0) (some 11) rfl rfl (by kernel_rfl) (by kernel_rfl) (by kernel_rfl) (fun _ _ _ h => h) (yieldsIf_load_blk (by rfl) _ _ rfl _ rfl _ X (fun _ h => h) Tryd.underlying49 rfl 1957 Tryd.size_state HLEN.out) hH ?_
  simp only [Act.put, List.setIfInBounds_toArray, List.set_cons_zero, List.set_cons_succ]
  refine wpAnyH_take2 (i := 1) (some 12) rfl rfl (by kernel_rfl) (by kernel_rfl) (by kernel_rfl) (fun _ _ _ h => h) (YieldsIf.pure (v := .int .u64 (e : Nat)) (by rfl) (fun W => by go_simp)) hH ?_
  simp only [Act.put, List.setIfInBounds_toArray, List.set_cons_zero, List.set_cons_succ]
  refine wpAnyH_take2 (i := 3) (some 14) rfl rfl (by kernel_rfl) (by kernel_rfl) (by kernel_rfl) (fun _ _ _ h => h) (yieldsIf_load_blk (by rfl) _ _ rfl _ rfl _ X (fun _ h => h) Tryd.underlying49 rfl 1957 Tryd.size_state HLEN.out) hH ?_
  simp only [Act.put, List.setIfInBounds_toArray, List.set_cons_zero, List.set_cons_succ]
  refine wpAnyH_take2 (i := 4) (some 15) rfl rfl (by kernel_rfl) (by kernel_rfl) (by kernel_rfl) (fun _ _ _ h => h) (YieldsIf.pure (v := .int .u64 (e : Nat)) (by rfl) (fun W => by go_simp)) hH ?_
  simp only [Act.put, List.setIfInBounds_toArray, List.set_cons_zero, List.set_cons_succ]
  refine wpAnyH_take2 (i := 6) (some 17) rfl rfl (by kernel_rfl) (by kernel_rfl) (by kernel_rfl) (fun _ _ _ h => h) (YieldsIf.pure (v := .pointer (some ⟨w.heap.size, 33, none⟩)) (by rfl) (fun W => by go_simp)) hH ?_
  simp only [Act.put, List.setIfInBounds_toArray, List.set_cons_zero, List.set_cons_succ]
  refine wpAnyH_take2 (i := 7) (some 18) rfl rfl (by kernel_rfl) (by kernel_rfl) (by kernel_rfl) (fun _ _ _ h => h) (YieldsIf.cell (by rfl) (v := .int .u64 (sl : Nat)) (fun W hW => by have c : W.cell? ⟨w.heap.size, 33, none⟩ = some (.int .u64 (sl : Nat)) := (hW.cell 33).trans hslot.out; clear hW; go_simp)) hH ?_
  simp only [Act.put, List.setIfInBounds_toArray, List.set_cons_zero, List.set_cons_succ]
  have AC := Lib.hid (actives_any X D e (by omega) W0 S0.out hn)
  refine wpAnyH_ready (rs := [2]) (by kernel_rfl) (by simp) ?_
  refine AllReadyH.cons rfl (fun K hK => ?_) AllReadyH.nil
  go_simp
  go_wp2_with (go_at_call 12; refine (AC.out).mono ?_; rintro en W1 ⟨v1, rfl, hol1, hb1⟩; have O1 := Lib.hid hol1; have B1 := Lib.hid hb1; clear hol1 hb1)
  refine hK.out _ _ (hH.below B1.out hH.lt) (fun hH => ?_)
  clear hK K
  have S1 := Lib.hid (S0.out.below B1.out (Nat.le_refl _))
  have T1 := Lib.hid (T0.out.below B1.out T0.out.size)
  have SE := Lib.hid (seed_any X D e 0 (by omega) (by omega) W1 T1.out S1.out)
  refine wpAnyH_ready (rs := [5]) (by kernel_rfl) (by simp) ?_
  refine AllReadyH.cons rfl (fun K hK => ?_) AllReadyH.nil
  go_simp
  go_wp2_with (go_at_call 14; refine (SE.out).mono ?_; rintro en W2 ⟨rfl, hb2⟩; have B2 := Lib.hid hb2; clear hb2)
  refine hK.out _ _ (hH.below B2.out hH.lt) (fun hH => ?_)
  clear hK K
  have S2 := Lib.hid (S1.out.below B2.out (Nat.le_refl _))
  have T2 := Lib.hid (T1.out.below B2.out T1.out.size)
  have BH := Lib.hid (behind_any (seedF D e 0) (seedF_lt D e 0) sl lsl W2 T2.out)
  refine wpAnyH_ready (rs := [8]) (by kernel_rfl) (by simp) ?_
  refine AllReadyH.cons rfl (fun K hK => ?_) AllReadyH.nil
  go_simp
  go_wp2_with (go_at_call 13; refine (BH.out).mono ?_; rintro en W3 ⟨rfl, hb3⟩; have B3 := Lib.hid hb3; clear hb3)
  refine hK.out _ _ (hH.below B3.out hH.lt) (fun hH => ?_)
  clear hK K
  have S3 := Lib.hid (S2.out.below B3.out (Nat.le_refl _))
  have T3 := Lib.hid (T2.out.below B3.out T2.out.size)
  have B13 := Lib.hid (B2.out.trans (B3.out.mono B2.out.size))
  have DR := Lib.hid (draw_any w.heap.size X D v1 (activesF D e D.nv) (behindF (seedF D e 0) sl) 1 W0.heap.size (behindF_lt _ _) (by omega) W3 T3.out S3.out hH (O1.out.sl.below B13.out (Nat.le_refl _)) hal.out (fun v hv => (actives_lt hv).1))
  rw [← HSY.out] at DR
  refine wpAnyH_ready (rs := [9]) (by kernel_rfl) (by simp) ?_
  refine AllReadyH.cons rfl (fun K hK => ?_) AllReadyH.nil
  go_simp
  go_wp2_with (go_at_call 11; refine (DR.out).mono ?_; rintro en W4 ⟨hb4, v4, rfl, hol4⟩; have B4 := Lib.hid hb4; have O4 := Lib.hid hol4; clear hb4 hol4)
  refine hK.out _ _ (hH.below B4.out hH.lt) (fun hH => ?_)
  clear hK K
  refine wpAnyH_take2 (i := 10) (some 10) rfl rfl (by kernel_rfl) (by kernel_rfl) (by kernel_rfl) (fun _ _ _ h => h) (YieldsIf.pure (v := .tuple #[v4, .int .i64 (codeR res)]) (by rfl) (fun W => by go_simp)) hH ?_
  simp only [Act.put, List.setIfInBounds_toArray, List.set_cons_zero, List.set_cons_succ]
  refine wpAnyH_take2 (i := 11) (some 21) rfl rfl (by kernel_rfl) (by kernel_rfl) (by kernel_rfl) (fun _ _ _ h => h) (YieldsIf.pure (v := v4) (by rfl) (fun W => by go_simp)) hH ?_
  simp only [Act.put, List.setIfInBounds_toArray, List.set_cons_zero, List.set_cons_succ]
  refine wpAnyH_take2 (i := 12) (some 22) rfl rfl (by kernel_rfl) (by kernel_rfl) (by kernel_rfl) (fun _ _ _ h => h) (YieldsIf.pure (v := .int .i64 (codeR res)) (by rfl) (fun W => by go_simp)) hH ?_
  simp only [Act.put, List.setIfInBounds_toArray, List.set_cons_zero, List.set_cons_succ]
  refine wpAnyH_take2 (i := 13) (some 5) rfl rfl (by kernel_rfl) (by kernel_rfl) (by kernel_rfl) (fun _ _ _ h => h) (YieldsIf.pure (v := v4) (by rfl) (fun W => by go_simp)) hH ?_
  simp only [Act.put, List.setIfInBounds_toArray, List.set_cons_zero, List.set_cons_succ]
  refine wpAnyH_take2 (i := 14) (some 6) rfl rfl (by kernel_rfl) (by kernel_rfl) (by kernel_rfl) (fun _ _ _ h => h) (YieldsIf.pure (v := .int .i64 (codeR res)) (by rfl) (fun W => by go_simp)) hH ?_
  simp only [Act.put, List.setIfInBounds_toArray, List.set_cons_zero, List.set_cons_succ]
  refine wpAnyH_done (by kernel_rfl) ?_ _
  have b1 := B0.out.trans (B1.out.mono B0.out.size)
  have b3 := b1.trans (B13.out.mono b1.size)
  have HB4 := Lib.hid (b3.trans (B4.out.mono b3.size))
  clear b1 b3 DR
  cases res with
  | none =>
    have hc : codeR none = 7 := rfl
    go_wp2
    go_ret2
    exact ⟨HB4.out, 0, rfl, fun h => by rw [hc] at h; cases h⟩
  | some r =>
    have hc : codeR (some r) = 0 := rfl
    obtain ⟨q1, q2⟩ := drawR_mem HSY.out.symm
    obtain ⟨x, rfl⟩ : ∃ x, r = [x] := by
      match r, q1 with
      | [x], _ => exact ⟨x, rfl⟩
    have Q2 := Lib.hid q2
    obtain ⟨A4, c4, rfl, p1, p2, p3⟩ := O4.out.sl
    obtain ⟨b, o, rfl, -, hcell⟩ := p3 (by simp [u64s])
    have hx := hcell 0 (.int .u64 (x : Nat)) rfl
    rw [Nat.add_zero] at hx
    have hl : (u64s ((some [x]).getD [])).length = 1 := rfl
    rw [hl]
    clear p3 hcell q1 q2 p1 p2 hl
    go_wp2
    go_ret2
    exact ⟨HB4.out, x, rfl, fun _ => Q2.out x (by simp)⟩
end Go.Proofs.YtfagmjlgpfnniaaDoor
