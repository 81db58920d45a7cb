/- Contract of pick.Next. -/
import Derived.Test.YtfagmjlgpfnniaaDoorPick
namespace Go.Proofs.YtfagmjlgpfnniaaDoor
open Go.RowKit

theorem Blk.setCells {g : Nat} {T : TypeId} : ∀ (vs : List Value) {w : World} {L : List Value} (o : Nat), Blk w g T L → o + vs.length ≤ L.length → Blk (w.setCells g o vs) g T (splice L o vs) ∧ Only g w (w.setCells g o vs)
  | [], w, L, o, h, _ => ⟨by simpa [splice, World.setCells] using h, Only.refl _ _⟩
  | v :: r, w, L, o, h, hl => by
    have hl' : o + (r.length + 1) ≤ L.length := by simpa using hl
    obtain ⟨h1, h2⟩ := Blk.setCells r (o + 1) (h.set o v) (by rw [List.length_set]; omega)
    refine ⟨?_, ((Only.refl _ _).setCell o v).trans h2⟩
    have e : splice (L.set o v) (o + 1) r = splice L o (v :: r) := by
      apply List.ext_getElem?
      intro i
      rw [splice_get _ _ _ _ (by rw [List.length_set]; omega), splice_get _ _ _ _ hl]
      simp only [List.length_cons]
      by_cases e1 : i = o
      · subst e1
        rw [if_neg (by omega), if_pos (by omega), List.getElem?_set_self (by omega), Nat.sub_self]; rfl
      · by_cases e2 : o + 1 ≤ i ∧ i < o + 1 + r.length
        · rw [if_pos e2, if_pos (by omega), show i - o = (i - (o + 1)) + 1 by omega]; rfl
        · rw [if_neg e2, if_neg (by omega), List.getElem?_set_ne (by omega)]
    rw [← e]; exact h1
theorem Blk.there {w : World} {g o n : Nat} {T : TypeId} {L : List Value} (h : Blk w g T L) (hl : o + n ≤ L.length) : w.there g o n := fun j hj => ⟨by rw [h.cell, List.getElem?_eq_getElem (by omega)]; rfl, h.frozen _⟩
theorem wpList_store_midblk {P : Program} {ops : Array Oper} {rest : List Oper} {op : Oper} {a : Act} {w : World} {Q : Exit → Act → World → Prop} (hgd : op.guard = none) (ty : TypeId) (x y : Operand) (ho : op.op = .store ty x y)
    (g o : Nat) (new : List Value) (hx : a.eval x = .pointer (some ⟨g, o, none⟩)) (hy : a.eval y = .agg new.toArray)
    (T : TypeId) (L : List Value) (hg : Blk w g T L) (n : Nat) (hi : (P.info? ty).map (·.size) = some n) (hn : new.length = n) (hl : o + n ≤ L.length) (h3 : ∀ v ∈ new, v.oneCell' = true)
    (h : ∀ w', Only g w w' → Blk w' g T (splice L o new) → wpList P ops Q rest (a.put op.dst undef) w') : wpList P ops Q (op :: rest) a w := by
  obtain ⟨h1, h2⟩ := Blk.setCells new o hg (by omega)
  exact wpList_store_mid hgd ty x y ho g o new.toArray hx hy (by simpa [hn] using hg.there hl) (by rw [hi]; simp [hn]) (all_oneCell_toArray h3) (h _ h2 h1)
theorem results_blk2 {P : Program} {fn : Func} {p q : Tmp} {ty : TypeId} (h : fn.results = #[.cell p ty, .tmp q]) (tmps : Array Value) (w : World) (g : Nat) (T : TypeId) (L : List Value) (d : TypeDesc) (u : Value)
    (hp : tmps.getD p undef = .pointer (some ⟨g, 0, none⟩)) (hq : tmps.getD q undef = u) (hg : Blk w g T L) (hu : P.underlying ty = some d) (hd : (match d with | .struct _ | .array _ _ => true | _ => false) = true) (n : Nat) (hi : (P.info? ty).map (·.size) = some n) (hl : L.length = n) :
    (results fn tmps).run P w = .ok (.tuple #[.agg L.toArray, u]) w := by
  have hp' : tmps[p]?.getD undef = .pointer (some ⟨g, 0, none⟩) := by simpa using hp
  have hq' : tmps[q]?.getD undef = u := by simpa using hq
  simp [results, h, hp', hq', asAddr, run_loadVar_row w g T ty L.toArray (0, 0) d hg hu hd (by rw [hi]; simp [hl])]
theorem Tryd.size_com : (Tryd.prog.info? 47).map (·.size) = some 432 := by kernel_rfl
/-- The keys as far as they are laid. -/
def keysF (D : SD) (r : List Nat) (j i : Nat) : Nat := if i < 48 * j then D.key (r.getD (i / 48) 0) (i % 48) else 0
theorem keysF_step (D : SD) (r : List Nat) (j : Nat) (hj : j < 8) : splice (nums .u8 (keysF D r j) 432) (j * 48) (nums .u8 (D.key (r.getD j 0)) 48) = nums .u8 (keysF D r (j + 1)) 432 := by
  have hl : j * 48 + (nums .u8 (D.key (r.getD j 0)) 48).length ≤ (nums .u8 (keysF D r j) 432).length := by rw [nums_length, nums_length]; omega
  apply List.ext_getElem?
  intro i
  rw [splice_get _ _ _ _ hl, nums_length]
  rcases Nat.lt_or_ge i 432 with hi | hi
  · rw [nums_get _ (keysF D r (j + 1)) _ _ hi]
    by_cases e : j * 48 ≤ i ∧ i < j * 48 + 48
    · rw [if_pos e, nums_get _ _ _ _ (by omega)]
      unfold keysF
      rw [if_pos (by omega), show i / 48 = j by omega, show i % 48 = i - j * 48 by omega]
    · rw [if_neg e, nums_get _ _ _ _ hi]
      unfold keysF
      by_cases e2 : i < 48 * j
      · rw [if_pos e2, if_pos (by omega)]
      · rw [if_neg e2, if_neg (by omega)]
  · rw [nums_none _ _ _ _ hi, if_neg (by omega), nums_none _ _ _ _ hi]
theorem keysF_zero (D : SD) (r : List Nat) : nums .u8 (keysF D r 0) 432 = nums .u8 zeroF 432 := nums_congr fun i _ => by unfold keysF; rw [if_neg (by omega)]; rfl
structure NR (w : World) (X : List Value) (D : SD) (r : List Nat) (cb j : Nat) (wr : World) : Prop where
  below : Below w.heap.size w wr
  box : Blk wr w.heap.size 49 X
  res : Blk wr (w.heap.size + 1) 47 (nums .u8 zeroF 432)
  com : Blk wr cb 47 (nums .u8 (keysF D r j) 432)
def NextPost (w : World) (D : SD) (en : Ending) (w' : World) : Prop := Below w.heap.size w w' ∧ ∃ C : List Value, en = .returned (.tuple #[.agg C.toArray, .int .i64 (codeR (syncR D))]) ∧ C.length = 432 ∧ (∀ v ∈ C, v.oneCell' = true) ∧
  ∀ r, syncR D = some r → ∀ k, k < 8 → ∀ j, j < 48 → C[k * 48 + j]? = some (.int .u8 (D.key (r.getD k 0) j : Nat))
set_option maxHeartbeats 3200000 in
set_option maxRecDepth 100000 in
theorem next_none (X : List Value) (D : SD) (w : World) (tab : Tab w) (st : St w X D) (hn : D.nv ≤ 100) (hres : syncR D = none) :
    Calls Tryd.prog 10 #[.agg X.toArray] w (NextPost w D) := by
  have HLEN := Lib.hid st.len
  have h2 := tab.size
  have bx := Lib.hid ((Blk.new w 49 X).alloc (.cells (nums .u8 zeroF 432).toArray 47))
  have b0 := Lib.hid (((Below.refl _ w).alloc (Nat.le_refl _) (.cells X.toArray 49)).alloc (by simp) (.cells (nums .u8 zeroF 432).toArray 47))
  have r0 := Lib.hid (show Blk ((w.alloc (.cells X.toArray 49)).alloc (.cells (nums .u8 zeroF 432).toArray 47)) (w.heap.size + 1) 47 (nums .u8 zeroF 432) by
    have := Blk.new (w.alloc (.cells X.toArray 49)) 47 (nums .u8 zeroF 432); rwa [World.size_alloc] at this)
  have SY := Lib.hid (sync_any X D _ (tab.below b0.out h2) (st.below b0.out (Nat.le_refl _)) hn)
  have HR := Lib.hid hres
  have z47 : ∀ w, (zeroValue 47).run Tryd.prog w = .ok (.agg (nums .u8 zeroF 432).toArray) w := (zero_of_info (n := 432) (by kernel_rfl)).1
  unfold NextPost
  have hc : codeR (none : Option (List Nat)) = 7 := rfl
  rw [hres]
  clear tab st hres
  go_enter Tryd.func10, Tryd.ntmps10
  go_upto_region 2 with (first | (with_reducible refine wpList_load_blk rfl _ _ rfl _ rfl _ _ bx.out _ Tryd.underlying49 rfl 1957 Tryd.size_state HLEN.out ?_) | (go_at_call 9; refine SY.out.mono ?_; rintro en w1 ⟨hb1, v1, rfl, hol1⟩; rw [HR.out, hc]; have B1 := Lib.hid hb1; have R1 := r0.out.below hb1 r0.out.lt; clear hb1 hol1))
  go_wp2_with (with_reducible refine wpList_store_blk rfl _ _ _ rfl _ _ rfl rfl _ _ R1 432 Tryd.size_com (nums_length _ _ _) (nums_length _ _ _) nums_mem ?_; intro w2 ho2 hb2 hz2; have O2 := Lib.hid ho2; have K2 := Lib.hid hb2; clear ho2 hb2 hz2)
  have hb := b0.out.trans (B1.out.mono b0.out.size)
  refine bodyPost_ret (v := .tuple #[.agg (nums .u8 zeroF 432).toArray, .int .i64 7]) ?_ rfl ⟨hb.trans (O2.out.below hb.size (by omega)), _, rfl, nums_length _ _ _, nums_mem, fun r h => by cases h⟩
  exact results_blk2 (by rfl) _ _ _ _ _ _ _ (by rfl) (by rfl) K2.out Tryd.underlying47 rfl 432 Tryd.size_com (nums_length _ _ _)
set_option maxHeartbeats 3200000 in
set_option maxRecDepth 100000 in
theorem next_some (X : List Value) (D : SD) (r : List Nat) (w : World) (tab : Tab w) (st : St w X D) (hn : D.nv ≤ 100) (hres : syncR D = some r) (hkl : ∀ i j, D.key i j < 256) :
    Calls Tryd.prog 10 #[.agg X.toArray] w (NextPost w D) := by
  have HLEN := Lib.hid st.len
  have h2 := tab.size
  have HT := Lib.hid tab
  have HST := Lib.hid st
  have HKL := Lib.hid hkl
  have bx := Lib.hid ((Blk.new w 49 X).alloc (.cells (nums .u8 zeroF 432).toArray 47))
  have b0 := Lib.hid (((Below.refl _ w).alloc (Nat.le_refl _) (.cells X.toArray 49)).alloc (by simp) (.cells (nums .u8 zeroF 432).toArray 47))
  have r0 := Lib.hid (show Blk ((w.alloc (.cells X.toArray 49)).alloc (.cells (nums .u8 zeroF 432).toArray 47)) (w.heap.size + 1) 47 (nums .u8 zeroF 432) by
    have := Blk.new (w.alloc (.cells X.toArray 49)) 47 (nums .u8 zeroF 432); rwa [World.size_alloc] at this)
  have SY := Lib.hid (sync_any X D _ (tab.below b0.out h2) (st.below b0.out (Nat.le_refl _)) hn)
  have HR := Lib.hid hres
  have z47 : ∀ w, (zeroValue 47).run Tryd.prog w = .ok (.agg (nums .u8 zeroF 432).toArray) w := (zero_of_info (n := 432) (by kernel_rfl)).1
  unfold NextPost
  have hc : codeR (some r) = 0 := rfl
  obtain ⟨q1, q2⟩ := drawR_mem hres
  have Q1 := Lib.hid q1
  have Q2 := Lib.hid q2
  rw [hres]
  clear tab st hres q1 q2 hkl
  go_enter Tryd.func10, Tryd.ntmps10
  go_upto_region 2 with (first | (with_reducible refine wpList_load_blk rfl _ _ rfl _ rfl _ _ bx.out _ Tryd.underlying49 rfl 1957 Tryd.size_state HLEN.out ?_) | (go_at_call 9; refine SY.out.mono ?_; rintro en w1 ⟨hb1, v1, rfl, hol1⟩; rw [HR.out, hc]; have B1 := Lib.hid hb1; have R1 := Lib.hid (r0.out.below hb1 r0.out.lt); have X1 := Lib.hid (bx.out.below hb1 bx.out.lt); have O1 := Lib.hid (show OL w1 _ v1 r by rw [HR.out] at hol1; exact hol1); clear hb1 hol1))
  obtain ⟨A1, c1, rfl, p1, p2, p3⟩ := O1.out.sl
  obtain ⟨b, o, rfl, hlo, hcell⟩ := p3 (by intro e; have := congrArg List.length e; rw [u64s_length, Q1.out] at this; simp at this)
  have hbl : b < w1.heap.size := World.block_lt_of_cell? w1 _ (hcell 0 _ (u64s_get r 0 (by rw [Q1.out]; omega)))
  have HC := Lib.hid (show ∀ k, k < 8 → w1.cell? ⟨b, o + k, none⟩ = some (.int .u64 (r.getD k 0 : Nat)) from fun k hk => hcell k _ (u64s_get r k (by rw [Q1.out]; exact hk)))
  have hl8 : (u64s r).length = 8 := by rw [u64s_length, Q1.out]
  rw [hl8]
  clear p1 p2 p3 hcell hl8
  go_upto_region 5 with fail
  refine wp_world ?_
  intro w2 hw2
  have hB01 := b0.out.trans (B1.out.mono b0.out.size)
  have B02 := Lib.hid (show Below w.heap.size w w2 by rw [hw2]; exact hB01.alloc hB01.size _)
  have B12 := Lib.hid (show Below w1.heap.size w1 w2 by rw [hw2]; exact (Below.refl _ w1).alloc (Nat.le_refl _) _)
  have N2 := Lib.hid (show NR w X D r w1.heap.size 0 w2 from ⟨B02.out, X1.out.below B12.out X1.out.lt, R1.out.below B12.out R1.out.lt, by rw [keysF_zero, hw2]; exact Blk.new w1 _ _⟩)
  have hx1 := R1.out.lt
  have C12 := Lib.hid (show ∀ k, k < 8 → w2.cell? ⟨b, o + k, none⟩ = some (.int .u64 (r.getD k 0 : Nat)) from fun k hk => (B12.out.cell (p := ⟨b, o + k, none⟩) hbl).trans (HC.out k hk))
  clear hw2 hB01
  go_wp2
  go_loopw [20] (fun k wr => ∃ j : Nat, j ≤ 8 ∧ k = .int .i64 (j : Nat) ∧ NR w X D r w1.heap.size j wr ∧ Only w1.heap.size w2 wr) (fun k _ => 8 - (intOf k).toNat)
  case atStart => exact ⟨0, Nat.zero_le _, rfl, N2.out, Only.refl _ _⟩
  case round =>
    obtain ⟨j, hj, rfl, hr, ho⟩ := hrel
    have NRR := Lib.hid hr
    have OO := Lib.hid ho
    clear hr ho
    by_cases hlt : j < 8
    · have s12 := B12.out.size
      have cj : wr.cell? ⟨b, o + j, none⟩ = some (.int .u64 (r.getD j 0 : Nat)) := (OO.out.cell (p := ⟨b, o + j, none⟩) (by show b < _; omega) (by show b ≠ _; omega)).trans (C12.out j hlt)
      obtain ⟨x, hx⟩ : ∃ x, x = r.getD j 0 := ⟨_, rfl⟩
      rw [← hx] at cj
      have lx : x < D.nv := by
        have hl : j < r.length := by rw [Q1.out]; exact hlt
        have := Q2.out x (by rw [hx, List.getD_eq_getElem?_getD, List.getElem?_eq_getElem hl]; exact List.getElem_mem hl)
        exact (actives_lt this).1
      have c721 : wr.cell? ⟨w.heap.size, 721, none⟩ = some (.slice D.A D.nv D.vcap) := by rw [NRR.out.box.cell]; exact HST.out.vals
      rw [HST.out.addr (by omega)] at c721
      have RNG := Lib.hid (rangeAt_nums ((HST.out.vc x lx).below NRR.out.below (Nat.le_refl _)).key)
      have LK := Lib.hid (show (Tryd.prog.info? 44).map (·.size) = some (nums .u8 (D.key x) 48).length by rw [nums_length]; exact Tryd.size_key)
      have HX := Lib.hid hx
      have hmid : j * 48 + 48 ≤ (nums .u8 (keysF D r j) 432).length := by rw [nums_length]; omega
      have HMID := Lib.hid hmid
      clear hx hmid
      go_wp2_with (first | (with_reducible refine wpList_load_mid rfl _ _ rfl D.vb (D.vo + x * 86) rfl _ _ RNG.out Tryd.underlying44 rfl LK.out ?_) | (with_reducible refine wpList_store_midblk rfl _ _ _ rfl w1.heap.size (j * 48) _ rfl rfl _ _ NRR.out.com 48 Tryd.size_key (nums_length _ _ _) HMID.out nums_mem ?_; intro w5 ho5 hb5; have O5 := Lib.hid ho5; have K5 := Lib.hid hb5; clear ho5 hb5))
      go_roundw
      case rel =>
        refine ⟨j + 1, by omega, by go_num, ?_, OO.out.trans O5.out⟩
        refine ⟨NRR.out.below.trans (O5.out.below NRR.out.below.size (by have := b0.out.size; have := B1.out.size; omega)), NRR.out.box.only O5.out (by omega), NRR.out.res.only O5.out (by omega), ?_⟩
        rw [← keysF_step D r j hlt, ← HX.out]
        exact K5.out
      case measure => simp [intOf]; omega
    · obtain rfl : j = 8 := by omega
      have TR := Lib.hid (HT.out.below NRR.out.below h2)
      have PS := Lib.hid (psum_any w1.heap.size 0 (keysF D r 8) wr TR.out (Row.blk (o := 0) NRR.out.com fun i hi => by rw [Nat.zero_add]; exact nums_get _ _ _ _ (by omega)) (fun i => by unfold keysF; split; exact HKL.out _ _; omega))
      go_upto_region 11 with (first | (go_at_call 19; refine PS.out.mono ?_; rintro en w6 ⟨K, hkl, hko, rfl, hb6⟩; have HKLN := Lib.hid hkl; have HKO := Lib.hid hko; have B6 := Lib.hid hb6; have C6 := NRR.out.com.below hb6 NRR.out.com.lt; have L6 := Lib.hid (show 384 + 48 ≤ (nums .u8 (keysF D r 8) 432).length by rw [nums_length]; omega); clear hkl hko hb6) | (with_reducible refine wpList_store_midblk rfl _ _ _ rfl w1.heap.size 384 _ rfl rfl _ _ C6 48 Tryd.size_key HKLN.out L6.out HKO.out ?_; intro w7 ho7 hb7; have O7 := Lib.hid ho7; have K7 := Lib.hid hb7; clear ho7 hb7 C6))
      have hcl : (splice (nums .u8 (keysF D r 8) 432) 384 K).length = 432 := by rw [length_splice _ _ _ (by rw [HKLN.out]; exact L6.out), nums_length]
      have hco : ∀ v ∈ splice (nums .u8 (keysF D r 8) 432) 384 K, v.oneCell' = true := by
        intro v hv
        rcases mem_splice hv with hv | hv
        · exact nums_mem v hv
        · exact HKO.out v hv
      have CL := Lib.hid hcl
      have CO := Lib.hid hco
      have R7 := (NRR.out.res.below B6.out NRR.out.res.lt).only O7.out (by omega)
      clear hcl hco
      go_wp2_with (first | (with_reducible refine wpList_load_blk rfl _ _ rfl _ rfl _ _ K7.out _ Tryd.underlying47 rfl 432 Tryd.size_com CL.out ?_) | (with_reducible refine wpList_store_blk rfl _ _ _ rfl _ _ rfl rfl _ _ R7 432 Tryd.size_com (nums_length _ _ _) CL.out CO.out ?_; intro w8 ho8 hb8 hz8; have O8 := Lib.hid ho8; have K8 := Lib.hid hb8; clear ho8 hb8 hz8))
      have b6 := NRR.out.below.trans (B6.out.mono NRR.out.below.size)
      have b7 := b6.trans (O7.out.below b6.size (by have := b0.out.size; have := B1.out.size; omega))
      refine bodyPost_ret (v := .tuple #[.agg (splice (nums .u8 (keysF D r 8) 432) 384 K).toArray, .int .i64 0]) ?_ rfl ⟨b7.trans (O8.out.below b7.size (by omega)), _, rfl, CL.out, CO.out, ?_⟩
      · exact results_blk2 (by rfl) _ _ _ _ _ _ _ (by rfl) (by rfl) K8.out Tryd.underlying47 rfl 432 Tryd.size_com CL.out
      · intro r' hr' k hk j hj
        injection hr' with hr'
        subst hr'
        rw [splice_get _ _ _ _ (by rw [HKLN.out]; exact L6.out), if_neg (by omega), nums_get _ _ _ _ (by omega)]
        unfold keysF
        rw [if_pos (by omega), show (k * 48 + j) / 48 = k by omega, show (k * 48 + j) % 48 = j by omega]
end Go.Proofs.YtfagmjlgpfnniaaDoor
