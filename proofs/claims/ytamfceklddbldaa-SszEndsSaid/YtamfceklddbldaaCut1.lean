/- Contract of the program's Cut. -/
import Derived.Test.YtamfceklddbldaaMany3
import Derived.Test.YtamfceklddbldaaPlainCut
namespace Go.Proofs.Ytamfceklddbldaa
open Go.RowKit

/-- A row of k byte slices, of which those at the places D are ls's. -/
def RQ (w : World) (B : Nat) (v : Value) (k : Nat) (D : Nat → Prop) (ls : List Bs) : Prop := ∃ vs, w.ownsRow B 22 1 v k vs ∧ ∀ (m : Nat) u l, D m → vs[m]? = some u → ls[m]? = some l → OB w B u l
theorem RQ.below {w w' : World} {B k : Nat} {D : Nat → Prop} {v : Value} {ls : List Bs} (h : RQ w B v k D ls) (hb : Below w.heap.size w w') : RQ w' B v k D ls := by
  obtain ⟨vs, h1, h2⟩ := h
  exact ⟨vs, World.ownsRow.kept h1 (grown_of_below hb none) (by cases hv : v.ownBlock <;> simp), fun m u l hm hu hl => (h2 m u l hm hu hl).below hb⟩
theorem RQ.onto {w w' : World} {B B' k : Nat} {D : Nat → Prop} {v u : Value} {l : List Int} {ls : List Bs} (h : RQ w B v k D ls) (ho : OI w B' u l) (hg : w.grownBy w' u.ownBlock) : RQ w' B v k D ls := by
  obtain ⟨vs, h1, h2⟩ := h
  exact ⟨vs, (own_ne ho h1 (by decide)).kept h1 hg, fun m u' l' hm hu hl => (own_ne ho (h2 m u' l' hm hu hl) (by decide)).kept (h2 m u' l' hm hu hl) hg⟩
theorem RQ.store {w : World} {B k j g c : Nat} {D D' : Nat → Prop} {u : Value} {l : Bs} {ls : List Bs} (h : RQ w B (.slice (some ⟨g, 0, none⟩) k c) k D ls) (hj : j < k) (hu : OB w B u l) (hl : ls[j]? = some l) (hD : ∀ m, D' m → m = j ∨ D m) :
    RQ (w.setCell ⟨g, j, none⟩ u) B (.slice (some ⟨g, 0, none⟩) k c) k D' ls ∧ w.grownBy (w.setCell ⟨g, j, none⟩ u) (some g) := by
  obtain ⟨vs, h1, h2⟩ := h
  obtain ⟨h3, h4⟩ := World.ownsRow.stored h1 j u
  refine ⟨⟨vs.set j u, h3, fun m u' l' hm hu' hl' => ?_⟩, h4⟩
  rw [List.getElem?_set] at hu'
  split at hu'
  · rename_i e
    subst e
    have hlen : j < vs.length := by have := h1.1; omega
    rw [if_pos hlen] at hu'
    injection hu' with hu'
    subst hu'
    rw [hl] at hl'
    injection hl' with hl'
    subst hl'
    exact (own_ne h1 hu (by decide)).kept hu h4
  · have ho := h2 m u' l' (by rcases hD m hm with e | e; exact absurd e (by omega); exact e) hu' hl'
    exact (own_ne h1 ho (by decide)).kept ho h4
theorem RQ.done {w : World} {B k : Nat} {D : Nat → Prop} {v : Value} {ls : List Bs} (h : RQ w B v k D ls) (hl : ls.length = k) (hD : ∀ m, m < k → D m) : RO w B v ls := by
  obtain ⟨vs, h1, h2⟩ := h
  subst hl
  exact ⟨vs, h1, fun j u l hu hl => h2 j u l (hD j (List.getElem?_eq_some_iff.1 hl).1) hu hl⟩
theorem RQ.cell {w : World} {B k m g c : Nat} {D : Nat → Prop} {ls : List Bs} (h : RQ w B (.slice (some ⟨g, 0, none⟩) k c) k D ls) (hm : m < k) : (∃ u, w.cell? ⟨g, m, none⟩ = some u) ∧ w.frozen? ⟨g, m, none⟩ = false := by
  obtain ⟨vs, h1, h2⟩ := h
  have hlen : m < vs.length := by have := h1.1; omega
  exact ⟨⟨vs[m], by rw [World.ownsRow.cellAt h1 m (by omega)]; simp [hlen]⟩, World.ownsRow.frozenAt h1 m⟩
theorem RQ.ge_ {w : World} {B k g c : Nat} {D : Nat → Prop} {ls : List Bs} (h : RQ w B (.slice (some ⟨g, 0, none⟩) k c) k D ls) : B ≤ g := by
  obtain ⟨vs, h1, _⟩ := h
  exact (World.ownsRow.lt h1 g rfl).1
theorem RQ.kept {w w' : World} {B B' k g c : Nat} {D : Nat → Prop} {u : Value} {l : List Int} {ls : List Bs} (h : RQ w B (.slice (some ⟨g, 0, none⟩) k c) k D ls) (ho : OI w B' u l) (hg : w.grownBy w' (some g)) : OI w' B' u l := by
  obtain ⟨vs, h1, _⟩ := h
  exact (own_ne h1 ho (by decide)).kept ho hg
theorem RQ.ne_ {w : World} {B B' k g c g' n c' : Nat} {D : Nat → Prop} {ls : List Bs} {l : List Int} (h : RQ w B (.slice (some ⟨g, 0, none⟩) k c) k D ls) (h' : OI w B' (.slice (some ⟨g', 0, none⟩) n c') l) : g ≠ g' := by
  obtain ⟨vs, h1, _⟩ := h
  rintro rfl
  exact own_ne h1 h' (by decide) g rfl rfl
theorem IV.at2 {w : World} {lo n c : Nat} {A : Option Addr} {l : List Int} (h : IV w lo (.slice A n c) l) (hne : l ≠ []) : ∃ b off, A = some ⟨b, off, none⟩ ∧ ∀ j, j < l.length → w.cell? ⟨b, off + j, none⟩ = some (.int .i64 (l.getD j 0)) := by
  obtain ⟨b, off, c', e, _, _, _, h1⟩ := h.at_ hne
  injection e with e _ _
  exact ⟨b, off, e, h1⟩
theorem IV.form {w : World} {lo : Nat} {v : Value} {l : List Int} (h : IV w lo v l) : ∃ A c, v = .slice A l.length c ∧ l.length ≤ c ∧ c ≤ maxLen := by
  obtain ⟨A, c, rfl, h1, h2, _⟩ := h
  rw [List.length_map] at h1 ⊢
  exact ⟨A, c, rfl, h1, h2⟩
theorem BV.at2 {w : World} {lo n c : Nat} {A : Option Addr} {l : Bs} (h : BV w lo (.slice A n c) l) (hne : l ≠ []) : ∃ b off, A = some ⟨b, off, none⟩ := by
  obtain ⟨b, off, c', e, _⟩ := h.at_ hne
  injection e with e _ _
  exact ⟨b, off, e⟩
theorem sizesOk_at (z : List Int) (h : sizesOk z = true) (k : Nat) (hk : k < z.length) : 0 ≤ z.getD k 0 ∧ z.getD k 0 ≤ 65536 := by
  rw [sizesOk_all] at h
  simp only [Bool.and_eq_true, decide_eq_true_eq] at h
  cases hb : okS (z.getD k 0) with
  | true => simpa [okS] using hb
  | false => rw [all_bad z k hk hb] at h; simp at h
theorem sizesOk_len (z : List Int) (h : sizesOk z = true) : 1 ≤ z.length ∧ z.length ≤ 64 := by
  rw [sizesOk_all] at h
  simp only [Bool.and_eq_true, decide_eq_true_eq] at h
  exact h.1
theorem headLen_ok (z : List Int) (h : sizesOk z = true) : headLen (nats z) ≤ 4194304 := by
  rw [sizesOk_all] at h
  simp only [Bool.and_eq_true, decide_eq_true_eq] at h
  have := headLen_le z h.2
  omega

theorem grown_trim {w w' : World} {n : Nat} {o : Obj} {row : Option Nat} (h : ((w.drewN n).alloc o).grownBy w' row) : w.grownBy w' row := by
  have := (World.grownBy_alloc (w.drewN n) o row).trans h
  exact ⟨this.os, this.tape, this.output, this.size, this.block⟩
theorem moves_trim {w : World} {n : Nat} {o : Obj} {v v' : Value} (h : Moves ((w.drewN n).alloc o) v v') : Moves w v v' := Moves.of_alloc (w := w.drewN n) h
theorem zpos_offs (ss : List Nat) (b : Bs) (n : Nat) (hn : ss.length = n) : (zpos ss n).length = (offs ss b).length := by
  rw [zpos_len ss n (by omega), offs_len, List.take_of_length_le (by omega)]
theorem offs_nil_pos (ss : List Nat) (b : Bs) (h : offs ss b = []) (m : Nat) (hm : m < ss.length) : ss.getD m 1 ≠ 0 := by
  intro h0
  obtain ⟨j, hj, _⟩ := zpos_mem ss ss.length m hm h0
  rw [zpos_offs ss b _ rfl, h] at hj
  simp at hj
theorem offs_head (ss : List Nat) (b : Bs) (h : offs ss b ≠ []) : 4 ≤ headLen ss := by
  induction ss generalizing b with
  | nil => simp [offs] at h
  | cons s r ih =>
    by_cases hs : s = 0
    · simp [headLen, hd, hs]
    · simp only [offs, if_neg hs] at h
      have := ih _ h
      simp only [headLen]; omega
theorem BV.upto {w : World} {lo b off n c j : Nat} {l : Bs} (h : BV w lo (.slice (some ⟨b, off, none⟩) n c) l) (hj : j ≤ l.length) : BV w lo (.slice (some ⟨b, off, none⟩) j c) (l.take j) := by
  have := h.cut (Nat.zero_le j) hj
  simpa using this
set_option maxHeartbeats 3200000 in
set_option maxRecDepth 100000 in
theorem cut_any (v u : Value) (b : Bs) (z : List Int) (w : World) (h : BV w 0 v b) (hz : IV w 0 u z) (hbl : b.length ≤ 140737488355328) :
    Calls Try.prog 17 #[v, u] w (ManyPost w (cut b z)) := by
  obtain ⟨i0, hi, hz0, hz1, hz2⟩ := info_parts Try.info_int
  obtain ⟨i1, hj, hy0, hy1, hy2⟩ := info_parts Try.info_bs
  have HB := Lib.hid h
  have HZ := Lib.hid hz
  have HH := Lib.hid (head_any u z w hz)
  obtain ⟨A, c, rfl, h1, h2⟩ := h.form
  obtain ⟨Az, cz, rfl, h3, h4⟩ := hz.form
  clear h hz
  unfold maxLen at h2 h4
  by_cases t1 : sizesOk z = false
  · have HE : Hid (cut b z = ([], 1)) := by show _ = _; unfold cut; rw [if_pos t1]
    have HF : Hid (headOf z = (0, false)) := by show _ = _; unfold headOf; rw [t1]; rfl
    rw [HE.out]
    rw [HF.out] at HH
    go_enter Try.func17, Try.ntmps17
    go_wp2_with fail
    refine HH.out.mono ?_
    rintro e w1 ⟨rfl, rfl⟩
    go_wp2_with fail
    go_ret2
    exact ⟨_, rfl, RO.nil_ _ _, Below.refl _ _⟩
  simp only [Bool.not_eq_false] at t1
  have HF : Hid (headOf z = ((headLen (nats z) : Int), true)) := by show _ = _; unfold headOf; rw [t1]; rfl
  rw [HF.out] at HH
  have hH := headLen_ok z t1
  obtain ⟨hl1, hl2⟩ := sizesOk_len z t1
  have HA := Lib.hid (sizesOk_at z t1)
  by_cases t2 : b.length < headLen (nats z)
  · have HE : Hid (cut b z = ([], 4)) := by show _ = _; unfold cut; rw [if_neg (by simp [t1]), if_pos t2]
    rw [HE.out]
    clear t1
    go_enter Try.func17, Try.ntmps17
    go_wp2_with fail
    refine HH.out.mono ?_
    rintro e w1 ⟨rfl, rfl⟩
    go_wp2_with fail
    go_ret2
    exact ⟨_, rfl, RO.nil_ _ _, Below.refl _ _⟩
  have HE : Hid (cut b z = if offs (nats z) b = [] ∧ b.length ≠ headLen (nats z) then ([], 4) else if cutOk b (nats z) = false then ([], 5) else (cutParts b (nats z), 0)) := by
    show _ = _; unfold cut; rw [if_neg (by simp [t1]), if_neg t2]
  have hHb : headLen (nats z) ≤ b.length := by omega
  have HN := Lib.hid (nats_len z)
  have HNG := Lib.hid (nats_getD z)
  clear t1 t2
  generalize hss : nats z = ss at *
  clear hss
  generalize hHg : headLen ss = H at *
  have HHg := Lib.hid hHg
  clear hHg
  go_enter Try.func17, Try.ntmps17
  go_wp2_with fail
  refine HH.out.mono ?_
  rintro e w1 ⟨rfl, rfl⟩
  go_wp2_with (first | (at_make; refine wpList_make_full _ rfl _ _ 28 rfl w.heap.size 22 i1 (.slice none 0 0) 1 Try.underlying28 hj hy0 hy1 .i64 .i64 _ _ z.length rfl rfl rfl rfl ?m1 ?m2 ?m3 ?_))
  case m1 => rw [hy2]; omega
  case m2 => unfold maxLen; omega
  case m3 => exact Nat.le_refl _
  intro w4 hown4 hgrow4
  have R4 : Hid (RQ w4 w.heap.size (.slice (some ⟨w.heap.size, 0, none⟩) z.length z.length) z.length (fun m => m < 0 ∧ ss.getD m 1 ≠ 0) (cutParts b ss)) := ⟨_, hown4, fun m u l hm => absurd hm.1 (Nat.not_lt_zero _)⟩
  have B4 : Hid (Below w.heap.size w w4) := (Below.refl _ w).grown hgrow4 (Nat.le_refl _) (by simp)
  clear hown4 hgrow4
  have HG : Hid (w.heap.size = w.heap.size) := rfl
  go_wp2
  go_loopw [9, 10, 11, 35] (fun s1 s2 r i wr => ∃ k : Nat, k ≤ z.length ∧ i = .int .i64 (k : Int) ∧ OI wr w.heap.size s1 (ints (offs (ss.take k) b)) ∧ OI wr w.heap.size s2 (ints (zpos ss k)) ∧ Apart s1 s2 ∧ BV w 0 r (b.drop (headLen (ss.take k))) ∧
    RQ wr w.heap.size (.slice (some ⟨w.heap.size, 0, none⟩) z.length z.length) z.length (fun m => m < k ∧ ss.getD m 1 ≠ 0) (cutParts b ss) ∧ Below w.heap.size w wr) (fun _ _ _ i _ => z.length - (intOf i).toNat)
  case atStart => exact ⟨0, Nat.zero_le _, rfl, World.ownsRow_nil _ _ _ _, World.ownsRow_nil _ _ _ _, Apart.nil_ _, HB.out, R4.out, B4.out⟩
  case round =>
    clear R4 B4
    obtain ⟨k, hk, rfl, ho1, ho2, hap, hr, hq, hb⟩ := hrel
    have O1 := Lib.hid ho1
    have O2 := Lib.hid ho2
    have AP := Lib.hid hap
    have RR := Lib.hid hr
    have Q := Lib.hid hq
    have BW := Lib.hid hb
    have hsz := hb.size
    have hsz0 : w.heap.size < wr.heap.size := by obtain ⟨vs, h1, _⟩ := hq; exact (World.ownsRow.lt h1 _ rfl).2
    have L1 : Hid ((ints (offs (ss.take k) b)).length ≤ 64) := by
      show _ ≤ _
      simp only [ints, List.length_map, offs_len]
      rw [← zpos_len ss k (by rw [HN.out]; exact hk)]
      unfold zpos
      have := List.length_filter_le (fun i => ss.getD i 1 == 0) (List.range k)
      simp only [List.length_range] at this; omega
    have L2 : Hid ((ints (zpos ss k)).length ≤ 64) := by
      show _ ≤ _
      unfold zpos ints
      have := List.length_filter_le (fun i => ss.getD i 1 == 0) (List.range k)
      simp only [List.length_range, List.length_map] at this ⊢; omega
    have hp1 := headLen_take_le ss k
    rw [HHg.out] at hp1
    obtain ⟨Ar, cr, rfl, hr1, hr2⟩ := hr.form
    rw [List.length_drop] at hr1
    unfold maxLen at hr2
    clear ho1 ho2 hap hr hq hb
    by_cases hlt : k < z.length
    · have hk1 : k < ss.length := by rw [HN.out]; exact hlt
      obtain ⟨bz, oz, rfl, hc⟩ := HZ.out.at2 (by intro e; rw [e] at hlt; simp at hlt)
      have hck := hc k hlt
      clear hc
      have hcell : wr.cell? ⟨bz, oz + k, none⟩ = some (.int .i64 (z.getD k 0)) := by rw [BW.out.cell (p := ⟨bz, oz + k, none⟩) (blk_lt hck)]; exact hck
      clear hck
      obtain ⟨hs1, hs2⟩ := HA.out k hlt
      have hg := HNG.out k hlt
      have hp2 := headLen_takeN ss k hk1
      have hp3 := headLen_take_le ss (k + 1)
      rw [HHg.out, hp2, hg] at hp3
      have HP2 := Lib.hid hp2
      have HGK := Lib.hid hg
      have ZO := Lib.hid (offs_take_zero ss b k hk1)
      have ZP := Lib.hid (zpos_zero ss k)
      have PO := Lib.hid (offs_take_pos ss b k hk1)
      have PP := Lib.hid (zpos_pos ss k)
      have FX := Lib.hid (fill_fixed b ss b (offs ss b ++ [b.length]) k hk1)
      clear hp2 hg hk1
      generalize z.getD k 0 = s at *
      generalize hpos : headLen (ss.take k) = pos at *
      clear hpos
      by_cases hs : s = 0
      · subst hs
        have hp4 : pos + 4 ≤ H := by simpa [hd] using hp3
        obtain ⟨rb, ro, rfl⟩ := RR.out.at2 (by intro e; have := congrArg List.length e; simp at this; omega)
        rw [List.length_drop] at *
        go_wp2_with fail
        refine (offset_any _ (b.drop pos) wr (BV.below RR.out BW.out (Nat.le_refl _)) (by rw [List.length_drop]; omega)).mono ?_
        rintro e w5 ⟨rfl, n5, rfl⟩
        have HX : Hid (off4 (b.drop pos) = off4 (b.drop pos)) := rfl
        go_wp2_with (at_builtin; refine wpList_append_sl _ rfl (.tmp 42) (.tmp 45) 36 rfl w.heap.size wr.heap.size 3 i0 (.int .i64 0) 8 Try.underlying36 hi hz0 hz1 hz2 rfl _ _ _ rfl (World.ownsRow.alloc O1.out _) (.slice (some ⟨wr.heap.size, 0, none⟩) 1 1) [iv (off4 (b.drop pos))] rfl (sl_new wr [iv (off4 (b.drop pos))] 3 (by simp [maxLen])) (by simp [iv, Value.oneCell']) ?c3 ?c4 ?c5 ?_)
        case c3 => have := L1.out; simp only [List.length_cons, List.length_nil, maxLen]; omega
        case c4 => have := L1.out; simp only [List.length_cons, List.length_nil]; omega
        case c5 => simp; omega
        intro v6 w6 hown6 hgrow6 hmv6
        have P1 : Hid (OI w6 w.heap.size v6 (ints (offs (ss.take (k + 1)) b))) := by
          show OI _ _ _ _
          rw [ZO.out HGK.out]
          exact OI.mk hown6 (by simp [ints]) (by simp [ints])
        have g6 := grown_trim hgrow6
        have m6 := moves_trim hmv6
        have P2 : Hid (OI w6 w.heap.size u10 (ints (zpos ss k))) := AP.out.kept O2.out g6
        have AP6 : Hid (Apart v6 u10) := AP.out.moves O2.out m6
        have B6 : Hid (Below w.heap.size w w6) := BW.out.grown g6 hsz (OI.row_ge O1.out)
        have Q6 : Hid (RQ w6 w.heap.size (.slice (some ⟨w.heap.size, 0, none⟩) z.length z.length) z.length (fun m => m < k ∧ ss.getD m 1 ≠ 0) (cutParts b ss)) := RQ.onto Q.out O1.out g6
        have hsz6 := B6.out.size
        clear hown6 hgrow6 hmv6 O1 O2 AP Q BW g6 m6
        go_wp2_with (at_builtin; refine wpList_append_sl _ rfl (.tmp 47) (.tmp 49) 36 rfl w.heap.size w6.heap.size 3 i0 (.int .i64 0) 8 Try.underlying36 hi hz0 hz1 hz2 rfl _ _ _ rfl (World.ownsRow.alloc P2.out _) (.slice (some ⟨w6.heap.size, 0, none⟩) 1 1) [iv k] rfl (sl_new w6 [iv k] 3 (by simp [maxLen])) (by simp [iv, Value.oneCell']) ?c3 ?c4 ?c5 ?_)
        case c3 => have := L2.out; simp only [List.length_cons, List.length_nil, maxLen]; omega
        case c4 => have := L2.out; simp only [List.length_cons, List.length_nil]; omega
        case c5 => simp; omega
        intro v7 w7 hown7 hgrow7 hmv7
        have S2 : Hid (OI w7 w.heap.size v7 (ints (zpos ss (k + 1)))) := by
          show OI _ _ _ _
          rw [ZP.out HGK.out]
          exact OI.mk hown7 (by simp [ints]) (by simp [ints])
        have g7 := grownBy_of_alloc hgrow7
        have m7 := Moves.of_alloc hmv7
        have S1 : Hid (OI w7 w.heap.size v6 (ints (offs (ss.take (k + 1)) b))) := AP6.out.symm.kept P1.out g7
        have AP7 : Hid (Apart v6 v7) := (AP6.out.symm.moves P1.out m7).symm
        have B7 : Hid (Below w.heap.size w w7) := B6.out.grown g7 hsz6 (OI.row_ge P2.out)
        have Q7 : Hid (RQ w7 w.heap.size (.slice (some ⟨w.heap.size, 0, none⟩) z.length z.length) z.length (fun m => m < k + 1 ∧ ss.getD m 1 ≠ 0) (cutParts b ss)) := by
          have q := RQ.onto Q6.out P2.out g7
          obtain ⟨vs, q1, q2⟩ := q
          refine ⟨vs, q1, fun m u l hm hu hl => q2 m u l ⟨?_, hm.2⟩ hu hl⟩
          rcases Nat.lt_or_ge m k with h | h
          · exact h
          · have : m = k := by omega
            subst this
            exact absurd HGK.out hm.2
        clear hown7 hgrow7 hmv7 P1 P2 AP6 B6 Q6 g7 m7
        have hq1 : (4 : Int) ≤ ((b.length - pos : Nat) : Int) := by omega
        have HRN : Hid (BV w 0 (.slice (if cr = 4 then some ⟨rb, ro, none⟩ else some ⟨rb, ro + 4, none⟩) (b.length - pos - 4) (cr - 4)) (b.drop (pos + 4))) := by
          show BV _ _ _ _
          have h := BV.cutif RR.out (i := 4) (j := b.length - pos) (by omega) (by rw [List.length_drop]; exact Nat.le_refl _)
          rwa [List.take_of_length_le (by rw [List.length_drop]; exact Nat.le_refl _), List.drop_drop] at h
        go_wp2
        go_roundw
        case rel =>
          refine ⟨k + 1, by omega, by go_num, S1.out, S2.out, AP7.out, ?_, Q7.out, B7.out⟩
          rw [HP2.out, HGK.out]
          exact HRN.out
        case measure => simp [intOf]; omega
      · obtain ⟨sn, rfl⟩ := Int.eq_ofNat_of_zero_le hs1
        rw [Int.toNat_natCast] at *
        have hsn : sn ≠ 0 := by omega
        have hp4 : pos + sn ≤ H := by simpa [hd, hsn] using hp3
        have hs' : ((sn : Int) == 0) = false := by simp; omega
        obtain ⟨rb, ro, rfl⟩ := RR.out.at2 (by intro e; have := congrArg List.length e; simp at this; omega)
        rw [List.length_drop] at *
        obtain ⟨⟨uu, hc⟩, hf⟩ := Q.out.cell hlt
        have hq1 : (sn : Int) ≤ ((b.length - pos : Nat) : Int) := by omega
        have hq2 : (sn : Int) ≤ (cr : Int) := by omega
        have hk3 : (k : Int) < (z.length : Int) := by omega
        have HCL : Hid (BV wr 0 (.slice (some ⟨rb, ro, none⟩) sn cr) ((b.drop pos).take sn)) := BV.upto (BV.below RR.out BW.out (Nat.le_refl _)) (by rw [List.length_drop]; omega)
        have hlp : ((b.drop pos).take sn).length = sn := by simp only [List.length_drop, List.length_take]; omega
        have HLP := Lib.hid hlp
        clear hlp
        go_wp2_with fail
        refine (clone_any _ _ _ HCL.out (by rw [HLP.out]; omega)).mono ?_
        rintro e w5 ⟨v5, rfl, o5, b5⟩
        have hc9 := (b5.cell (p := ⟨w.heap.size, k, none⟩) hsz0).trans hc
        have hf9 := (b5.frozen (p := ⟨w.heap.size, k, none⟩) hsz0).trans hf
        obtain ⟨A5, c5, rfl⟩ := o5.form
        rw [HLP.out] at o5
        have ox := OB.lower o5 hsz
        obtain ⟨r9, g9⟩ := RQ.store (D' := fun m => m < k + 1 ∧ ss.getD m 1 ≠ 0) (Q.out.below b5) hlt ox (by rw [← HGK.out]; exact FX.out (by rw [HGK.out]; exact hsn)) (fun m hm => by rcases Nat.lt_or_ge m k with h | h; exact .inr ⟨h, hm.2⟩; exact .inl (by omega))
        have R9 := Lib.hid r9
        have s1 := RQ.kept (Q.out.below b5) (O1.out.below b5) g9
        have s2 := RQ.kept (Q.out.below b5) (O2.out.below b5) g9
        rw [← PO.out (by rw [HGK.out]; exact hsn)] at s1
        rw [← PP.out (by rw [HGK.out]; exact hsn)] at s2
        have S1 := Lib.hid s1
        have S2 := Lib.hid s2
        clear s1 s2
        have bb := (BW.out.trans (b5.mono hsz)).grown g9 (Nat.le_trans hsz b5.size) (by intro k hk; injection hk with hk; omega)
        have BB := Lib.hid bb
        clear bb
        have HRN : Hid (BV w 0 (.slice (if cr = sn then some ⟨rb, ro, none⟩ else some ⟨rb, ro + sn, none⟩) (b.length - pos - sn) (cr - sn)) (b.drop (pos + sn))) := by
          show BV _ _ _ _
          have h := BV.cutif RR.out (i := sn) (j := b.length - pos) (by omega) (by rw [List.length_drop]; exact Nat.le_refl _)
          rwa [List.take_of_length_le (by rw [List.length_drop]; exact Nat.le_refl _), List.drop_drop] at h
        clear ox r9 g9 o5 b5
        rw [HLP.out]
        go_wp2
        go_roundw
        case rel =>
          refine ⟨k + 1, by omega, by go_num, S1.out, S2.out, AP.out, ?_, R9.out, BB.out⟩
          rw [HP2.out, HGK.out, hd, if_neg hsn]
          exact HRN.out
        case measure => simp [intOf]; omega
    · obtain rfl : k = z.length := by omega
      have hT : ss.take z.length = ss := by rw [← HN.out, List.take_length]
      rw [hT] at O1 L1
      clear hT RR hp1 hr1
      have HZO := Lib.hid (zpos_offs ss b z.length HN.out)
      cases hos : offs ss b with
      | nil =>
        have HNP := Lib.hid (offs_nil_pos ss b hos)
        rw [hos] at O1 HE
        have HOS := Lib.hid hos
        clear hos
        obtain ⟨A1, c1, rfl⟩ := O1.out.form
        by_cases hbH : b.length = H
        · have HEE : Hid (cut b z = (cutParts b ss, 0)) := by
            show _ = _; rw [HE.out]; unfold cutOk; rw [HOS.out]; simp [hbH]
          have hbH' : ((b.length : Int) != (H : Int)) = false := by simp [hbH]
          have HBH := Lib.hid hbH
          clear hbH
          simp only [ints, List.map_nil, List.length_nil]
          go_wp2_with fail
          go_ret2
          refine (show ManyPost w (cut b z) _ _ from ?_)
          rw [HEE.out]
          exact ⟨_, rfl, Q.out.done (by unfold cutParts; rw [fill_len, HN.out]) (fun m hm => ⟨hm, HNP.out m (by rw [HN.out]; exact hm)⟩), BW.out⟩
        · have HEE : Hid (cut b z = ([], 4)) := by
            show _ = _; rw [HE.out]; simp [hbH]
          have hbH' : ((b.length : Int) != (H : Int)) = true := by simp; omega
          simp only [ints, List.map_nil, List.length_nil]
          go_wp2_with fail
          go_ret2
          refine (show ManyPost w (cut b z) _ _ from ?_)
          rw [HEE.out]
          exact ⟨_, rfl, RO.nil_ _ _, BW.out⟩
      | cons o r =>
        have hH4 := offs_head ss b (by rw [hos]; simp)
        rw [HHg.out] at hH4
        obtain ⟨bb, off, rfl⟩ := HB.out.at2 (by intro e; rw [e] at hHb; simp at hHb; omega)
        have HE2 : Hid (cut b z = if (o == H && rises b.length H (o :: r)) = false then ([], 5) else (cutParts b ss, 0)) := by
          show _ = _; rw [HE.out, hos]; unfold cutOk; rw [hos, HHg.out]; simp
        have hJ : (ints (offs ss b)).length = r.length + 1 := by rw [hos]; simp [ints]
        rw [← hos] at HE2
        have HOS := Lib.hid hos
        clear hos HE
        obtain ⟨ga, ca, hv, hca⟩ := O1.out.form2 (by intro e; rw [e] at hJ; simp at hJ)
        rw [hJ] at hv hca
        subst hv
        have hr64 : r.length + 1 ≤ 64 := by have := L1.out; omega
        have HJ := Lib.hid hJ
        clear hJ
        have hc0 := O1.out.cell (j := 0) (by rw [HJ.out]; omega)
        rw [ints_getD, show (offs ss b).getD 0 0 = o from by rw [HOS.out]; rfl] at hc0
        have hjz : ((r.length : Int) + 1 == 0) = false := by simp; omega
        have hjp : (0 : Int) < (r.length : Int) + 1 := by omega
        by_cases hoH : o = H
        · subst hoH
          have ho0 : ((o : Int) != (o : Int)) = false := by simp
          have HR : Hid (risesZ (b.length : Int) (o : Int) (ints (offs ss b)) = rises b.length o (offs ss b)) := risesZ_nat _ _ _
          have HCr := rise_any (.slice (some ⟨ga, 0, none⟩) (r.length + 1) ca) (ints (offs ss b)) (o : Int) (b.length : Int) wr (Sl.lower (OI.toIV O1.out) (Nat.zero_le _))
          cases hr : rises b.length o (offs ss b) with
          | false =>
            rw [HR.out, hr] at HCr
            have HEE : Hid (cut b z = ([], 5)) := by show _ = _; rw [HE2.out, hr]; simp
            clear hr
            have HCr' := Lib.hid HCr
            clear HCr
            go_wp2_with fail
            refine HCr'.out.mono ?_
            rintro e w2 ⟨rfl, rfl⟩
            go_wp2_with fail
            go_ret2
            refine (show ManyPost w (cut b z) _ _ from ?_)
            rw [HEE.out]
            exact ⟨_, rfl, RO.nil_ _ _, BW.out⟩
          | true =>
            rw [HR.out, hr] at HCr
            have HEE : Hid (cut b z = (cutParts b ss, 0)) := by show _ = _; rw [HE2.out, hr]; simp
            have hat := rises_at hr hHb
            have HAT := Lib.hid hat
            have HCr' := Lib.hid HCr
            clear HCr hr hat HE2 HR
            go_wp2_with fail
            refine HCr'.out.mono ?_
            rintro e w2 ⟨rfl, rfl⟩
            go_wp2_with (at_builtin; refine wpList_append_sl _ rfl (.tmp 87) (.tmp 90) 36 rfl w.heap.size wr.heap.size 3 i0 (.int .i64 0) 8 Try.underlying36 hi hz0 hz1 hz2 rfl _ _ _ rfl (World.ownsRow.alloc O1.out _) (.slice (some ⟨wr.heap.size, 0, none⟩) 1 1) [iv b.length] rfl (sl_new wr [iv b.length] 3 (by simp [maxLen])) (by simp [iv, Value.oneCell']) ?c3 ?c4 ?c5 ?_)
            case c3 => have := L1.out; simp only [List.length_cons, List.length_nil, maxLen]; omega
            case c4 => have := L1.out; simp only [List.length_cons, List.length_nil]; omega
            case c5 => simp; omega
            intro v3 w3 hown hgrow hmv
            have g3 := grownBy_of_alloc hgrow
            have m3 := Moves.of_alloc hmv
            have Q1 : Hid (OI w3 w.heap.size v3 (ints (offs ss b ++ [b.length]))) := OI.mk hown (by simp [ints]) (by simp [ints])
            have Q2 : Hid (OI w3 w.heap.size u10 (ints (zpos ss z.length))) := AP.out.kept O2.out g3
            have B3 : Hid (Below w.heap.size w w3) := BW.out.grown g3 hsz (OI.row_ge O1.out)
            have QQ : Hid (RQ w3 w.heap.size (.slice (some ⟨w.heap.size, 0, none⟩) z.length z.length) z.length (fun m => ss.getD m 1 ≠ 0 ∨ ∃ t, t < 0 ∧ (zpos ss z.length).getD t 0 = m) (cutParts b ss)) := by
              have q := RQ.onto Q.out O1.out g3
              obtain ⟨vs, q1, q2⟩ := q
              refine ⟨vs, q1, fun m u l hm hu hl => q2 m u l ⟨?_, ?_⟩ hu hl⟩
              · have h1 := q1.1; have h2 := (List.getElem?_eq_some_iff.1 hu).1; omega
              · rcases hm with h | ⟨t, h, _⟩
                · exact h
                · exact absurd h (Nat.not_lt_zero _)
            clear hown hgrow hmv g3 m3 O1 O2 AP BW Q
            have hal : (ints (offs ss b ++ [b.length])).length = r.length + 2 := by rw [HOS.out]; simp [ints]
            obtain ⟨gb, cb, hv2, hcb⟩ := Q1.out.form2 (by intro e; rw [e] at hal; simp at hal)
            rw [hal] at hv2 hcb
            subst hv2
            have HAL := Lib.hid hal
            clear hal
            have hzl : (ints (zpos ss z.length)).length = r.length + 1 := by simp only [ints, List.length_map]; rw [HZO.out, HOS.out]; simp
            obtain ⟨gz, cz2, hv3, hcz2⟩ := Q2.out.form2 (by intro e; rw [e] at hzl; simp at hzl)
            rw [hzl] at hv3 hcz2
            subst hv3
            have HZL := Lib.hid hzl
            clear hzl
            have HOL : Hid ((offs ss b).length = r.length + 1) := by show _ = _; rw [HOS.out]; simp
            go_wp2
            go_loopw [94] (fun i wq => ∃ j : Nat, j ≤ r.length + 1 ∧ i = .int .i64 j ∧ RQ wq w.heap.size (.slice (some ⟨w.heap.size, 0, none⟩) z.length z.length) z.length (fun m => ss.getD m 1 ≠ 0 ∨ ∃ t, t < j ∧ (zpos ss z.length).getD t 0 = m) (cutParts b ss) ∧ OI wq w.heap.size (.slice (some ⟨gb, 0, none⟩) (r.length + 2) cb) (ints (offs ss b ++ [b.length])) ∧ OI wq w.heap.size (.slice (some ⟨gz, 0, none⟩) (r.length + 1) cz2) (ints (zpos ss z.length)) ∧ Below w.heap.size w wq) (fun i _ => r.length + 1 - (intOf i).toNat)
            case atStart => exact ⟨0, Nat.zero_le _, rfl, QQ.out, Q1.out, Q2.out, B3.out⟩
            case round =>
              clear QQ Q1 Q2 B3 hc0
              obtain ⟨j, hj, rfl, hr, ho, hoz, hb⟩ := hrel
              have R := Lib.hid hr
              have O := Lib.hid ho
              have Z := Lib.hid hoz
              have BW := Lib.hid hb
              have hsz := hb.size
              clear hr ho hoz hb
              by_cases hlt : j < r.length + 1
              · have ca1 := O.out.cell (j := j) (by rw [HAL.out]; omega)
                have ca2 := O.out.cell (j := j + 1) (by rw [HAL.out]; omega)
                have caz := Z.out.cell (j := j) (by rw [HZL.out]; omega)
                rw [ints_getD] at ca1 ca2 caz
                obtain ⟨hx1, hx2⟩ := HAT.out j (by rw [HOL.out]; exact hlt)
                obtain ⟨hm1, hm2, hm3⟩ := zpos_get ss z.length j (by rw [HZO.out, HOL.out]; exact hlt)
                have HP := fill_any b ss b (offs ss b ++ [b.length]) ((zpos ss z.length).getD j 0) (by rw [HN.out]; exact hm1) hm2
                rw [← zpos_len ss _ (by rw [HN.out]; omega), hm3] at HP
                have HP' : Hid ((cutParts b ss)[(zpos ss z.length).getD j 0]? = some ((b.take ((offs ss b ++ [b.length]).getD (j + 1) 0)).drop ((offs ss b ++ [b.length]).getD j 0))) := HP
                have HM : Hid ((zpos ss z.length).getD j 0 = (zpos ss z.length).getD j 0) := rfl
                clear HP hm2 hm3
                generalize (offs ss b ++ [b.length]).getD j 0 = x at *
                generalize (offs ss b ++ [b.length]).getD (j + 1) 0 = y at *
                generalize hmm : (zpos ss z.length).getD j 0 = m at *
                have HMM := Lib.hid hmm
                clear hmm HM
                have i1 : (0 : Int) ≤ (x : Int) := by omega
                have i2 : (x : Int) ≤ (y : Int) := by omega
                have i3 : (y : Int) ≤ (c : Int) := by omega
                have i4 : (m : Int) < (z.length : Int) := by omega
                have i0 : (0 : Int) ≤ (j : Int) := by omega
                have i5 : (j : Int) + 1 < (r.length : Int) + 2 := by omega
                have i6 : (j : Int) < (r.length : Int) + 2 := by omega
                have i6' : (j : Int) < (r.length : Int) + 1 := by omega
                have i7 : (0 : Int) ≤ (j : Int) + 1 := by omega
                have i8 : IntKind.i64.wrap ((j : Int) + 1) = (j : Int) + 1 := IntWalk.i64_in _ (by omega)
                have i9 : ((j : Int) + 1).toNat = j + 1 := by omega
                obtain ⟨⟨uu, hc⟩, hf⟩ := R.out.cell hm1
                have hgG : w.heap.size < wr.heap.size := blk_lt hc
                have hgb : gb < wr.heap.size := blk_lt ca1
                have hne : w.heap.size ≠ gb := R.out.ne_ O.out
                have HCL : Hid (BV wr.drew 0 (.slice (if c = x then some ⟨bb, off, none⟩ else some ⟨bb, off + x, none⟩) (y - x) (c - x)) ((b.take y).drop x)) := BV.cutif (BV.below HB.out BW.out.drew (Nat.le_refl _)) hx1 hx2
                have hlx : ((b.take y).drop x).length ≤ 140737488355328 := by simp only [List.length_drop, List.length_take]; omega
                go_wp2_with fail
                go_region_held3 (fun w' => w'.cell? ⟨gb, j, none⟩ = some (.int .i64 (x : Int)) ∧ w'.cell? ⟨gb, j + 1, none⟩ = some (.int .i64 (y : Int)))
                  (first | exact ⟨ca1, ca2⟩ | exact ⟨(B9.out.cell (p := ⟨gb, j, none⟩) hgb).trans ca1, (B9.out.cell (p := ⟨gb, j + 1, none⟩) hgb).trans ca2⟩ | exact ⟨(World.cell?_setCell_other _ _ _ _ (fun e => hne (congrArg Addr.block e))).trans ((B9.out.cell (p := ⟨gb, j, none⟩) hgb).trans ca1), (World.cell?_setCell_other _ _ _ _ (fun e => hne (congrArg Addr.block e))).trans ((B9.out.cell (p := ⟨gb, j + 1, none⟩) hgb).trans ca2)⟩ | go_keep)
                  (first | (go_at_call 29; refine (clone_any _ _ _ HCL.out hlx).mono ?_; rintro e w9 ⟨v9, rfl, o9, b9⟩; obtain ⟨A9, c9, rfl⟩ := o9.form; have hc9 := (b9.cell (p := ⟨w.heap.size, m, none⟩) hgG).trans hc; have hf9 := (b9.frozen (p := ⟨w.heap.size, m, none⟩) hgG).trans hf; have O9 := Lib.hid o9; have B9 := Lib.hid b9; clear o9 b9; dsimp only))
                have hlp : ((b.take y).drop x).length = y - x := by simp only [List.length_drop, List.length_take]; omega
                have ox := OB.lower O9.out hsz
                rw [hlp] at ox
                have BN : Hid (Below wr.heap.size wr w9) := ((Below.refl _ wr).drew).trans B9.out
                obtain ⟨r9, g9⟩ := RQ.store (D' := fun m => ss.getD m 1 ≠ 0 ∨ ∃ t, t < j + 1 ∧ (zpos ss z.length).getD t 0 = m) (R.out.below BN.out) hm1 ox HP'.out (by
                  rintro m' (h | ⟨t, ht, e⟩)
                  · exact .inr (.inl h)
                  · rcases Nat.lt_or_ge t j with h | h
                    · exact .inr (.inr ⟨t, h, e⟩)
                    · have : t = j := by omega
                      subst this
                      exact .inl (e.symm.trans HMM.out))
                have R9 := Lib.hid r9
                have q9 := RQ.kept (R.out.below BN.out) (O.out.below BN.out) g9
                have z9 := RQ.kept (R.out.below BN.out) (Z.out.below BN.out) g9
                have bb9 := (BW.out.trans (BN.out.mono hsz)).grown g9 (Nat.le_trans hsz BN.out.size) (by intro k hk; injection hk with hk; omega)
                have Q9 := Lib.hid q9
                have Z9 := Lib.hid z9
                have BB := Lib.hid bb9
                clear hlp ox r9 g9 q9 z9 bb9
                go_wp2
                go_roundw
                case rel => exact ⟨j + 1, by omega, by go_num, R9.out, Q9.out, Z9.out, BB.out⟩
                case measure => simp [intOf]; omega
              · obtain rfl : j = r.length + 1 := by omega
                go_wp2
                go_ret2
                refine (show ManyPost w (cut b z) _ _ from ?_)
                rw [HEE.out]
                refine ⟨_, rfl, R.out.done (by unfold cutParts; rw [fill_len, HN.out]) (fun m hm => ?_), BW.out⟩
                rcases Nat.decEq (ss.getD m 1) 0 with h | h
                · exact .inl h
                · obtain ⟨t, ht, e⟩ := zpos_mem ss z.length m hm h
                  exact .inr ⟨t, by rw [HZO.out, HOL.out] at ht; exact ht, e⟩
        · have hne : ((o : Int) != (H : Int)) = true := by simp; omega
          have HEE : Hid (cut b z = ([], 5)) := by
            show _ = _; rw [HE2.out]; simp [hoH]
          clear hoH
          go_wp2_with fail
          go_ret2
          refine (show ManyPost w (cut b z) _ _ from ?_)
          rw [HEE.out]
          exact ⟨_, rfl, RO.nil_ _ _, BW.out⟩
end Go.Proofs.Ytamfceklddbldaa
