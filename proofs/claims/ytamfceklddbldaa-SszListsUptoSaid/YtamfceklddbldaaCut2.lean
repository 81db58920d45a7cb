/- Contract of the reference's Cut. -/
import Derived.Test.YtamfceklddbldaaAwake
import Derived.Deep.RegionLaw
namespace Go.Proofs.Ytamfceklddbldaa
open Go.RowKit

theorem fill_at (W : Bs) (ss : List Nat) (b : Bs) (os : List Nat) (k : Nat) (hk : k < ss.length) :
    (fill W ss b os)[k]? = some (if ss.getD k 1 = 0 then (W.take (os.getD (nz (ss.take k) + 1) 0)).drop (os.getD (nz (ss.take k)) 0) else (b.drop (headLen (ss.take k))).take (ss.getD k 1)) := by
  induction ss generalizing b os k with
  | nil => simp at hk
  | cons s r ih =>
    cases k with
    | zero =>
      by_cases hs : s = 0
      · simp [fill, hs, nz]
      · simp [fill, hs, headLen]
    | succ k =>
      have hk' : k < r.length := by simpa using hk
      by_cases hs : s = 0
      · simp only [fill, hs, if_true, List.getElem?_cons_succ, ih _ _ _ hk', List.getD_cons_succ, List.take_succ_cons, nz, headLen, hd, List.drop_drop]
        rw [show 1 + nz (r.take k) + 1 = (nz (r.take k) + 1) + 1 from by omega, Nat.add_comm 1]
        cases os <;> simp
      · simp only [fill, hs, if_false, List.getElem?_cons_succ, ih _ _ _ hk', List.getD_cons_succ, List.take_succ_cons, nz, headLen, hd, List.drop_drop, Nat.zero_add]
theorem parts_len (b : Bs) (ss : List Nat) : (cutParts b ss).length = ss.length := by unfold cutParts; rw [fill_len]
theorem nz_succ (ss : List Nat) (k : Nat) (hk : k < ss.length) : nz (ss.take (k + 1)) = nz (ss.take k) + (if ss.getD k 1 = 0 then 1 else 0) := by
  rw [takeN_succ ss k hk, nz_append]; simp [nz]
theorem nz_le (ss : List Nat) : nz ss ≤ ss.length := by
  induction ss with
  | nil => simp [nz]
  | cons s r ih => simp only [nz, List.length_cons]; split <;> omega
theorem nz_take (ss : List Nat) (k : Nat) : nz (ss.take k) ≤ nz ss := by
  conv => rhs; rw [← List.take_append_drop k ss, nz_append]
  omega
/-- The parts of the first k, and the next. -/
theorem parts_snoc (b : Bs) (ss : List Nat) (k : Nat) (hk : k < ss.length) :
    (cutParts b ss).take (k + 1) = (cutParts b ss).take k ++ [if ss.getD k 1 = 0 then (b.take ((offs ss b ++ [b.length]).getD (nz (ss.take k) + 1) 0)).drop ((offs ss b ++ [b.length]).getD (nz (ss.take k)) 0) else (b.drop (headLen (ss.take k))).take (ss.getD k 1)] := by
  have h := fill_at b ss b (offs ss b ++ [b.length]) k hk
  have hl : k < (cutParts b ss).length := by rw [parts_len]; exact hk
  rw [List.take_succ_eq_append_getElem hl]
  congr 2
  have := List.getElem?_eq_getElem hl
  unfold cutParts at this ⊢
  rw [h] at this
  injection this with this
  exact this.symm
theorem RO.snoc {w w' : World} {B n : Nat} {l v' u : Value} {ls : List Bs} {vs : List Value} {p : Bs} (hv : w.ownsRow B 22 1 l ls.length vs) (he : ∀ (j : Nat) u l', vs[j]? = some u → ls[j]? = some l' → OB w B u l') (hu : OB w B u p)
    (hown : w'.ownsRow B 22 1 v' n (vs ++ [u])) (hn : n = ls.length + 1) (hg : w.grownBy w' l.ownBlock) : RO w' B v' (ls ++ [p]) := by
  subst hn
  have hl : vs.length = ls.length := by have := hv.1; omega
  refine ⟨vs ++ [u], by rw [List.length_append, List.length_singleton]; exact hown, fun j x q hx hq => ?_⟩
  have kp : ∀ x q, OB w B x q → OB w' B x q := fun x q h => (own_ne hv h (by decide)).kept h hg
  rcases Nat.lt_or_ge j vs.length with h | h
  · rw [List.getElem?_append_left h] at hx
    rw [List.getElem?_append_left (by omega)] at hq
    exact kp _ _ (he j x q hx hq)
  · rw [List.getElem?_append_right h] at hx
    rw [List.getElem?_append_right (by omega)] at hq
    obtain hj : j - vs.length = 0 := by
      rcases Nat.eq_zero_or_pos (j - vs.length) with h | h
      · exact h
      · obtain ⟨m, hm⟩ : ∃ m, j - vs.length = m + 1 := ⟨j - vs.length - 1, by omega⟩
        rw [hm] at hx; simp at hx
    rw [hj] at hx
    rw [show j - ls.length = 0 from by omega] at hq
    simp only [List.getElem?_cons_zero, Option.some.injEq] at hx hq
    subst hx hq
    exact kp _ _ hu

section
variable (w : World)
theorem step_append_sl {P : Program} {ops : Array Oper} {o : Oper} {a : Act} {K : Act → World → Prop} {Q : Exit → Act → World → Prop} {E : Prop} (hgd : o.guard = none) (s y : Operand) (t : TypeId)
    (ho : o.op = .call { callee := .builtin .append, args := #[s, y], argTypes := #[t, t] })
    (base lo : Nat) (e : TypeId) (i : TypeInfo) (z : Value) (bytes : Nat) (ht : P.underlying t = some (.slice e)) (hi : P.info? e = some i) (hz : i.zero = some z)
    (hsize : i.size = 1) (hby : i.bytes = bytes) (hzs : z.cells.size = 1)
    (v : Value) (n : Nat) (xs : List Value) (hs : a.eval s = v) (hown : w.ownsRow base e 1 v n xs) (x : Value) (news : List Value) (hy : a.eval y = x) (hx : Sl w lo x news) (h1 : ∀ u ∈ news, u.oneCell' = true)
    (h63 : n + news.length ≤ maxLen) (hbytes : (n + news.length) * bytes ≤ 140737488355328) (hbase : base ≤ w.heap.size)
    (h : ∀ v' w', w'.ownsRow base e 1 v' (n + news.length) (xs ++ news) → w.grownBy w' v.ownBlock → Moves w v v' → K (a.put o.dst v') w') :
    if Region.wanted o (yielded ops a.tmps) = true then Oper.wp P o a w K Q else E := by
  have hw : Region.wanted o (yielded ops a.tmps) = true := by simp [Region.wanted, hgd]
  rw [if_pos hw]
  obtain ⟨v', w', hr, h2, h3, h4⟩ := run_append_sl (P := P) w base lo t o.type e i z bytes ht hi hz hsize hby hzs v n xs hown x news hx h1 h63 hbytes hbase
  unfold Oper.wp execOp
  simp only [ho, resolve, invoke, builtin, Sem.run_bind, Sem.run_pure, Result.andThen_ok, List.map_toArray, List.map_cons, List.map_nil, hs, hy, hr]
  exact h v' w' h2 h3 h4
end

theorem risesR_cut (b : Bs) (ss : List Nat) : risesR (b.length : Int) (headLen ss : Int) (ints (offs ss b)) = cutOk b ss := by
  have h := risesZ_nat b.length (headLen ss) (offs ss b)
  unfold risesR cutOk ints
  rw [h]
  cases offs ss b with
  | nil => simp [rises]
  | cons o r =>
    simp only [List.map_cons, List.getD_cons_zero]
    have : ((o : Int) == (headLen ss : Int)) = (o == headLen ss) := by
      cases h : (o == headLen ss) <;> simp at h ⊢ <;> omega
    rw [this]; simp
theorem wrap_small (n : Int) (h0 : 0 ≤ n) (h : n < 1000000) : IntKind.i64.wrap n = n := by
  simp only [IntKind.wrap, IntKind.bits, IntKind.signed]
  simp
  omega
theorem cutOk_rises {b : Bs} {ss : List Nat} (h : cutOk b ss = true) : rises b.length (headLen ss) (offs ss b) = true := by
  unfold cutOk at h
  cases ho : offs ss b with
  | nil => rfl
  | cons o r => rw [ho] at h; simp only [Bool.and_eq_true] at h; exact h.2
set_option maxHeartbeats 3200000 in
set_option maxRecDepth 100000 in
theorem rcut_any (v u : Value) (b : Bs) (z : List Int) (w : World) (h : BV w 0 v b) (hz : IV w 0 u z) (hbl : b.length ≤ 140737488355328) :
    Calls Try.prog 18 #[v, u] w (ManyPost w (cut b z)) := by
  obtain ⟨i0, hi, hz0, hz1, hz2⟩ := info_parts Try.info_int
  obtain ⟨i1, hj, hy0, hy1, hy2⟩ := info_parts Try.info_bs
  obtain ⟨i2, hu8, hx0, hx1, hx2⟩ := info_parts Try.info_u8
  have HB := Lib.hid h
  have HZ := Lib.hid hz
  have HH := Lib.hid (sizesOK_any u z w hz)
  have HD := Lib.hid (Head_any u z w hz)
  obtain ⟨A, c, rfl, h1, h2⟩ := h.form
  obtain ⟨Az, cz, rfl, h3, h4⟩ := hz.form
  clear h hz
  unfold maxLen at h2 h4
  by_cases t1 : sizesOk z = false
  · have HE : Hid (cut b z = ([], 1)) := by show _ = _; unfold cut; rw [if_pos t1]
    rw [HE.out]
    rw [t1] at HH
    clear HD
    go_enter Try.func18, Try.ntmps18
    go_wp2_with fail
    refine HH.out.mono ?_
    rintro e w1 ⟨rfl, rfl⟩
    go_wp2_with fail
    go_ret2
    exact ⟨_, rfl, RO.nil_ _ _, Below.refl _ _⟩
  simp only [Bool.not_eq_false] at t1
  have HD := Lib.hid (HD.out t1)
  rw [t1] at HH
  have hH := headLen_ok z t1
  obtain ⟨hl1, hl2⟩ := sizesOk_len z t1
  have HA := Lib.hid (sizesOk_at z t1)
  by_cases t2 : b.length < headLen (nats z)
  · have HE : Hid (cut b z = ([], 4)) := by show _ = _; unfold cut; rw [if_neg (by simp [t1]), if_pos t2]
    rw [HE.out]
    clear t1
    go_enter Try.func18, Try.ntmps18
    go_wp2_with fail
    refine HH.out.mono ?_
    rintro e w1 ⟨rfl, rfl⟩
    go_wp2_with fail
    refine HD.out.mono ?_
    rintro e w1 ⟨rfl, rfl⟩
    go_wp2_with fail
    go_ret2
    exact ⟨_, rfl, RO.nil_ _ _, Below.refl _ _⟩
  have HE : Hid (cut b z = if offs (nats z) b = [] ∧ b.length ≠ headLen (nats z) then ([], 4) else if cutOk b (nats z) = false then ([], 5) else (cutParts b (nats z), 0)) := by
    show _ = _; unfold cut; rw [if_neg (by simp [t1]), if_neg t2]
  have hHb : headLen (nats z) ≤ b.length := by omega
  have HN := Lib.hid (nats_len z)
  have HNG := Lib.hid (nats_getD z)
  clear t1 t2
  generalize hss : nats z = ss at *
  clear hss
  generalize hHg : headLen ss = H at *
  have HHg := Lib.hid hHg
  clear hHg
  have hdec : decide (b.length < H) = false := by simp; omega
  have hnlt : ¬ b.length < H := by omega
  go_enter Try.func18, Try.ntmps18
  go_wp2_with fail
  refine HH.out.mono ?_
  rintro e w1 ⟨rfl, rfl⟩
  go_wp2_with fail
  refine HD.out.mono ?_
  rintro e w1 ⟨rfl, rfl⟩
  go_wp2_with fail
  go_loopw [7, 8, 9] (fun f p i wr => ∃ k : Nat, k ≤ z.length ∧ i = .int .i64 (k : Int) ∧ p = .int .i64 ((headLen (ss.take k) : Nat) : Int) ∧ OI wr w.heap.size f (ints (offs (ss.take k) b)) ∧ Below w.heap.size w wr) (fun _ _ i _ => z.length - (intOf i).toNat)
  case atStart => exact ⟨0, Nat.zero_le _, rfl, rfl, World.ownsRow_nil _ _ _ _, Below.refl _ _⟩
  case round =>
    obtain ⟨k, hk, rfl, rfl, ho1, hb⟩ := hrel
    have O1 := Lib.hid ho1
    have BW := Lib.hid hb
    have hsz := hb.size
    have L1 : Hid ((ints (offs (ss.take k) b)).length ≤ 64) := by
      show _ ≤ _
      simp only [ints, List.length_map, offs_len]
      have := nz_le (ss.take k)
      rw [List.length_take] at this; omega
    have hp1 := headLen_take_le ss k
    rw [HHg.out] at hp1
    clear ho1 hb
    by_cases hlt : k < z.length
    · have hk1 : k < ss.length := by rw [HN.out]; exact hlt
      obtain ⟨bz, oz, rfl, hc⟩ := HZ.out.at2 (by intro e; rw [e] at hlt; simp at hlt)
      have hck := hc k hlt
      clear hc
      have hcell : wr.cell? ⟨bz, oz + k, none⟩ = some (.int .i64 (z.getD k 0)) := by rw [BW.out.cell (p := ⟨bz, oz + k, none⟩) (blk_lt hck)]; exact hck
      have HCK := Lib.hid hck
      clear hck
      obtain ⟨hs1, hs2⟩ := HA.out k hlt
      have hg := HNG.out k hlt
      have hp2 := headLen_takeN ss k hk1
      have hp3 := headLen_take_le ss (k + 1)
      rw [HHg.out, hp2, hg] at hp3
      have HP2 := Lib.hid hp2
      have HGK := Lib.hid hg
      have ZO := Lib.hid (offs_take_zero ss b k hk1)
      have PO := Lib.hid (offs_take_pos ss b k hk1)
      clear hp2 hg hk1
      generalize z.getD k 0 = s at *
      generalize hpos : headLen (ss.take k) = pos at *
      clear hpos
      by_cases hs : s = 0
      · subst hs
        have hp4 : pos + 4 ≤ H := by simpa [hd] using hp3
        have hbne : b ≠ [] := by intro e; have := congrArg List.length e; simp only [List.length_nil] at this; omega
        obtain ⟨rb, ro, rfl⟩ := HB.out.at2 hbne
        have hq1 : (pos : Int) + 4 ≤ (b.length : Int) := by omega
        have HCL : Hid (BV wr 0 (.slice (some ⟨rb, ro + pos, none⟩) 4 (c - pos)) ((b.drop pos).take 4)) := by
          show BV _ _ _ _
          have h := BV.cut (BV.below HB.out BW.out (Nat.le_refl _)) (i := pos) (j := pos + 4) (by omega) (by omega)
          rwa [List.drop_take, show pos + 4 - pos = 4 from by omega] at h
        have ho4 : off4 ((b.drop pos).take 4) = off4 (b.drop pos) := off4_take _ 4 (Nat.le_refl _)
        have HO4 := Lib.hid ho4
        clear ho4
        go_wp2_with fail
        refine (roffset_any _ ((b.drop pos).take 4) wr HCL.out (by rw [List.length_take, List.length_drop]; omega)).mono ?_
        rintro e w5 ⟨rfl, n5, rfl⟩
        rw [HO4.out]
        clear HO4 HCL hcell
        have O5 : Hid (OI (wr.drewN n5) w.heap.size u7 (ints (offs (ss.take k) b))) := O1.out
        have B5 : Hid (Below w.heap.size w (wr.drewN n5)) := below_drewN BW.out n5
        have hs5 : w.heap.size ≤ (wr.drewN n5).heap.size := hsz
        generalize wr.drewN n5 = w5 at *
        clear O1 BW hsz
        go_wp2_with (at_builtin; refine wpList_append_sl _ rfl _ _ 36 rfl w.heap.size w5.heap.size 3 i0 (.int .i64 0) 8 Try.underlying36 hi hz0 hz1 hz2 rfl _ _ _ rfl (World.ownsRow.alloc O5.out _) (.slice (some ⟨w5.heap.size, 0, none⟩) 1 1) [iv (off4 (b.drop pos))] rfl (sl_new w5 [iv (off4 (b.drop pos))] 3 (by simp [maxLen])) (by simp [iv, Value.oneCell']) ?c3 ?c4 ?c5 ?_)
        case c3 => have := L1.out; simp only [List.length_cons, List.length_nil, maxLen]; omega
        case c4 => have := L1.out; simp only [List.length_cons, List.length_nil]; omega
        case c5 => simp; omega
        intro v6 w6 hown6 hgrow6 hmv6
        have P1 : Hid (OI w6 w.heap.size v6 (ints (offs (ss.take (k + 1)) b))) := by
          show OI _ _ _ _
          rw [ZO.out HGK.out]
          exact OI.mk hown6 (by simp [ints]) (by simp [ints])
        have B6 : Hid (Below w.heap.size w w6) := B5.out.grown (grownBy_of_alloc hgrow6) hs5 (OI.row_ge O5.out)
        have hcell6 : w6.cell? ⟨bz, oz + k, none⟩ = some (.int .i64 0) := by rw [B6.out.cell (p := ⟨bz, oz + k, none⟩) (blk_lt HCK.out)]; exact HCK.out
        clear hown6 hgrow6 hmv6 O5 B5
        go_wp2

        go_roundw
        case rel =>
          refine ⟨k + 1, by omega, by go_num, ?_, P1.out, B6.out⟩
          rw [HP2.out, HGK.out]; simp [hd]
        case measure => simp [intOf]; omega
      · obtain ⟨sn, rfl⟩ := Int.eq_ofNat_of_zero_le hs1
        rw [Int.toNat_natCast] at *
        have hsn : sn ≠ 0 := by omega
        have hp4 : pos + sn ≤ H := by simpa [hd, hsn] using hp3
        have hs' : ((sn : Int) == 0) = false := by simp; omega
        go_wp2
        go_roundw
        case rel =>
          refine ⟨k + 1, by omega, by go_num, ?_, ?_, BW.out⟩
          · rw [HP2.out, HGK.out, hd, if_neg hsn]; simp
          · rw [PO.out (by rw [HGK.out]; exact hsn)]; exact O1.out
        case measure => simp [intOf]; omega
    · obtain rfl : k = z.length := by omega
      have hT : ss.take z.length = ss := by rw [← HN.out, List.take_length]
      rw [hT] at O1 L1 ⊢
      rw [HHg.out]
      clear hT hp1
      have HRC := Lib.hid (risesR_cut b ss)
      have HNZ := Lib.hid (offs_len ss b)
      rw [HHg.out] at HRC
      generalize hos : offs ss b = os at *
      have HOS := Lib.hid hos
      clear hos
      have L1 : os.length ≤ 64 := by have := L1.out; simpa [ints] using this
      obtain ⟨A1, c1, rfl⟩ := O1.out.form
      have hli : (ints os).length = os.length := by simp [ints]
      rw [hli] at O1 ⊢
      clear hli
      by_cases t1 : os = [] ∧ b.length ≠ H
      · obtain ⟨rfl, t2⟩ := t1
        have t2' : ((b.length : Int) != (H : Int)) = true := by simp; omega
        have HEE : Hid (cut b z = ([], 4)) := by show _ = _; rw [HE.out, if_pos ⟨rfl, t2⟩]
        clear t2
        rw [List.length_nil] at *
        go_wp2_with fail
        go_ret2
        refine (show ManyPost w (cut b z) _ _ from ?_)
        rw [HEE.out]
        exact ⟨_, rfl, RO.nil_ _ _, BW.out⟩
      · go_upto_region 15 with fail
        go_cut [58] (fun q wx => q = .bool false ∧ wx = wr)
        case first =>
          by_cases h0 : os = []
          · subst h0
            have t2' : ((b.length : Int) != (H : Int)) = false := by
              have : b.length = H := by
                rcases Nat.decEq b.length H with h | h
                · exact absurd ⟨rfl, h⟩ t1
                · exact h
              simp [this]
            rw [List.length_nil]
            go_wp2_with fail
            go_meet
            exact ⟨rfl, rfl⟩
          · have t2' : ((os.length : Int) == 0) = false := by
              rw [beq_eq_false_iff_ne]
              have : os.length ≠ 0 := fun h => h0 (List.eq_nil_of_length_eq_zero h)
              omega
            go_wp2_with fail
            go_meet
            exact ⟨rfl, rfl⟩
        case rest =>
          obtain ⟨rfl, rfl⟩ := hcut
          go_wp2_with fail
          refine (rises_any _ (ints os) (H : Int) (b.length : Int) wc (by
            have := Sl.lower (OI.toIV O1.out) (Nat.zero_le _)
            exact this)).mono ?_
          rintro e w5 ⟨rfl, n5, rfl⟩
          rw [HRC.out]
          by_cases t3 : cutOk b ss = false
          · have HEE : Hid (cut b z = ([], 5)) := by show _ = _; rw [HE.out, if_neg t1, if_pos t3]
            clear HRC t1
            rw [t3]
            clear t3
            go_wp2_with fail
            go_ret2
            refine (show ManyPost w (cut b z) _ _ from ?_)
            rw [HEE.out]
            exact ⟨_, rfl, RO.nil_ _ _, below_drewN BW.out n5⟩
          · have HEE : Hid (cut b z = (cutParts b ss, 0)) := by show _ = _; rw [HE.out, if_neg t1, if_neg t3]
            simp only [Bool.not_eq_false] at t3
            have hri := cutOk_rises t3
            rw [HHg.out, HOS.out] at hri
            have HRI := Lib.hid (rises_at hri hHb)
            rw [t3]
            clear t3 hri HRC t1 HE HH HD
            have O5 : Hid (OI (wc.drewN n5) w.heap.size (.slice A1 os.length c1) (ints os)) := O1.out
            have B5 : Hid (Below w.heap.size w (wc.drewN n5)) := below_drewN BW.out n5
            have hs5 : w.heap.size ≤ (wc.drewN n5).heap.size := hsz
            generalize wc.drewN n5 = w5 at *
            clear O1 BW hsz
            go_wp2_with (at_builtin; refine wpList_append_sl _ rfl _ _ 36 rfl w.heap.size w5.heap.size 3 i0 (.int .i64 0) 8 Try.underlying36 hi hz0 hz1 hz2 rfl _ _ _ rfl (World.ownsRow.alloc O5.out _) (.slice (some ⟨w5.heap.size, 0, none⟩) 1 1) [iv b.length] rfl (sl_new w5 [iv b.length] 3 (by simp [maxLen])) (by simp [iv, Value.oneCell']) ?c3 ?c4 ?c5 ?_)
            case c3 => simp only [ints, List.length_map, List.length_cons, List.length_nil, maxLen]; omega
            case c4 => simp only [ints, List.length_map, List.length_cons, List.length_nil]; omega
            case c5 => simp; omega
            intro v6 w6 hown6 hgrow6 hmv6
            have F6 : Hid (OI w6 w.heap.size v6 (ints (os ++ [b.length]))) := OI.mk hown6 (by simp [ints]) (by simp [ints])
            have B6 : Hid (Below w.heap.size w w6) := B5.out.grown (grownBy_of_alloc hgrow6) hs5 (OI.row_ge O5.out)
            obtain ⟨gf, cf, rfl, hgf⟩ := F6.out.form2 (by simp [ints])
            have hlf : (ints (os ++ [b.length])).length = os.length + 1 := by simp [ints]
            rw [hlf] at F6 hgf ⊢
            clear hown6 hgrow6 hmv6 O5 B5 hs5 hlf
            go_wp2
            go_loopw [8, 10, 11, 12] (fun p l kk i wr => ∃ k : Nat, k ≤ z.length ∧ i = .int .i64 (k : Int) ∧ p = .int .i64 ((headLen (ss.take k) : Nat) : Int) ∧ kk = .int .i64 ((nz (ss.take k) : Nat) : Int) ∧ RO wr w.heap.size l ((cutParts b ss).take k) ∧ OI wr w.heap.size (.slice (some ⟨gf, 0, none⟩) (os.length + 1) cf) (ints (os ++ [b.length])) ∧ Below w.heap.size w wr) (fun _ _ _ i _ => z.length - (intOf i).toNat)
            case atStart => exact ⟨0, Nat.zero_le _, rfl, rfl, rfl, RO.nil_ _ _, F6.out, B6.out⟩
            case round =>
              clear F6 B6
              obtain ⟨k, hk, rfl, rfl, rfl, hro, hf6, hb⟩ := hrel
              have R := Lib.hid hro
              have F := Lib.hid hf6
              have BW := Lib.hid hb
              have hsz := hb.size
              have hp1 := headLen_take_le ss k
              rw [HHg.out] at hp1
              obtain ⟨A2, c2, rfl⟩ := hro.form
              have hpl : ((cutParts b ss).take k).length = k := by rw [List.length_take, parts_len]; have := HN.out; omega
              have HPL := Lib.hid hpl
              rw [hpl] at R ⊢
              clear hro hf6 hb hpl
              by_cases hlt : k < z.length
              · have hk1 : k < ss.length := by rw [HN.out]; exact hlt
                obtain ⟨bz, oz, rfl, hc⟩ := HZ.out.at2 (by intro e; rw [e] at hlt; simp at hlt)
                have hck := hc k hlt
                clear hc
                have hcell : wr.cell? ⟨bz, oz + k, none⟩ = some (.int .i64 (z.getD k 0)) := by rw [BW.out.cell (p := ⟨bz, oz + k, none⟩) (blk_lt hck)]; exact hck
                have HCK := Lib.hid hck
                clear hck
                obtain ⟨hs1, hs2⟩ := HA.out k hlt
                have hg := HNG.out k hlt
                have hp2 := headLen_takeN ss k hk1
                have hp3 := headLen_take_le ss (k + 1)
                rw [HHg.out, hp2, hg] at hp3
                have HP2 := Lib.hid hp2
                have HGK := Lib.hid hg
                have PS := Lib.hid (parts_snoc b ss k hk1)
                have NS := Lib.hid (nz_succ ss k hk1)
                have NT := Lib.hid (nz_take ss (k + 1))
                have hz64 : k < 64 := by omega
                rw [HOS.out] at PS
                clear hp2 hg hk1
                generalize z.getD k 0 = s at *
                generalize hpos : headLen (ss.take k) = pos at *
                generalize hkk : nz (ss.take k) = kk at *
                clear hpos hkk
                generalize (cutParts b ss).take k = ls at *
                by_cases hs : s = 0
                · subst hs
                  have hg0 : ss.getD k 1 = 0 := HGK.out
                  have hkl : kk < os.length := by
                    have h1 := NS.out
                    have h2 := NT.out
                    have h3 := HNZ.out
                    rw [hg0, if_pos rfl] at h1
                    omega
                  have hbne : b ≠ [] := by
                    intro e
                    have h1 := headLen_take_le ss (k + 1)
                    rw [HHg.out] at h1
                    have := congrArg List.length e
                    simp only [List.length_nil] at this
                    have h2 := HP2.out
                    rw [hg0, hd, if_pos rfl] at h2
                    omega
                  obtain ⟨rb, ro, rfl⟩ := HB.out.at2 hbne
                  have PS' : Hid ((cutParts b ss).take (k + 1) = ls ++ [(b.take ((os ++ [b.length]).getD (kk + 1) 0)).drop ((os ++ [b.length]).getD kk 0)]) := by
                    show _ = _
                    rw [PS.out, hg0, if_pos rfl]
                  have hp4 : pos + 4 ≤ H := by rw [hg0] at *; simpa [hd] using hp3
                  clear hg0
                  obtain ⟨hx12, hx2b⟩ := HRI.out kk hkl
                  have hc1 : wr.cell? ⟨gf, kk, none⟩ = some (.int .i64 (((os ++ [b.length]).getD kk 0 : Nat) : Int)) := by
                    rw [F.out.cell (j := kk) (by simp [ints]; omega), ints_getD]
                  have hc2 : wr.cell? ⟨gf, kk + 1, none⟩ = some (.int .i64 (((os ++ [b.length]).getD (kk + 1) 0 : Nat) : Int)) := by
                    rw [F.out.cell (j := kk + 1) (by simp [ints]; omega), ints_getD]
                  generalize (os ++ [b.length]).getD kk 0 = x1 at *
                  generalize (os ++ [b.length]).getD (kk + 1) 0 = x2 at *
                  have hd1 : ∀ o, (wr.alloc o).cell? ⟨gf, kk, none⟩ = some (.int .i64 (x1 : Int)) := fun o => by rw [(Below.alloc (Below.refl _ wr) (Nat.le_refl _) o).cell (p := ⟨gf, kk, none⟩) (blk_lt hc1)]; exact hc1
                  have hd2 : ∀ o, (wr.alloc o).cell? ⟨gf, kk + 1, none⟩ = some (.int .i64 (x2 : Int)) := fun o => by rw [(Below.alloc (Below.refl _ wr) (Nat.le_refl _) o).cell (p := ⟨gf, kk + 1, none⟩) (blk_lt hc2)]; exact hc2
                  have hi1 : (kk : Int) < (os.length : Int) + 1 := by omega
                  have hi2 : (kk : Int) < (os.length : Int) := by omega
                  have hi3 : IntKind.i64.wrap ((kk : Int) + 1) = (kk : Int) + 1 := wrap_small _ (by omega) (by omega)
                  have hi4 : (0 : Int) ≤ (kk : Int) + 1 := by omega
                  have hi5 : (kk : Int) + 1 < (os.length : Int) + 1 := by omega
                  have hi6 : ((kk : Int) + 1).toNat = kk + 1 := by omega
                  have hj1 : (x1 : Int) ≤ (x2 : Int) := by omega
                  have hj2 : (x2 : Int) ≤ (c : Int) := by omega
                  have hj3 : x2 ≤ c := by omega
                  have HLP : Hid (((b.take x2).drop x1).length = x2 - x1) := by show _ = _; simp; omega
                  have HCI : Hid (BV wr 0 (.slice (if c = x1 then some ⟨rb, ro, none⟩ else some ⟨rb, ro + x1, none⟩) (x2 - x1) (c - x1)) ((b.take x2).drop x1)) := BV.cutif (BV.below HB.out BW.out (Nat.le_refl _)) hx12 hx2b
                  generalize (b.take x2).drop x1 = part at *
                  by_cases hcx : c = x1
                  all_goals
                    have hcx' : (c = x1) = (if c = x1 then True else False) := by by_cases h : c = x1 <;> simp [h]
                    first | (rw [if_pos hcx] at HCI hcx') | (rw [if_neg hcx] at HCI hcx')
                    clear hcx
                    go_upto_region 27 with fail
                    go_cut [10] (fun l wx => RO wx w.heap.size l (ls ++ [part]) ∧ OI wx w.heap.size (.slice (some ⟨gf, 0, none⟩) (os.length + 1) cf) (ints (os ++ [b.length])) ∧ Below w.heap.size w wx)
                    case first =>
                      go_region_law (first
                        | (refine step_append_sl _ rfl _ _ 22 rfl wr.heap.size 0 5 i2 (.int .u8 0) 1 Try.underlying22 hu8 hx0 hx1 hx2 rfl _ 0 [] rfl (World.ownsRow_made wr #[] 0 (Nat.le_refl _) (Nat.zero_le _) rfl) _ (part.map bv) rfl (by first | exact Sl.alloc HCI.out _) (bv_one _) (by have := HLP.out; rw [List.length_map]; unfold maxLen; omega) (by have := HLP.out; rw [List.length_map]; omega) (by simp) ?_
                           intro v5 w5 hown hgrow _
                           have O5 : Hid (OB w5 wr.heap.size v5 part) := OB.mk hown (by simp) rfl
                           have B5 : Hid (Below wr.heap.size wr w5) := ((Below.refl _ wr).alloc (Nat.le_refl _) (.cells #[] 5)).grown ⟨hgrow.os, hgrow.tape, hgrow.output, hgrow.size, hgrow.block⟩ (by simp) (by
                             intro q hq
                             have hq' : (Value.slice (some ⟨wr.heap.size, 0, none⟩) 0 0).ownBlock = some q := hq
                             simp only [Value.ownBlock, Option.some.injEq] at hq'
                             omega)
                           obtain ⟨A5, c5, rfl⟩ := O5.out.form
                           have F5 : Hid (OI w5 w.heap.size (.slice (some ⟨gf, 0, none⟩) (os.length + 1) cf) (ints (os ++ [b.length]))) := F.out.below B5.out
                           have BW5 : Hid (Below w.heap.size w w5) := BW.out.trans (B5.out.mono hsz)
                           have hs5 := BW5.out.size
                           obtain ⟨vs, hv, he⟩ := R.out.below B5.out
                           have HV := Lib.hid hv
                           have HEL := Lib.hid he
                           clear hown hgrow hv he)
                        | (refine step_append_sl _ rfl _ _ 28 rfl w.heap.size w5.heap.size 22 i1 (.slice none 0 0) 24 Try.underlying28 hj hy0 hy1 hy2 rfl _ _ _ rfl (World.ownsRow.alloc HV.out _) (.slice (some ⟨w5.heap.size, 0, none⟩) 1 1) [.slice A5 part.length c5] rfl (sl_new w5 [.slice A5 part.length c5] 22 (by simp [maxLen])) (by simp [Value.oneCell']) (by have := HPL.out; simp only [List.length_cons, List.length_nil, maxLen]; omega) (by have := HPL.out; simp only [List.length_cons, List.length_nil]; omega) (by simp; omega) ?_
                           intro v6 w6 hown hgrow _
                           have R6 : Hid (RO w6 w.heap.size v6 (ls ++ [part])) := RO.snoc (w := w5.alloc (.cells #[.slice A5 part.length c5] 22)) (World.ownsRow.alloc HV.out _) (fun j u l' h1 h2 => World.ownsRow.alloc (HEL.out j u l' h1 h2) _) (World.ownsRow.alloc (OB.lower O5.out hsz) _) hown (by simp) hgrow
                           have F6 : Hid (OI w6 w.heap.size (.slice (some ⟨gf, 0, none⟩) (os.length + 1) cf) (ints (os ++ [b.length]))) := (own_ne HV.out F5.out (by decide)).kept (World.ownsRow.alloc F5.out _) hgrow
                           have B6 : Hid (Below w.heap.size w w6) := (BW5.out.alloc hs5 _).grown hgrow (by simp; omega) (fun j hj => (World.ownsRow.lt HV.out j hj).1)
                           clear hown hgrow))
                      all_goals (go_wp2_with fail; go_meet; exact ⟨R6.out, F6.out, B6.out⟩)
                    case rest =>
                      obtain ⟨r6, f6, b6⟩ := hcut
                      have R6 := Lib.hid r6
                      have F6 := Lib.hid f6
                      have B6 := Lib.hid b6
                      clear r6 f6 b6 hc1 hc2 hd1 hd2 R F BW
                      obtain ⟨A6, c6, rfl⟩ := R6.out.form
                      go_wp2
                      go_roundw
                      case rel =>
                        refine ⟨k + 1, by omega, by go_num, ?_, ?_, ?_, F6.out, B6.out⟩
                        · rw [HP2.out, HGK.out]; simp [hd]
                        · rw [NS.out, HGK.out]; simp
                        · rw [PS'.out]; exact R6.out
                      case measure => simp [intOf]; omega
                · obtain ⟨sn, rfl⟩ := Int.eq_ofNat_of_zero_le hs1
                  rw [Int.toNat_natCast] at *
                  have hsn : sn ≠ 0 := by omega
                  have hp4 : pos + sn ≤ H := by simpa [hd, hsn] using hp3
                  have hs' : ((sn : Int) == 0) = false := by simp; omega
                  have hbne : b ≠ [] := by intro e; have := congrArg List.length e; simp only [List.length_nil] at this; omega
                  obtain ⟨rb, ro, rfl⟩ := HB.out.at2 hbne
                  have hq1 : (pos : Int) + (sn : Int) ≤ (b.length : Int) := by omega
                  have hcell1 : (wr.alloc (.cells #[] 5)).cell? ⟨bz, oz + k, none⟩ = some (.int .i64 (sn : Int)) := by rw [(BW.out.alloc hsz _).cell (p := ⟨bz, oz + k, none⟩) (blk_lt HCK.out)]; exact HCK.out
                  have HCL : Hid (BV wr 0 (.slice (some ⟨rb, ro + pos, none⟩) sn (c - pos)) ((b.drop pos).take sn)) := by
                    show BV _ _ _ _
                    have h := BV.cut (BV.below HB.out BW.out (Nat.le_refl _)) (i := pos) (j := pos + sn) (by omega) (by omega)
                    rwa [List.drop_take, show pos + sn - pos = sn from by omega] at h
                  have HCM : Hid (BV wr 0 (.slice (some ⟨rb, ro + pos, none⟩) (pos + sn - pos) (c - pos)) ((b.drop pos).take sn)) := by
                    rw [show pos + sn - pos = sn from by omega]; exact HCL
                  have hlp : ((b.drop pos).take sn).length = sn := by simp only [List.length_drop, List.length_take]; omega
                  have HLP := Lib.hid hlp
                  have PS' : Hid ((cutParts b ss).take (k + 1) = ls ++ [(b.drop pos).take sn]) := by
                    show _ = _
                    rw [PS.out, HGK.out, if_neg hsn]
                  clear hlp
                  generalize (b.drop pos).take sn = part at *
                  have hcp : ¬ c = pos := by omega
                  have hsub : pos + sn - pos = sn := by omega
                  go_wp2_with (at_builtin; refine wpList_append_sl _ rfl _ _ 22 rfl wr.heap.size 0 5 i2 (.int .u8 0) 1 Try.underlying22 hu8 hx0 hx1 hx2 rfl _ 0 [] rfl (World.ownsRow_made wr #[] 0 (Nat.le_refl _) (Nat.zero_le _) rfl) _ (part.map bv) rfl (by first | exact Sl.alloc HCL.out _ | exact Sl.alloc HCM.out _) (bv_one _) ?c3 ?c4 ?c5 ?_)
                  case c3 => have := HLP.out; rw [List.length_map]; unfold maxLen; omega
                  case c4 => have := HLP.out; rw [List.length_map]; omega
                  case c5 => simp
                  intro v5 w5 hown hgrow _
                  have O5 : Hid (OB w5 wr.heap.size v5 part) := OB.mk hown (by simp) rfl
                  have B5 : Hid (Below wr.heap.size wr w5) := ((Below.refl _ wr).alloc (Nat.le_refl _) _).grown hgrow (by simp) (by intro k hk; simp [Value.ownBlock] at hk; omega)
                  obtain ⟨A5, c5, rfl⟩ := O5.out.form
                  clear hown hgrow
                  have F5 : Hid (OI w5 w.heap.size (.slice (some ⟨gf, 0, none⟩) (os.length + 1) cf) (ints (os ++ [b.length]))) := F.out.below B5.out
                  have R5 := R.out.below B5.out
                  have BW5 : Hid (Below w.heap.size w w5) := BW.out.trans (B5.out.mono hsz)
                  have hs5 := BW5.out.size
                  obtain ⟨vs, hv, he⟩ := R5
                  have HV := Lib.hid hv
                  have HEL := Lib.hid he
                  clear hv he
                  go_wp2_with (at_builtin; refine wpList_append_sl _ rfl _ _ 28 rfl w.heap.size w5.heap.size 22 i1 (.slice none 0 0) 24 Try.underlying28 hj hy0 hy1 hy2 rfl _ _ _ rfl (World.ownsRow.alloc HV.out _) (.slice (some ⟨w5.heap.size, 0, none⟩) 1 1) [.slice A5 part.length c5] rfl (sl_new w5 [.slice A5 part.length c5] 22 (by simp [maxLen])) (by simp [Value.oneCell']) ?c3 ?c4 ?c5 ?_)
                  case c3 => have := HPL.out; simp only [List.length_cons, List.length_nil, maxLen]; omega
                  case c4 => have := HPL.out; simp only [List.length_cons, List.length_nil]; omega
                  case c5 => simp; omega
                  intro v6 w6 hown hgrow _
                  have R6 : Hid (RO w6 w.heap.size v6 (ls ++ [part])) := RO.snoc (w := w5.alloc (.cells #[.slice A5 part.length c5] 22)) (World.ownsRow.alloc HV.out _) (fun j u l' h1 h2 => World.ownsRow.alloc (HEL.out j u l' h1 h2) _) (World.ownsRow.alloc (OB.lower O5.out hsz) _) hown (by simp) hgrow
                  have F6 : Hid (OI w6 w.heap.size (.slice (some ⟨gf, 0, none⟩) (os.length + 1) cf) (ints (os ++ [b.length]))) := (own_ne HV.out F5.out (by decide)).kept (World.ownsRow.alloc F5.out _) hgrow
                  have B6 : Hid (Below w.heap.size w w6) := (BW5.out.alloc hs5 _).grown hgrow (by simp; omega) (fun j hj => (World.ownsRow.lt HV.out j hj).1)
                  have hcell6 : w6.cell? ⟨bz, oz + k, none⟩ = some (.int .i64 (sn : Int)) := by rw [B6.out.cell (p := ⟨bz, oz + k, none⟩) (blk_lt HCK.out)]; exact HCK.out
                  clear hown hgrow HV HEL F5 O5 B5 BW5 R F BW hcell hcell1
                  go_wp2
                  go_roundw
                  case rel =>
                    refine ⟨k + 1, by omega, by go_num, ?_, ?_, ?_, F6.out, B6.out⟩
                    · rw [HP2.out, HGK.out, hd, if_neg hsn]; simp
                    · rw [NS.out, HGK.out, if_neg hsn]; simp
                    · rw [PS'.out]; exact R6.out
                  case measure => simp [intOf]; omega
              · obtain rfl : k = z.length := by omega
                have hT : (cutParts b ss).take z.length = cutParts b ss := by rw [List.take_of_length_le]; rw [parts_len, HN.out]; exact Nat.le_refl _
                rw [hT] at R
                clear hT
                go_wp2
                go_ret2
                refine (show ManyPost w (cut b z) _ _ from ?_)
                rw [HEE.out]
                exact ⟨_, rfl, R.out, BW.out⟩
end Go.Proofs.Ytamfceklddbldaa
