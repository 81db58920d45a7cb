/- Contract of the reference's Each. -/
import Derived.Test.YtamfceklddbldaaCut2
namespace Go.Proofs.Ytamfceklddbldaa
open Go.RowKit

theorem pieces_succ (n k : Nat) (b : Bs) : pieces n (k + 1) b = pieces n k b ++ [(b.drop (k * n)).take n] := by
  unfold pieces; rw [List.range_succ, List.map_append]; rfl
theorem pieces_len (n k : Nat) (b : Bs) : (pieces n k b).length = k := by simp [pieces]
set_option maxHeartbeats 3200000 in
set_option maxRecDepth 100000 in
theorem reach_any (v : Value) (b : Bs) (size most : Int) (w : World) (h : BV w 0 v b) (hs : size < 9223372036854775808) (hbl : b.length ≤ 1000000000) :
    Calls Try.prog 23 #[v, .int .i64 size, .int .i64 most] w (ManyPost w (each b size most)) := by
  obtain ⟨i1, hj, hy0, hy1, hy2⟩ := info_parts Try.info_bs
  obtain ⟨i2, hu8, hx0, hx1, hx2⟩ := info_parts Try.info_u8
  have HB := Lib.hid h
  obtain ⟨A, c, rfl, h1, h2⟩ := h.form
  clear h
  unfold maxLen at h2
  by_cases t1 : size < 1
  · have HE : Hid (each b size most = ([], 1)) := by show _ = _; unfold each; rw [if_pos (.inl t1)]
    rw [HE.out]
    go_enter Try.func23, Try.ntmps23
    go_wp2
    go_ret2
    exact ⟨_, rfl, RO.nil_ _ _, Below.refl _ _⟩
  by_cases t2 : most < 0
  · have HE : Hid (each b size most = ([], 1)) := by show _ = _; unfold each; rw [if_pos (.inr t2)]
    rw [HE.out]
    go_enter Try.func23, Try.ntmps23
    go_wp2
    go_ret2
    exact ⟨_, rfl, RO.nil_ _ _, Below.refl _ _⟩
  obtain ⟨n, rfl⟩ := Int.eq_ofNat_of_zero_le (show 0 ≤ size by omega)
  have hn : 0 < n := by omega
  have HE : Hid (each b (n : Int) most = if b.length % n ≠ 0 then ([], 4) else if most < ((b.length / n : Nat) : Int) then ([], 6) else (pieces n (b.length / n) b, 0)) := by
    show _ = _; unfold each; rw [if_neg (by omega), Int.toNat_natCast]
  have em : ((b.length : Int).tmod (n : Int)) = ((b.length % n : Nat) : Int) := by rw [Int.ofNat_tmod]
  have em2 : ((b.length : Int) % (n : Int)) = ((b.length % n : Nat) : Int) := by simp
  have ed : ((b.length : Int).tdiv (n : Int)) = ((b.length / n : Nat) : Int) := by rw [Int.ofNat_tdiv]
  have ed2 : ((b.length : Int) / (n : Int)) = ((b.length / n : Nat) : Int) := by simp
  have hdv := Nat.div_add_mod b.length n
  have hdl : b.length / n ≤ b.length := Nat.div_le_self _ _
  have hz : ¬ (n : Int) = 0 := by omega
  generalize hr : b.length % n = r at *
  generalize hK : b.length / n = K at *
  by_cases t3 : r = 0
  · subst t3
    by_cases t4 : most < (K : Int)
    · have HEE : Hid (each b (n : Int) most = ([], 6)) := by show _ = _; rw [HE.out, if_neg (by simp), if_pos t4]
      rw [HEE.out]
      clear hdv hr hK
      go_enter Try.func23, Try.ntmps23
      go_wp2
      go_ret2
      exact ⟨_, rfl, RO.nil_ _ _, Below.refl _ _⟩
    · have HEE : Hid (each b (n : Int) most = (pieces n K b, 0)) := by show _ = _; rw [HE.out, if_neg (by simp), if_neg t4]
      have HDV := Lib.hid hdv
      have hd4 : decide (most < (K : Int)) = false := by simp; omega
      clear hdv hr hK
      go_enter Try.func23, Try.ntmps23
      go_wp2
      go_loopw [8, 9] (fun l i wr => ∃ k p : Nat, k ≤ K ∧ p = k * n ∧ i = .int .i64 (p : Int) ∧ RO wr w.heap.size l (pieces n k b) ∧ Below w.heap.size w wr) (fun _ i _ => b.length - (intOf i).toNat)
      case atStart => exact ⟨0, 0, Nat.zero_le _, by simp, rfl, RO.nil_ _ _, Below.refl _ _⟩
      case round =>
        obtain ⟨k, p, hk, hp, rfl, hro, hb⟩ := hrel
        have R := Lib.hid hro
        have BW := Lib.hid hb
        have hsz := hb.size
        obtain ⟨A2, c2, rfl⟩ := hro.form
        rw [pieces_len] at R ⊢
        have PS := Lib.hid (pieces_succ n k b)
        rw [← hp] at PS
        have HPK := Lib.hid hp
        clear hro hb
        by_cases hlt : k < K
        · have hpn : p + n ≤ b.length := by
            have h1 : (k + 1) * n ≤ K * n := Nat.mul_le_mul_right n hlt
            have h2 := HDV.out
            rw [Nat.add_mul, Nat.one_mul, Nat.mul_comm K n] at h1
            omega
          clear hp
          have hbne : b ≠ [] := by intro e; have := congrArg List.length e; simp only [List.length_nil] at this; omega
          obtain ⟨rb, ro, rfl⟩ := HB.out.at2 hbne
          have hq1 : (p : Int) + (n : Int) ≤ (b.length : Int) := by omega
          have hq2 : (p : Int) < (b.length : Int) := by omega
          have hq3 : p < b.length := by omega
          have HCL : Hid (BV wr 0 (.slice (some ⟨rb, ro + p, none⟩) n (c - p)) ((b.drop p).take n)) := by
            show BV _ _ _ _
            have h := BV.cut (BV.below HB.out BW.out (Nat.le_refl _)) (i := p) (j := p + n) (by omega) (by omega)
            rwa [List.drop_take, show p + n - p = n from by omega] at h
          have HCM : Hid (BV wr 0 (.slice (some ⟨rb, ro + p, none⟩) (p + n - p) (c - p)) ((b.drop p).take n)) := by
            rw [show p + n - p = n from by omega]; exact HCL
          have hlp : ((b.drop p).take n).length = n := by simp only [List.length_drop, List.length_take]; omega
          have HLP := Lib.hid hlp
          clear hlp
          generalize (b.drop p).take n = part at *
          have hcp : ¬ c = p := by omega
          have hsub : p + n - p = n := by omega
          generalize pieces n k b = ls at *
          go_wp2_with (at_builtin; refine wpList_append_sl _ rfl _ _ 22 rfl wr.heap.size 0 5 i2 (.int .u8 0) 1 Try.underlying22 hu8 hx0 hx1 hx2 rfl _ 0 [] rfl (World.ownsRow_made wr #[] 0 (Nat.le_refl _) (Nat.zero_le _) rfl) _ (part.map bv) rfl (by first | exact Sl.alloc HCL.out _ | exact Sl.alloc HCM.out _) (bv_one _) ?c3 ?c4 ?c5 ?_)
          case c3 => have := HLP.out; rw [List.length_map]; unfold maxLen; omega
          case c4 => have := HLP.out; rw [List.length_map]; omega
          case c5 => simp
          intro v5 w5 hown hgrow _
          have O5 : Hid (OB w5 wr.heap.size v5 part) := OB.mk hown (by simp) rfl
          have B5 : Hid (Below wr.heap.size wr w5) := ((Below.refl _ wr).alloc (Nat.le_refl _) _).grown hgrow (by simp) (by intro k hk; simp [Value.ownBlock] at hk; omega)
          obtain ⟨A5, c5, rfl⟩ := O5.out.form
          clear hown hgrow
          have R5 := R.out.below B5.out
          have BW5 : Hid (Below w.heap.size w w5) := BW.out.trans (B5.out.mono hsz)
          have hs5 := BW5.out.size
          obtain ⟨vs, hv, he⟩ := R5
          have hll : ls.length = k := by
            obtain ⟨vs', h1, _⟩ := R.out
            obtain ⟨_, _, e⟩ := R.out.form
            injection e with _ e _
            exact e.symm
          have HLL := Lib.hid hll
          have HV := Lib.hid hv
          have HEL := Lib.hid he
          clear hv he hll
          go_wp2_with (at_builtin; refine wpList_append_sl _ rfl _ _ 28 rfl w.heap.size w5.heap.size 22 i1 (.slice none 0 0) 24 Try.underlying28 hj hy0 hy1 hy2 rfl _ _ _ rfl (World.ownsRow.alloc HV.out _) (.slice (some ⟨w5.heap.size, 0, none⟩) 1 1) [.slice A5 part.length c5] rfl (sl_new w5 [.slice A5 part.length c5] 22 (by simp [maxLen])) (by simp [Value.oneCell']) ?c3 ?c4 ?c5 ?_)
          case c3 => have := HLL.out; simp only [List.length_cons, List.length_nil, maxLen]; omega
          case c4 => have := HLL.out; simp only [List.length_cons, List.length_nil]; omega
          case c5 => simp; omega
          intro v6 w6 hown hgrow _
          have R6 : Hid (RO w6 w.heap.size v6 (ls ++ [part])) := RO.snoc (w := w5.alloc (.cells #[.slice A5 part.length c5] 22)) (World.ownsRow.alloc HV.out _) (fun j u l' h1 h2 => World.ownsRow.alloc (HEL.out j u l' h1 h2) _) (World.ownsRow.alloc (OB.lower O5.out hsz) _) hown (by simp) hgrow
          have B6 : Hid (Below w.heap.size w w6) := (BW5.out.alloc hs5 _).grown hgrow (by simp; omega) (fun j hj => (World.ownsRow.lt HV.out j hj).1)
          clear hown hgrow HV HEL O5 B5 BW5 R BW
          go_wp2
          go_roundw
          case rel =>
            refine ⟨k + 1, p + n, by omega, ?_, by go_num, ?_, B6.out⟩
            · rw [HPK.out, Nat.add_mul, Nat.one_mul]
            · rw [PS.out]; exact R6.out
          case measure => simp [intOf]; omega
        · obtain rfl : k = K := by omega
          have hpl : p = b.length := by have := HDV.out; rw [Nat.mul_comm k n] at hp; omega
          have hq2 : ¬ (p : Int) < (b.length : Int) := by omega
          have hq3 : ¬ p < b.length := by omega
          clear hp hpl
          go_wp2
          go_ret2
          refine (show ManyPost w (each b (n : Int) most) _ _ from ?_)
          rw [HEE.out]
          exact ⟨_, rfl, R.out, BW.out⟩
  · have HEE : Hid (each b (n : Int) most = ([], 4)) := by show _ = _; rw [HE.out, if_pos t3]
    have t3' : ((r : Int) != 0) = true := by simp; omega
    rw [HEE.out]
    clear hdv hr hK
    go_enter Try.func23, Try.ntmps23
    go_wp2
    go_ret2
    exact ⟨_, rfl, RO.nil_ _ _, Below.refl _ _⟩
end Go.Proofs.Ytamfceklddbldaa
