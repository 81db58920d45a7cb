/- 'pharoslaw03.SszEnds' returns true, and each argument reads behind the call as it read before, wherever the arguments' bulk is at most 1048576 (the given second form). -/
import Derived.Test.YtamfceklddbldaaOpen
import Derived.Test.YtamfceklddbldaaLay2
import Derived.Deep.RegionHeld3
import Derived.Deep.DeepCutAuto
namespace Go.Proofs.Ytamfceklddbldaa.sszEnds
open Go.ChangeShapes Go.WideShapes Go.ChangeAt Go.RowKit
set_option linter.unusedVariables false

/-- Other bytes are another container's, or none's. -/
theorem other (ps : List Bs) (z : List Int) (a : Bs) (h1 : laid ps (nats z) ≠ a) : cut a z = ((cut a z).1, (cut a z).2) ∧ ((cut a z).2 = 0 → (cut a z).1 ≠ ps) := by
  refine ⟨rfl, fun h e => ?_⟩
  have h2 : cut a z = (ps, 0) := by rw [← e, ← h]
  exact h1 (lay_cut h2).2.2.2
theorem wrap_u8 (n : Int) : IntKind.u8.wrap n = n % 256 := by simp [IntKind.wrap, IntKind.bits, IntKind.signed]
theorem xor_u8 (a b : Nat) (ha : a < 256) (hb : b < 256) : bits .xor .u8 (a : Int) (b : Int) = ((a ^^^ b : Nat) : Int) := by
  have hx : a ^^^ b < 2 ^ 8 := Nat.xor_lt_two_pow (by omega) (by omega)
  have h1 : (BitVec.ofInt 8 (a : Int)).toNat = a := by
    rw [BitVec.ofInt_natCast, BitVec.toNat_ofNat]; exact Nat.mod_eq_of_lt (by omega)
  have h2 : (BitVec.ofInt 8 (b : Int)).toNat = b := by
    rw [BitVec.ofInt_natCast, BitVec.toNat_ofNat]; exact Nat.mod_eq_of_lt (by omega)
  show IntKind.u8.wrap ((BitVec.ofInt 8 (a : Int) ^^^ BitVec.ofInt 8 (b : Int)).toNat : Int) = _
  rw [BitVec.toNat_xor, h1, h2, wrap_u8]
  omega
theorem xor_fact (c : UInt8) (x : Int) (hx : 0 ≤ x ∧ x < 256) : ∃ y : UInt8, bits .xor .u8 (c.toNat : Int) x = (y.toNat : Int) ∧ (x ≠ 0 → y ≠ c) := by
  obtain ⟨n, rfl⟩ := Int.eq_ofNat_of_zero_le hx.1
  have hn : n < 256 := by omega
  have hc := c.toNat_lt
  have hlt : c.toNat ^^^ n < 256 := Nat.xor_lt_two_pow (n := 8) (by omega) (by omega)
  refine ⟨UInt8.ofNat (c.toNat ^^^ n), ?_, fun h e => h ?_⟩
  · rw [xor_u8 _ _ (by omega) hn]
    rw [UInt8.toNat_ofNat_of_lt' (by simpa [UInt8.size] using hlt)]
  · have h1 := congrArg UInt8.toNat e
    rw [UInt8.toNat_ofNat_of_lt' (by simpa [UInt8.size] using hlt)] at h1
    have h2 : c.toNat ^^^ (c.toNat ^^^ n) = 0 := by rw [h1, Nat.xor_self]
    rw [← Nat.xor_assoc, Nat.xor_self, Nat.zero_xor] at h2
    simp [h2]
theorem rem_fact (at_ : Int) (n : Nat) (hn : 0 < n) : ∃ (r : Int) (k : Nat), Int.tmod at_ (n : Int) = r ∧ -(n : Int) < r ∧ r < (n : Int) ∧ Int.tmod (r + (n : Int)) (n : Int) = (k : Int) ∧ k < n := by
  have h1 : -(n : Int) < Int.tmod at_ n := by
    have := Int.lt_tmod_of_pos at_ (show (0 : Int) < n by omega)
    omega
  have h2 : 0 ≤ Int.tmod at_ n + n := by omega
  have h3 := Int.tmod_nonneg (n : Int) h2
  have h4 := Int.tmod_lt_of_pos (Int.tmod at_ n + n) (show (0 : Int) < n by omega)
  have h5 := Int.tmod_lt_of_pos at_ (show (0 : Int) < n by omega)
  exact ⟨_, (Int.tmod (Int.tmod at_ n + n) n).toNat, rfl, h1, h5, by omega, by omega⟩
theorem OB_at2 {w : World} {B n c : Nat} {A : Option Addr} {l : Bs} (h : OB w B (.slice A n c) l) (hne : l.length ≠ 0) : ∃ g, A = some ⟨g, 0, none⟩ ∧ l.length ≤ c ∧ c ≤ maxLen := by
  obtain ⟨A', c', e, h1, h2⟩ := BV.form h.toBV
  injection e with e1 e2 e3
  subst e1 e2 e3
  rcases h.2 with ⟨e, h0⟩ | ⟨g, cap, cur, e, _⟩
  · exact absurd h0 hne
  · injection e with e1 e2 e3
    exact ⟨g, e1, h1, h2⟩
set_option maxHeartbeats 1600000 in
set_option maxRecDepth 100000 in
theorem walk (v0 : Value) (ps : List Bs) (v1 : Value) (z : List Int) (at_ : Int) (x : Int) (W : World) (w0 : RV W 0 v0 ps) (w1 : IV W 0 v1 z) (w2 : (Lit.int .i64 at_).wf = true) (w3 : (Lit.int .u8 x).wf = true) (hb : ps.flatten.length ≤ 1048576) :
    Calls Try.prog 7 #[v0, v1, .int .i64 at_, .int .u8 x] W (TruePost W) := by
  obtain ⟨i0, hi, hz0, hz1, hz2⟩ := info_parts Try.info_u8
  have HP := Lib.hid w0
  have HZ := Lib.hid w1
  have HI := Lib.hid one_new
  have hx : 0 ≤ x ∧ x < 256 := by simp [Lit.wf, IntKind.min, IntKind.max, IntKind.signed, IntKind.bits] at w3; omega
  clear w0 w1 w2 w3
  go_enter Try.func7, Try.ntmps7
  go_wp2_with fail
  refine (awake_any W).mono ?_
  rintro e W1 ⟨rfl, b1⟩
  have B1 := Lib.hid b1
  clear b1
  go_wp2_with fail
  refine (lay_any _ _ ps z W1 (HP.out.below B1.out (Nat.le_refl _)) (Sl.below HZ.out B1.out (Nat.le_refl _)) (by omega)).mono ?_
  rintro e W2 ⟨v3, rfl, o2, b2⟩
  have B2 : Hid (Below W.heap.size W W2) := B1.out.trans (b2.mono B1.out.size)
  have O2 := Lib.hid o2
  clear o2 b2
  rcases lay_or ps z with h | h | ⟨h1, h2, h⟩
  · rw [h] at O2 ⊢
    clear h
    go_wp2_with fail
    go_ret
    exact ⟨rfl, B2.out⟩
  · rw [h] at O2 ⊢
    clear h
    go_wp2_with fail
    go_ret
    exact ⟨rfl, B2.out⟩
  · have hlen := laid_le ps z h1 h2
    have HC := Lib.hid (other ps z)
    rw [h] at O2 ⊢
    clear h h1 h2
    generalize laid ps (nats z) = a at *
    obtain ⟨A3, c3, rfl⟩ := O2.out.form
    by_cases hn : a.length = 0
    · have hn' : ((a.length : Int) == 0) = true := by simp [hn]
      clear HC
      go_wp2_with fail
      go_ret
      exact ⟨rfl, B2.out⟩
    have hn' : ((a.length : Int) == 0) = false := by rw [beq_eq_false_iff_ne]; omega
    have BA : Hid (BV W2 0 (.slice A3 a.length c3) a) := Sl.lower (OB.toBV O2.out) (Nat.zero_le _)
    obtain ⟨g3, rfl, hcl, hcm⟩ := OB_at2 O2.out hn
    have HC1 := Lib.hid (HC.out (a.take (a.length - 1)) (by intro e; have := congrArg List.length e; simp at this; omega))
    have HC2 := Lib.hid (HC.out (a ++ [0]) (by intro e; have := congrArg List.length e; simp at this))
    have S1 : Hid (BV W2 0 (.slice (some ⟨g3, 0, none⟩) (a.length - 1) c3) (a.take (a.length - 1))) := by
      have := BA.out.cut (i := 0) (j := a.length - 1) (Nat.zero_le _) (by omega)
      simp only [Nat.add_zero, Nat.sub_zero, List.drop_zero] at this
      exact this
    go_wp2_with fail
    refine (cut_any _ _ _ z W2 S1.out (Sl.below HZ.out B2.out (Nat.le_refl _)) (by rw [List.length_take]; omega)).mono ?_
    rintro e W3 ⟨v5, rfl, r5, b5⟩
    have R5 : Hid (RO W3 W2.heap.size v5 _) := Lib.hid r5
    have B3 : Hid (Below W.heap.size W W3) := B2.out.trans (b5.mono B2.out.size)
    have O3 : Hid (OB W3 W1.heap.size (.slice (some ⟨g3, 0, none⟩) a.length c3) a) := O2.out.below b5
    generalize cut (a.take (a.length - 1)) z = q1 at *
    obtain ⟨l1, n1⟩ := q1
    clear r5 b5 O2 S1 BA
    go_wp2_with (at_builtin; refine wpList_append_sl _ rfl _ _ 22 rfl W3.heap.size 0 5 i0 (.int .u8 0) 1 Try.underlying22 hi hz0 hz1 hz2 rfl _ 0 [] rfl (World.ownsRow_made W3 #[] 0 (Nat.le_refl _) (Nat.zero_le _) rfl) _ (a.map bv) rfl (Sl.alloc (Sl.lower (OB.toBV O3.out) (Nat.zero_le _)) _) (bv_one a) ?c3 ?c4 ?c5 ?_)
    case c3 => rw [List.length_map]; unfold maxLen; omega
    case c4 => rw [List.length_map]; omega
    case c5 => simp
    intro v6 W4 hown hgrow hmv
    have O4 : Hid (OB W4 W3.heap.size v6 a) := OB.mk hown (by simp) rfl
    have B34 : Hid (Below W3.heap.size W3 W4) := ((Below.refl _ W3).alloc (Nat.le_refl _) _).grown hgrow (by simp) (by intro k hk; simp [Value.ownBlock] at hk; omega)
    have hs4 := B34.out.size
    obtain ⟨A6, c6, rfl⟩ := O4.out.form
    clear hown hgrow hmv
    go_wp2_with (at_builtin; refine wpList_append_sl _ rfl _ _ 22 rfl W3.heap.size 0 5 i0 (.int .u8 0) 1 Try.underlying22 hi hz0 hz1 hz2 rfl _ a.length _ rfl (World.ownsRow.alloc O4.out _) _ ([0].map bv) rfl (HI.out W4 [0] #[.int .u8 0] 1 rfl rfl (by omega)).1 (bv_one _) ?c3 ?c4 ?c5 ?_)
    case c3 => rw [List.length_map]; simp [maxLen]; omega
    case c4 => rw [List.length_map]; simp; omega
    case c5 => simp; omega
    intro v7 W5 hown hgrow hmv
    have O5 : Hid (OB W5 W3.heap.size v7 (a ++ [0])) := OB.mk hown (by simp) (by simp)
    have B35 : Hid (Below W3.heap.size W3 W5) := (B34.out.alloc hs4 _).grown hgrow (by simp; omega) (OB.row_ge O4.out)
    have B5 : Hid (Below W.heap.size W W5) := B3.out.trans (B35.out.mono B3.out.size)
    have R5' : Hid (RO W5 W2.heap.size v5 l1) := R5.out.below B35.out
    have O3' : Hid (OB W5 W1.heap.size (.slice (some ⟨g3, 0, none⟩) a.length c3) a) := O3.out.below B35.out
    clear hown hgrow hmv O4 B34 hs4 B35 R5 O3
    go_wp2_with fail
    refine (cut_any _ _ _ z W5 (Sl.lower (OB.toBV O5.out) (Nat.zero_le _)) (Sl.below HZ.out B5.out (Nat.le_refl _)) (by rw [List.length_append, List.length_singleton]; omega)).mono ?_
    rintro e W6 ⟨v8, rfl, r8, b8⟩
    have R8 : Hid (RO W6 W5.heap.size v8 _) := Lib.hid r8
    have B6 : Hid (Below W.heap.size W W6) := B5.out.trans (b8.mono B5.out.size)
    have O6 : Hid (OB W6 W1.heap.size (.slice (some ⟨g3, 0, none⟩) a.length c3) a) := O3'.out.below b8
    have R6 : Hid (RO W6 W2.heap.size v5 l1) := R5'.out.below b8
    generalize cut (a ++ [0]) z = q2 at *
    obtain ⟨l2, n2⟩ := q2
    have M1 := Lib.hid HC1.out.2
    have M2 := Lib.hid HC2.out.2
    clear r8 b8 R5' O3' O5 B5 HC1 HC2
    simp only at M1 M2
    go_upto_region 8 with fail
    go_cut [68] (fun b wx => b = .bool false ∧ Below W6.heap.size W6 wx)
    case first =>
      by_cases u1 : n1 = 0
      · subst u1
        have d1 := decide_eq_false (M1.out rfl)
        go_wp2_with fail
        refine (same_any _ _ l1 ps W6 (RV.low0 R6.out.toRV) (HP.out.below B6.out (Nat.le_refl _))).mono ?_
        rintro e W7 ⟨rfl, m7, rfl⟩
        rw [d1]
        by_cases u2 : n2 = 0
        · subst u2
          have d2 := decide_eq_false (M2.out rfl)
          go_wp2_with fail
          refine (same_any _ _ l2 ps (W6.drewN m7) (RV.low0 (R8.out.below (below_drewN (Below.refl _ _) m7)).toRV) (HP.out.below (below_drewN B6.out m7) (Nat.le_refl _))).mono ?_
          rintro e W8 ⟨rfl, m8, rfl⟩
          rw [d2]
          go_wp2_with fail
          go_meet
          exact ⟨rfl, below_drewN (Below.refl _ _) (m7 + m8)⟩
        · have u2' : ((n2 : Int) == 0) = false := by rw [beq_eq_false_iff_ne]; omega
          go_wp2_with fail
          go_meet
          exact ⟨rfl, below_drewN (Below.refl _ _) m7⟩
      · have u1' : ((n1 : Int) == 0) = false := by rw [beq_eq_false_iff_ne]; omega
        by_cases u2 : n2 = 0
        · subst u2
          have d2 := decide_eq_false (M2.out rfl)
          go_wp2_with fail
          refine (same_any _ _ l2 ps W6 (RV.low0 R8.out.toRV) (HP.out.below B6.out (Nat.le_refl _))).mono ?_
          rintro e W8 ⟨rfl, m8, rfl⟩
          rw [d2]
          go_wp2_with fail
          go_meet
          exact ⟨rfl, below_drewN (Below.refl _ _) m8⟩
        · have u2' : ((n2 : Int) == 0) = false := by rw [beq_eq_false_iff_ne]; omega
          go_wp2_with fail
          go_meet
          exact ⟨rfl, Below.refl _ _⟩
    case rest =>
      obtain ⟨rfl, hb7⟩ := hcut
      have B7 : Hid (Below W.heap.size W wc) := B6.out.trans (hb7.mono B6.out.size)
      have O7 : Hid (OB wc W1.heap.size (.slice (some ⟨g3, 0, none⟩) a.length c3) a) := O6.out.below hb7
      clear hb7 M1 M2 R6 R8 O6 B6
      go_wp2_with (at_builtin; refine wpList_append_sl _ rfl _ _ 22 rfl wc.heap.size 0 5 i0 (.int .u8 0) 1 Try.underlying22 hi hz0 hz1 hz2 rfl _ 0 [] rfl (World.ownsRow_made wc #[] 0 (Nat.le_refl _) (Nat.zero_le _) rfl) _ (a.map bv) rfl (Sl.alloc (Sl.lower (OB.toBV O7.out) (Nat.zero_le _)) _) (bv_one a) ?c3 ?c4 ?c5 ?_)
      case c3 => rw [List.length_map]; unfold maxLen; omega
      case c4 => rw [List.length_map]; omega
      case c5 => simp
      intro v9 W8 hown hgrow hmv
      have O8 : Hid (OB W8 wc.heap.size v9 a) := OB.mk hown (by simp) rfl
      have B78 : Hid (Below wc.heap.size wc W8) := ((Below.refl _ wc).alloc (Nat.le_refl _) _).grown hgrow (by simp) (by intro k hk; simp [Value.ownBlock] at hk; omega)
      clear hown hgrow hmv O7
      obtain ⟨A9, c9, rfl⟩ := O8.out.form
      obtain ⟨g9, rfl, hd1, hd2⟩ := OB_at2 O8.out hn
      obtain ⟨r, k, hr, hr1, hr2, hk, hkl⟩ := rem_fact at_ a.length (by omega)
      have hki : (k : Int) < (a.length : Int) := by omega
      have hcell : W8.cell? ⟨g9, k, none⟩ = some (.int .u8 ((a.getD k 0).toNat : Int)) := by
        rw [World.ownsRow.cellAt O8.out k (by omega)]; simp [bv, List.getD, hkl]
      have hfr : W8.frozen? ⟨g9, k, none⟩ = false := World.ownsRow.frozenAt O8.out k
      have HW := Lib.hid (fun y (hy : y ≠ a.getD k 0) => HC.out (a.set k y) (by
        intro e
        have := congrArg (fun l => l.getD k 0) e
        simp only [List.getD, List.getElem?_set_self hkl, Option.getD_some] at this
        exact hy this.symm))
      generalize a.getD k 0 = cc at *
      obtain ⟨y, hy, hyn⟩ := xor_fact cc x hx
      have HYN := Lib.hid hyn
      clear hyn
      go_wp2_with fail
      have O9 : Hid (OB (W8.setCell ⟨g9, k, none⟩ (.int .u8 (y.toNat : Int))) wc.heap.size (.slice (some ⟨g9, 0, none⟩) a.length c9) (a.set k y)) := by
        obtain ⟨h3, h4⟩ := World.ownsRow.stored O8.out k (bv y)
        exact OB.mk h3 (by simp) (by rw [List.map_set])
      have B9 : Hid (Below W.heap.size W (W8.setCell ⟨g9, k, none⟩ (.int .u8 (y.toNat : Int)))) := by
        have h4 := (World.ownsRow.stored O8.out k (bv y)).2
        exact B7.out.trans ((B78.out.grown h4 B78.out.size (OB.row_ge O8.out)).mono B7.out.size)
      generalize W8.setCell ⟨g9, k, none⟩ (.int .u8 (y.toNat : Int)) = W9 at *
      clear B78 O8
      refine (cut_any _ _ (a.set k y) z W9 (by have := Sl.lower (OB.toBV O9.out) (Nat.zero_le _); exact this) (Sl.below HZ.out B9.out (Nat.le_refl _)) (by rw [List.length_set]; omega)).mono ?_
      rintro e W10 ⟨v10, rfl, r10, b10⟩
      have R10 : Hid (RO W10 W9.heap.size v10 _) := Lib.hid r10
      have B10 : Hid (Below W.heap.size W W10) := B9.out.trans (b10.mono B9.out.size)
      clear r10 b10
      by_cases u1 : x = 0
      · subst u1
        clear HW HYN
        generalize (cut (a.set k y) z) = q3 at *
        obtain ⟨l3, n3⟩ := q3
        go_wp2_with fail
        go_ret
        exact ⟨rfl, B10.out⟩
      have u1' : (x == 0) = false := by rw [beq_eq_false_iff_ne]; exact u1
      have M3 := Lib.hid (HW.out y (HYN.out u1)).2
      clear HW HYN u1
      generalize (cut (a.set k y) z) = q3 at *
      obtain ⟨l3, n3⟩ := q3
      simp only at M3
      by_cases u2 : n3 = 0
      · subst u2
        have d3 := decide_eq_false (M3.out rfl)
        clear M3
        go_wp2_with fail
        refine (same_any _ _ l3 ps W10 (RV.low0 R10.out.toRV) (HP.out.below B10.out (Nat.le_refl _))).mono ?_
        rintro e W11 ⟨rfl, m, rfl⟩
        rw [d3]
        go_wp2_with fail
        go_ret
        exact ⟨rfl, below_drewN B10.out m⟩
      · have u2' : ((n3 : Int) != 0) = true := by simp; omega
        clear M3
        go_wp2_with fail
        go_ret
        exact ⟨rfl, B10.out⟩
theorem own : ownKnob Try.prog.godebug = none := by kernel_rfl
theorem laidOut : laidOutB Try.prog = true := by kernel_rfl

set_option maxRecDepth 100000 in
theorem lifted (os : Os) (started : os.Started) (H : Type) (enc : TypeId × Value → H) (F : Stop.Interp) :
    ReturnsInHanded {} Try.checked os 7 .any ((Rows.OpenSpec.upto Rows.sszEndsSpec).pre6 enc Try.prog Try.f7 Rows.sszEndsUptoRow.domain false) (((Rows.OpenSpec.upto Rows.sszEndsSpec).at F).post enc Try.prog Try.f7 false true false false) := by
  refine returnsInHanded_of_cond (C := Try.checked) (s := Rows.OpenSpec.upto Rows.sszEndsSpec) (k := Rows.uptoSmall) rfl own started (by kernel_rfl) Try.func7
    (OpenSpec.witness (enc := enc) (C := Try.checked) (s := Rows.OpenSpec.upto Rows.sszEndsSpec) (k := Rows.uptoSmall) rfl false ⟨#[], #[.slice none 0 0, .slice none 0 0, .int .i64 0, .int .u8 0], []⟩ 8 (by kernel_rfl) (by kernel_rfl) (by kernel_rfl)
      (x := ([.nil, .nil, .lit (.int .i64 0), .lit (.int .u8 0)], [], [])) (by kernel_rfl) rfl (by kernel_rfl)) ?_
  intro W base args ds gs before hval0 hW _ hk _
  have hval : ∀ (j : Nat) t v, Try.f7.params[j]? = some t → args[j]? = some v → Value.okWide Try.prog W .any base t v := hval0
  have hW' := hW
  obtain ⟨p, q, hA0, hV, rfl, hfz, hnd⟩ := hW
  have hA : DataW.TrodAll enc Try.prog W 0 (fun _ => true) true Try.f7.params.toList args.toList ds p := hA0
  rw [Try.params7] at hA hval
  obtain ⟨v0, vs0, d0, ds0, p0, q0, hargs, rfl, rfl, h0, r0⟩ := trodAll_cons hA
  obtain ⟨v1, vs1, d1, ds1, p1, q1, rfl, rfl, rfl, h1, r1⟩ := trodAll_cons r0
  obtain ⟨v2, vs2, d2, ds2, p2, q2, rfl, rfl, rfl, h2, r2⟩ := trodAll_cons r1
  obtain ⟨v3, vs3, d3, ds3, p3, q3, rfl, rfl, rfl, h3, r3⟩ := trodAll_cons r2
  obtain ⟨rfl, rfl, rfl⟩ := trodAll_nil r3
  obtain rfl : args = #[v0, v1, v2, v3] := by cases args; simp_all
  obtain ⟨rfl, rfl⟩ := trodVars_none hV
  have hbk : Rows.uptoBulkAll [d0, d1, d2, d3] ≤ 1048576 := by have h : Rows.uptoBulkAll ([d0, d1, d2, d3] ++ []) ≤ 1048576 := of_decide_eq_true hk; rwa [List.append_nil] at h
  simp only [Rows.uptoBulkAll] at hbk
  have k0 := h0
  have lt0 : ∀ x ∈ p0, x.block < W.heap.size := by obtain ⟨m, hm⟩ := k0; exact DataW.trod_lt m _ _ _ hm
  obtain ⟨l0, w0, b0⟩ := rows_in (hval 0 28 v0 rfl rfl) h0
  have k1 := h1
  have lt1 : ∀ x ∈ p1, x.block < W.heap.size := by obtain ⟨m, hm⟩ := k1; exact DataW.trod_lt m _ _ _ hm
  obtain ⟨a1, len1, cap1, zs1, rfl, x1, b1⟩ := ints_in Try.underlying36 Try.underlying3 (by kernel_rfl) (hval 1 36 v1 rfl rfl) h1
  obtain ⟨w1, y1, z1⟩ := row_iv x1
  obtain ⟨a2, rfl, rfl, rfl, w2⟩ := open_int Try.underlying3 (hval 2 3 v2 rfl rfl) h2
  obtain ⟨a3, rfl, rfl, rfl, w3⟩ := open_int Try.underlying5 (hval 3 5 v3 rfl rfl) h3
  clear hA0 hval0
  refine (walk _ _ _ _ _ _ W w0 w1 w2 w3 (by omega)).mono fun e W' ⟨he, bel⟩ => ?_
  subst he
  exact ⟨_, rfl, _, _, _, [], _, [], hW', trodAll_mk1 (shut_bool Try.underlying4 _), (trodAll_cons_mk (Below.trod laidOut (by kernel_rfl) (of_decide_eq_true (by kernel_rfl)) k0 bel lt0) (trodAll_cons_mk (Below.trod laidOut (by kernel_rfl) (of_decide_eq_true (by kernel_rfl)) k1 bel lt1) (trodAll_cons_mk (shut_int Try.underlying3 w2) (trodAll_cons_mk (shut_int Try.underlying5 w3) trodAll_mk0)))), rfl, bel.frame _, fun h => by cases h⟩

theorem over : Rows.sszEndsUptoRow.holds Try.pinned (Rows.OpenSpec.upto Rows.sszEndsSpec) :=
  OpenClaim.holds_of_cond 7 Try.f7 rfl rfl rfl rfl rfl rfl rfl ⟨rfl, rfl, rfl, rfl, rfl⟩ rfl rfl rfl rfl rfl (by kernel_rfl) Try.func7 (by kernel_rfl)
    (of_decide_eq_true (by kernel_rfl)) (by unfold Func.isWrapper; first | (rw [if_pos (by decide +kernel)]; kernel_rfl) | (rw [if_neg (by decide +kernel)]; exact ⟨rfl, rfl⟩))
    (fun os started H enc _ F => lifted os started H enc F)

theorem proved : Rows.SszEndsUptoSaid := over
end Go.Proofs.Ytamfceklddbldaa.sszEnds
