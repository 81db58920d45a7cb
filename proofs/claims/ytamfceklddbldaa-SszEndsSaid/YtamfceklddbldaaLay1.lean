/- Contract of the program's Lay. -/
import Derived.Test.YtamfceklddbldaaCut1
namespace Go.Proofs.Ytamfceklddbldaa
open Go.RowKit

theorem front_snoc (a : List Bs) (b : List Nat) (p : Bs) (s n : Nat) (h : a.length = b.length) : front (a ++ [p]) (b ++ [s]) n = front a b n ++ (if s = 0 then four (n + (behind a b).length) else p) := by
  induction a generalizing b n with
  | nil => cases b with
    | nil => by_cases hs : s = 0 <;> simp [front, behind, hs]
    | cons => simp at h
  | cons q a ih => cases b with
    | nil => simp at h
    | cons t b =>
      have h' : a.length = b.length := by simpa using h
      by_cases ht : t = 0
      · simp only [List.cons_append, front, behind, ht, if_true, ih b _ h', List.append_assoc, List.length_append, Nat.add_assoc]
      · simp only [List.cons_append, front, behind, ht, if_false, ih b _ h', List.append_assoc]
theorem behind_snoc (a : List Bs) (b : List Nat) (p : Bs) (s : Nat) (h : a.length = b.length) : behind (a ++ [p]) (b ++ [s]) = behind a b ++ (if s = 0 then p else []) := by
  induction a generalizing b with
  | nil => cases b with
    | nil => by_cases hs : s = 0 <;> simp [behind, hs]
    | cons => simp at h
  | cons q a ih => cases b with
    | nil => simp at h
    | cons t b =>
      have h' : a.length = b.length := by simpa using h
      by_cases ht : t = 0
      · simp only [List.cons_append, behind, ht, if_true, ih b h', List.append_assoc]
      · simp only [List.cons_append, behind, ht, if_false, ih b h']
theorem fits_snoc (a : List Bs) (b : List Nat) (p : Bs) (s : Nat) (h : a.length = b.length) : fits (a ++ [p]) (b ++ [s]) = (fits a b && (s == 0 || p.length == s)) := by
  induction a generalizing b with
  | nil => cases b with
    | nil => simp [fits]
    | cons => simp at h
  | cons q a ih => cases b with
    | nil => simp at h
    | cons t b =>
      have h' : a.length = b.length := by simpa using h
      simp only [List.cons_append, fits, ih b h', Bool.and_assoc]
theorem fits_at (ps : List Bs) (ss : List Nat) (h : fits ps ss = true) (k : Nat) (hk : k < ss.length) : ss.getD k 1 = 0 ∨ (ps.getD k []).length = ss.getD k 1 := by
  induction ps generalizing ss k with
  | nil => cases ss with
    | nil => simp at hk
    | cons => simp [fits] at h
  | cons p ps ih => cases ss with
    | nil => simp at hk
    | cons s ss =>
      simp only [fits, Bool.and_eq_true, Bool.or_eq_true, beq_iff_eq] at h
      cases k with
      | zero => simpa using h.1
      | succ k => simpa using ih ss h.2 k (by simpa using hk)
def frontP (ps : List Bs) (ss : List Nat) (k n : Nat) : Bs := front (ps.take k) (ss.take k) n
def behindP (ps : List Bs) (ss : List Nat) (k : Nat) : Bs := behind (ps.take k) (ss.take k)
def fitsP (ps : List Bs) (ss : List Nat) (k : Nat) : Bool := fits (ps.take k) (ss.take k)
section
variable (ps : List Bs) (ss : List Nat) (k n : Nat) (h1 : k < ps.length) (h2 : k < ss.length)
include h1 h2
theorem frontP_succ : frontP ps ss (k + 1) n = frontP ps ss k n ++ (if ss.getD k 1 = 0 then four (n + (behindP ps ss k).length) else ps.getD k []) := by
  unfold frontP behindP; rw [take_snocR ps k h1, takeN_succ ss k h2, front_snoc _ _ _ _ _ (by simp; omega)]
theorem behindP_succ : behindP ps ss (k + 1) = behindP ps ss k ++ (if ss.getD k 1 = 0 then ps.getD k [] else []) := by
  unfold behindP; rw [take_snocR ps k h1, takeN_succ ss k h2, behind_snoc _ _ _ _ (by simp; omega)]
theorem fitsP_succ : fitsP ps ss (k + 1) = (fitsP ps ss k && (ss.getD k 1 == 0 || (ps.getD k []).length == ss.getD k 1)) := by
  unfold fitsP; rw [take_snocR ps k h1, takeN_succ ss k h2, fits_snoc _ _ _ _ (by simp; omega)]
end
theorem behind_le (ps : List Bs) (ss : List Nat) : (behind ps ss).length ≤ ps.flatten.length := by
  induction ps generalizing ss with
  | nil => simp [behind]
  | cons p ps ih => cases ss with
    | nil => simp [behind]
    | cons s ss =>
      have := ih ss
      by_cases hs : s = 0
      · simp only [behind, hs, if_true, List.length_append, List.flatten_cons]; omega
      · simp only [behind, hs, if_false, List.length_append, List.flatten_cons]; omega
theorem behindP_le (ps : List Bs) (ss : List Nat) (k : Nat) : (behindP ps ss k).length ≤ ps.flatten.length := by
  have h1 := behind_le (ps.take k) (ss.take k)
  have h2 : (ps.take k).flatten.length ≤ ps.flatten.length := by
    conv => rhs; rw [← List.take_append_drop k ps, List.flatten_append, List.length_append]
    omega
  unfold behindP; omega
theorem frontP_len (ps : List Bs) (ss : List Nat) (k n : Nat) (h : fitsP ps ss k = true) : (frontP ps ss k n).length ≤ headLen ss := by
  unfold frontP; rw [front_len _ _ _ h]; exact headLen_take_le ss k
theorem getD_len_le (ps : List Bs) (k : Nat) : (ps.getD k []).length ≤ ps.flatten.length := by
  induction ps generalizing k with
  | nil => simp
  | cons p ps ih => cases k with
    | zero => simp
    | succ k => have := ih k; simp only [List.getD_cons_succ, List.flatten_cons, List.length_append]; omega

def LayPost (w : World) (r : Bs × Nat) (e : Ending) (w' : World) : Prop :=
  ∃ v', e = .returned (.tuple #[v', .int .i64 r.2]) ∧ OB w' w.heap.size v' r.1 ∧ Below w.heap.size w w'
theorem OB.nil_ (w : World) (B : Nat) : OB w B (.slice none 0 0) [] := World.ownsRow_nil _ _ _ _

set_option maxHeartbeats 3200000 in
set_option maxRecDepth 100000 in
theorem lay_any (v u : Value) (ps : List Bs) (z : List Int) (w : World) (h : RV w 0 v ps) (hz : IV w 0 u z) (hb : ps.flatten.length ≤ 33554432) :
    Calls Try.prog 19 #[v, u] w (LayPost w (lay ps z)) := by
  obtain ⟨i0, hi, hz0, hz1, hz2⟩ := info_parts Try.info_u8
  have HP := Lib.hid h
  have HZ := Lib.hid hz
  have HH := Lib.hid (head_any u z w hz)
  obtain ⟨A, c, rfl, h1, h2⟩ := h.form
  obtain ⟨Az, cz, rfl, h3, h4⟩ := hz.form
  clear h hz
  unfold maxLen at h2 h4
  by_cases t1 : sizesOk z = false
  · have HE : Hid (lay ps z = ([], 1)) := by show _ = _; unfold lay; rw [if_pos (.inl t1)]
    have HF : Hid (headOf z = (0, false)) := by show _ = _; unfold headOf; rw [t1]; rfl
    rw [HE.out]
    rw [HF.out] at HH
    go_enter Try.func19, Try.ntmps19
    go_wp2_with fail
    refine HH.out.mono ?_
    rintro e w1 ⟨rfl, rfl⟩
    go_wp2_with fail
    go_ret2
    exact ⟨_, rfl, OB.nil_ _ _, Below.refl _ _⟩
  simp only [Bool.not_eq_false] at t1
  have HF : Hid (headOf z = ((headLen (nats z) : Int), true)) := by show _ = _; unfold headOf; rw [t1]; rfl
  rw [HF.out] at HH
  have hH := headLen_ok z t1
  obtain ⟨hl1, hl2⟩ := sizesOk_len z t1
  have HA := Lib.hid (sizesOk_at z t1)
  by_cases t2 : ¬ ps.length = z.length
  · have HE : Hid (lay ps z = ([], 1)) := by show _ = _; unfold lay; rw [if_pos (.inr t2)]
    have t2' : ((ps.length : Int) != (z.length : Int)) = true := by simp; omega
    rw [HE.out]
    clear t1 t2
    go_enter Try.func19, Try.ntmps19
    go_wp2_with fail
    refine HH.out.mono ?_
    rintro e w1 ⟨rfl, rfl⟩
    go_wp2_with fail
    go_ret2
    exact ⟨_, rfl, OB.nil_ _ _, Below.refl _ _⟩
  simp only [Decidable.not_not] at t2
  have HE : Hid (lay ps z = if fits ps (nats z) = false then ([], 4) else (laid ps (nats z), 0)) := by
    show _ = _; unfold lay; rw [if_neg (by simp [t1, t2])]
  have t2' : ((ps.length : Int) != (z.length : Int)) = false := by simp [t2]
  have HPL := Lib.hid t2
  have HN := Lib.hid (nats_len z)
  have HNG := Lib.hid (nats_getD z)
  clear t1 t2
  generalize hss : nats z = ss at *
  clear hss
  generalize hHg : headLen ss = H at *
  have HHg := Lib.hid hHg
  clear hHg
  have HBL := Lib.hid (behindP_le ps ss)
  have HGL := Lib.hid (getD_len_le ps)
  have HFL : Hid (∀ k, fitsP ps ss k = true → (frontP ps ss k H).length ≤ H) := fun k hk => by have := frontP_len ps ss k H hk; rw [HHg.out] at this; exact this
  go_enter Try.func19, Try.ntmps19
  go_wp2_with fail
  refine HH.out.mono ?_
  rintro e w1 ⟨rfl, rfl⟩
  go_wp2_with fail
  go_loopw [8, 9, 28] (fun f g i wr => ∃ k : Nat, k ≤ z.length ∧ i = .int .i64 k ∧ OB wr w.heap.size f (frontP ps ss k H) ∧ OB wr w.heap.size g (behindP ps ss k) ∧ Apart f g ∧ fitsP ps ss k = true ∧ Below w.heap.size w wr) (fun _ _ i _ => z.length - (intOf i).toNat)
  case atStart => exact ⟨0, Nat.zero_le _, rfl, by simpa [frontP, front] using OB.nil_ _ _, by simpa [behindP, behind] using OB.nil_ _ _, Apart.nil_ _, by simp [fitsP, fits], Below.refl _ _⟩
  case round =>
    obtain ⟨k, hk, rfl, ho1, ho2, hap, hft, hbw⟩ := hrel
    have hsz := hbw.size
    have O1 := Lib.hid ho1
    have O2 := Lib.hid ho2
    have AP := Lib.hid hap
    have BW := Lib.hid hbw
    have hF := HFL.out k hft
    have hG := HBL.out k
    have FT := Lib.hid hft
    obtain ⟨A1, c1, rfl⟩ := ho1.form
    obtain ⟨A2, c2, rfl⟩ := ho2.form
    clear ho1 ho2 hap hbw hft
    by_cases hlt : k < z.length
    · have hk1 : k < ps.length := by rw [HPL.out]; exact hlt
      have hk2 : k < ss.length := by rw [HN.out]; exact hlt
      obtain ⟨bz, oz, rfl, hc⟩ := HZ.out.at2 (by intro e; rw [e] at hlt; simp at hlt)
      have hck := hc k hlt
      clear hc
      have hcellz : wr.cell? ⟨bz, oz + k, none⟩ = some (.int .i64 (z.getD k 0)) := by rw [BW.out.cell (p := ⟨bz, oz + k, none⟩) (blk_lt hck)]; exact hck
      clear hck
      obtain ⟨b, off, rfl, _, hc⟩ := HP.out.at2 (by intro e; simp [e] at hk1)
      obtain ⟨x, hx, hbx⟩ := hc k hk1
      clear hc
      obtain ⟨Ax, cx, rfl, hx1, hx2⟩ := hbx.form
      unfold maxLen at hx2
      have hcell : wr.cell? ⟨b, off + k, none⟩ = some (.slice Ax (ps.getD k []).length cx) := by rw [BW.out.cell (p := ⟨b, off + k, none⟩) (blk_lt hx)]; exact hx
      have HX := Lib.hid hx
      have HBX := Lib.hid hbx
      clear hx hbx
      obtain ⟨hs1, hs2⟩ := HA.out k hlt
      have HGK := Lib.hid (HNG.out k hlt)
      have SF := Lib.hid (frontP_succ ps ss k H hk1 hk2)
      have SB := Lib.hid (behindP_succ ps ss k hk1 hk2)
      have ST := Lib.hid (fitsP_succ ps ss k hk1 hk2)
      have SA := Lib.hid (fun h => fits_at ps ss h k hk2)
      have hp := HGL.out k
      have hG' := HBL.out (k + 1)
      have hki : (k : Int) < (ps.length : Int) := by omega
      generalize z.getD k 0 = s at *
      generalize ps.getD k [] = p at *
      generalize frontP ps ss k H = F at *
      generalize behindP ps ss k = G at *
      clear hk1 hk2
      obtain ⟨sn, rfl⟩ := Int.eq_ofNat_of_zero_le hs1
      rw [Int.toNat_natCast] at HGK
      by_cases hs : sn = 0
      · subst hs
        have hp2 : G.length + p.length ≤ 33554432 := by
          have := SB.out
          rw [HGK.out, if_pos rfl] at this
          rw [this, List.length_append] at hG'
          omega
        have hbig : ¬ (4294967295 : Int) < (H : Int) + (G.length : Int) := by omega
        have hbig' := eq_false hbig
        go_wp2_with fail
        refine (put_int _ F _ w.heap.size wr (by omega) (by omega) O1.out hsz (by omega)).mono ?_
        rintro e w1 ⟨v1, rfl, o1, g1, m1⟩
        have B1 : Hid (Below w.heap.size w w1) := BW.out.grown g1 hsz (OB.row_ge O1.out)
        have P2 : Hid (OB w1 w.heap.size (.slice A2 G.length c2) G) := AP.out.kept O2.out g1
        have AP1 : Hid (Apart v1 (.slice A2 G.length c2)) := AP.out.moves O2.out m1
        have O1' := Lib.hid o1
        have hsz1 := B1.out.size
        have hcell1 : w1.cell? ⟨b, off + k, none⟩ = some (.slice Ax p.length cx) := by rw [B1.out.cell (p := ⟨b, off + k, none⟩) (blk_lt HX.out)]; exact HX.out
        clear o1 g1 m1 O1 O2 AP
        go_wp2_with (at_builtin; refine wpList_append_sl _ rfl _ _ 22 rfl w.heap.size 0 5 i0 (.int .u8 0) 1 Try.underlying22 hi hz0 hz1 hz2 rfl _ G.length _ rfl P2.out _ (p.map bv) rfl (Sl.below HBX.out B1.out (Nat.le_refl _)) (bv_one p) ?c3 ?c4 hsz1 ?_)
        case c3 => rw [List.length_map]; unfold maxLen; omega
        case c4 => rw [List.length_map]; omega
        intro v2 w2 hown hgrow hmv
        have Q2 : Hid (OB w2 w.heap.size v2 (G ++ p)) := OB.mk hown (by simp) (by simp)
        have Q1 : Hid (OB w2 w.heap.size v1 (F ++ four ((H : Int) + (G.length : Int)).toNat)) := AP1.out.symm.kept O1'.out hgrow
        have AP2 : Hid (Apart v1 v2) := (AP1.out.symm.moves O1'.out hmv).symm
        have B2 : Hid (Below w.heap.size w w2) := B1.out.grown hgrow hsz1 (OB.row_ge P2.out)
        clear hown hgrow hmv P2 O1' AP1 B1
        go_wp2
        go_roundw
        case rel =>
          refine ⟨k + 1, by omega, by go_num, ?_, ?_, AP2.out, ?_, B2.out⟩
          · rw [SF.out, HGK.out, if_pos rfl]
            have := Q1.out
            rwa [show ((H : Int) + (G.length : Int)).toNat = H + G.length from by omega] at this
          · rw [SB.out, HGK.out, if_pos rfl]; exact Q2.out
          · rw [ST.out, FT.out, HGK.out]; rfl
        case measure => simp [intOf]; omega
      · have hs' : ((sn : Int) != 0) = true := by simp; omega
        have hs'' : ((sn : Int) == 0) = false := by simp; omega
        by_cases hpl : p.length = sn
        · have hpl' : ((p.length : Int) != (sn : Int)) = false := by simp [hpl]
          have HPN := Lib.hid hpl
          clear hpl
          go_wp2_with (at_builtin; refine wpList_append_sl _ rfl _ _ 22 rfl w.heap.size 0 5 i0 (.int .u8 0) 1 Try.underlying22 hi hz0 hz1 hz2 rfl _ F.length _ rfl O1.out _ (p.map bv) rfl (Sl.below HBX.out BW.out (Nat.le_refl _)) (bv_one p) ?c3 ?c4 hsz ?_)
          case c3 => rw [List.length_map]; unfold maxLen; omega
          case c4 => rw [List.length_map]; omega
          intro v2 w2 hown hgrow hmv
          have Q2 : Hid (OB w2 w.heap.size v2 (F ++ p)) := OB.mk hown (by simp) (by simp)
          have Q1 : Hid (OB w2 w.heap.size (.slice A2 G.length c2) G) := AP.out.kept O2.out hgrow
          have AP2 : Hid (Apart v2 (.slice A2 G.length c2)) := AP.out.moves O2.out hmv
          have B2 : Hid (Below w.heap.size w w2) := BW.out.grown hgrow hsz (OB.row_ge O1.out)
          clear hown hgrow hmv O1 O2 AP
          go_wp2
          go_roundw
          case rel =>
            refine ⟨k + 1, by omega, by go_num, ?_, ?_, AP2.out, ?_, B2.out⟩
            · rw [SF.out, HGK.out, if_neg hs]; exact Q2.out
            · rw [SB.out, HGK.out, if_neg hs, List.append_nil]; exact Q1.out
            · rw [ST.out, FT.out, HGK.out, HPN.out]; simp
          case measure => simp [intOf]; omega
        · have hpl' : ((p.length : Int) != (sn : Int)) = true := by simp; omega
          have HEE : Hid (lay ps z = ([], 4)) := by
            show _ = _
            rw [HE.out, if_pos]
            cases hf : fits ps ss with
            | false => rfl
            | true =>
              have := SA.out hf
              rw [HGK.out] at this
              rcases this with h | h
              · exact absurd h hs
              · exact absurd h hpl
          clear hpl
          go_wp2_with fail
          go_ret2
          refine (show LayPost w (lay ps z) _ _ from ?_)
          rw [HEE.out]
          exact ⟨_, rfl, OB.nil_ _ _, BW.out⟩
    · obtain rfl : k = z.length := by omega
      have hk0 : ss.length = z.length := HN.out
      have hp0 : ps.length = z.length := HPL.out
      have HEE : Hid (lay ps z = (frontP ps ss z.length H ++ behindP ps ss z.length, 0)) := by
        show _ = _
        have hft := FT.out
        unfold fitsP at hft
        rw [List.take_of_length_le (by omega), List.take_of_length_le (by omega)] at hft
        rw [HE.out, if_neg (by simp [hft])]
        unfold frontP behindP laid
        rw [List.take_of_length_le (by omega), List.take_of_length_le (by omega), HHg.out]
      clear hk0 hp0
      generalize frontP ps ss z.length H = F at *
      generalize behindP ps ss z.length = G at *
      have hbig : ¬ (4294967295 : Int) < (F.length : Int) + (G.length : Int) := by omega
      have hbig' := eq_false hbig
      go_wp2_with (at_builtin; refine wpList_append_sl _ rfl _ _ 22 rfl w.heap.size 0 5 i0 (.int .u8 0) 1 Try.underlying22 hi hz0 hz1 hz2 rfl _ F.length _ rfl O1.out _ (G.map bv) rfl (Sl.lower (Sl.own O2.out) (Nat.zero_le _)) (bv_one G) ?c3 ?c4 hsz ?_)
      case c3 => unfold maxLen; omega
      case c4 => omega
      intro v2 w2 hown hgrow hmv
      have Q2 : Hid (OB w2 w.heap.size v2 (F ++ G)) := OB.mk hown (by simp) (by simp)
      have B2 : Hid (Below w.heap.size w w2) := BW.out.grown hgrow hsz (OB.row_ge O1.out)
      clear hown hgrow hmv O1 O2 AP BW
      go_wp2
      go_ret2
      refine (show LayPost w (lay ps z) _ _ from ?_)
      rw [HEE.out]
      exact ⟨v2, rfl, Q2.out, B2.out⟩
end Go.Proofs.Ytamfceklddbldaa
