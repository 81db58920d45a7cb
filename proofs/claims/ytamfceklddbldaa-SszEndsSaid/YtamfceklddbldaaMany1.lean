/- Contract of the program's LayMany. -/
import Derived.Test.YtamfceklddbldaaSame
namespace Go.Proofs.Ytamfceklddbldaa
open Go.RowKit

/-- Two values that do not share a row. -/
def Apart (v u : Value) : Prop := ∀ k, v.ownBlock = some k → u.ownBlock ≠ some k
theorem Apart.symm {v u : Value} (h : Apart v u) : Apart u v := fun k hk e => h k e hk
theorem Apart.kept {w w' : World} {base n size : Nat} {e : TypeId} {v u : Value} {xs : List Value} (h : Apart v u) (ho : w.ownsRow base e size u n xs) (hg : w.grownBy w' v.ownBlock) : w'.ownsRow base e size u n xs := by
  refine ho.kept hg ?_
  cases hu : u.ownBlock with
  | none => exact .inl rfl
  | some k => exact .inr (fun e => h k e.symm hu)
theorem Apart.moves {w : World} {base n size : Nat} {e : TypeId} {v v' u : Value} {xs : List Value} (h : Apart v u) (ho : w.ownsRow base e size u n xs) (hm : Moves w v v') : Apart v' u := by
  intro k hk hu
  rcases hm with hm | ⟨j, hj, hm⟩
  · exact h k (hm ▸ hk) hu
  · have := (ho.lt k hu).2
    rw [hm] at hk
    injection hk with hk
    omega
theorem Apart.nil_ (u : Value) : Apart (.slice none 0 0) u := fun k hk => by simp [Value.ownBlock] at hk
theorem OB.form {w : World} {B : Nat} {v : Value} {l : Bs} (h : OB w B v l) : ∃ A c, v = .slice A l.length c := by
  obtain ⟨hl, h⟩ := h
  rcases h with ⟨rfl, h⟩ | ⟨g, cap, cur, rfl, _⟩
  · exact ⟨none, 0, by rw [h]⟩
  · exact ⟨_, _, rfl⟩
theorem OB.row_ge {w : World} {B : Nat} {v : Value} {l : Bs} (h : OB w B v l) : ∀ k, v.ownBlock = some k → B ≤ k := fun k hk => (World.ownsRow.lt h k hk).1
theorem front_append (a b : List Bs) (n : Nat) : front (a ++ b) (zeros (a.length + b.length)) n = front a (zeros a.length) n ++ front b (zeros b.length) (n + a.flatten.length) := by
  induction a generalizing n with
  | nil => simp [front]
  | cons p a ih =>
    rw [List.length_cons, show a.length + 1 + b.length = (a.length + b.length) + 1 from by omega, zeros_succ, zeros_succ]
    simp only [List.cons_append, front, if_true, ih, List.append_assoc, List.flatten_cons, List.length_append, Nat.add_assoc]
/-- The offsets of the first k elements, the first of them at n. -/
def fronts (ps : List Bs) (k n : Nat) : Bs := front (ps.take k) (zeros k) n
def behinds (ps : List Bs) (k : Nat) : Bs := (ps.take k).flatten
theorem fronts_succ (ps : List Bs) (k n : Nat) (h : k < ps.length) : fronts ps (k + 1) n = fronts ps k n ++ four (n + (behinds ps k).length) := by
  have e := front_append (ps.take k) [ps.getD k []] n
  rw [List.length_take, Nat.min_eq_left (by omega), List.length_singleton] at e
  unfold fronts behinds
  rw [take_snocR ps k h, e]
  simp [front, zeros]
theorem behinds_succ (ps : List Bs) (k : Nat) (h : k < ps.length) : behinds ps (k + 1) = behinds ps k ++ ps.getD k [] := by
  unfold behinds; rw [take_snocR ps k h]; simp
theorem fronts_len (ps : List Bs) (k n : Nat) (h : k ≤ ps.length) : (fronts ps k n).length = 4 * k := by
  have := fits_zeros (ps.take k)
  rw [List.length_take, Nat.min_eq_left h] at this
  unfold fronts; rw [front_len _ _ _ this, headLen_zeros]
theorem behinds_le (ps : List Bs) (k : Nat) : (behinds ps k).length ≤ ps.flatten.length := by
  unfold behinds
  conv => rhs; rw [← List.take_append_drop k ps, List.flatten_append, List.length_append]
  omega
theorem fronts_all (ps : List Bs) : fronts ps ps.length (4 * ps.length) ++ behinds ps ps.length = layMany ps := by
  unfold fronts behinds layMany laid; rw [List.take_length, headLen_zeros, behind_zeros]

theorem put_int (v : Value) (l : Bs) (n : Int) (B : Nat) (w : World) (h0 : 0 ≤ n) (hn : n < 4611686018427387904) (h : OB w B v l) (hB : B ≤ w.heap.size) (hl : l.length + 4 ≤ 140737488355328) :
    Calls Try.prog 25 #[v, .int .i64 n] w (AppPost w B v l (four n.toNat)) := by
  obtain ⟨m, rfl⟩ := Int.eq_ofNat_of_zero_le h0
  exact put_any v l m B w (by omega) h hB hl
/-- Behind LayMany. -/
def LaidPost (w : World) (l : Bs) (e : Ending) (w' : World) : Prop :=
  ∃ v', e = .returned (.tuple #[v', .int .i64 0]) ∧ OB w' w.heap.size v' l ∧ Below w.heap.size w w'
set_option maxHeartbeats 1600000 in
theorem layMany_any (v : Value) (ps : List Bs) (w : World) (h : RV w 0 v ps) (hl : (layMany ps).length < 4294967296) :
    Calls Try.prog 13 #[v] w (LaidPost w (layMany ps)) := by
  obtain ⟨i0, hi, hz0, hz1, hz2⟩ := info_parts Try.info_u8
  have HP := Lib.hid h
  obtain ⟨A, c, rfl, h1, h2⟩ := h.form
  clear h
  unfold maxLen at h2
  rw [layMany_len] at hl
  have HF := Lib.hid (fronts_all ps)
  have hb := behinds_le ps
  have HB := Lib.hid hb
  clear hb
  generalize hN : ps.flatten.length = N at *
  clear hN
  go_enter Try.func13, Try.ntmps13
  go_wp2
  go_loopw [4, 5, 10] (fun f g i wr => ∃ k : Nat, k ≤ ps.length ∧ i = .int .i64 k ∧ OB wr w.heap.size f (fronts ps k (4 * ps.length)) ∧ OB wr w.heap.size g (behinds ps k) ∧ Apart f g ∧ Below w.heap.size w wr) (fun _ _ i _ => ps.length - (intOf i).toNat)
  case atStart => exact ⟨0, Nat.zero_le _, rfl, World.ownsRow_nil _ _ _ _, World.ownsRow_nil _ _ _ _, Apart.nil_ _, Below.refl _ _⟩
  case round =>
    obtain ⟨k, hk, rfl, ho1, ho2, hap, hbw⟩ := hrel
    have hsz := hbw.size
    have O1 := Lib.hid ho1
    have O2 := Lib.hid ho2
    have AP := Lib.hid hap
    have BW := Lib.hid hbw
    have hb := HB.out k
    have hfl := fronts_len ps k (4 * ps.length) hk
    have HFL := Lib.hid hfl
    clear hfl
    obtain ⟨A1, c1, rfl⟩ := ho1.form
    obtain ⟨A2, c2, rfl⟩ := ho2.form
    clear ho1 ho2 hap hbw
    by_cases hlt : k < ps.length
    · obtain ⟨b, off, rfl, _, hc⟩ := HP.out.at2 (by intro e; simp [e] at hlt)
      obtain ⟨u, hu, hbu⟩ := hc k hlt
      clear hc
      have hcell : wr.cell? ⟨b, off + k, none⟩ = some u := by rw [BW.out.cell (p := ⟨b, off + k, none⟩) (blk_lt hu)]; exact hu
      clear hu
      have HU := Lib.hid hbu
      clear hbu
      have hb1 := HB.out (k + 1)
      have S1 := Lib.hid (fronts_succ ps k (4 * ps.length) hlt)
      have e2 := behinds_succ ps k hlt
      rw [e2, List.length_append] at hb1
      have S2 := Lib.hid e2
      clear e2
      generalize ps.getD k [] = p at *
      generalize fronts ps k (4 * ps.length) = F at *
      generalize behinds ps k = G at *
      have hF : F.length ≤ 4 * ps.length := by have := HFL.out; omega
      go_wp2_with fail
      refine (put_int _ F _ w.heap.size wr (by omega) (by omega) O1.out hsz (by omega)).mono ?_
      rintro e w1 ⟨v1, rfl, o1, g1, m1⟩
      have B1 : Hid (Below w.heap.size w w1) := BW.out.grown g1 hsz (OB.row_ge O1.out)
      have P2 : Hid (OB w1 w.heap.size (.slice A2 G.length c2) G) := AP.out.kept O2.out g1
      have AP1 : Hid (Apart v1 (.slice A2 G.length c2)) := AP.out.moves O2.out m1
      have O1' := Lib.hid o1
      have hsz1 := B1.out.size
      clear o1 g1 m1 O1 O2 AP
      go_wp2_with (at_builtin; refine wpList_append_sl _ rfl _ _ 22 rfl w.heap.size 0 5 i0 (.int .u8 0) 1 Try.underlying22 hi hz0 hz1 hz2 rfl _ G.length _ rfl P2.out _ (p.map bv) rfl (Sl.below HU.out B1.out (Nat.le_refl _)) (bv_one p) ?c3 ?c4 hsz1 ?_)
      case c3 => rw [List.length_map]; unfold maxLen; omega
      case c4 => rw [List.length_map]; omega
      intro v2 w2 hown hgrow hmv
      have Q2 : Hid (OB w2 w.heap.size v2 (G ++ p)) := OB.mk hown (by simp) (by simp)
      have Q1 : Hid (OB w2 w.heap.size v1 (F ++ four (4 * (ps.length : Int) + (G.length : Int)).toNat)) := AP1.out.symm.kept O1'.out hgrow
      have AP2 : Hid (Apart v1 v2) := (AP1.out.symm.moves O1'.out hmv).symm
      have B2 : Hid (Below w.heap.size w w2) := B1.out.grown hgrow hsz1 (OB.row_ge P2.out)
      clear hown hgrow hmv P2 O1' AP1 B1
      go_wp2
      go_roundw
      case rel =>
        refine ⟨k + 1, by omega, by go_num, ?_, ?_, AP2.out, B2.out⟩
        · rw [S1.out]
          have := Q1.out
          rwa [show (4 * (ps.length : Int) + (G.length : Int)).toNat = 4 * ps.length + G.length from by omega] at this
        · rw [S2.out]; exact Q2.out
      case measure => simp [intOf]; omega
    · obtain rfl : k = ps.length := by omega
      generalize fronts ps ps.length (4 * ps.length) = F at *
      generalize behinds ps ps.length = G at *
      have hF : F.length ≤ 4 * ps.length := by have := HFL.out; omega
      go_wp2_with (at_builtin; refine wpList_append_sl _ rfl _ _ 22 rfl w.heap.size 0 5 i0 (.int .u8 0) 1 Try.underlying22 hi hz0 hz1 hz2 rfl _ F.length _ rfl O1.out _ (G.map bv) rfl (Sl.lower (Sl.own O2.out) (Nat.zero_le _)) (bv_one G) ?c3 ?c4 hsz ?_)
      case c3 => rw [List.length_map]; unfold maxLen; omega
      case c4 => rw [List.length_map]; omega
      intro v2 w2 hown hgrow hmv
      have Q2 : Hid (OB w2 w.heap.size v2 (layMany ps)) := by
        show OB _ _ _ _
        rw [← HF.out]
        exact OB.mk hown (by simp) (by simp)
      have B2 : Hid (Below w.heap.size w w2) := BW.out.grown hgrow hsz (OB.row_ge O1.out)
      clear hown hgrow hmv O1 O2 AP BW
      go_wp2
      go_ret2
      exact ⟨v2, rfl, Q2, B2⟩
end Go.Proofs.Ytamfceklddbldaa
