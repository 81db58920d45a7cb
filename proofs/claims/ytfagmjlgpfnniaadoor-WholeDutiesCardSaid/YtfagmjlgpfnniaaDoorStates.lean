/- A state that reads: all that the contracts want of it. -/
import Derived.Test.YtfagmjlgpfnniaaDoorOpen
namespace Go.Proofs.YtfagmjlgpfnniaaDoor
open Go.RowKit

theorem wf64 (n : Int) (h : (Lit.int .u64 n).wf = true) : 0 ≤ n ∧ n < ((18446744073709551616 : Nat) : Int) := by
  simp [Lit.wf] at h
  have h1 : IntKind.u64.min = 0 := rfl
  have h2 : IntKind.u64.max = 18446744073709551615 := rfl
  omega
theorem wf8 (n : Int) (h : (Lit.int .u8 n).wf = true) : 0 ≤ n ∧ n < ((256 : Nat) : Int) := by
  simp [Lit.wf] at h
  have h1 : IntKind.u8.min = 0 := rfl
  have h2 : IntKind.u8.max = 255 := rfl
  omega
/-- The number in a cell. -/
def numV (v : Option Value) (B : Nat) : Nat := match v with
  | some (.int _ n) => n.toNat % B
  | _ => 0
theorem numV_lt (v : Option Value) (B : Nat) (hB : 0 < B) : numV v B < B := by
  unfold numV; split
  · exact Nat.mod_lt _ hB
  · exact hB
section
variable {H : Type} {enc : TypeId × Value → H} {W : World} {t : TypeId} {X : List Value} {o : Nat}
theorem c22 : Tryd.prog.cellsOf 22 = 1 := by kernel_rfl
theorem c5 : Tryd.prog.cellsOf 5 = 1 := by kernel_rfl
theorem c24 : Tryd.prog.cellsOf 24 = 32 := by kernel_rfl
theorem c31 : Tryd.prog.cellsOf 31 = 256 := by kernel_rfl
theorem c37 : Tryd.prog.cellsOf 37 = 1 := by kernel_rfl
theorem c36 : Tryd.prog.cellsOf 36 = 1 := by kernel_rfl
theorem c60 : Tryd.prog.cellsOf 60 = 86 := by kernel_rfl
theorem c49 : Tryd.prog.cellsOf 49 = 1957 := by kernel_rfl
theorem c44 : Tryd.prog.cellsOf 44 = 48 := by kernel_rfl
theorem RdAt.u64 (h : RdAt enc W 22 X o) : X[o]? = some (.int .u64 (numV X[o]? 18446744073709551616 : Nat)) := by
  obtain ⟨a, h1, h2⟩ := h.num Tryd.underlying22 c22 18446744073709551616 wf64
  rw [h1]
  have : numV (some (.int .u64 (a : Nat))) 18446744073709551616 = a := by unfold numV; simp; omega
  rw [this]
theorem RdAt.u8 (h : RdAt enc W 5 X o) : X[o]? = some (.int .u8 (numV X[o]? 256 : Nat)) := by
  obtain ⟨a, h1, h2⟩ := h.num Tryd.underlying5 c5 256 wf8
  rw [h1]
  have : numV (some (.int .u8 (a : Nat))) 256 = a := by unfold numV; simp; omega
  rw [this]
/-- A slice of numbers. -/
theorem RdAt.words (h : RdAt enc W 37 X o) : ∃ (A : Option Addr) (n c : Nat) (L : List Nat), X[o]? = some (.slice A n c) ∧ Sl W 0 (.slice A n c) (u64s L) ∧ ∀ x ∈ L, x < 18446744073709551616 := by
  obtain ⟨A, n, c, h1, h2, h3, h4⟩ := h.slice Tryd.underlying37 c37 (by rw [c22]; decide)
  rcases Nat.eq_zero_or_pos n with hn | hn
  · subst hn
    exact ⟨A, 0, c, [], h1, ⟨A, c, rfl, h2, h3, fun h => absurd rfl h⟩, fun x hx => by cases hx⟩
  · obtain ⟨b, off, hA, hel⟩ := h4 hn
    refine ⟨A, n, c, (List.range n).map fun i => numV (W.cell? ⟨b, off + i, none⟩) 18446744073709551616, h1, ⟨A, c, by rw [u64s_length, List.length_map, List.length_range], by rw [u64s_length, List.length_map, List.length_range]; exact h2, h3, fun _ => ⟨b, off, hA, Nat.zero_le _, ?_⟩⟩, ?_⟩
    · intro j u hu
      have hj : j < n := by
        rcases Nat.lt_or_ge j n with h | h
        · exact h
        · rw [List.getElem?_eq_none (by rw [u64s_length, List.length_map, List.length_range]; exact h)] at hu; cases hu
      obtain ⟨ec, l1, rd, hc⟩ := hel j hj
      rw [c22] at l1
      have q := RdAt.u64 (X := ec) (o := 0) (enc := enc) (W := W) (by unfold RdAt; rw [c22, List.drop_zero, List.take_of_length_le (by omega)]; exact rd)
      have q2 := hc 0 _ q
      rw [c22, Nat.mul_one, Nat.add_zero] at q2
      rw [u64s_get _ _ (by rw [List.length_map, List.length_range]; exact hj)] at hu
      cases hu
      rw [List.getD_eq_getElem?_getD, List.getElem?_map, List.getElem?_range hj]
      show W.cell? ⟨b, off + j, none⟩ = some (.int .u64 (numV (W.cell? ⟨b, off + j, none⟩) 18446744073709551616 : Nat))
      rw [q2]
      have : ∀ a : Nat, a < 18446744073709551616 → numV (some (.int .u64 (a : Nat))) 18446744073709551616 = a := fun a ha => by unfold numV; simp; omega
      rw [this _ (numV_lt _ _ (by decide))]
    · intro x hx
      rw [List.mem_map] at hx
      obtain ⟨i, _, rfl⟩ := hx
      exact numV_lt _ _ (by decide)
end
/-- Cells of a block. -/
def cellsAt (W : World) (b o n : Nat) : List Value := (List.range n).map fun j => (W.cell? ⟨b, o + j, none⟩).getD undef
theorem cellsAt_eq {W : World} {b o n : Nat} {ec : List Value} (hl : ec.length = n) (h : ∀ j v, ec[j]? = some v → W.cell? ⟨b, o + j, none⟩ = some v) : cellsAt W b o n = ec := by
  apply List.ext_getElem?
  intro i
  unfold cellsAt
  rw [List.getElem?_map]
  by_cases hi : i < n
  · rw [List.getElem?_range hi, List.getElem?_eq_getElem (by omega)]
    show some ((W.cell? ⟨b, o + i, none⟩).getD undef) = _
    rw [h i _ (List.getElem?_eq_getElem (by omega))]
    rfl
  · rw [List.getElem?_eq_none (by rw [List.length_range]; omega), List.getElem?_eq_none (by omega)]
    rfl
structure Vok (V : List Value) : Prop where
  one : ∀ v ∈ V, v.oneCell' = true
  key : ∀ j, j < 48 → V[j]? = some (.int .u8 (numV V[j]? 256 : Nat))
  eff : V[80]? = some (.int .u64 (numV V[80]? 18446744073709551616 : Nat))
  eli : V[82]? = some (.int .u64 (numV V[82]? 18446744073709551616 : Nat))
  act : V[83]? = some (.int .u64 (numV V[83]? 18446744073709551616 : Nat))
  ext : V[84]? = some (.int .u64 (numV V[84]? 18446744073709551616 : Nat))
  wit : V[85]? = some (.int .u64 (numV V[85]? 18446744073709551616 : Nat))
theorem vok {H : Type} {enc : TypeId × Value → H} {W : World} {V : List Value} (hl : V.length = 86) (h : Rd enc W 60 V) : Vok V := by
  have h0 : RdAt enc W 60 V 0 := by unfold RdAt; rw [c60, List.drop_zero, List.take_of_length_le (by omega)]; exact h
  have k : ∀ j, j < 48 → V[j]? = some (.int .u8 (numV V[j]? 256 : Nat)) := by
    intro j hj
    have h1 := (h0.field (u := 44) 0 (fo := 0) (by kernel_rfl) (by rw [c44, c60]; decide)).elem Tryd.underlying44 (by rw [c44, c5]; decide) j hj
    have h2 := h1.u8
    rw [c5] at h2
    simpa using h2
  have r : ∀ j, j < 32 → V[48 + j]? = some (.int .u8 (numV V[48 + j]? 256 : Nat)) := by
    intro j hj
    have h1 := (h0.field (u := 24) 1 (fo := 48) (by kernel_rfl) (by rw [c24, c60]; decide)).elem Tryd.underlying24 (by rw [c24, c5]; decide) j hj
    have h2 := h1.u8
    rw [c5] at h2
    simpa using h2
  have e80 := (h0.field (u := 22) 2 (fo := 80) (by kernel_rfl) (by rw [c22, c60]; decide)).u64
  obtain ⟨b, e81⟩ := (h0.field (u := 4) 3 (fo := 81) (by kernel_rfl) (by rw [c60]; decide +kernel)).bool Tryd.underlying4 (by kernel_rfl)
  have e82 := (h0.field (u := 22) 4 (fo := 82) (by kernel_rfl) (by rw [c22, c60]; decide)).u64
  have e83 := (h0.field (u := 22) 5 (fo := 83) (by kernel_rfl) (by rw [c22, c60]; decide)).u64
  have e84 := (h0.field (u := 22) 6 (fo := 84) (by kernel_rfl) (by rw [c22, c60]; decide)).u64
  have e85 := (h0.field (u := 22) 7 (fo := 85) (by kernel_rfl) (by rw [c22, c60]; decide)).u64
  rw [Nat.zero_add] at e80 e81 e82 e83 e84 e85
  refine ⟨?_, k, e80, e82, e83, e84, e85⟩
  intro v hv
  obtain ⟨i, hi, rfl⟩ := List.getElem_of_mem hv
  have hg : V[i]? = some V[i] := List.getElem?_eq_getElem hi
  rcases Nat.lt_or_ge i 48 with h1 | h1
  · rw [k i h1] at hg; injection hg with hg; rw [← hg]; rfl
  · rcases Nat.lt_or_ge i 80 with h2 | h2
    · have := r (i - 48) (by omega)
      rw [show 48 + (i - 48) = i by omega] at this
      rw [this] at hg; injection hg with hg; rw [← hg]; rfl
    · obtain rfl | rfl | rfl | rfl | rfl | rfl : i = 80 ∨ i = 81 ∨ i = 82 ∨ i = 83 ∨ i = 84 ∨ i = 85 := by omega
      · rw [e80] at hg; injection hg with hg; rw [← hg]; rfl
      · rw [e81] at hg; injection hg with hg; rw [← hg]; rfl
      · rw [e82] at hg; injection hg with hg; rw [← hg]; rfl
      · rw [e83] at hg; injection hg with hg; rw [← hg]; rfl
      · rw [e84] at hg; injection hg with hg; rw [← hg]; rfl
      · rw [e85] at hg; injection hg with hg; rw [← hg]; rfl
set_option maxRecDepth 100000 in
theorem st_one {cs : Array Value} {r : Reach} {b : Nat} {W : World} (h : Row.okWide Tryd.prog W r b 49 cs) : ∀ v ∈ cs.toList, v.oneCell' = true := by
  obtain ⟨ts, _, _, h⟩ := h
  intro v hv
  obtain ⟨i, hi, rfl⟩ := List.getElem_of_mem hv
  obtain ⟨u, _, hu⟩ := h i cs.toList[i] (by simp)
  exact okWide_one hu
set_option maxHeartbeats 1600000 in
set_option maxRecDepth 100000 in
theorem open_state {H : Type} {enc : TypeId × Value → H} {W : World} {r : Reach} {b : Nat} {v : Value} {d : DataW H} {ps : List MemPlace} (hv : Value.okWide Tryd.prog W r b 49 v) (h : DataW.Trod enc Tryd.prog W 0 (fun _ => true) true 49 v d ps) :
    ∃ X D E, v = .agg X.toArray ∧ St W X D ∧ RS W X D E ∧ ∀ i j, D.key i j < 256 := by
  unfold Value.okWide at hv
  rw [Tryd.underlying49] at hv
  obtain ⟨cs, rfl, hsz, hrow⟩ := hv
  obtain ⟨X, hX⟩ : ∃ X, X = cs.toList := ⟨_, rfl⟩
  have hcs : cs = X.toArray := by rw [hX]
  have hlen : X.length = 1957 := by rw [hX, ← c49, ← hsz]; simp
  have hone : ∀ v ∈ X, v.oneCell' = true := by rw [hX]; exact st_one hrow
  have h0 : RdAt enc W 49 X 0 := by
    obtain ⟨n, h⟩ := h
    unfold RdAt
    rw [c49, List.drop_zero, List.take_of_length_le (by omega)]
    exact ⟨n, _, by rw [hX]; exact h⟩
  clear hX hrow hsz h
  subst hcs
  have f22 : ∀ i fo, fieldAt 49 i = some (22, fo) → fo + 1 ≤ 1957 → X[fo]? = some (.int .u64 (numV X[fo]? 18446744073709551616 : Nat)) := by
    intro i fo hf hl
    have := (h0.field i hf (by rw [c22, c49]; exact hl)).u64
    rwa [Nat.zero_add] at this
  have e33 := f22 2 33 (by kernel_rfl) (by decide)
  have e720 := f22 10 720 (by kernel_rfl) (by decide)
  have e43 : X[43]? = some (.int .u64 (numV X[43]? 18446744073709551616 : Nat)) := by
    have := ((h0.field (u := 30) 4 (fo := 43) (by kernel_rfl) (by decide +kernel)).field (u := 22) 0 (fo := 0) (by kernel_rfl) (by decide +kernel)).u64
    simpa using this
  have ecp : ∀ i, i < 3 → X[993 + 33 * i]? = some (.int .u64 (numV X[993 + 33 * i]? 18446744073709551616 : Nat)) := by
    intro i hi
    obtain rfl | rfl | rfl : i = 0 ∨ i = 1 ∨ i = 2 := by omega
    · have := ((h0.field (u := 42) 18 (fo := 993) (by kernel_rfl) (by decide +kernel)).field (u := 22) 0 (fo := 0) (by kernel_rfl) (by decide +kernel)).u64
      simpa using this
    · have := ((h0.field (u := 42) 19 (fo := 1026) (by kernel_rfl) (by decide +kernel)).field (u := 22) 0 (fo := 0) (by kernel_rfl) (by decide +kernel)).u64
      simpa using this
    · have := ((h0.field (u := 42) 20 (fo := 1059) (by kernel_rfl) (by decide +kernel)).field (u := 22) 0 (fo := 0) (by kernel_rfl) (by decide +kernel)).u64
      simpa using this
  have esl : ∀ i, i < 8 → X[979 + i]? = some (.int .u64 (numV X[979 + i]? 18446744073709551616 : Nat)) := by
    intro i hi
    have := ((h0.field (u := 38) 14 (fo := 979) (by kernel_rfl) (by decide +kernel)).elem Tryd.underlying38 (by decide +kernel) i hi).u64
    rw [c22] at this
    simpa using this
  have emx : ∀ i, i < 256 → X[723 + i]? = some (.int .u8 (numV X[723 + i]? 256 : Nat)) := by
    intro i hi
    have h1 := (h0.field (u := 31) 13 (fo := 723) (by kernel_rfl) (by decide +kernel)).elem Tryd.underlying31 (by decide +kernel) (i / 32) (by omega)
    have h2 := (h1.elem Tryd.underlying24 (by decide +kernel) (i % 32) (by omega)).u8
    rw [c24, c5, show 0 + 723 + i / 32 * 32 + i % 32 * 1 = 723 + i by omega] at h2
    exact h2
  obtain ⟨vA, nv, vc, v1, v2, v3, v4⟩ := (h0.field (u := 36) 11 (fo := 721) (by kernel_rfl) (by decide +kernel)).slice Tryd.underlying36 c36 (by rw [c60]; decide)
  obtain ⟨bA, nb, bc, bL, b1, b2, b3⟩ := (h0.field (u := 37) 12 (fo := 722) (by kernel_rfl) (by decide +kernel)).words
  obtain ⟨sA, ns, sc, sL, s1, s2, s3⟩ := (h0.field (u := 37) 21 (fo := 1092) (by kernel_rfl) (by decide +kernel)).words
  obtain ⟨pA, np, pc, p1, p2, p3, _⟩ := (h0.field (u := 39) 15 (fo := 987) (by kernel_rfl) (by decide +kernel)).slice Tryd.underlying39 (by kernel_rfl) (by decide +kernel)
  obtain ⟨uA, nu, uc, u1, u2, u3, _⟩ := (h0.field (u := 39) 16 (fo := 988) (by kernel_rfl) (by decide +kernel)).slice Tryd.underlying39 (by kernel_rfl) (by decide +kernel)
  obtain ⟨hA, nh, hc, i1, i2, i3, _⟩ := (h0.field (u := 32) 7 (fo := 653) (by kernel_rfl) (by decide +kernel)).slice Tryd.underlying32 (by kernel_rfl) (by decide +kernel)
  obtain ⟨wA, nw, wc, w1, w2, w3, _⟩ := (h0.field (u := 35) 9 (fo := 719) (by kernel_rfl) (by decide +kernel)).slice Tryd.underlying35 (by kernel_rfl) (by decide +kernel)
  rw [Nat.zero_add] at v1 b1 s1 p1 u1 i1 w1
  obtain ⟨vb, vo, hadr⟩ : ∃ vb vo, 0 < nv → vA = some ⟨vb, vo, none⟩ ∧ ∀ i, i < nv → ∃ ec : List Value, ec.length = 86 ∧ Rd enc W 60 ec ∧ ∀ j v, ec[j]? = some v → W.cell? ⟨vb, vo + i * 86 + j, none⟩ = some v := by
    rcases Nat.eq_zero_or_pos nv with hn | hn
    · exact ⟨0, 0, fun h => by omega⟩
    · obtain ⟨vb, vo, h1, h2⟩ := v4 hn
      rw [c60] at h2
      exact ⟨vb, vo, fun _ => ⟨h1, h2⟩⟩
  have B64 : (0 : Nat) < 18446744073709551616 := by decide
  have hV : ∀ i, i < nv → (cellsAt W vb (vo + i * 86) 86).length = 86 ∧ Vok (cellsAt W vb (vo + i * 86) 86) ∧ W.rangeAt vb (vo + i * 86) (cellsAt W vb (vo + i * 86) 86) := by
    intro i hi
    obtain ⟨ec, l1, rd, hc⟩ := (hadr (by omega)).2 i hi
    rw [cellsAt_eq l1 hc]
    exact ⟨l1, vok l1 rd, hc⟩
  refine ⟨X, { slot := numV X[33]? 18446744073709551616, nv := nv, A := vA, vcap := vc, vb := vb, vo := vo, act := fun i => numV (cellsAt W vb (vo + i * 86) 86)[83]? 18446744073709551616, ext := fun i => numV (cellsAt W vb (vo + i * 86) 86)[84]? 18446744073709551616, eff := fun i => numV (cellsAt W vb (vo + i * 86) 86)[80]? 18446744073709551616, key := fun i j => numV (cellsAt W vb (vo + i * 86) 86)[j]? 256, mix := fun i => numV X[723 + i]? 256, val := fun i => cellsAt W vb (vo + i * 86) 86 },
    { nb := nb, bA := bA, bc := bc, bL := bL, np := np, pA := pA, pc := pc, nu := nu, uA := uA, uc := uc, ns := ns, sA := sA, sc := sc, sL := sL, nh := nh, hA := hA, hc := hc, nw := nw, wA := wA, wc := wc, dep := numV X[720]? 18446744073709551616, hs := numV X[43]? 18446744073709551616, ep := fun i => numV X[993 + 33 * i]? 18446744073709551616, sl := fun i => numV X[979 + i]? 18446744073709551616, eli := fun i => numV (cellsAt W vb (vo + i * 86) 86)[82]? 18446744073709551616, wit := fun i => numV (cellsAt W vb (vo + i * 86) 86)[85]? 18446744073709551616 },
    rfl, ?_, ?_, fun i j => numV_lt _ _ (by decide)⟩
  · exact ⟨hlen, hone, e33, numV_lt _ _ B64, v1, fun h => (hadr h).1, v2, v3, fun i hi => ⟨(hV i hi).1, (hV i hi).2.1.one, (hV i hi).2.1.act, (hV i hi).2.1.ext, (hV i hi).2.1.eff, (hV i hi).2.1.key, (hV i hi).2.2⟩, fun _ => numV_lt _ _ B64, fun _ => numV_lt _ _ B64, fun _ => numV_lt _ _ B64, emx, fun _ => numV_lt _ _ (by decide)⟩
  · exact { bal := b1, balr := b2, ball := b3, prev := p1, prevl := Nat.le_trans p2 p3, cur := u1, curl := Nat.le_trans u2 u3, sco := s1, scor := s2, scol := s3, his := i1, hisl := Nat.le_trans i2 i3, vot := w1, votl := Nat.le_trans w2 w3, dep := e720, depl := numV_lt _ _ B64, hs := e43, hsl := numV_lt _ _ B64, ep := ecp, epl := fun _ => numV_lt _ _ B64, sl := esl, sll := fun _ => numV_lt _ _ B64, eli := fun i hi => (hV i hi).2.1.eli, elil := fun _ => numV_lt _ _ B64, wit := fun i hi => (hV i hi).2.1.wit, witl := fun _ => numV_lt _ _ B64 }
end Go.Proofs.YtfagmjlgpfnniaaDoor
