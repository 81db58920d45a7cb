/- Contracts of state.few and state.Right: they answer. -/
import Derived.Test.YtfagmjlgpfnniaaDoorNext
namespace Go.Proofs.YtfagmjlgpfnniaaDoor
open Go.RowKit

def SomeBool (w : World) (en : Ending) (w' : World) : Prop := (∃ b, en = .returned (.bool b)) ∧ w = w'
def SomeBoolB (w : World) (en : Ending) (w' : World) : Prop := (∃ b, en = .returned (.bool b)) ∧ Below w.heap.size w w'
set_option maxHeartbeats 1600000 in
theorem few_any (A : Option Addr) (n c : Nat) (L : List Nat) (w : World) (lo : Nat) (h : Sl w lo (.slice A n c) (u64s L)) (hL : ∀ x ∈ L, x < 18446744073709551616) :
    Calls Tryd.prog 16 #[.slice A n c] w (SomeBool w) := by
  have hn : n = L.length := by obtain ⟨_, _, e, _⟩ := h; injection e with _ e _; rw [u64s_length] at e; exact e
  have hm : n ≤ maxLen := by obtain ⟨_, _, e, h1, h2, _⟩ := h; rw [u64s_length] at h1; omega
  have H := Lib.hid h
  have HL := Lib.hid hL
  have HN := Lib.hid hn
  unfold maxLen at hm
  clear h hL hn
  go_enter Tryd.func16, Tryd.ntmps16
  go_wp2
  go_loop [3, 8] (fun r i => ∃ k R : Nat, k ≤ n ∧ R ≤ 144115188075855872 ∧ i = .int .i64 (k : Nat) ∧ r = .int .u64 (R : Nat)) (fun _ i => n - (intOf i).toNat)
  case atStart => exact ⟨0, 144115188075855872, Nat.zero_le _, Nat.le_refl _, rfl, rfl⟩
  case round =>
    obtain ⟨k, R, hk, hR, rfl, rfl⟩ := hrel
    by_cases hlt : k < n
    · obtain ⟨A', c', e, h1, h2, h3⟩ := H.out
      injection e with e1 e2 e3
      subst e1
      obtain ⟨b, o, rfl, -, hc⟩ := h3 (by intro e; have := congrArg List.length e; rw [u64s_length, ← HN.out] at this; simp at this; omega)
      have hck := hc k _ (u64s_get L k (by rw [← HN.out]; exact hlt))
      have lx : L.getD k 0 < 18446744073709551616 := by
        have hl : k < L.length := by rw [← HN.out]; exact hlt
        rw [List.getD_eq_getElem?_getD, List.getElem?_eq_getElem hl]
        exact HL.out _ (List.getElem_mem hl)
      obtain ⟨x, hx⟩ : ∃ x, x = L.getD k 0 := ⟨_, rfl⟩
      rw [← hx] at hck lx
      clear hx hc h3 h1 h2 e2 e3
      by_cases h5 : x ≤ R
      · have d1 : decide (R < x) = false := by simp; omega
        have d2 : decide ((R : Int) < (x : Int)) = false := by simp; omega
        obtain ⟨R', hR'⟩ : ∃ R', R' = R - x := ⟨_, rfl⟩
        have er : (R : Int) - (x : Int) = (R' : Int) := by omega
        have lr : R' ≤ 144115188075855872 := by omega
        clear hR'
        go_wp2
        go_round
        case rel => exact ⟨k + 1, R', by omega, lr, by go_num, rfl⟩
        case measure => simp [intOf]; omega
      · have d1 : decide (R < x) = true := by simp; omega
        have d2 : decide ((R : Int) < (x : Int)) = true := by simp; omega
        go_wp2
        go_ret
        exact ⟨⟨_, rfl⟩, rfl⟩
    · obtain rfl : k = n := by omega
      go_wp2
      go_ret
      exact ⟨⟨_, rfl⟩, rfl⟩
/-- What else of a state is read. -/
structure SD2 where
  nb : Nat
  bA : Option Addr
  bc : Nat
  bL : List Nat
  np : Nat
  pA : Option Addr
  pc : Nat
  nu : Nat
  uA : Option Addr
  uc : Nat
  ns : Nat
  sA : Option Addr
  sc : Nat
  sL : List Nat
  nh : Nat
  hA : Option Addr
  hc : Nat
  nw : Nat
  wA : Option Addr
  wc : Nat
  dep : Nat
  hs : Nat
  ep : Nat → Nat
  sl : Nat → Nat
  eli : Nat → Nat
  wit : Nat → Nat
structure RS (w : World) (X : List Value) (D : SD) (E : SD2) : Prop where
  bal : X[722]? = some (.slice E.bA E.nb E.bc)
  balr : Sl w 0 (.slice E.bA E.nb E.bc) (u64s E.bL)
  ball : ∀ x ∈ E.bL, x < 18446744073709551616
  prev : X[987]? = some (.slice E.pA E.np E.pc)
  prevl : E.np ≤ maxLen
  cur : X[988]? = some (.slice E.uA E.nu E.uc)
  curl : E.nu ≤ maxLen
  sco : X[1092]? = some (.slice E.sA E.ns E.sc)
  scor : Sl w 0 (.slice E.sA E.ns E.sc) (u64s E.sL)
  scol : ∀ x ∈ E.sL, x < 18446744073709551616
  his : X[653]? = some (.slice E.hA E.nh E.hc)
  hisl : E.nh ≤ maxLen
  vot : X[719]? = some (.slice E.wA E.nw E.wc)
  votl : E.nw ≤ maxLen
  dep : X[720]? = some (.int .u64 (E.dep : Nat))
  depl : E.dep < 18446744073709551616
  hs : X[43]? = some (.int .u64 (E.hs : Nat))
  hsl : E.hs < 18446744073709551616
  ep : ∀ i, i < 3 → X[993 + 33 * i]? = some (.int .u64 (E.ep i : Nat))
  epl : ∀ i, E.ep i < 18446744073709551616
  sl : ∀ i, i < 8 → X[979 + i]? = some (.int .u64 (E.sl i : Nat))
  sll : ∀ i, E.sl i < 18446744073709551616
  eli : ∀ i, i < D.nv → (D.val i)[82]? = some (.int .u64 (E.eli i : Nat))
  elil : ∀ i, E.eli i < 18446744073709551616
  wit : ∀ i, i < D.nv → (D.val i)[85]? = some (.int .u64 (E.wit i : Nat))
  witl : ∀ i, E.wit i < 18446744073709551616
theorem RS.below {w w' : World} {X : List Value} {D : SD} {E : SD2} (h : RS w X D E) (hb : Below w.heap.size w w') : RS w' X D E :=
  { h with balr := h.balr.below hb (Nat.le_refl _), scor := h.scor.below hb (Nat.le_refl _) }
/-- n values. -/
def vals (f : Nat → Value) (n : Nat) : List Value := (List.range n).map f
theorem vals_length (f : Nat → Value) (n : Nat) : (vals f n).length = n := by simp [vals]
theorem vals_get (f : Nat → Value) (n i : Nat) (h : i < n) : (vals f n)[i]? = some (f i) := by simp [vals, h]
theorem vals_none (f : Nat → Value) (n i : Nat) (h : n ≤ i) : (vals f n)[i]? = none := by simp [vals, h]
def fz (fa fb fc : Nat → Value) (i : Nat) : Value := if i < 33 then fa i else if i < 66 then fb (i - 33) else fc (i - 66)
theorem Tryd.built_cps (fa fb fc : Nat → Value) : Tryd.prog.built 71 [(0, .agg (vals fa 33).toArray), (1, .agg (vals fb 33).toArray), (2, .agg (vals fc 33).toArray)] = some (vals (fz fa fb fc) 99).toArray := by kernel_rfl
theorem wpList_build_list {P : Program} {ops : Array Oper} {rest : List Oper} {o : Oper} {a : Act} {w : World} {Q : Exit → Act → World → Prop} (hg : o.guard = none) (t : TypeId) (parts : Array (Nat × Operand)) (ho : o.op = .build t parts) (l : List (Nat × Value)) (C : Array Value)
    (hl : parts.toList.map (fun (i, x) => (i, a.eval x)) = l) (hf : P.built t l = some C) (h : wpList P ops Q rest (a.put o.dst (.agg C)) w) : wpList P ops Q (o :: rest) a w := by
  have e : (parts.map fun (i, x) => (i, a.eval x)).toList = l := by rw [← hl]; simp
  exact wpList_build hg t parts ho (by rw [e, hf]; rfl) (by rw [e, hf]; exact h)
theorem Tryd.size_cp : (Tryd.prog.info? 42).map (·.size) = some 33 := by kernel_rfl
abbrev zero33 : List Value := [.int .u64 0, .int .u8 0, .int .u8 0, .int .u8 0, .int .u8 0, .int .u8 0, .int .u8 0, .int .u8 0, .int .u8 0, .int .u8 0, .int .u8 0, .int .u8 0, .int .u8 0, .int .u8 0, .int .u8 0, .int .u8 0, .int .u8 0, .int .u8 0, .int .u8 0, .int .u8 0, .int .u8 0, .int .u8 0, .int .u8 0, .int .u8 0, .int .u8 0, .int .u8 0, .int .u8 0, .int .u8 0, .int .u8 0, .int .u8 0, .int .u8 0, .int .u8 0, .int .u8 0]
abbrev zero86 : List Value := [.int .u8 0, .int .u8 0, .int .u8 0, .int .u8 0, .int .u8 0, .int .u8 0, .int .u8 0, .int .u8 0, .int .u8 0, .int .u8 0, .int .u8 0, .int .u8 0, .int .u8 0, .int .u8 0, .int .u8 0, .int .u8 0, .int .u8 0, .int .u8 0, .int .u8 0, .int .u8 0, .int .u8 0, .int .u8 0, .int .u8 0, .int .u8 0, .int .u8 0, .int .u8 0, .int .u8 0, .int .u8 0, .int .u8 0, .int .u8 0, .int .u8 0, .int .u8 0, .int .u8 0, .int .u8 0, .int .u8 0, .int .u8 0, .int .u8 0, .int .u8 0, .int .u8 0, .int .u8 0, .int .u8 0, .int .u8 0, .int .u8 0, .int .u8 0, .int .u8 0, .int .u8 0, .int .u8 0, .int .u8 0, .int .u8 0, .int .u8 0, .int .u8 0, .int .u8 0, .int .u8 0, .int .u8 0, .int .u8 0, .int .u8 0, .int .u8 0, .int .u8 0, .int .u8 0, .int .u8 0, .int .u8 0, .int .u8 0, .int .u8 0, .int .u8 0, .int .u8 0, .int .u8 0, .int .u8 0, .int .u8 0, .int .u8 0, .int .u8 0, .int .u8 0, .int .u8 0, .int .u8 0, .int .u8 0, .int .u8 0, .int .u8 0, .int .u8 0, .int .u8 0, .int .u8 0, .int .u8 0, .int .u64 0, .bool false, .int .u64 0, .int .u64 0, .int .u64 0, .int .u64 0]
theorem Tryd.size_val : (Tryd.prog.info? 60).map (·.size) = some 86 := by kernel_rfl
def XF (X : List Value) (o i : Nat) : Value := X.getD (o + i) undef
theorem XF_at {X : List Value} {o i : Nat} {v : Value} (h : X[o + i]? = some v) : XF X o i = v := by unfold XF; rw [List.getD_eq_getElem?_getD, h]; rfl
theorem XF_range {w : World} {g : Nat} {T : TypeId} {X : List Value} (h : Blk w g T X) (o n : Nat) (hl : o + n ≤ X.length) : w.rangeAt g o (vals (XF X o) n) := by
  intro j v hv
  rcases Nat.lt_or_ge j n with hj | hj
  · rw [vals_get _ _ _ hj] at hv
    cases hv
    rw [h.cell, List.getElem?_eq_getElem (by omega)]
    unfold XF
    rw [List.getD_eq_getElem?_getD, List.getElem?_eq_getElem (by omega)]
    rfl
  · rw [vals_none _ _ _ hj] at hv; cases hv
theorem XF_one {X : List Value} (h : ∀ v ∈ X, v.oneCell' = true) (o n : Nat) (hl : o + n ≤ X.length) : ∀ v ∈ vals (XF X o) n, v.oneCell' = true := by
  intro v hv
  obtain ⟨i, hi, rfl⟩ := List.mem_map.1 hv
  rw [List.mem_range] at hi
  unfold XF
  rw [List.getD_eq_getElem?_getD, List.getElem?_eq_getElem (by omega)]
  exact h _ (List.getElem_mem _)
end Go.Proofs.YtfagmjlgpfnniaaDoor
