/- The arguments of a law of layer 3, opened: bytes, sizes, byte slices; and what the bound on their bulk gives. -/
import Derived.Test.YtamfceklddbldaaAwake
import Derived.ProofKit
import Derived.OpenShut
import Derived.ShutString
import Derived.ChangeOld
import Derived.Below
import Derived.JoinedCond
import Derived.Deep.Matrix
namespace Go.Proofs.Ytamfceklddbldaa
open Go.ChangeShapes Go.WideShapes Go.ChangeAt Go.RowKit

/-- What came in as a slice of integers: nil; or a row of 'cap' cells. -/
def IsRow (k : IntKind) (w : World) (a : Option Addr) (len cap : Nat) (zs : List Int) : Prop :=
  (a = none ∧ len = 0 ∧ cap = 0 ∧ zs = []) ∨
  ∃ x, a = some x ∧ len ≤ cap ∧ cap ≤ maxLen ∧ zs.length = cap ∧ (∀ i, i < zs.length → w.cell? (x.add i) = some (.int k (zs.getD i 0))) ∧ ∀ n ∈ zs, (Lit.int k n).wf = true

theorem spot_none {w : World} {x : Addr} {v : Value} (h : w.cell? (x.add 0) = some v) : ∃ b off, x = ⟨b, off, none⟩ := by
  obtain ⟨b, off, sp⟩ := x
  cases sp with
  | none => exact ⟨b, off, rfl⟩
  | some s => simp [Addr.add, World.cell?] at h; split at h <;> simp at h
def toBs (zs : List Int) : Bs := zs.map fun n => UInt8.ofNat n.toNat
theorem row_bv {w : World} {a : Option Addr} {len cap : Nat} {zs : List Int} (h : IsRow .u8 w a len cap zs) : BV w 0 (.slice a len cap) (toBs (zs.take len)) ∧ (toBs (zs.take len)).length = len ∧ len ≤ zs.length := by
  rcases h with ⟨rfl, rfl, rfl, rfl⟩ | ⟨x, rfl, h1, h2, h3, h4, h5⟩
  · exact ⟨Sl.nil_ w 0, rfl, Nat.le_refl _⟩
  · refine ⟨⟨some x, cap, by simp [toBs]; omega, by simp [toBs]; omega, h2, fun hne => ?_⟩, by simp [toBs]; omega, by omega⟩
    have hz : 0 < zs.length := by
      rcases Nat.eq_zero_or_pos zs.length with h | h
      · rw [List.eq_nil_of_length_eq_zero h] at hne; simp [toBs] at hne
      · exact h
    obtain ⟨b, off, rfl⟩ := spot_none (h4 0 hz)
    refine ⟨b, off, rfl, Nat.zero_le _, fun j u hu => ?_⟩
    unfold toBs at hu
    rw [List.getElem?_map, List.getElem?_map, List.getElem?_take] at hu
    split at hu
    · rename_i hj
      have hjz : j < zs.length := by omega
      rw [List.getElem?_eq_getElem hjz] at hu
      simp only [Option.map_some, Option.some.injEq] at hu
      have hw := h5 zs[j] (List.getElem_mem hjz)
      have hb : 0 ≤ zs[j] ∧ zs[j] ≤ 255 := by simpa [Lit.wf, IntKind.min, IntKind.max, IntKind.signed, IntKind.bits] using hw
      have h6 := h4 j hjz
      rw [show (⟨b, off, none⟩ : Addr).add j = ⟨b, off + j, none⟩ from by unfold Addr.add; split <;> simp_all] at h6
      rw [h6, ← hu]
      simp only [bv, List.getD, List.getElem?_eq_getElem hjz, Option.getD_some]
      congr 2
      simp
      omega
    · simp at hu
theorem row_iv {w : World} {a : Option Addr} {len cap : Nat} {zs : List Int} (h : IsRow .i64 w a len cap zs) : IV w 0 (.slice a len cap) (zs.take len) ∧ (zs.take len).length = len ∧ len ≤ zs.length := by
  rcases h with ⟨rfl, rfl, rfl, rfl⟩ | ⟨x, rfl, h1, h2, h3, h4, h5⟩
  · exact ⟨Sl.nil_ w 0, rfl, Nat.le_refl _⟩
  · refine ⟨⟨some x, cap, by simp; omega, by simp; omega, h2, fun hne => ?_⟩, by simp; omega, by omega⟩
    have hz : 0 < zs.length := by
      rcases Nat.eq_zero_or_pos zs.length with h | h
      · rw [List.eq_nil_of_length_eq_zero h] at hne; simp at hne
      · exact h
    obtain ⟨b, off, rfl⟩ := spot_none (h4 0 hz)
    refine ⟨b, off, rfl, Nat.zero_le _, fun j u hu => ?_⟩
    rw [List.getElem?_map, List.getElem?_take] at hu
    split at hu
    · rename_i hj
      have hjz : j < zs.length := by omega
      rw [List.getElem?_eq_getElem hjz] at hu
      simp only [Option.map_some, Option.some.injEq] at hu
      have h6 := h4 j hjz
      rw [show (⟨b, off, none⟩ : Addr).add j = ⟨b, off + j, none⟩ from by unfold Addr.add; split <;> simp_all] at h6
      rw [h6, ← hu]
      simp [iv, List.getD, List.getElem?_eq_getElem hjz]
    · simp at hu

section bulk
variable {H : Type}
theorem bulk_app (a b : List (DataW H)) : Rows.uptoBulkAll (a ++ b) = Rows.uptoBulkAll a + Rows.uptoBulkAll b := by
  induction a with
  | nil => simp [Rows.uptoBulkAll]
  | cons x a ih => simp [Rows.uptoBulkAll, ih, Nat.add_assoc]
theorem bulk_lits (k : IntKind) (zs : List Int) : Rows.uptoBulkAll (lits (H := H) k zs) = zs.length := by
  induction zs with
  | nil => rfl
  | cons x a ih =>
    show Rows.uptoBulkAll (DataW.lit (.int k x) :: lits k a) = _
    simp only [Rows.uptoBulkAll, Rows.uptoBulk, ih, List.length_cons]; omega
end bulk
section
variable {H : Type} {enc : TypeId × Value → H} {W : World}
theorem ints_in {t e : TypeId} {k : IntKind} (ht : Try.prog.underlying t = some (.slice e)) (he : Try.prog.underlying e = some (.int k)) (hc : Try.prog.cellsOf e = 1) {v : Value} {d : DataW H} {p : List MemPlace} {r : Reach} {base : Nat}
    (hv : Value.okWide Try.prog W r base t v) (h0 : DataW.Trod enc Try.prog W 0 (fun _ => true) true t v d p) :
    ∃ a len cap zs, v = .slice a len cap ∧ IsRow k W a len cap zs ∧ zs.length ≤ Rows.uptoBulk d := by
  obtain ⟨a0, len0, cap0, rfl⟩ := okWide_slice ht hv
  obtain ⟨fuel, hf⟩ := h0
  rcases open_ints ht he hc hf with ⟨hcs, hx⟩ | ⟨x, l, c, zs, hcs, _, hl, hm, hz, hx, hcell, hwz⟩
  · simp [Value.cells] at hcs
    obtain ⟨rfl, rfl, rfl⟩ := hcs
    exact ⟨_, _, _, [], rfl, .inl ⟨rfl, rfl, rfl, rfl⟩, Nat.zero_le _⟩
  · simp [Value.cells] at hcs
    obtain ⟨rfl, rfl, rfl⟩ := hcs
    refine ⟨_, _, _, zs, rfl, .inr ⟨_, rfl, hl, hm, by simpa using hz, hcell, hwz⟩, ?_⟩
    simp only [Prod.mk.injEq] at hx
    rw [hx.1]
    simp only [Rows.uptoBulk, bulk_lits, List.length_take, List.length_drop]
    omega
theorem bulk_rows (f : Nat → DataW H) (g : Nat → Bs) (n : Nat) (h : ∀ r, r < n → (g r).length + 1 ≤ Rows.uptoBulk (f r)) :
    ((List.range n).map g).flatten.length + n ≤ Rows.uptoBulkAll ((List.range n).map f) := by
  induction n with
  | zero => simp
  | succ n ih =>
    rw [List.range_succ, List.map_append, List.map_append, List.flatten_append, List.length_append, bulk_app]
    have := ih (fun r hr => h r (by omega))
    have := h n (by omega)
    simp only [List.map_cons, List.map_nil, List.flatten_cons, List.flatten_nil, List.append_nil, Rows.uptoBulkAll]
    omega
theorem rows_in {v : Value} {d : DataW H} {p : List MemPlace} {r : Reach} {base : Nat}
    (hv : Value.okWide Try.prog W r base 28 v) (h0 : DataW.Trod enc Try.prog W 0 (fun _ => true) true 28 v d p) :
    ∃ ls, RV W 0 v ls ∧ ls.flatten.length + ls.length ≤ Rows.uptoBulk d := by
  obtain ⟨a0, len0, cap0, rfl⟩ := okWide_slice Try.underlying28 hv
  obtain ⟨fuel, hf⟩ := h0
  rcases Go.Deep.open_int_rows Try.underlying28 Try.underlying22 Try.underlying5 (by kernel_rfl) (by kernel_rfl) hf with ⟨hcs, hx⟩ | ⟨a, len, cap, A, L, C, Z, hcs, _, hl, hm, hx, hr⟩
  · simp [Value.cells] at hcs
    obtain ⟨rfl, rfl, rfl⟩ := hcs
    exact ⟨[], RV.nil_ W 0, Nat.zero_le _⟩
  · simp [Value.cells] at hcs
    obtain ⟨rfl, rfl, rfl⟩ := hcs
    have hrow : ∀ r, r < len0 → IsRow .u8 W (A r) (L r) (C r) (Z r) := by
      intro r hrl
      obtain ⟨h1, h2, h3, h4, h5, h6, h7⟩ := hr r (by omega)
      cases hA : A r with
      | none =>
        have hc0 := h6 hA
        exact .inl ⟨rfl, by omega, hc0, List.eq_nil_of_length_eq_zero (by omega)⟩
      | some x =>
        obtain ⟨_, h8⟩ := h7 x hA
        exact .inr ⟨x, rfl, h2, h3, h4, fun i hi => h8 i (by omega), h5⟩
    refine ⟨(List.range len0).map fun r => toBs ((Z r).take (L r)), ⟨(List.range len0).map fun r => .slice (A r) (L r) (C r), ⟨some a, cap0, by simp, by simp; omega, hm, fun hne => ?_⟩, by simp, fun j u l hu hl' => ?_⟩, ?_⟩
    · have hz : 0 < len0 := by
        rcases Nat.eq_zero_or_pos len0 with h | h
        · subst h; simp at hne
        · exact h
      obtain ⟨b, off, rfl⟩ := spot_none (hr 0 (by omega)).1
      refine ⟨b, off, rfl, Nat.zero_le _, fun j u hu => ?_⟩
      have hj : j < len0 := by have := (List.getElem?_eq_some_iff.1 hu).1; simpa using this
      rw [List.getElem?_map, List.getElem?_range hj] at hu
      simp only [Option.map_some, Option.some.injEq] at hu
      have h6 := (hr j (by omega)).1
      rw [show (⟨b, off, none⟩ : Addr).add j = ⟨b, off + j, none⟩ from by unfold Addr.add; split <;> simp_all] at h6
      rw [h6, hu]
    · have hj : j < len0 := by have := (List.getElem?_eq_some_iff.1 hu).1; simpa using this
      rw [List.getElem?_map, List.getElem?_range hj] at hu hl'
      simp only [Option.map_some, Option.some.injEq] at hu hl'
      subst hu hl'
      exact (row_bv (hrow j hj)).1
    · simp only [Prod.mk.injEq] at hx
      rw [hx.1]
      simp only [Rows.uptoBulk]
      have := bulk_rows (H := H) (fun r => Go.Deep.intRow .u8 (A r) (L r) (Z r)) (fun r => toBs ((Z r).take (L r))) len0 (fun r hrl => by
        have h1 := row_bv (hrow r hrl)
        rw [h1.2.1]
        unfold Go.Deep.intRow
        rcases hrow r hrl with ⟨e, h, _⟩ | ⟨x, e, h2, h3, h4, _⟩
        · rw [e, h]; simp [Rows.uptoBulk]
        · rw [e]
          simp only [Rows.uptoBulk, bulk_lits, List.length_take, List.length_drop]
          omega)
      simp only [List.length_map, List.length_range]
      omega
end
end Go.Proofs.Ytamfceklddbldaa
