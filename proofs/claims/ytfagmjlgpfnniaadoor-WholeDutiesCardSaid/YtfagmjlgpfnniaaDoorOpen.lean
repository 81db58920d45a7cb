/- The arguments opened: what of a state that reads at all is there. -/
import Derived.Test.YtfagmjlgpfnniaaDoorLaw
import Derived.OpenShut
import Derived.ChangeArms
import Derived.ChangeShapes
import Derived.WideShapes
namespace Go.Proofs.YtfagmjlgpfnniaaDoor
open Go.RowKit

section
variable {H : Type} {enc : TypeId × Value → H} {W : World} {t u e : TypeId} {X : List Value} {o : Nat}
/-- What reads at all. -/
def Rd (enc : TypeId × Value → H) (W : World) (t : TypeId) (cs : List Value) : Prop := ∃ n x, DataW.trod enc Tryd.prog W 0 (fun _ => true) true n t cs = some x
/-- .. and at an offset. -/
def RdAt (enc : TypeId × Value → H) (W : World) (t : TypeId) (X : List Value) (o : Nat) : Prop := Rd enc W t ((X.drop o).take (Tryd.prog.cellsOf t))
theorem drop_take_drop (X : List Value) (o n fo m : Nat) (h : fo + m ≤ n) : (((X.drop o).take n).drop fo).take m = (X.drop (o + fo)).take m := by
  rw [List.drop_take, List.drop_drop, List.take_take, Nat.min_eq_left (by omega)]
/-- A field's type and offset. -/
noncomputable def fieldAt (t : TypeId) (i : Nat) : Option (TypeId × Nat) := match Tryd.prog.underlying t with
  | some (.struct fs) => fs[i]?.map fun f => (f.type, f.offset)
  | _ => none
theorem RdAt.field (h : RdAt enc W t X o) (i : Nat) {fo : Nat} (hf : fieldAt t i = some (u, fo)) (hs : fo + Tryd.prog.cellsOf u ≤ Tryd.prog.cellsOf t) : RdAt enc W u X (o + fo) := by
  obtain ⟨n, x, h⟩ := h
  unfold fieldAt at hf
  split at hf
  · rename_i fs hu
    obtain ⟨xs, m, _, _, _, hlen, hel⟩ := DataW.trod_struct hu h
    rw [Option.map_eq_some_iff] at hf
    obtain ⟨f, hf, hq⟩ := hf
    injection hq with h1 h2
    have hi : i < xs.length := by
      rw [hlen]
      rcases Nat.lt_or_ge i fs.size with hi | hi
      · exact hi
      · rw [Array.getElem?_eq_none hi] at hf; cases hf
    have := hel i f hf
    rw [h1, h2, drop_take_drop _ _ _ _ _ hs, List.getElem?_eq_getElem hi] at this
    exact ⟨_, _, this⟩
  · cases hf
theorem RdAt.elem (h : RdAt enc W t X o) {n : Nat} (hu : Tryd.prog.underlying t = some (.array n e)) (hs : n * Tryd.prog.cellsOf e ≤ Tryd.prog.cellsOf t) (i : Nat) (hi : i < n) : RdAt enc W e X (o + i * Tryd.prog.cellsOf e) := by
  obtain ⟨m, x, h⟩ := h
  obtain ⟨xs, k, _, _, _, hlen, hel⟩ := DataW.trod_array hu h
  have := hel i hi
  have hb : i * Tryd.prog.cellsOf e + Tryd.prog.cellsOf e ≤ Tryd.prog.cellsOf t := by
    have h1 : (i + 1) * Tryd.prog.cellsOf e ≤ n * Tryd.prog.cellsOf e := Nat.mul_le_mul_right _ (by omega)
    rw [Nat.add_mul, Nat.one_mul] at h1
    omega
  rw [drop_take_drop _ _ _ _ _ hb, List.getElem?_eq_getElem (by omega)] at this
  exact ⟨_, _, this⟩
theorem take_one {X : List Value} {o : Nat} {v : Value} (h : (X.drop o).take 1 = [v]) : X[o]? = some v := by
  have : ((X.drop o).take 1)[0]? = some v := by rw [h]; rfl
  rw [List.getElem?_take_of_lt (by decide), List.getElem?_drop] at this
  exact this
/-- A number of no sign. -/
theorem RdAt.num (h : RdAt enc W t X o) {k : IntKind} (hu : Tryd.prog.underlying t = some (.int k)) (hc : Tryd.prog.cellsOf t = 1) (B : Nat) (hB : ∀ n, (Lit.int k n).wf = true → 0 ≤ n ∧ n < (B : Int)) : ∃ a : Nat, X[o]? = some (.int k (a : Nat)) ∧ a < B := by
  obtain ⟨n, x, h⟩ := h
  rw [hc] at h
  obtain ⟨z, hz, _, hw⟩ := DataW.trod_int hu h
  obtain ⟨h1, h2⟩ := hB z hw
  refine ⟨z.toNat, ?_, by omega⟩
  rw [take_one hz, Int.toNat_of_nonneg h1]
theorem RdAt.bool (h : RdAt enc W t X o) (hu : Tryd.prog.underlying t = some .bool) (hc : Tryd.prog.cellsOf t = 1) : ∃ b, X[o]? = some (.bool b) := by
  obtain ⟨n, x, h⟩ := h
  rw [hc] at h
  obtain ⟨b, hb, _⟩ := DataW.trod_bool hu h
  exact ⟨b, take_one hb⟩
theorem addp (b o j : Nat) : (⟨b, o, none⟩ : Addr).add j = ⟨b, o + j, none⟩ := by unfold Addr.add; split <;> simp_all
theorem cells_get {W : World} {a : Addr} {k : Nat} {ec : List Value} (h : W.cells? 0 a k = some ec) : ec.length = k ∧ ∀ j, j < k → W.cell? (a.add j) = ec[j]? := by
  unfold World.cells? at h
  rw [if_pos (Nat.zero_le _)] at h
  exact ⟨by simpa using mapM_some_length h, fun j hj => mapM_some_get h j j (by simp [hj])⟩
/-- A slice: its cells in one block, each element reads. -/
theorem RdAt.slice (h : RdAt enc W t X o) (hu : Tryd.prog.underlying t = some (.slice e)) (hc : Tryd.prog.cellsOf t = 1) (hk : 0 < Tryd.prog.cellsOf e) : ∃ (A : Option Addr) (n c : Nat), X[o]? = some (.slice A n c) ∧ n ≤ c ∧ c ≤ maxLen ∧
    (0 < n → ∃ b off, A = some ⟨b, off, none⟩ ∧ ∀ i, i < n → ∃ ec : List Value, ec.length = Tryd.prog.cellsOf e ∧ Rd enc W e ec ∧ ∀ j v, ec[j]? = some v → W.cell? ⟨b, off + i * Tryd.prog.cellsOf e + j, none⟩ = some v) := by
  obtain ⟨m, x, h⟩ := h
  rw [hc] at h
  rcases DataW.trod_slice hu h with ⟨h0, _⟩ | ⟨a, len, cap, elems, rest, k, _, h0, _, _, hl, hm, hlen, hel, _, _⟩
  · exact ⟨none, 0, 0, take_one h0, Nat.le_refl _, Nat.zero_le _, fun h => absurd h (Nat.lt_irrefl 0)⟩
  · refine ⟨some a, len, cap, take_one h0, hl, hm, fun hpos => ?_⟩
    have rd : ∀ i, i < len → ∃ ec : List Value, W.cells? 0 (a.add (i * Tryd.prog.cellsOf e)) (Tryd.prog.cellsOf e) = some ec ∧ Rd enc W e ec := by
      intro i hi
      have := hel i hi
      rw [List.getElem?_eq_getElem (by omega), Option.bind_eq_some_iff] at this
      obtain ⟨ec, h1, h2⟩ := this
      exact ⟨ec, h1, _, _, h2⟩
    obtain ⟨ec, h1, _⟩ := rd 0 hpos
    obtain ⟨l1, g1⟩ := cells_get h1
    have hp : a = ⟨a.block, a.off, none⟩ := by
      have h2 := g1 0 hk
      rw [List.getElem?_eq_getElem (by omega)] at h2
      have e0 : (a.add (0 * Tryd.prog.cellsOf e)).add 0 = a := by rw [Nat.zero_mul]; unfold Addr.add; simp
      rw [e0] at h2
      unfold World.cell? at h2
      split at h2
      · split at h2
        · cases h2
        · rename_i hs
          cases a with
          | mk b o s => cases s with
            | none => rfl
            | some s => simp at hs
      · cases h2
    refine ⟨a.block, a.off, by rw [← hp], fun i hi => ?_⟩
    obtain ⟨ec, h1, h2⟩ := rd i hi
    obtain ⟨l1, g1⟩ := cells_get h1
    refine ⟨ec, l1, h2, fun j v hv => ?_⟩
    have hj : j < Tryd.prog.cellsOf e := by
      rcases Nat.lt_or_ge j ec.length with h | h
      · omega
      · rw [List.getElem?_eq_none h] at hv; cases hv
    have := g1 j hj
    rw [hp, addp, addp, hv] at this
    exact this
end
theorem okWide_one {P : Program} {w : World} {r : Reach} {b : Nat} {t : TypeId} {v : Value} (h : Cell.okWide P w r b t v) : v.oneCell' = true := by
  cases v <;> try rfl
  all_goals
    exfalso
    unfold Cell.okWide Cell.ok at h
    split at h <;> first | contradiction | (split at h <;> first | contradiction | exact h) | exact h
end Go.Proofs.YtfagmjlgpfnniaaDoor
