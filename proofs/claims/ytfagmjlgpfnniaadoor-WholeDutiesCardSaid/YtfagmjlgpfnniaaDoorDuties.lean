/- WholeDuties: the row. -/
import Derived.Test.YtfagmjlgpfnniaaDoorStates
import Derived.Test.YtfagmjlgpfnniaaDoorWit
import Derived.Test.YtfagmjlgpfnniaaDoorRows
import Derived.WalkKit
import Derived.ProofKit
import Derived.OpenShut
import Derived.LaidMore
import Derived.Lay
import Derived.Stop.Joined
import Derived.ChangeOld
import Derived.Below
namespace Go.Proofs.YtfagmjlgpfnniaaDoor.wholeDuties
open Go.ChangeShapes Go.WideShapes Go.ChangeAt Go.RowKit

set_option maxRecDepth 100000
theorem own : ownKnob Tryd.prog.godebug = none := by kernel_rfl
theorem laidOut : laidOutB Tryd.prog = true := by kernel_rfl
/-- A laid table's cells. -/
theorem table {W : World} {name : String} {g n fuel : Nat} {t : TypeId} {cs : Array Value} {Ds : List (DataW Unit)} {ps : List MemPlace} {sp : Nat → Bool} {hl : Bool} {enc : TypeId × Value → Unit} (L : List Nat) (hg : Tryd.prog.globalNamed name = some g) (hv : W.var? Tryd.prog name = some cs)
    (hu : Tryd.prog.underlying t = some (.array n 95)) (hd : DataW.trod enc Tryd.prog W 0 sp hl fuel t cs.toList = some (.agg Ds, ps)) (hD : Ds = L.map fun n => .lit (.int .u32 (n : Nat))) (hL : L.length = n) : Row W g 0 n .u32 (fun i => L.getD i 0) := by
  intro r hr
  obtain ⟨xs, m, _, ex, _, hlen, hel⟩ := DataW.trod_array hu hd
  have c1 : Tryd.prog.cellsOf 95 = 1 := by kernel_rfl
  have hE := hel r hr
  rw [c1, Nat.mul_one, List.getElem?_eq_getElem (by omega)] at hE
  obtain ⟨z, e1, e2, _⟩ := DataW.trod_int Tryd.underlying95 hE
  have e3 : (xs.map (·.1)) = L.map fun n => .lit (.int .u32 (n : Nat)) := (DataW.agg.inj (Prod.mk.inj ex).1).symm.trans hD
  have e4 : (xs.map (·.1))[r]? = (L.map fun n => (DataW.lit (.int .u32 (n : Nat)) : DataW Unit))[r]? := by rw [e3]
  rw [List.getElem?_map, List.getElem?_map, List.getElem?_eq_getElem (by omega : r < xs.length), List.getElem?_eq_getElem (by omega : r < L.length), e2] at e4
  have hz : z = (L.getD r 0 : Nat) := by
    simp only [Option.map_some, Option.some.injEq, DataW.lit.injEq, Lit.int.injEq, true_and] at e4
    rw [e4, List.getD, List.getElem?_eq_getElem (by omega : r < L.length)]; rfl
  rw [Nat.zero_add, World.var?_cell hg hv r, ← hz]
  have : cs.toList[r]? = some (.int .u32 z) := take_one e1
  simpa using this
theorem tab_of {W : World} (h : laidMetH Tryd.prog Rows.wholeDutiesRow.laid W) : Tab W := by
  rw [MakeChecks.laidMetH_plain _ _ _ (by kernel_rfl)] at h
  obtain ⟨ps, ⟨g0, t0, cs0, f0, p0, q0, hg0, ht0, hv0, hd0, ⟨g1, t1, cs1, f1, p1, q1, hg1, ht1, hv1, hd1, _, _⟩, _⟩, _, _⟩ := h
  obtain rfl := Option.some.inj ((show Tryd.prog.globalNamed "pharos/sha.start" = some 0 by kernel_rfl).symm.trans hg0)
  obtain rfl := Option.some.inj ((show Tryd.prog.globalNamed "pharos/sha.round" = some 1 by kernel_rfl).symm.trans hg1)
  obtain rfl := Option.some.inj ((show (Tryd.prog.globals[0]?).map (·.type) = some 96 by kernel_rfl).symm.trans ht0)
  obtain rfl := Option.some.inj ((show (Tryd.prog.globals[1]?).map (·.type) = some 106 by kernel_rfl).symm.trans ht1)
  have r0 := table [1779033703, 3144134277, 1013904242, 2773480762, 1359893119, 2600822924, 528734635, 1541459225] hg0 hv0 Tryd.underlying96 hd0 (by rfl) (by rfl)
  have r1 := table ((List.range 64).map roundF) hg1 hv1 Tryd.underlying106 hd1 (by kernel_rfl) (by simp)
  have r1' : Row W 1 0 64 .u32 roundF := by
    intro i hi
    have := r1 i hi
    dsimp only at this
    rw [List.getD_eq_getElem?_getD, List.getElem?_map, List.getElem?_range hi] at this
    exact this
  exact ⟨r0, r1', World.block_lt_of_cell? W _ (r1' 0 (by decide))⟩
set_option maxRecDepth 100000 in
theorem walk {W : World} {e : Nat} (he : e < 18446744073709551616) {v : Value} {H : Type} {enc : TypeId × Value → H} {r : Reach} {b : Nat} {d : DataW H} {ps : List MemPlace} (tab : Tab W) (hv : Value.okWide Tryd.prog W r b 49 v) (h : DataW.Trod enc Tryd.prog W 0 (fun _ => true) true 49 v d ps) :
    Calls Tryd.prog 3 #[v, .int .u64 e] W (Yes W) := by
  obtain ⟨X, D, E, rfl, st, rs, hk⟩ := open_state hv h
  by_cases hb : 100 < D.nv ∨ 1099511627776 ≤ e
  · exact duties_far X D E e he W tab st rs hb
  · exact duties_near X D E e (by omega) (by omega) W tab st rs hk
set_option maxRecDepth 100000 in
theorem lifted (os : Os) (started : os.Started) (H : Type) (enc : TypeId × Value → H) :
    ReturnsInHanded {} Tryd.checked os 3 .any (fun w args => (Rows.wholeDutiesSpec.pre enc Tryd.prog Tryd.f3 Rows.wholeDutiesRow.domain false w args ∧ laidMetH Tryd.prog Rows.wholeDutiesRow.laid w) ∧ sizedMet enc Tryd.prog Tryd.f3 (OpenSpec.ofChange Rows.wholeDutiesSpec) false w args)
      (Rows.wholeDutiesSpec.post enc Tryd.prog Tryd.f3 false true false false) := by
  refine returnsInHanded_of_change_and (C := Tryd.checked) (X := fun w _ => laidMetH Tryd.prog Rows.wholeDutiesRow.laid w) (fun _ _ _ hh h => h.of_heap hh) own started (by kernel_rfl) Tryd.func3
    ⟨World.laidAll Tryd.prog os Rows.wholeDutiesRow.laid, fun _ _ => 0, ⟨#[], #[.agg Z0.toArray, .int .u64 0], []⟩, World.laidAll_os _ _ _,
      World.shaped_of_ZipB (by kernel_rfl) (by kernel_rfl), rfl, wit_ok _ _,
      ⟨⟨ChangeSpec.pre_of_preB (fuel := 8) (by kernel_rfl), by rw [MakeChecks.laidMetH_plain _ _ _ (by kernel_rfl)]; exact laidMet_laidAll _ (by kernel_rfl) (by kernel_rfl)⟩, sizedMet_of_sizedB (fuel := 8) (by kernel_rfl)⟩, by
        simp only [Assume.holds]
        exact ⟨by simp, by simp, by simp, by simp, by simp⟩⟩ ?_
  intro W base args ds gs before hval0 hW hc _ hL _
  have hval : ∀ (j : Nat) t v, Tryd.f3.params[j]? = some t → args[j]? = some v → Value.okWide Tryd.prog W .any base t v := hval0
  have hW' := hW
  obtain ⟨p, q, hA0, hV, rfl, hfz, hnd⟩ := hW
  have hA : DataW.TrodAll enc Tryd.prog W 0 (fun _ => true) true Tryd.f3.params.toList args.toList ds p := hA0
  rw [Tryd.params3] at hA hval
  obtain ⟨v0, vs0, d0, ds0, p0, q0, hargs, rfl, rfl, h0, r0⟩ := trodAll_cons hA
  obtain ⟨v1, vs1, d1, ds1, p1, q1, rfl, rfl, rfl, h1, r1⟩ := trodAll_cons r0
  obtain ⟨rfl, rfl, rfl⟩ := trodAll_nil r1
  obtain rfl : args = #[v0, v1] := by cases args; simp_all
  obtain ⟨rfl, rfl⟩ := trodVars_none hV
  have k0 := h0
  have lt0 : ∀ x ∈ p0, x.block < W.heap.size := by obtain ⟨m, hm⟩ := k0; exact DataW.trod_lt m _ _ _ hm
  obtain ⟨a1, rfl, rfl, rfl, w1⟩ := open_int Tryd.underlying22 (hval 1 22 v1 rfl rfl) h1
  obtain ⟨n1, n2⟩ := wf64 a1 w1
  obtain ⟨e, rfl⟩ : ∃ e : Nat, a1 = e := ⟨a1.toNat, by omega⟩
  have ok0 := hval 0 49 v0 rfl rfl
  clear hA0 hval0 hval
  refine (walk (by omega) (tab_of hL) ok0 h0).mono fun en W' ⟨hen, bel⟩ => ?_
  subst hen
  exact ⟨_, rfl, _, _, _, [], _, [], hW', trodAll_mk1 (shut_bool Tryd.underlying4 _), (trodAll_cons_mk (Below.trod laidOut (by kernel_rfl) (of_decide_eq_true (by kernel_rfl)) k0 bel lt0) (trodAll_cons_mk (shut_int Tryd.underlying22 w1) trodAll_mk0)), rfl, bel.frame _, fun h => by cases h⟩

theorem holds : Rows.WholeDutiesSaid :=
  OpenClaim.holds_of_wide 3 Tryd.f3 rfl rfl rfl rfl rfl rfl rfl ⟨rfl, rfl, rfl, rfl, rfl⟩ rfl rfl rfl rfl rfl (by kernel_rfl) Tryd.func3 (by kernel_rfl)
    (of_decide_eq_true (by kernel_rfl)) (by unfold Func.isWrapper; first | (rw [if_pos (by decide +kernel)]; kernel_rfl) | (rw [if_neg (by decide +kernel)]; exact ⟨rfl, rfl⟩))
    (fun os started H enc _ => lifted os started H enc)
end Go.Proofs.YtfagmjlgpfnniaaDoor.wholeDuties
