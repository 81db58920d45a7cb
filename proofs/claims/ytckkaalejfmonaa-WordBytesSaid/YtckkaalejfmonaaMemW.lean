/- Words for memory (turned from the seat of layer 3): a byte slice read as a list; what came in as a slice of bytes. -/
import Derived.Test.YtckkaalejfmonaaWake
import Derived.WalkKit
import Derived.WalkSpells
import Derived.WalkLawsBesides
import Derived.Deep.QuietTactic
import Derived.BigQuiet
import Derived.Deep.Draws
import Derived.Lib.Hide
import Derived.Maps.AppendAt
import Derived.ProofKit
import Derived.OpenShut
import Derived.ShutString
import Derived.ChangeOld
import Derived.Below
import Derived.JoinedCond
import Derived.Deep.Matrix
namespace Go.Proofs.Ytckkaalejfmonaa
open Go.ChangeShapes Go.WideShapes Go.ChangeAt Go.RowKit
abbrev Bs := List UInt8
def bv (b : UInt8) : Value := .int .u8 (b.toNat : Int)
/-- A slice value of n one-cell elements whose first cells are xs, in a block from lo on. -/
def Sl (w : World) (lo : Nat) (v : Value) (xs : List Value) : Prop :=
  ∃ A c, v = .slice A xs.length c ∧ xs.length ≤ c ∧ c ≤ maxLen ∧ (xs ≠ [] → ∃ b off, A = some ⟨b, off, none⟩ ∧ lo ≤ b ∧ ∀ j u, xs[j]? = some u → w.cell? ⟨b, off + j, none⟩ = some u)
def BV (w : World) (lo : Nat) (v : Value) (l : Bs) : Prop := Sl w lo v (l.map bv)
theorem blk_lt {w : World} {b o : Nat} {u : Value} (h : w.cell? ⟨b, o, none⟩ = some u) : b < w.heap.size := World.block_lt_of_cell? w _ h

theorem Sl.below {w w' : World} {B lo : Nat} {v : Value} {xs : List Value} (h : Sl w lo v xs) (hb : Below B w w') (hB : w.heap.size ≤ B) : Sl w' lo v xs := by
  obtain ⟨A, c, rfl, h1, h2, h3⟩ := h
  refine ⟨A, c, rfl, h1, h2, fun hne => ?_⟩
  obtain ⟨b, off, e, hlo, hc⟩ := h3 hne
  exact ⟨b, off, e, hlo, fun j u hu => by
    have := hc j u hu
    rw [hb.cell (p := ⟨b, off + j, none⟩) (Nat.lt_of_lt_of_le (blk_lt this) hB)]; exact this⟩
theorem Sl.lower {w : World} {lo lo' : Nat} {v : Value} {xs : List Value} (h : Sl w lo v xs) (hl : lo' ≤ lo) : Sl w lo' v xs := by
  obtain ⟨A, c, rfl, h1, h2, h3⟩ := h
  refine ⟨A, c, rfl, h1, h2, fun hne => ?_⟩
  obtain ⟨b, off, e, hlo, hc⟩ := h3 hne
  exact ⟨b, off, e, by omega, hc⟩
theorem Sl.alloc {w : World} {lo : Nat} {v : Value} {xs : List Value} (h : Sl w lo v xs) (o : Obj) : Sl (w.alloc o) lo v xs := h.below ((Below.refl _ w).alloc (Nat.le_refl _) o) (Nat.le_refl _)
theorem Sl.drewN {w : World} {lo : Nat} {v : Value} {xs : List Value} (h : Sl w lo v xs) (n : Nat) : Sl (w.drewN n) lo v xs := h
theorem Sl.nil_ (w : World) (lo : Nat) : Sl w lo (.slice none 0 0) [] := ⟨none, 0, rfl, Nat.le_refl _, Nat.zero_le _, fun h => absurd rfl h⟩
/-- Out of an owned row. -/
theorem Sl.own {w : World} {lo : Nat} {e : TypeId} {v : Value} {n : Nat} {xs : List Value} (h : w.ownsRow lo e 1 v n xs) : Sl w lo v xs := by
  obtain ⟨hl, h⟩ := h
  rw [Nat.mul_one] at hl
  rcases h with ⟨rfl, rfl⟩ | ⟨g, cap, cur, rfl, hg, hh, h1, h2, h3, h4⟩
  · obtain rfl : xs = [] := List.eq_nil_of_length_eq_zero hl
    exact Sl.nil_ w lo
  · refine ⟨some ⟨g, 0, none⟩, cap, by rw [hl], by omega, h2, fun _ => ⟨g, 0, rfl, hg, fun j u hu => ?_⟩⟩
    rw [cell_of_row w g (0 + j) cur e (0, 0) hh]
    rw [← h4, List.getElem?_take] at hu
    split at hu
    · simpa using hu
    · cases hu
/-- A byte at a place. -/
theorem Sl.at_ {w : World} {lo : Nat} {v : Value} {xs : List Value} (h : Sl w lo v xs) (hne : xs ≠ []) : ∃ b off c, v = .slice (some ⟨b, off, none⟩) xs.length c ∧ lo ≤ b ∧ xs.length ≤ c ∧ c ≤ maxLen ∧ ∀ j u, xs[j]? = some u → w.cell? ⟨b, off + j, none⟩ = some u := by
  obtain ⟨A, c, rfl, h1, h2, h3⟩ := h
  obtain ⟨b, off, rfl, hlo, hc⟩ := h3 hne
  exact ⟨b, off, c, rfl, hlo, h1, h2, hc⟩
theorem BV.at_ {w : World} {lo : Nat} {v : Value} {l : Bs} (h : BV w lo v l) (hne : l ≠ []) : ∃ b off c, v = .slice (some ⟨b, off, none⟩) l.length c ∧ lo ≤ b ∧ l.length ≤ c ∧ c ≤ maxLen ∧ ∀ j, j < l.length → w.cell? ⟨b, off + j, none⟩ = some (.int .u8 ((l.getD j 0).toNat : Int)) := by
  obtain ⟨b, off, c, e, h1, h2, h3, h4⟩ := Sl.at_ h (by simpa using hne)
  rw [List.length_map] at e h2
  refine ⟨b, off, c, e, h1, h2, h3, fun j hj => h4 j _ ?_⟩
  rw [List.getElem?_map, List.getElem?_eq_getElem hj]
  simp [bv, List.getD, hj]

/-- Where the value lies behind an append. -/
def Moves (w : World) (v v' : Value) : Prop := v'.ownBlock = v.ownBlock ∨ ∃ k, w.heap.size ≤ k ∧ v'.ownBlock = some k
theorem Moves.refl (w : World) (v : Value) : Moves w v v := .inl rfl
theorem Moves.trans {w w' : World} {a b c : Value} (h : Moves w a b) (h' : Moves w' b c) (hw : w.heap.size ≤ w'.heap.size) : Moves w a c := by
  rcases h' with h' | ⟨k, hk, h'⟩
  · rcases h with h | ⟨k, hk, h⟩
    · exact .inl (h'.trans h)
    · exact .inr ⟨k, hk, h'.trans h⟩
  · exact .inr ⟨k, by omega, h'⟩

section
variable {P : Program} (w : World)
theorem run_append_nil_src (base : Nat) (t ty e : TypeId) (i : TypeInfo) (size : Nat) (ht : P.underlying t = some (.slice e)) (hi : P.info? e = some i)
    (v : Value) (n : Nat) (xs : List Value) (hown : w.ownsRow base e size v n xs) (c : Nat) : (Builtin.append_ #[t, t] ty #[v, .slice none 0 c]).run P w = .ok v w := by
  rcases hown.2 with ⟨rfl, rfl⟩ | ⟨g, cap, cur, rfl, _, _, hnc, _⟩
  · simp [Builtin.append_, run_underlying ht, sizeOf, typeInfo, hi, Builtin.lenOf, Builtin.firstCells]
  · simp [Builtin.append_, run_underlying ht, sizeOf, typeInfo, hi, Builtin.lenOf, Builtin.firstCells, hnc, storeCells]

theorem run_append_sl (base lo : Nat) (t ty e : TypeId) (i : TypeInfo) (z : Value) (bytes : Nat) (ht : P.underlying t = some (.slice e)) (hi : P.info? e = some i) (hz : i.zero = some z)
    (hsize : i.size = 1) (hby : i.bytes = bytes) (hzs : z.cells.size = 1)
    (v : Value) (n : Nat) (xs : List Value) (hown : w.ownsRow base e 1 v n xs) (x : Value) (news : List Value) (hx : Sl w lo x news) (h1 : ∀ u ∈ news, u.oneCell' = true)
    (h63 : n + news.length ≤ maxLen) (hbytes : (n + news.length) * bytes ≤ 140737488355328) (hbase : base ≤ w.heap.size) :
    ∃ v' w', (Builtin.append_ #[t, t] ty #[v, x]).run P w = .ok v' w' ∧ w'.ownsRow base e 1 v' (n + news.length) (xs ++ news) ∧ w.grownBy w' v.ownBlock ∧ Moves w v v' := by
  obtain ⟨A, c, rfl, _, _, h3⟩ := hx
  rcases A with _ | ad
  · have hn : news = [] := by
      cases news with
      | nil => rfl
      | cons u r => obtain ⟨b, off, e, _⟩ := h3 (by simp); cases e
    subst hn
    exact ⟨v, w, run_append_nil_src w base t ty e i 1 ht hi v n xs hown c, by simpa using hown, World.grownBy.refl w _, .inl rfl⟩
  · have hcells : ∀ j u, news[j]? = some u → w.cell? (ad.add j) = some u := by
      intro j u hu
      obtain ⟨b, off, e, _, hc⟩ := h3 (by rintro rfl; simp at hu)
      injection e with e
      subst e
      rw [show (⟨b, off, none⟩ : Addr).add j = ⟨b, off + j, none⟩ from by unfold Addr.add; split <;> simp_all]
      exact hc j u hu
    obtain ⟨v', w', hrun, h2, h3, _, h5⟩ := run_append_own_at (P := P) w base t ty e i z 1 bytes ht hi hz hsize hby hzs (by omega) v n xs hown ad news.length c news (by simp) hcells h1 h63 hbytes hbase
    refine ⟨v', w', hrun, h2, h3, ?_⟩
    rcases h5 with h5 | h5
    · exact .inl h5
    · exact .inr ⟨_, Nat.le_refl _, h5⟩

theorem wpList_append_sl {ops : Array Oper} {rest : List Oper} {o : Oper} {a : Act} {Q : Exit → Act → World → Prop} (hgd : o.guard = none) (s y : Operand) (t : TypeId)
    (ho : o.op = .call { callee := .builtin .append, args := #[s, y], argTypes := #[t, t] })
    (base lo : Nat) (e : TypeId) (i : TypeInfo) (z : Value) (bytes : Nat) (ht : P.underlying t = some (.slice e)) (hi : P.info? e = some i) (hz : i.zero = some z)
    (hsize : i.size = 1) (hby : i.bytes = bytes) (hzs : z.cells.size = 1)
    (v : Value) (n : Nat) (xs : List Value) (hs : a.eval s = v) (hown : w.ownsRow base e 1 v n xs) (x : Value) (news : List Value) (hy : a.eval y = x) (hx : Sl w lo x news) (h1 : ∀ u ∈ news, u.oneCell' = true)
    (h63 : n + news.length ≤ maxLen) (hbytes : (n + news.length) * bytes ≤ 140737488355328) (hbase : base ≤ w.heap.size)
    (h : ∀ v' w', w'.ownsRow base e 1 v' (n + news.length) (xs ++ news) → w.grownBy w' v.ownBlock → Moves w v v' → wpList P ops Q rest (a.put o.dst v') w') : wpList P ops Q (o :: rest) a w := by
  refine wpList_plain hgd fun K hK => ?_
  obtain ⟨v', w', hr, h2, h3, h4⟩ := run_append_sl (P := P) w base lo t o.type e i z bytes ht hi hz hsize hby hzs v n xs hown x news hx h1 h63 hbytes hbase
  unfold Oper.wp execOp
  simp only [ho, resolve, invoke, builtin, Sem.run_bind, Sem.run_pure, Result.andThen_ok, List.map_toArray, List.map_cons, List.map_nil, hs, hy, hr]
  exact hK _ _ (h v' w' h2 h3 h4)
end

theorem Try.info_u8 : (Try.prog.info? 5).map (fun i => (i.zero, i.size, i.bytes)) = some (some (.int .u8 0), 1, 1) := by kernel_rfl
theorem bv_one (l : Bs) : ∀ u ∈ l.map bv, u.oneCell' = true := by
  intro u hu; obtain ⟨x, _, rfl⟩ := List.mem_map.1 hu; rfl
/-- Bytes in a row of the call's own. -/
def OB (w : World) (B : Nat) (v : Value) (l : Bs) : Prop := w.ownsRow B 5 1 v l.length (l.map bv)
theorem OB.toBV {w : World} {B : Nat} {v : Value} {l : Bs} (h : OB w B v l) : BV w B v l := Sl.own h

theorem OB.mk {w : World} {B n : Nat} {v : Value} {l : Bs} {xs : List Value} (h : w.ownsRow B 5 1 v n xs) (hn : n = l.length) (hx : xs = l.map bv) : OB w B v l := by subst hn hx; exact h

def str (l : Bs) : ByteArray := ⟨l.toArray⟩
theorem str_toList (l : Bs) : (str l).toList = l := ByteArray.toList_mk l
theorem foldl_bytes (l : Bs) : (l.map fun b => (b.toNat : Int)).foldl (fun (r : ByteArray) (n : Int) => r.push (UInt8.ofNat n.toNat)) ByteArray.empty = str l := by
  rw [foldl_push_bytes]
  simp [str, ByteArray.empty, ByteArray.emptyWithCapacity, Function.comp_def]
  rfl
theorem BV.str {P : Program} {w : World} {lo : Nat} {v : Value} {l : Bs} (h : BV w lo v l) {s d e : TypeId} (hs : P.underlying s = some (.slice e)) (he : P.underlying e = some (.int .u8)) (hd : P.underlying d = some .string) :
    (convert s d v).run P w = .ok (.string (str l)) w := by
  obtain ⟨A, c, rfl, _, _, h3⟩ := h
  rw [run_convert_bytes_string w s d e _ _ c hs he hd]
  rcases A with _ | ad
  · have : l = [] := by
      cases l with
      | nil => rfl
      | cons x r => obtain ⟨b, off, e, _⟩ := h3 (by simp); cases e
    subst this
    simp [Conv.bytesToString]
    rfl
  · have hl : (loadCells ad (l.map bv).length).run P w = .ok ((l.map fun b => (b.toNat : Int)).map (Value.int .u8)).toArray w := by
      have := run_loadCells_list (P := P) w ad (l.map bv) (fun j u hu => by
        obtain ⟨b, off, e, _, hc⟩ := h3 (by intro e; rw [e] at hu; simp at hu)
        injection e with e
        subst e
        rw [show (⟨b, off, none⟩ : Addr).add j = ⟨b, off + j, none⟩ from by unfold Addr.add; split <;> simp_all]
        exact hc j u hu)
      rw [this]
      simp [bv, Function.comp_def]
    rw [run_bytesToString w ad _ c _ hl, foldl_bytes]
theorem Try.conv_str {w : World} {lo : Nat} {v : Value} {l : Bs} (h : BV w lo v l) : (convert 33 9 v).run Try.prog w = .ok (.string (str l)) w := h.str Try.underlying33 Try.underlying5 Try.underlying9
/-- What came in as a slice of integers: nil; or a row of 'cap' cells. -/
def IsRow (k : IntKind) (w : World) (a : Option Addr) (len cap : Nat) (zs : List Int) : Prop :=
  (a = none ∧ len = 0 ∧ cap = 0 ∧ zs = []) ∨
  ∃ x, a = some x ∧ len ≤ cap ∧ cap ≤ maxLen ∧ zs.length = cap ∧ (∀ i, i < zs.length → w.cell? (x.add i) = some (.int k (zs.getD i 0))) ∧ ∀ n ∈ zs, (Lit.int k n).wf = true

theorem spot_none {w : World} {x : Addr} {v : Value} (h : w.cell? (x.add 0) = some v) : ∃ b off, x = ⟨b, off, none⟩ := by
  obtain ⟨b, off, sp⟩ := x
  cases sp with
  | none => exact ⟨b, off, rfl⟩
  | some s => simp [Addr.add, World.cell?] at h; split at h <;> simp at h
def toBs (zs : List Int) : Bs := zs.map fun n => UInt8.ofNat n.toNat
theorem row_bv {w : World} {a : Option Addr} {len cap : Nat} {zs : List Int} (h : IsRow .u8 w a len cap zs) : BV w 0 (.slice a len cap) (toBs (zs.take len)) ∧ (toBs (zs.take len)).length = len ∧ len ≤ zs.length := by
  rcases h with ⟨rfl, rfl, rfl, rfl⟩ | ⟨x, rfl, h1, h2, h3, h4, h5⟩
  · exact ⟨Sl.nil_ w 0, rfl, Nat.le_refl _⟩
  · refine ⟨⟨some x, cap, by simp [toBs]; omega, by simp [toBs]; omega, h2, fun hne => ?_⟩, by simp [toBs]; omega, by omega⟩
    have hz : 0 < zs.length := by
      rcases Nat.eq_zero_or_pos zs.length with h | h
      · rw [List.eq_nil_of_length_eq_zero h] at hne; simp [toBs] at hne
      · exact h
    obtain ⟨b, off, rfl⟩ := spot_none (h4 0 hz)
    refine ⟨b, off, rfl, Nat.zero_le _, fun j u hu => ?_⟩
    unfold toBs at hu
    rw [List.getElem?_map, List.getElem?_map, List.getElem?_take] at hu
    split at hu
    · rename_i hj
      have hjz : j < zs.length := by omega
      rw [List.getElem?_eq_getElem hjz] at hu
      simp only [Option.map_some, Option.some.injEq] at hu
      have hw := h5 zs[j] (List.getElem_mem hjz)
      have hb : 0 ≤ zs[j] ∧ zs[j] ≤ 255 := by simpa [Lit.wf, IntKind.min, IntKind.max, IntKind.signed, IntKind.bits] using hw
      have h6 := h4 j hjz
      rw [show (⟨b, off, none⟩ : Addr).add j = ⟨b, off + j, none⟩ from by unfold Addr.add; split <;> simp_all] at h6
      rw [h6, ← hu]
      simp only [bv, List.getD, List.getElem?_eq_getElem hjz, Option.getD_some]
      congr 2
      simp
      omega
    · simp at hu
section bulk
variable {H : Type}
theorem bulk_app (a b : List (DataW H)) : Rows.uptoBulkAll (a ++ b) = Rows.uptoBulkAll a + Rows.uptoBulkAll b := by
  induction a with
  | nil => simp [Rows.uptoBulkAll]
  | cons x a ih => simp [Rows.uptoBulkAll, ih, Nat.add_assoc]
theorem bulk_lits (k : IntKind) (zs : List Int) : Rows.uptoBulkAll (lits (H := H) k zs) = zs.length := by
  induction zs with
  | nil => rfl
  | cons x a ih =>
    show Rows.uptoBulkAll (DataW.lit (.int k x) :: lits k a) = _
    simp only [Rows.uptoBulkAll, Rows.uptoBulk, ih, List.length_cons]; omega
end bulk
section
variable {H : Type} {enc : TypeId × Value → H} {W : World}
theorem ints_in {t e : TypeId} {k : IntKind} (ht : Try.prog.underlying t = some (.slice e)) (he : Try.prog.underlying e = some (.int k)) (hc : Try.prog.cellsOf e = 1) {v : Value} {d : DataW H} {p : List MemPlace} {r : Reach} {base : Nat}
    (hv : Value.okWide Try.prog W r base t v) (h0 : DataW.Trod enc Try.prog W 0 (fun _ => true) true t v d p) :
    ∃ a len cap zs, v = .slice a len cap ∧ IsRow k W a len cap zs ∧ zs.length ≤ Rows.uptoBulk d := by
  obtain ⟨a0, len0, cap0, rfl⟩ := okWide_slice ht hv
  obtain ⟨fuel, hf⟩ := h0
  rcases open_ints ht he hc hf with ⟨hcs, hx⟩ | ⟨x, l, c, zs, hcs, _, hl, hm, hz, hx, hcell, hwz⟩
  · simp [Value.cells] at hcs
    obtain ⟨rfl, rfl, rfl⟩ := hcs
    exact ⟨_, _, _, [], rfl, .inl ⟨rfl, rfl, rfl, rfl⟩, Nat.zero_le _⟩
  · simp [Value.cells] at hcs
    obtain ⟨rfl, rfl, rfl⟩ := hcs
    refine ⟨_, _, _, zs, rfl, .inr ⟨_, rfl, hl, hm, by simpa using hz, hcell, hwz⟩, ?_⟩
    simp only [Prod.mk.injEq] at hx
    rw [hx.1]
    simp only [Rows.uptoBulk, bulk_lits, List.length_take, List.length_drop]
    omega
end
end Go.Proofs.Ytckkaalejfmonaa
