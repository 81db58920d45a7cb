/- Appending a slice that reads as a list to a row of the call's own; put, four, Clone. -/
import Derived.Test.YtamfceklddbldaaSizes
import Derived.Maps.AppendAt
namespace Go.Proofs.Ytamfceklddbldaa
open Go.RowKit

/-- Where the value lies behind an append: where it lay, or in new memory. -/
def Moves (w : World) (v v' : Value) : Prop := v'.ownBlock = v.ownBlock ∨ ∃ k, w.heap.size ≤ k ∧ v'.ownBlock = some k
theorem Moves.refl (w : World) (v : Value) : Moves w v v := .inl rfl
theorem Moves.trans {w w' : World} {a b c : Value} (h : Moves w a b) (h' : Moves w' b c) (hw : w.heap.size ≤ w'.heap.size) : Moves w a c := by
  rcases h' with h' | ⟨k, hk, h'⟩
  · rcases h with h | ⟨k, hk, h⟩
    · exact .inl (h'.trans h)
    · exact .inr ⟨k, hk, h'.trans h⟩
  · exact .inr ⟨k, by omega, h'⟩

section
variable {P : Program} (w : World)
theorem run_append_nil_src (base : Nat) (t ty e : TypeId) (i : TypeInfo) (size : Nat) (ht : P.underlying t = some (.slice e)) (hi : P.info? e = some i)
    (v : Value) (n : Nat) (xs : List Value) (hown : w.ownsRow base e size v n xs) (c : Nat) : (Builtin.append_ #[t, t] ty #[v, .slice none 0 c]).run P w = .ok v w := by
  rcases hown.2 with ⟨rfl, rfl⟩ | ⟨g, cap, cur, rfl, _, _, hnc, _⟩
  · simp [Builtin.append_, run_underlying ht, sizeOf, typeInfo, hi, Builtin.lenOf, Builtin.firstCells]
  · simp [Builtin.append_, run_underlying ht, sizeOf, typeInfo, hi, Builtin.lenOf, Builtin.firstCells, hnc, storeCells]

theorem run_append_sl (base lo : Nat) (t ty e : TypeId) (i : TypeInfo) (z : Value) (bytes : Nat) (ht : P.underlying t = some (.slice e)) (hi : P.info? e = some i) (hz : i.zero = some z)
    (hsize : i.size = 1) (hby : i.bytes = bytes) (hzs : z.cells.size = 1)
    (v : Value) (n : Nat) (xs : List Value) (hown : w.ownsRow base e 1 v n xs) (x : Value) (news : List Value) (hx : Sl w lo x news) (h1 : ∀ u ∈ news, u.oneCell' = true)
    (h63 : n + news.length ≤ maxLen) (hbytes : (n + news.length) * bytes ≤ 140737488355328) (hbase : base ≤ w.heap.size) :
    ∃ v' w', (Builtin.append_ #[t, t] ty #[v, x]).run P w = .ok v' w' ∧ w'.ownsRow base e 1 v' (n + news.length) (xs ++ news) ∧ w.grownBy w' v.ownBlock ∧ Moves w v v' := by
  obtain ⟨A, c, rfl, _, _, h3⟩ := hx
  rcases A with _ | ad
  · have hn : news = [] := by
      cases news with
      | nil => rfl
      | cons u r => obtain ⟨b, off, e, _⟩ := h3 (by simp); cases e
    subst hn
    exact ⟨v, w, run_append_nil_src w base t ty e i 1 ht hi v n xs hown c, by simpa using hown, World.grownBy.refl w _, .inl rfl⟩
  · have hcells : ∀ j u, news[j]? = some u → w.cell? (ad.add j) = some u := by
      intro j u hu
      obtain ⟨b, off, e, _, hc⟩ := h3 (by rintro rfl; simp at hu)
      injection e with e
      subst e
      rw [show (⟨b, off, none⟩ : Addr).add j = ⟨b, off + j, none⟩ from by unfold Addr.add; split <;> simp_all]
      exact hc j u hu
    obtain ⟨v', w', hrun, h2, h3, _, h5⟩ := run_append_own_at (P := P) w base t ty e i z 1 bytes ht hi hz hsize hby hzs (by omega) v n xs hown ad news.length c news (by simp) hcells h1 h63 hbytes hbase
    refine ⟨v', w', hrun, h2, h3, ?_⟩
    rcases h5 with h5 | h5
    · exact .inl h5
    · exact .inr ⟨_, Nat.le_refl _, h5⟩

theorem wpList_append_sl {ops : Array Oper} {rest : List Oper} {o : Oper} {a : Act} {Q : Exit → Act → World → Prop} (hgd : o.guard = none) (s y : Operand) (t : TypeId)
    (ho : o.op = .call { callee := .builtin .append, args := #[s, y], argTypes := #[t, t] })
    (base lo : Nat) (e : TypeId) (i : TypeInfo) (z : Value) (bytes : Nat) (ht : P.underlying t = some (.slice e)) (hi : P.info? e = some i) (hz : i.zero = some z)
    (hsize : i.size = 1) (hby : i.bytes = bytes) (hzs : z.cells.size = 1)
    (v : Value) (n : Nat) (xs : List Value) (hs : a.eval s = v) (hown : w.ownsRow base e 1 v n xs) (x : Value) (news : List Value) (hy : a.eval y = x) (hx : Sl w lo x news) (h1 : ∀ u ∈ news, u.oneCell' = true)
    (h63 : n + news.length ≤ maxLen) (hbytes : (n + news.length) * bytes ≤ 140737488355328) (hbase : base ≤ w.heap.size)
    (h : ∀ v' w', w'.ownsRow base e 1 v' (n + news.length) (xs ++ news) → w.grownBy w' v.ownBlock → Moves w v v' → wpList P ops Q rest (a.put o.dst v') w') : wpList P ops Q (o :: rest) a w := by
  refine wpList_plain hgd fun K hK => ?_
  obtain ⟨v', w', hr, h2, h3, h4⟩ := run_append_sl (P := P) w base lo t o.type e i z bytes ht hi hz hsize hby hzs v n xs hown x news hx h1 h63 hbytes hbase
  unfold Oper.wp execOp
  simp only [ho, resolve, invoke, builtin, Sem.run_bind, Sem.run_pure, Result.andThen_ok, List.map_toArray, List.map_cons, List.map_nil, hs, hy, hr]
  exact hK _ _ (h v' w' h2 h3 h4)
end

theorem Try.info_u8 : (Try.prog.info? 5).map (fun i => (i.zero, i.size, i.bytes)) = some (some (.int .u8 0), 1, 1) := by kernel_rfl
theorem bv_one (l : Bs) : ∀ u ∈ l.map bv, u.oneCell' = true := by
  intro u hu; obtain ⟨x, _, rfl⟩ := List.mem_map.1 hu; rfl
/-- Bytes in a row of the call's own. -/
def OB (w : World) (B : Nat) (v : Value) (l : Bs) : Prop := w.ownsRow B 5 1 v l.length (l.map bv)
theorem OB.toBV {w : World} {B : Nat} {v : Value} {l : Bs} (h : OB w B v l) : BV w B v l := Sl.own h

theorem four_vals (n : Nat) : (four n).map bv = [.int .u8 ((n % 256 : Nat) : Int), .int .u8 ((n / 256 % 256 : Nat) : Int), .int .u8 ((n / 65536 % 256 : Nat) : Int), .int .u8 ((n / 16777216 % 256 : Nat) : Int)] := by
  simp [four, bv]

set_option maxHeartbeats 400000 in
theorem four_any (n : Nat) (w : World) (_hn : n < 4611686018427387904) :
    Calls Try.prog 26 #[.int .i64 n] w fun e w' => e = .returned (.slice (some ⟨w.heap.size, 0, none⟩) 4 4) ∧ w' = w.alloc (.cells ((four n).map bv).toArray 5) := by
  rw [four_vals]
  go_enter Try.func26, Try.ntmps26
  go_wp2
  go_ret
  exact ⟨rfl, by simp⟩

/-- What an append onto bytes of the call's own leaves. -/
def AppPost (w : World) (B : Nat) (v : Value) (l news : Bs) (e : Ending) (w' : World) : Prop :=
  ∃ v', e = .returned v' ∧ OB w' B v' (l ++ news) ∧ w.grownBy w' v.ownBlock ∧ Moves w v v'
theorem grownBy_of_alloc {w w' : World} {o : Obj} {row : Option Nat} (h : (w.alloc o).grownBy w' row) : w.grownBy w' row :=
  (World.grownBy_alloc w o row).trans h
theorem Moves.of_alloc {w : World} {o : Obj} {v v' : Value} (h : Moves (w.alloc o) v v') : Moves w v v' := by
  rcases h with h | ⟨k, hk, h⟩
  · exact .inl h
  · exact .inr ⟨k, by simp at hk; omega, h⟩
theorem OB.mk {w : World} {B n : Nat} {v : Value} {l : Bs} {xs : List Value} (h : w.ownsRow B 5 1 v n xs) (hn : n = l.length) (hx : xs = l.map bv) : OB w B v l := by subst hn hx; exact h

set_option maxHeartbeats 400000 in
theorem put_any (v : Value) (l : Bs) (n B : Nat) (w : World) (_hn : n < 4611686018427387904) (h : OB w B v l) (hB : B ≤ w.heap.size) (hl : l.length + 4 ≤ 140737488355328) :
    Calls Try.prog 25 #[v, .int .i64 n] w (AppPost w B v l (four n)) := by
  obtain ⟨i0, hi, hz0, hz1, hz2⟩ := info_parts Try.info_u8
  have HV := Lib.hid (four_vals n)
  go_enter Try.func25, Try.ntmps25
  go_wp2_with (at_builtin; refine wpList_append_own_at _ rfl _ _ 22 rfl B 5 i0 (.int .u8 0) 1 1 Try.underlying22 hi hz0 hz1 hz2 rfl (by omega) v l.length _ rfl (World.ownsRow.alloc h _) ⟨w.heap.size, 0, none⟩ 4 4 [.int .u8 ((n % 256 : Nat) : Int), .int .u8 ((n / 256 % 256 : Nat) : Int), .int .u8 ((n / 65536 % 256 : Nat) : Int), .int .u8 ((n / 16777216 % 256 : Nat) : Int)] rfl rfl ?c1 ?c2 ?c3 ?c4 ?c5 ?_)
  case c1 =>
    intro j u hu
    match j, hu with
    | 0, hu | 1, hu | 2, hu | 3, hu => simp at hu; subst hu; simp [World.cell?_alloc_new, Addr.add]
  case c2 => simp [Value.oneCell']
  case c3 => unfold maxLen; omega
  case c4 => omega
  case c5 => simp; omega
  intro v' w1 hown hgrow _ hat
  have HO : Hid (OB w1 B v' (l ++ four n)) := OB.mk hown (by simp [four_len]) (by rw [List.map_append, HV.out]; simp)
  have HG : Hid (w.grownBy w1 v.ownBlock) := grownBy_of_alloc hgrow
  have HM : Hid (Moves w v v') := by
    rcases hat with hat | hat
    · exact .inl hat
    · exact .inr ⟨_, by simp, hat⟩
  clear hown hgrow hat
  go_wp2
  go_ret
  exact ⟨v', rfl, HO, HG, HM⟩

/-- What Clone leaves. -/
def ClonePost (w : World) (l : Bs) (e : Ending) (w' : World) : Prop :=
  ∃ v', e = .returned v' ∧ OB w' w.heap.size v' l ∧ Below w.heap.size w w'
set_option maxHeartbeats 400000 in
theorem clone_any (v : Value) (l : Bs) (w : World) (h : BV w 0 v l) (hl : l.length ≤ 140737488355328) :
    Calls Try.prog 29 #[v] w (ClonePost w l) := by
  obtain ⟨i0, hi, hz0, hz1, hz2⟩ := info_parts Try.info_u8
  have hsl : Sl w 0 v (l.map bv) := h
  obtain ⟨A, c, rfl, h1, h2, h3⟩ := h
  clear h1 h2
  have q : ∀ (w : World) (a : Option Addr) (n c n' c' : Nat), (binOp .eql 22 (.slice a n c) (.slice none n' c')).run Try.prog w = .ok (.bool a.isNone) w := fun w a n c n' c' => Lib.run_eql_slice_nil w _ _ a n c n' c' Try.underlying22
  rcases A with _ | ad
  · have : l = [] := by
      cases l with
      | nil => rfl
      | cons x r => obtain ⟨b, off, e, _⟩ := h3 (by simp); cases e
    subst this
    clear h3 hsl
    go_enter Try.func29, Try.ntmps29
    go_wp2
    go_ret
    exact ⟨_, rfl, World.ownsRow_nil _ _ _ _, Below.refl _ _⟩
  · have H := Lib.hid hsl
    clear h3 hsl
    rw [List.length_map] at H ⊢
    go_enter Try.func29, Try.ntmps29
    go_wp2_with (at_builtin; refine wpList_append_sl _ rfl _ _ 22 rfl w.heap.size 0 5 i0 (.int .u8 0) 1 Try.underlying22 hi hz0 hz1 hz2 rfl _ 0 [] rfl (World.ownsRow_made w #[] 0 (Nat.le_refl _) (Nat.zero_le _) rfl) _ (l.map bv) rfl (Sl.alloc H.out _) (bv_one l) ?c3 ?c4 ?c5 ?_)
    case c3 => rw [List.length_map]; unfold maxLen; omega
    case c4 => rw [List.length_map]; omega
    case c5 => simp
    intro v' w1 hown hgrow _
    have HO : Hid (OB w1 w.heap.size v' l) := OB.mk hown (by simp) rfl
    have HG : Hid (Below w.heap.size w w1) := ((Below.refl _ w).alloc (Nat.le_refl _) _).grown hgrow (by simp) (by intro k hk; simp [Value.ownBlock] at hk; omega)
    clear hown hgrow
    go_wp2
    go_ret
    exact ⟨v', rfl, HO, HG⟩
end Go.Proofs.Ytamfceklddbldaa
