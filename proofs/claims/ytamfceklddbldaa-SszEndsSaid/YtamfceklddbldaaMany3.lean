/- Contract of the program's Many. -/
import Derived.Test.YtamfceklddbldaaMany2
import Derived.Deep.RegionHeld3
import Derived.Deep.DeepCutAuto
import Derived.ScopeJumps
namespace Go.Proofs.Ytamfceklddbldaa
open Go.RowKit

theorem Try.info_int : (Try.prog.info? 3).map (fun i => (i.zero, i.size, i.bytes)) = some (some (.int .i64 0), 1, 8) := by kernel_rfl
theorem Try.info_bs : (Try.prog.info? 22).map (fun i => (i.zero, i.size, i.bytes)) = some (some (.slice none 0 0), 1, 24) := by kernel_rfl
theorem iv_one (l : List Int) : ∀ u ∈ l.map iv, u.oneCell' = true := by
  intro u hu; obtain ⟨x, _, rfl⟩ := List.mem_map.1 hu; rfl
/-- Numbers in a row of the call's own. -/
def OI (w : World) (B : Nat) (v : Value) (l : List Int) : Prop := w.ownsRow B 3 1 v l.length (l.map iv)
theorem OI.mk {w : World} {B n : Nat} {v : Value} {l : List Int} {xs : List Value} (h : w.ownsRow B 3 1 v n xs) (hn : n = l.length) (hx : xs = l.map iv) : OI w B v l := by subst hn hx; exact h
theorem OI.toIV {w : World} {B : Nat} {v : Value} {l : List Int} (h : OI w B v l) : IV w B v l := Sl.own h
theorem OI.row_ge {w : World} {B : Nat} {v : Value} {l : List Int} (h : OI w B v l) : ∀ k, v.ownBlock = some k → B ≤ k := fun k hk => (World.ownsRow.lt h k hk).1
theorem OI.form {w : World} {B : Nat} {v : Value} {l : List Int} (h : OI w B v l) : ∃ A c, v = .slice A l.length c := by
  obtain ⟨hl, h⟩ := h
  rcases h with ⟨rfl, h⟩ | ⟨g, cap, cur, rfl, _⟩
  · exact ⟨none, 0, by rw [h]⟩
  · exact ⟨_, _, rfl⟩
/-- Byte slices, each in a row of the call's own, in a row of the call's own. -/
def RO (w : World) (B : Nat) (v : Value) (ls : List Bs) : Prop := ∃ vs, w.ownsRow B 22 1 v ls.length vs ∧ ∀ (j : Nat) u l, vs[j]? = some u → ls[j]? = some l → OB w B u l
theorem RO.toRV {w : World} {B : Nat} {v : Value} {ls : List Bs} (h : RO w B v ls) : RV w B v ls := by
  obtain ⟨vs, h1, h2⟩ := h
  exact ⟨vs, Sl.own h1, by simpa using h1.1, fun j u l hu hl => (h2 j u l hu hl).toBV⟩
theorem RO.nil_ (w : World) (B : Nat) : RO w B (.slice none 0 0) [] := ⟨[], World.ownsRow_nil _ _ _ _, fun j u l h => by simp at h⟩

theorem BV.below {w w' : World} {B lo : Nat} {v : Value} {l : Bs} (h : BV w lo v l) (hb : Below B w w') (hB : w.heap.size ≤ B) : BV w' lo v l := Sl.below h hb hB
/-- A piece of a byte slice. -/
theorem BV.cut {w : World} {lo b off n c i j : Nat} {l : Bs} (h : BV w lo (.slice (some ⟨b, off, none⟩) n c) l) (hi : i ≤ j) (hj : j ≤ l.length) :
    BV w lo (.slice (some ⟨b, off + i, none⟩) (j - i) (c - i)) ((l.take j).drop i) := by
  obtain ⟨A, c', e, h1, h2, h3⟩ := h
  injection e with e1 e2 e3
  subst e1 e2 e3
  rw [List.length_map] at h1
  have hlen : (((l.take j).drop i).map bv).length = j - i := by simp; omega
  refine ⟨some ⟨b, off + i, none⟩, c - i, by rw [hlen], by rw [hlen]; omega, by omega, fun hne => ?_⟩
  obtain ⟨b', off', e, hlo, hc⟩ := h3 (by intro e; simp at e; simp [e] at hne)
  injection e with e
  injection e with e1 e2 _
  subst e1 e2
  refine ⟨b, off + i, rfl, hlo, fun m u hu => ?_⟩
  rw [Nat.add_assoc]
  refine hc (i + m) u ?_
  rw [List.getElem?_map, List.getElem?_drop, List.getElem?_take] at hu
  rw [List.getElem?_map]
  split at hu
  · exact hu
  · simp at hu
theorem BV.drop {w : World} {lo b off n c i : Nat} {l : Bs} (h : BV w lo (.slice (some ⟨b, off, none⟩) n c) l) (hi : i ≤ l.length) :
    BV w lo (.slice (some ⟨b, off + i, none⟩) (n - i) (c - i)) (l.drop i) := by
  have hn : n = l.length := by obtain ⟨A, c', e, _⟩ := h; injection e with _ e2 _; rw [e2, List.length_map]
  subst hn
  simpa using h.cut hi (Nat.le_refl _)
theorem BV.cutif {w : World} {lo b off n c i j : Nat} {l : Bs} (h : BV w lo (.slice (some ⟨b, off, none⟩) n c) l) (hi : i ≤ j) (hj : j ≤ l.length) :
    BV w lo (.slice (if c = i then some ⟨b, off, none⟩ else some ⟨b, off + i, none⟩) (j - i) (c - i)) ((l.take j).drop i) := by
  by_cases hc : c = i
  · rw [if_pos hc]
    have hlc : l.length ≤ c := by obtain ⟨A, c', e, h1, _⟩ := h; injection e with _ _ e3; rw [List.length_map] at h1; omega
    have e : (l.take j).drop i = [] := by apply List.eq_nil_of_length_eq_zero; simp; omega
    rw [e]
    exact ⟨_, _, by rw [List.map_nil, List.length_nil, show j - i = 0 from by omega], Nat.zero_le _, by rw [hc]; simp, fun h => absurd rfl h⟩
  · rw [if_neg hc]; exact h.cut hi hj
theorem offs_zeros_succ (k : Nat) (b : Bs) : offs (zeros (k + 1)) b = offs (zeros k) b ++ [off4 (b.drop (4 * k))] := by
  induction k generalizing b with
  | zero => rw [offs_zeros_cons]; simp [offs, zeros]
  | succ k ih => rw [offs_zeros_cons, ih (b.drop 4), offs_zeros_cons k b, List.drop_drop]; simp [show 4 + 4 * k = 4 * (k + 1) from by omega]
theorem offs_zeros_len (k : Nat) (b : Bs) : (offs (zeros k) b).length = k := by
  induction k generalizing b with
  | zero => rfl
  | succ k ih => rw [offs_zeros_cons, List.length_cons, ih]
def ints (l : List Nat) : List Int := l.map fun n : Nat => (n : Int)

/-- A scope in which the run may jump ahead to one label, whose rest has no jump. -/
def Ahead (P : Program) (l : Nat) (rest : Code) (Q : Exit → Act → World → Prop) : Exit → Act → World → Prop
  | .goto l', a, w => l' = l ∧ rest.wp P (Exit.noGoto Q) a w
  | e, a, w => Q e a w
theorem wp_scope_ahead {P : Program} {c rest : Code} {Q : Exit → Act → World → Prop} {a : Act} {w : World} (l : Nat) (hf : findLabel c l = some rest) (h : c.wp P (Ahead P l rest Q) a w) : (Code.scope c).wp P Q a w := by
  refine wp_scope_jumps l (fun a w => rest.wp P (Exit.noGoto Q) a w) (fun _ _ => 0) hf ?_ ?_
  · refine Code.wp_mono (fun e a w hq => ?_) h
    cases e <;> exact hq
  · intro a w hj
    refine Code.wp_mono (fun e a w hq => ?_) hj
    cases e <;> first | exact hq | exact hq.elim

/-- Rows of other elements are other rows. -/
theorem own_ne {w : World} {b1 b2 n1 n2 s1 s2 : Nat} {e1 e2 : TypeId} {v1 v2 : Value} {x1 x2 : List Value} (h1 : w.ownsRow b1 e1 s1 v1 n1 x1) (h2 : w.ownsRow b2 e2 s2 v2 n2 x2) (hne : e1 ≠ e2) : Apart v1 v2 := by
  intro k hk hk2
  rcases h1.2 with ⟨rfl, _⟩ | ⟨g1, c1, u1, rfl, _, g, _⟩
  · simp [Value.ownBlock] at hk
  rcases h2.2 with ⟨rfl, _⟩ | ⟨g2, c2, u2, rfl, _, g', _⟩
  · simp [Value.ownBlock] at hk2
  simp only [Value.ownBlock, Option.some.injEq] at hk hk2
  subst hk hk2
  rw [g] at g'
  injection g' with g'
  injection g' with _ g' _
  exact hne g'
theorem rises_at {e f : Nat} {l : List Nat} (h : rises e f l = true) (hf : f ≤ e) : ∀ j, j < l.length → (l ++ [e]).getD j 0 ≤ (l ++ [e]).getD (j + 1) 0 ∧ (l ++ [e]).getD (j + 1) 0 ≤ e := by
  induction l generalizing f with
  | nil => intro j hj; simp at hj
  | cons n r ih =>
    obtain ⟨h1, h2, h3⟩ := rises_cons h
    intro j hj
    cases j with
    | zero =>
      cases r with
      | nil => simp; omega
      | cons m r => obtain ⟨h4, h5, _⟩ := rises_cons h3; simp; omega
    | succ j => simpa using ih h3 h2 j (by simpa using hj)

theorem grown_of_below {a w : World} (h : Below a.heap.size a w) (row : Option Nat) : a.grownBy w row := ⟨h.os, h.tape, h.output, h.size, fun i hi _ => h.block i hi⟩
theorem OB.below {w w' : World} {B : Nat} {v : Value} {l : Bs} (h : OB w B v l) (hb : Below w.heap.size w w') : OB w' B v l :=
  World.ownsRow.kept h (grown_of_below hb none) (by cases hv : v.ownBlock <;> simp)
theorem OI.below {w w' : World} {B : Nat} {v : Value} {l : List Int} (h : OI w B v l) (hb : Below w.heap.size w w') : OI w' B v l :=
  World.ownsRow.kept h (grown_of_below hb none) (by cases hv : v.ownBlock <;> simp)
theorem OB.lower {w : World} {B B' : Nat} {v : Value} {l : Bs} (h : OB w B v l) (hb : B' ≤ B) : OB w B' v l := by
  obtain ⟨h1, h2⟩ := h
  refine ⟨h1, ?_⟩
  rcases h2 with h2 | ⟨g, cap, cur, hv, hg, r⟩
  · exact .inl h2
  · exact .inr ⟨g, cap, cur, hv, by omega, r⟩
theorem OI.form2 {w : World} {B : Nat} {v : Value} {l : List Int} (h : OI w B v l) (hne : l ≠ []) : ∃ g c, v = .slice (some ⟨g, 0, none⟩) l.length c ∧ l.length ≤ c := by
  obtain ⟨hl, h⟩ := h
  rcases h with ⟨rfl, h⟩ | ⟨g, cap, cur, rfl, _, _, h, _⟩
  · exact absurd (List.eq_nil_of_length_eq_zero h) hne
  · exact ⟨g, cap, rfl, h⟩
theorem OI.cell {w : World} {B g n c j : Nat} {l : List Int} (h : OI w B (.slice (some ⟨g, 0, none⟩) n c) l) (hj : j < l.length) : w.cell? ⟨g, j, none⟩ = some (.int .i64 (l.getD j 0)) := by
  have hn : n = l.length := by
    rcases h.2 with ⟨h, _⟩ | ⟨g', cap, cur, h, _⟩
    · cases h
    · injection h
  subst hn
  rw [World.ownsRow.cellAt h j (by omega)]
  simp [iv, List.getD, hj]
/-- A row of k byte slices, of which the first j are the first of ls. -/
def RP (w : World) (B : Nat) (v : Value) (k j : Nat) (ls : List Bs) : Prop := ∃ vs, w.ownsRow B 22 1 v k vs ∧ ∀ (m : Nat) u l, m < j → vs[m]? = some u → ls[m]? = some l → OB w B u l
theorem RP.below {w w' : World} {B k j : Nat} {v : Value} {ls : List Bs} (h : RP w B v k j ls) (hb : Below w.heap.size w w') : RP w' B v k j ls := by
  obtain ⟨vs, h1, h2⟩ := h
  exact ⟨vs, World.ownsRow.kept h1 (grown_of_below hb none) (by cases hv : v.ownBlock <;> simp), fun m u l hm hu hl => (h2 m u l hm hu hl).below hb⟩
theorem RP.store {w : World} {B k j g c : Nat} {u : Value} {l : Bs} {ls : List Bs} (h : RP w B (.slice (some ⟨g, 0, none⟩) k c) k j ls) (hj : j < k) (hu : OB w B u l) (hl : ls[j]? = some l) :
    RP (w.setCell ⟨g, j, none⟩ u) B (.slice (some ⟨g, 0, none⟩) k c) k (j + 1) ls ∧ w.grownBy (w.setCell ⟨g, j, none⟩ u) (some g) := by
  obtain ⟨vs, h1, h2⟩ := h
  obtain ⟨h3, h4⟩ := World.ownsRow.stored h1 j u
  refine ⟨⟨vs.set j u, h3, fun m u' l' hm hu' hl' => ?_⟩, h4⟩
  rw [List.getElem?_set] at hu'
  split at hu'
  · rename_i e
    subst e
    have hlen : j < vs.length := by have := h1.1; omega
    rw [if_pos hlen] at hu'
    injection hu' with hu'
    subst hu'
    rw [hl] at hl'
    injection hl' with hl'
    subst hl'
    exact (own_ne h1 hu (by decide)).kept hu h4
  · have ho := h2 m u' l' (by omega) hu' hl'
    exact (own_ne h1 ho (by decide)).kept ho h4
theorem RP.done {w : World} {B k : Nat} {v : Value} {ls : List Bs} (h : RP w B v k k ls) (hl : ls.length = k) : RO w B v ls := by
  obtain ⟨vs, h1, h2⟩ := h
  subst hl
  exact ⟨vs, h1, fun j u l hu hl => h2 j u l (List.getElem?_eq_some_iff.1 hl).1 hu hl⟩
theorem RP.cell {w : World} {B k j m g c : Nat} {ls : List Bs} (h : RP w B (.slice (some ⟨g, 0, none⟩) k c) k j ls) (hm : m < k) : (∃ u, w.cell? ⟨g, m, none⟩ = some u) ∧ w.frozen? ⟨g, m, none⟩ = false := by
  obtain ⟨vs, h1, h2⟩ := h
  have hlen : m < vs.length := by have := h1.1; omega
  exact ⟨⟨vs[m], by rw [World.ownsRow.cellAt h1 m (by omega)]; simp [hlen]⟩, World.ownsRow.frozenAt h1 m⟩
theorem RP.ge_ {w : World} {B k j g c : Nat} {ls : List Bs} (h : RP w B (.slice (some ⟨g, 0, none⟩) k c) k j ls) : B ≤ g := by
  obtain ⟨vs, h1, _⟩ := h
  exact (World.ownsRow.lt h1 g rfl).1
theorem RP.ne_ {w : World} {B B' k j g c g' n c' : Nat} {ls : List Bs} {l : List Int} (h : RP w B (.slice (some ⟨g, 0, none⟩) k c) k j ls) (h' : OI w B' (.slice (some ⟨g', 0, none⟩) n c') l) : g ≠ g' := by
  obtain ⟨vs, h1, _⟩ := h
  rintro rfl
  exact own_ne h1 h' (by decide) g rfl rfl
theorem fill_zeros_get (W : Bs) (k : Nat) (b : Bs) (os : List Nat) (j : Nat) (hj : j < k) : (fill W (zeros k) b os)[j]? = some ((W.take (os.getD (j + 1) 0)).drop (os.getD j 0)) := by
  induction k generalizing b os j with
  | zero => omega
  | succ k ih =>
    rw [zeros_succ]
    simp only [fill, if_true]
    cases j with
    | zero => simp
    | succ j =>
      rw [List.getElem?_cons_succ, ih _ _ j (by omega)]
      cases os <;> simp
theorem ints_getD (l : List Nat) (j : Nat) : (ints l).getD j 0 = ((l.getD j 0 : Nat) : Int) := by
  simp [ints, List.getD]
  cases l[j]? <;> simp

def ManyPost (w : World) (r : List Bs × Nat) (e : Ending) (w' : World) : Prop :=
  ∃ v', e = .returned (.tuple #[v', .int .i64 r.2]) ∧ RO w' w.heap.size v' r.1 ∧ Below w.heap.size w w'
theorem manyPost_drewN {w w' : World} {r : List Bs × Nat} {e : Ending} {n : Nat} (h : ManyPost w r e w') : ManyPost w r e (w'.drewN n) := by
  obtain ⟨v, h1, h2, h3⟩ := h
  exact ⟨v, h1, h2, below_drewN h3 n⟩
set_option maxHeartbeats 1600000 in
theorem many_any (v : Value) (b : Bs) (most : Int) (w : World) (h : BV w 0 v b) (hbl : b.length ≤ 140737488355328) :
    Calls Try.prog 15 #[v, .int .i64 most] w (ManyPost w (many b most)) := by
  obtain ⟨i0, hi, hz0, hz1, hz2⟩ := info_parts Try.info_int
  obtain ⟨i1, hj, hy0, hy1, hy2⟩ := info_parts Try.info_bs
  have HB := Lib.hid h
  obtain ⟨A, c, rfl, h1, h2⟩ := h.form
  clear h
  unfold maxLen at h2
  by_cases t1 : most < 0
  · have HE : Hid (many b most = ([], 1)) := by show _ = _; unfold many; rw [if_pos t1]
    rw [HE.out]
    go_enter Try.func15, Try.ntmps15
    go_wp2
    go_step3
    go_wp2
    rw [Exit.noGoto_ret]
    go_ret2
    exact ⟨_, rfl, RO.nil_ _ _, Below.refl _ _⟩
  by_cases t2 : b = []
  · subst t2
    have HE : Hid (many [] most = ([], 0)) := by show _ = _; unfold many; rw [if_neg t1, if_pos rfl]
    rw [HE.out]
    go_enter Try.func15, Try.ntmps15
    go_wp2
    go_step3
    go_wp2
    rw [Exit.noGoto_ret]
    go_ret2
    exact ⟨_, rfl, RO.nil_ _ _, Below.refl _ _⟩
  have t2' : ((b.length : Int) == 0) = false := by simp [t2]
  by_cases t3 : b.length < 4
  · have HE : Hid (many b most = ([], 4)) := by show _ = _; unfold many; rw [if_neg t1, if_neg t2, if_pos t3]
    rw [HE.out]
    clear t2
    go_enter Try.func15, Try.ntmps15
    go_wp2
    go_step3
    go_wp2
    rw [Exit.noGoto_ret]
    go_ret2
    exact ⟨_, rfl, RO.nil_ _ _, Below.refl _ _⟩
  have hoff := off4_lt b
  by_cases t4 : off4 b = 0 ∨ off4 b % 4 ≠ 0 ∨ b.length < off4 b
  · have HE : Hid (many b most = ([], 5)) := by show _ = _; unfold many; rw [if_neg t1, if_neg t2, if_neg t3, if_pos t4]
    rw [HE.out]
    have HC := Lib.hid (offset_any (.slice A b.length c) b w HB.out (by omega))
    have HT := Lib.hid t4
    clear t2 t4
    generalize off4 b = o at *
    by_cases u1 : o = 0
    · subst u1
      go_enter Try.func15, Try.ntmps15
      go_wp2
      refine wp_scope_ahead 0 rfl ?_
      go_wp2_with fail
      refine HC.out.mono ?_
      rintro e w1 ⟨rfl, n, rfl⟩
      go_wp2_with fail
      refine wp_goto (And.intro rfl ?_)
      go_wp2
      rw [Exit.noGoto_ret]
      go_ret2
      exact ⟨_, rfl, RO.nil_ _ _, below_drewN (Below.refl _ _) _⟩
    have u1' : ((o : Int) == 0) = false := by simp [u1]
    by_cases u2 : o % 4 = 0
    · have u3 : b.length < o := by rcases HT.out with h | h | h; exact absurd h u1; exact absurd u2 h; exact h
      have u2' : ((o : Int) % 4 != 0) = false := by simp; omega
      go_enter Try.func15, Try.ntmps15
      go_wp2
      refine wp_scope_ahead 0 rfl ?_
      go_wp2_with fail
      refine HC.out.mono ?_
      rintro e w1 ⟨rfl, n, rfl⟩
      go_wp2_with fail
      refine wp_goto (And.intro rfl ?_)
      go_wp2
      rw [Exit.noGoto_ret]
      go_ret2
      exact ⟨_, rfl, RO.nil_ _ _, below_drewN (Below.refl _ _) _⟩
    · have u2' : ((o : Int) % 4 != 0) = true := by simp; omega
      go_enter Try.func15, Try.ntmps15
      go_wp2
      refine wp_scope_ahead 0 rfl ?_
      go_wp2_with fail
      refine HC.out.mono ?_
      rintro e w1 ⟨rfl, n, rfl⟩
      go_wp2_with fail
      refine wp_goto (And.intro rfl ?_)
      go_wp2
      rw [Exit.noGoto_ret]
      go_ret2
      exact ⟨_, rfl, RO.nil_ _ _, below_drewN (Below.refl _ _) _⟩
  have g1 : off4 b ≠ 0 := fun h => t4 (.inl h)
  have g2 : off4 b % 4 = 0 := by rcases Nat.decEq (off4 b % 4) 0 with h | h; exact absurd (.inr (.inl h)) t4; exact h
  have g3 : off4 b ≤ b.length := by rcases Nat.lt_or_ge b.length (off4 b) with h | h; exact absurd (.inr (.inr h)) t4; exact h
  have HC := Lib.hid (offset_any (.slice A b.length c) b w HB.out (by omega))
  by_cases t5 : most < ((off4 b / 4 : Nat) : Int)
  · have HE : Hid (many b most = ([], 6)) := by show _ = _; unfold many; rw [if_neg t1, if_neg t2, if_neg t3, if_neg t4, if_pos t5]
    rw [HE.out]
    clear t2 t4
    generalize off4 b = o at *
    have u1' : ((o : Int) == 0) = false := by simp [g1]
    have u2' : ((o : Int) % 4 != 0) = false := by simp; omega
    have t5' : most < (o : Int) / 4 := by omega
    go_enter Try.func15, Try.ntmps15
    go_wp2
    go_step3
    go_wp2_with fail
    refine HC.out.mono ?_
    rintro e w1 ⟨rfl, n, rfl⟩
    go_wp2_with fail
    rw [Exit.noGoto_ret]
    go_ret2
    exact ⟨_, rfl, RO.nil_ _ _, below_drewN (Below.refl _ _) _⟩
  obtain ⟨M, hM⟩ : ∃ M, off4 b = 4 * M := ⟨off4 b / 4, by omega⟩
  have hM0 : 0 < M := by omega
  have hMb : 4 * M ≤ b.length := by omega
  have hMx : M < 1073741824 := by omega
  have HE : Hid (many b most = if rises b.length (4 * M) (offs (zeros M) b) = false then ([], 5) else (cutParts b (zeros M), 0)) := by
    show _ = _; unfold many; rw [if_neg t1, if_neg t2, if_neg t3, if_neg t4, if_neg t5, hM, show 4 * M / 4 = M from by omega]
  rw [hM] at HC
  have u1' : (4 * (M : Int) == 0) = false := by simp; omega
  have u2' : (4 * (M : Int) % 4 != 0) = false := by simp
  have u5 : (M : Int) ≤ most := by omega
  obtain ⟨bb, off, hA⟩ : ∃ bb off, A = some ⟨bb, off, none⟩ := by
    obtain ⟨bb, off, c', e, _⟩ := HB.out.at_ t2
    injection e with e _ _
    exact ⟨bb, off, e⟩
  subst hA
  clear t2 t4 hM g1 g2 g3 hoff t5
  have HL := Lib.hid (offs_zeros_succ)
  go_enter Try.func15, Try.ntmps15
  go_wp2
  refine wp_scope_ahead 0 rfl ?_
  go_wp2_with fail
  refine HC.out.mono ?_
  rintro e w1 ⟨rfl, n1, rfl⟩
  go_wp2_with fail
  go_loopw [6, 8] (fun s i wr => ∃ k : Nat, k ≤ M ∧ i = .int .i64 (4 * (k : Int)) ∧ OI wr w.heap.size s (ints (offs (zeros k) b)) ∧ Below w.heap.size w wr) (fun _ i _ => 4 * M - (intOf i).toNat)
  case atStart => exact ⟨0, Nat.zero_le _, rfl, World.ownsRow_nil _ _ _ _, below_drewN (Below.refl _ _) _⟩
  case round =>
    obtain ⟨k, hk, rfl, ho1, hbw⟩ := hrel
    have hsz := hbw.size
    have O1 := Lib.hid ho1
    have BW := Lib.hid hbw
    have hol : Hid ((ints (offs (zeros k) b)).length = k) := by show _ = _; simp [ints, offs_zeros_len]
    clear ho1 hbw
    by_cases hlt : k < M
    · have q1 : 4 * (k : Int) < 4 * (M : Int) := by omega
      have q2 : 4 * (k : Int) < (b.length : Int) := by omega
      go_wp2_with fail
      refine (offset_any _ (b.drop (4 * k)) wr ?_ ?_).mono ?_
      · exact BV.drop (l := b) (BV.below HB.out BW.out (Nat.le_refl _)) (by omega)
      · rw [List.length_drop]; omega
      rintro e w2 ⟨rfl, n2, rfl⟩
      have HX := Lib.hid (offs_zeros_succ k b)
      generalize hX : off4 (b.drop (4 * k)) = x at *
      clear hX
      go_wp2_with (at_builtin; refine wpList_append_sl _ rfl _ _ 36 rfl w.heap.size wr.heap.size 3 i0 (.int .i64 0) 8 Try.underlying36 hi hz0 hz1 hz2 rfl _ _ _ rfl (World.ownsRow.alloc O1.out _) (.slice (some ⟨wr.heap.size, 0, none⟩) 1 1) [iv x] rfl (sl_new wr [iv x] 3 (by simp [maxLen])) (by simp [iv, Value.oneCell']) ?c3 ?c4 ?c5 ?_)
      case c3 => rw [hol.out]; simp only [List.length_cons, List.length_nil, maxLen]; omega
      case c4 => rw [hol.out]; simp only [List.length_cons, List.length_nil]; omega
      case c5 => simp; omega
      intro v2 w3 hown hgrow _
      have Q1 : Hid (OI w3 w.heap.size v2 (ints (offs (zeros (k + 1)) b))) := by
        show OI _ _ _ _
        rw [HX.out]
        exact OI.mk hown (by simp [ints]) (by simp [ints])
      have B2 : Hid (Below w.heap.size w w3) := (below_drewN (BW.out.alloc hsz _) n2).grown hgrow (by simp; omega) (OI.row_ge O1.out)
      clear hown hgrow O1 BW HX
      go_wp2
      go_roundw
      case rel => exact ⟨k + 1, by omega, by go_num, Q1.out, B2.out⟩
      case measure => simp [intOf]; omega
    · obtain rfl : k = M := by omega
      have HR : Hid (risesZ (b.length : Int) (4 * (k : Int)) (ints (offs (zeros k) b)) = rises b.length (4 * k) (offs (zeros k) b)) := by
        show _ = _
        rw [← risesZ_nat]; simp [ints]
      have HCr := rise_any u6 (ints (offs (zeros k) b)) (4 * (k : Int)) (b.length : Int) wr (Sl.lower (OI.toIV O1.out) (Nat.zero_le _))
      cases hr : rises b.length (4 * k) (offs (zeros k) b) with
      | false =>
        rw [HR.out, hr] at HCr
        have HE' : Hid (many b most = ([], 5)) := by show _ = _; rw [HE.out, hr]; rfl
        clear hr
        have HCr' := Lib.hid HCr
        clear HCr
        go_wp2_with fail
        refine HCr'.out.mono ?_
        rintro e w2 ⟨rfl, rfl⟩
        go_wp2_with fail
        refine wp_goto (And.intro rfl ?_)
        go_wp2
        rw [Exit.noGoto_ret]
        go_ret2
        refine (show ManyPost w (many b most) _ _ from ?_)
        rw [HE'.out]
        exact ⟨_, rfl, RO.nil_ _ _, BW.out⟩
      | true =>
        rw [HR.out, hr] at HCr
        have HE' : Hid (many b most = (cutParts b (zeros k), 0)) := by show _ = _; rw [HE.out, hr]; rfl
        have hat := rises_at hr hMb
        rw [offs_zeros_len] at hat
        have HAT := Lib.hid hat
        have HCr' := Lib.hid HCr
        clear HCr hr hat HE HR
        go_wp2_with fail
        refine HCr'.out.mono ?_
        rintro e w2 ⟨rfl, rfl⟩
        go_wp2_with (at_builtin; refine wpList_append_sl _ rfl _ _ 36 rfl w.heap.size wr.heap.size 3 i0 (.int .i64 0) 8 Try.underlying36 hi hz0 hz1 hz2 rfl _ _ _ rfl (World.ownsRow.alloc O1.out _) (.slice (some ⟨wr.heap.size, 0, none⟩) 1 1) [iv b.length] rfl (sl_new wr [iv b.length] 3 (by simp [maxLen])) (by simp [iv, Value.oneCell']) ?c3 ?c4 ?c5 ?_)
        case c3 => rw [hol.out]; simp only [List.length_cons, List.length_nil, maxLen]; omega
        case c4 => rw [hol.out]; simp only [List.length_cons, List.length_nil]; omega
        case c5 => simp; omega
        intro v2 w3 hown hgrow _
        have Q1 : Hid (OI w3 w.heap.size v2 (ints (offs (zeros k) b ++ [b.length]))) := OI.mk hown (by simp [ints]) (by simp [ints])
        have B2 : Hid (Below w.heap.size w w3) := (BW.out.alloc hsz _).grown hgrow (by simp; omega) (OI.row_ge O1.out)
        have hsz3 := B2.out.size
        clear hown hgrow O1 BW hsz
        go_wp2_with (first | (at_make; refine wpList_make_full _ rfl _ _ 28 rfl w.heap.size 22 i1 (.slice none 0 0) 1 Try.underlying28 hj hy0 hy1 .i64 .i64 _ _ k rfl rfl rfl rfl ?m1 ?m2 ?m3 ?_))
        case m1 => rw [hy2]; omega
        case m2 => unfold maxLen; omega
        case m3 => exact hsz3
        intro w4 hown4 hgrow4
        have R4 : Hid (RP w4 w.heap.size (.slice (some ⟨w3.heap.size, 0, none⟩) k k) k 0 (cutParts b (zeros k))) := ⟨_, hown4, fun m u l hm => absurd hm (Nat.not_lt_zero _)⟩
        have Q4 : Hid (OI w4 w.heap.size v2 (ints (offs (zeros k) b ++ [b.length]))) := World.ownsRow.kept Q1.out hgrow4 (by cases hv : v2.ownBlock <;> simp)
        have B4 : Hid (Below w.heap.size w w4) := B2.out.grown hgrow4 hsz3 (by simp)
        clear hown4 hgrow4 Q1 B2
        have hal : (ints (offs (zeros k) b ++ [b.length])).length = k + 1 := by simp [ints, offs_zeros_len]
        obtain ⟨ga, ca, hv2, hca⟩ := Q4.out.form2 (by intro e; rw [e] at hal; simp at hal)
        rw [hal] at hv2 hca
        subst hv2
        have HAL := Lib.hid hal
        clear hal
        generalize hG : w3.heap.size = G at *
        clear hG
        go_wp2
        go_loopw [69] (fun i wq => ∃ j : Nat, j ≤ k ∧ i = .int .i64 j ∧ RP wq w.heap.size (.slice (some ⟨G, 0, none⟩) k k) k j (cutParts b (zeros k)) ∧ OI wq w.heap.size (.slice (some ⟨ga, 0, none⟩) (k + 1) ca) (ints (offs (zeros k) b ++ [b.length])) ∧ Below w.heap.size w wq) (fun i _ => k - (intOf i).toNat)
        case atStart => exact ⟨0, Nat.zero_le _, rfl, R4.out, Q4.out, B4.out⟩
        case round =>
          clear R4 Q4 B4 hol
          obtain ⟨j, hj, rfl, hr, ho, hb⟩ := hrel
          have R := Lib.hid hr
          have O := Lib.hid ho
          have BW := Lib.hid hb
          have hsz := hb.size
          clear hr ho hb
          by_cases hlt : j < k
          · have ca1 := O.out.cell (j := j) (by rw [HAL.out]; omega)
            have ca2 := O.out.cell (j := j + 1) (by rw [HAL.out]; omega)
            rw [ints_getD] at ca1 ca2
            obtain ⟨hx1, hx2⟩ := HAT.out j hlt
            have HP : Hid ((cutParts b (zeros k))[j]? = some ((b.take ((offs (zeros k) b ++ [b.length]).getD (j + 1) 0)).drop ((offs (zeros k) b ++ [b.length]).getD j 0))) := fill_zeros_get _ _ _ _ _ hlt
            generalize (offs (zeros k) b ++ [b.length]).getD j 0 = x at *
            generalize (offs (zeros k) b ++ [b.length]).getD (j + 1) 0 = y at *
            have i1 : (0 : Int) ≤ (x : Int) := by omega
            have i2 : (x : Int) ≤ (y : Int) := by omega
            have i3 : (y : Int) ≤ (c : Int) := by omega
            have i4 : (j : Int) < (k : Int) := by omega
            have i0 : (0 : Int) ≤ (j : Int) := by omega
            have i5 : (j : Int) + 1 < (k : Int) + 1 := by omega
            have i6 : (j : Int) < (k : Int) + 1 := by omega
            have i7 : (0 : Int) ≤ (j : Int) + 1 := by omega
            have i8 : IntKind.i64.wrap ((j : Int) + 1) = (j : Int) + 1 := IntWalk.i64_in _ (by omega)
            have i9 : ((j : Int) + 1).toNat = j + 1 := by omega
            obtain ⟨⟨uu, hc⟩, hf⟩ := R.out.cell hlt
            have hgG : G < wr.heap.size := blk_lt hc
            have hne : G ≠ ga := R.out.ne_ O.out
            have hge : w.heap.size ≤ G := R.out.ge_
            have hga : ga < wr.heap.size := blk_lt ca1
            have HCL : Hid (BV wr.drew 0 (.slice (if c = x then some ⟨bb, off, none⟩ else some ⟨bb, off + x, none⟩) (y - x) (c - x)) ((b.take y).drop x)) := BV.cutif (BV.below HB.out BW.out.drew (Nat.le_refl _)) hx1 hx2
            have hlx : ((b.take y).drop x).length ≤ 140737488355328 := by simp only [List.length_drop, List.length_take]; omega
            go_wp2_with fail
            go_region_held3 (fun w' => w'.cell? ⟨ga, j, none⟩ = some (.int .i64 (x : Int)) ∧ w'.cell? ⟨ga, j + 1, none⟩ = some (.int .i64 (y : Int)))
              (first | exact ⟨ca1, ca2⟩ | exact ⟨(B9.out.cell (p := ⟨ga, j, none⟩) hga).trans ca1, (B9.out.cell (p := ⟨ga, j + 1, none⟩) hga).trans ca2⟩ | exact ⟨(World.cell?_setCell_other _ _ _ _ (fun e => hne (congrArg Addr.block e))).trans ((B9.out.cell (p := ⟨ga, j, none⟩) hga).trans ca1), (World.cell?_setCell_other _ _ _ _ (fun e => hne (congrArg Addr.block e))).trans ((B9.out.cell (p := ⟨ga, j + 1, none⟩) hga).trans ca2)⟩ | go_keep)
              (first | (go_at_call 29; refine (clone_any _ _ _ HCL.out hlx).mono ?_; rintro e w9 ⟨v9, rfl, o9, b9⟩; obtain ⟨A9, c9, rfl⟩ := o9.form; have hc9 := (b9.cell (p := ⟨G, j, none⟩) hgG).trans hc; have hf9 := (b9.frozen (p := ⟨G, j, none⟩) hgG).trans hf; have O9 := Lib.hid o9; have B9 := Lib.hid b9; clear o9 b9; dsimp only))
            have hlp : ((b.take y).drop x).length = y - x := by simp only [List.length_drop, List.length_take]; omega
            have ox := OB.lower O9.out hsz
            rw [hlp] at ox
            have BN : Hid (Below wr.heap.size wr w9) := ((Below.refl _ wr).drew).trans B9.out
            obtain ⟨r9, g9⟩ := RP.store (R.out.below BN.out) hlt ox HP.out
            have R9 := Lib.hid r9
            have Q9 : Hid (OI _ w.heap.size (.slice (some ⟨ga, 0, none⟩) (k + 1) ca) (ints (offs (zeros k) b ++ [b.length]))) := World.ownsRow.kept (O.out.below BN.out) g9 (.inr (fun e => hne (by injection e with e; exact e.symm)))
            have BB : Hid (Below w.heap.size w _) := (BW.out.trans (BN.out.mono hsz)).grown g9 (Nat.le_trans hsz BN.out.size) (by intro k hk; injection hk with hk; omega)
            clear hlp ox r9 g9
            go_wp2
            go_roundw
            case rel => exact ⟨j + 1, by omega, by go_num, R9.out, Q9.out, BB.out⟩
            case measure => simp [intOf]; omega
          · obtain rfl : j = k := by omega
            go_wp2
            rw [show ∀ a w, Ahead _ _ _ _ Exit.ret a w = _ from fun a w => rfl]
            go_ret2
            refine (show ManyPost w (many b most) _ _ from ?_)
            rw [HE'.out]
            exact ⟨_, rfl, R.out.done (by unfold cutParts; rw [fill_len]; simp [zeros]), BW.out⟩
end Go.Proofs.Ytamfceklddbldaa
