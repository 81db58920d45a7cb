/- Contract of pick.draw. -/
import Derived.Test.YtfagmjlgpfnniaaDoorOf
namespace Go.Proofs.YtfagmjlgpfnniaaDoor
open Go.RowKit

/-- Is the i-th candidate taken? -/
def accB (D : SD) (all : List Nat) (S : Nat → Nat) (i : Nat) : Bool := decide (32000000000 * behindF S (i / 32) (i % 32) ≤ D.eff (all.getD (i % all.length) 0) * 255 % 18446744073709551616)
def drawF (D : SD) (all : List Nat) (S : Nat → Nat) (want : Nat) : Nat → Nat → List Nat → Option (List Nat)
  | 0, _, _ => none
  | f + 1, i, out => if out.length = want then some out else if all.length = 0 ∨ i = 256 then none else drawF D all S want f (i + 1) (if accB D all S i = true then out ++ [all.getD (i % all.length) 0] else out)
/-- Who is drawn from a list. -/
def drawR (D : SD) (l : List Nat) (S : Nat → Nat) (want : Nat) : Option (List Nat) := drawF D (shufF S l) S want 257 0 []
theorem drawF_mem (D : SD) (all : List Nat) (S : Nat → Nat) (want : Nat) : ∀ f i out r, (∀ x ∈ out, x ∈ all) → drawF D all S want f i out = some r → r.length = want ∧ ∀ x ∈ r, x ∈ all
  | 0, _, _, _, _, h => by simp [drawF] at h
  | f + 1, i, out, r, ho, h => by
    rw [drawF] at h
    split at h
    · rename_i hl; injection h with h; subst h; exact ⟨hl, ho⟩
    · split at h
      · cases h
      · rename_i hn
        refine drawF_mem D all S want f (i + 1) _ r ?_ h
        intro x hx
        split at hx
        · rcases List.mem_append.1 hx with hx | hx
          · exact ho x hx
          · rw [List.mem_singleton] at hx
            subst hx
            have hlt : i % all.length < all.length := Nat.mod_lt _ (by omega)
            rw [List.getD_eq_getElem?_getD, List.getElem?_eq_getElem hlt]
            exact List.getElem_mem hlt
        · exact ho x hx
theorem drawR_mem {D : SD} {l : List Nat} {S : Nat → Nat} {want : Nat} {r : List Nat} (h : drawR D l S want = some r) : r.length = want ∧ ∀ x ∈ r, x ∈ l := by
  obtain ⟨h1, h2⟩ := drawF_mem D _ S want _ _ _ r (by simp) h
  exact ⟨h1, fun x hx => (shufF_perm S l).mem_iff.1 (h2 x hx)⟩
/-- The errno of a draw. -/
def codeR (r : Option (List Nat)) : Int := if r.isSome then 0 else 7
def DrawPost (w : World) (res : Option (List Nat)) (en : Ending) (w' : World) : Prop := Below w.heap.size w w' ∧ ∃ v, en = .returned (.tuple #[v, .int .i64 (codeR res)]) ∧ OL w' w.heap.size v (res.getD [])
/-- What stands at the label. -/
structure DI (w : World) (S LF : Nat → Nat) (all : List Nat) (A : Option Addr) (v : Value) (out : List Nat) (wr : World) : Prop where
  below : Below w.heap.size w wr
  seed : Blk wr w.heap.size 24 (nums .u8 S 32)
  lots : Blk wr (w.heap.size + 1) 24 (nums .u8 LF 32)
  own : ∃ base, (w.heap.size + 2 ≤ base ∧ base ≤ wr.heap.size) ∧ wr.ownsRow base 22 1 v out.length (u64s out) ∧ ∀ i, i < all.length → ∃ b o, A = some ⟨b, o, none⟩ ∧ w.heap.size + 2 ≤ b ∧ b < base ∧ wr.cell? ⟨b, o + i, none⟩ = some (.int .u64 (all.getD i 0 : Nat))
theorem DI.pure {w wr wr' : World} {S LF : Nat → Nat} {all : List Nat} {A : Option Addr} {v : Value} {out : List Nat} (h : DI w S LF all A v out wr) (hb : Below wr.heap.size wr wr') : DI w S LF all A v out wr' := by
  obtain ⟨base, h1, h2, h3⟩ := h.own
  refine ⟨h.below.trans (hb.mono h.below.size), h.seed.below hb h.seed.lt, h.lots.below hb h.lots.lt, base, ⟨h1.1, Nat.le_trans h1.2 hb.size⟩, ?_, fun i hi => ?_⟩
  · exact h2.kept (grownBy_of hb none) (by
      cases e : v.ownBlock with
      | none => exact .inl rfl
      | some k => exact .inr (by simp))
  · obtain ⟨b, o, e, p1, p2, p3⟩ := h3 i hi
    exact ⟨b, o, e, p1, p2, (hb.cell (p := ⟨b, o + i, none⟩) (World.block_lt_of_cell? wr _ p3)).trans p3⟩
theorem DI.lots' {w wr wr' : World} {S LF LF' : Nat → Nat} {all : List Nat} {A : Option Addr} {v : Value} {out : List Nat} (h : DI w S LF all A v out wr) (ho : Only (w.heap.size + 1) wr wr') (hk : Blk wr' (w.heap.size + 1) 24 (nums .u8 LF' 32)) : DI w S LF' all A v out wr' := by
  obtain ⟨base, h1, h2, h3⟩ := h.own
  have hlt := h2.lt
  refine ⟨h.below.trans (ho.below h.below.size (by omega)), h.seed.only ho (by omega), hk, base, ⟨h1.1, Nat.le_trans h1.2 ho.size⟩, ?_, fun i hi => ?_⟩
  · refine h2.kept (row := some (w.heap.size + 1)) ⟨ho.os, ho.tape, ho.output, ho.size, fun k hk hn => ho.block k hk (fun e => hn (by rw [e]))⟩ ?_
    cases e : v.ownBlock with
    | none => exact .inl rfl
    | some k => exact .inr (by intro e2; injection e2 with e2; have := (hlt k e).1; omega)
  · obtain ⟨b, o, e, p1, p2, p3⟩ := h3 i hi
    exact ⟨b, o, e, p1, p2, (ho.cell (p := ⟨b, o + i, none⟩) (World.block_lt_of_cell? wr _ p3) (by show b ≠ _; omega)).trans p3⟩
theorem DI.grow {w wr w6 w7 : World} {S LF : Nat → Nat} {all : List Nat} {A : Option Addr} {v v' : Value} {out : List Nat} {base x : Nat} (h : DI w S LF all A v out wr) (h1 : w.heap.size + 2 ≤ base ∧ base ≤ wr.heap.size) (h2 : wr.ownsRow base 22 1 v out.length (u64s out))
    (h3 : ∀ i, i < all.length → ∃ b o, A = some ⟨b, o, none⟩ ∧ w.heap.size + 2 ≤ b ∧ b < base ∧ wr.cell? ⟨b, o + i, none⟩ = some (.int .u64 (all.getD i 0 : Nat)))
    (h6 : Below wr.heap.size wr w6) (h7 : w7.ownsRow base 22 1 v' (out.length + 1) (u64s out ++ [.int .u64 (x : Nat)])) (hg : w6.grownBy w7 v.ownBlock) : DI w S LF all A v' (out ++ [x]) w7 := by
  have hlt := h2.lt
  have hs := h.below.size
  have hs6 := h6.size
  refine ⟨?_, ?_, ?_, base, ⟨h1.1, by have := hg.size; omega⟩, ?_, fun i hi => ?_⟩
  · exact (h.below.trans (h6.mono hs)).grown hg (by omega) fun k hk => by have := (hlt k hk).1; omega
  · exact (h.seed.below h6 h.seed.lt).grown hg fun e => by have := (hlt _ e.symm).1; omega
  · exact (h.lots.below h6 h.lots.lt).grown hg fun e => by have := (hlt _ e.symm).1; omega
  · exact OL.mk h7 (by simp) (by simp [u64s])
  · obtain ⟨b, o, e, p1, p2, p3⟩ := h3 i hi
    have hb : b < wr.heap.size := World.block_lt_of_cell? wr _ p3
    refine ⟨b, o, e, p1, p2, hg.cell ((h6.cell (p := ⟨b, o + i, none⟩) hb).trans p3) fun e => ?_⟩
    have h5 : base ≤ b := (hlt _ e.symm).1
    omega
set_option maxRecDepth 100000 in
def DrawJ (w : World) (D : SD) (V0 : Value) (xb want n : Nat) (S : Nat → Nat) (all : List Nat) (res : Option (List Nat)) (a' : Act) (w' : World) : Prop := ∃ (i ac : Nat) (A : Option Addr) (v : Value) (out : List Nat) (LF : Nat → Nat) (U : Nat → Value), a' = { tmps := #[.pointer (some ⟨xb, 0, none⟩), V0, .agg (nums .u8 S 32).toArray, .int .i64 (want : Nat), U 4, U 5, .pointer (some ⟨w.heap.size, 0, none⟩), U 7, U 8, U 9, v, .pointer (some ⟨w.heap.size + 1, 0, none⟩), .slice A n ac, .int .i64 0, .int .i64 (i : Nat), U 15, U 16, U 17, U 18, U 19, U 20, U 21, U 22, U 23, U 24, U 25, U 26, U 27, U 28, U 29, U 30, U 31, U 32, U 33, U 34, U 35, U 36, U 37, U 38, U 39, U 40, U 41, U 42, U 43, U 44, U 45, U 46, U 47, U 48, U 49, U 50, U 51, U 52, U 53, U 54, U 55, U 56, U 57, U 58, U 59, U 60, U 61, U 62, U 63, U 64, U 65, U 66, U 67, U 68, U 69, U 70, U 71, U 72, U 73], defers := [] } ∧ i ≤ 256 ∧ n ≤ ac ∧ out.length ≤ i ∧ (i % 32 ≠ 0 → LF = behindF S (i / 32)) ∧ drawF D all S want (257 - i) i out = res ∧ DI w S LF all A v out w'
set_option maxRecDepth 100000 in
theorem DrawJ.of {w : World} {D : SD} {V0 : Value} {xb want n : Nat} {S : Nat → Nat} {all : List Nat} {res : Option (List Nat)} {a' : Act} {w' : World} (i ac : Nat) (A : Option Addr) (v : Value) (out : List Nat) (LF : Nat → Nat) (hf : a' = { tmps := #[.pointer (some ⟨xb, 0, none⟩), V0, .agg (nums .u8 S 32).toArray, .int .i64 (want : Nat), a'.tmps.getD 4 undef, a'.tmps.getD 5 undef, .pointer (some ⟨w.heap.size, 0, none⟩), a'.tmps.getD 7 undef, a'.tmps.getD 8 undef, a'.tmps.getD 9 undef, v, .pointer (some ⟨w.heap.size + 1, 0, none⟩), .slice A n ac, .int .i64 0, .int .i64 (i : Nat), a'.tmps.getD 15 undef, a'.tmps.getD 16 undef, a'.tmps.getD 17 undef, a'.tmps.getD 18 undef, a'.tmps.getD 19 undef, a'.tmps.getD 20 undef, a'.tmps.getD 21 undef, a'.tmps.getD 22 undef, a'.tmps.getD 23 undef, a'.tmps.getD 24 undef, a'.tmps.getD 25 undef, a'.tmps.getD 26 undef, a'.tmps.getD 27 undef, a'.tmps.getD 28 undef, a'.tmps.getD 29 undef, a'.tmps.getD 30 undef, a'.tmps.getD 31 undef, a'.tmps.getD 32 undef, a'.tmps.getD 33 undef, a'.tmps.getD 34 undef, a'.tmps.getD 35 undef, a'.tmps.getD 36 undef, a'.tmps.getD 37 undef, a'.tmps.getD 38 undef, a'.tmps.getD 39 undef, a'.tmps.getD 40 undef, a'.tmps.getD 41 undef, a'.tmps.getD 42 undef, a'.tmps.getD 43 undef, a'.tmps.getD 44 undef, a'.tmps.getD 45 undef, a'.tmps.getD 46 undef, a'.tmps.getD 47 undef, a'.tmps.getD 48 undef, a'.tmps.getD 49 undef, a'.tmps.getD 50 undef, a'.tmps.getD 51 undef, a'.tmps.getD 52 undef, a'.tmps.getD 53 undef, a'.tmps.getD 54 undef, a'.tmps.getD 55 undef, a'.tmps.getD 56 undef, a'.tmps.getD 57 undef, a'.tmps.getD 58 undef, a'.tmps.getD 59 undef, a'.tmps.getD 60 undef, a'.tmps.getD 61 undef, a'.tmps.getD 62 undef, a'.tmps.getD 63 undef, a'.tmps.getD 64 undef, a'.tmps.getD 65 undef, a'.tmps.getD 66 undef, a'.tmps.getD 67 undef, a'.tmps.getD 68 undef, a'.tmps.getD 69 undef, a'.tmps.getD 70 undef, a'.tmps.getD 71 undef, a'.tmps.getD 72 undef, a'.tmps.getD 73 undef], defers := [] })
    (h1 : i ≤ 256) (h2 : n ≤ ac) (h3 : out.length ≤ i) (h4 : i % 32 ≠ 0 → LF = behindF S (i / 32)) (h5 : drawF D all S want (257 - i) i out = res) (h6 : DI w S LF all A v out w') : DrawJ w D V0 xb want n S all res a' w' :=
  ⟨i, ac, A, v, out, LF, fun i => a'.tmps.getD i undef, hf, h1, h2, h3, h4, h5, h6⟩
set_option maxHeartbeats 3200000 in
set_option maxRecDepth 100000 in
theorem draw_any (xb : Nat) (X : List Value) (D : SD) (V0 : Value) (l : List Nat) (S : Nat → Nat) (want lo : Nat) (hS : ∀ i, S i < 256) (hwant : want ≤ 1000) (w : World) (tab : Tab w) (st : St w X D) (hx : Blk w xb 49 X) (hl : Sl w lo V0 (u64s l)) (hl2 : l.length ≤ 100) (hlv : ∀ v ∈ l, v < D.nv) :
    Calls Tryd.prog 11 #[.pointer (some ⟨xb, 0, none⟩), V0, bytesV S 32, .int .i64 want] w (DrawPost w (drawR D l S want)) := by
  unfold bytesV
  have HT := Lib.hid tab
  have HST := Lib.hid st
  have HXB := Lib.hid hx
  have HSS := Lib.hid hS
  have h2 := tab.size
  obtain ⟨i0, hi, hz0, hz1, hz2⟩ := info_parts Tryd.info_u64
  obtain ⟨all, hall⟩ : ∃ all, all = shufF S l := ⟨_, rfl⟩
  have HALL := Lib.hid hall
  have hal : all.length ≤ 100 := by rw [hall, shufF_length]; exact hl2
  have HAV := Lib.hid (show ∀ v ∈ all, v < D.nv by intro v hv; rw [hall] at hv; exact hlv v ((shufF_perm S l).mem_iff.1 hv))
  obtain ⟨n, hn⟩ : ∃ n, n = all.length := ⟨_, rfl⟩
  have HN := Lib.hid hn
  have hn100 : n ≤ 100 := by omega
  obtain ⟨res, hres⟩ : ∃ r, r = drawR D l S want := ⟨_, rfl⟩
  rw [← hres]
  have HRES := Lib.hid (show res = drawF D all S want 257 0 [] by rw [hres, hall]; rfl)
  have HL := Lib.hid hl
  have HL2 := Lib.hid hl2
  clear tab st hx hS hall hl hl2 hlv hal hn hres
  go_enter Tryd.func11, Tryd.ntmps11
  go_wp2
  refine wp_scope_jumps2 0 (DrawJ w D V0 xb want n S all res) (fun a' _ => 256 - (intOf (a'.tmps.getD 14 undef)).toNat) rfl ?pass ?first
  case first =>
    intro jump
    go_upto_region 3 with fail
    refine wp_world ?_
    intro w1 hw1
    have S1 := Lib.hid (show Blk w1 w.heap.size 24 (nums .u8 S 32) by rw [hw1]; exact (Blk.new w _ _).alloc _)
    have R1 := Lib.hid (show Blk w1 (w.heap.size + 1) 24 (nums .u8 zeroF 32) by
      rw [hw1]; have := Blk.new (w.alloc (.cells (nums .u8 S 32).toArray 24)) 24 (nums .u8 zeroF 32); rwa [World.size_alloc] at this)
    have B1 := Lib.hid (show Below w.heap.size w w1 by rw [hw1]; exact ((Below.refl _ w).alloc (Nat.le_refl _) _).alloc (by simp) _)
    have hz1 : w1.heap.size = w.heap.size + 2 := by rw [hw1]; simp
    have T1 := Lib.hid (HT.out.below B1.out h2)
    have LS := Lib.hid (list_any V0 l S HSS.out w1 lo T1.out (HL.out.below B1.out (Nat.le_refl _)) HL2.out)
    have Z1 := Lib.hid hz1
    clear hw1 hz1
    go_wp2_with (first | (with_reducible refine wpList_load_blk rfl _ _ rfl _ rfl _ _ S1.out _ Tryd.underlying24 rfl 32 Tryd.size_root (nums_length _ _ _) ?_) | (go_at_call 17; refine LS.out.mono ?_; rintro en w2 ⟨v2, rfl, hol2, hb2⟩; have HO2 := Lib.hid (show OL w2 w1.heap.size v2 all by rw [HALL.out]; exact hol2); have HB2 := Lib.hid hb2; obtain ⟨A, ac, rfl, q1, q2, q3⟩ := HO2.out.sl; rw [u64s_length, ← HN.out]; have Q1 := Lib.hid (show n ≤ ac by rw [u64s_length, ← HN.out] at q1; exact q1); have Q3 := Lib.hid q3; clear q1 q2 q3 hol2 hb2))
    go_step3
    rename_i hk
    refine hk _ _ (jump _ _ (DrawJ.of 0 ac A (.slice none 0 0) [] zeroF (by rfl) (by omega) Q1.out (by simp) (by omega) HRES.out.symm ?_))
    have z1 := Z1.out
    refine ⟨B1.out.trans (HB2.out.mono B1.out.size), S1.out.below HB2.out S1.out.lt, R1.out.below HB2.out R1.out.lt, w2.heap.size, ⟨by have := HB2.out.size; omega, Nat.le_refl _⟩, World.ownsRow_nil _ _ _ _, fun i hi => ?_⟩
    obtain ⟨b, o, rfl, hb, hc⟩ := Q3.out (by intro e; have := congrArg List.length e; rw [u64s_length] at this; simp at this; rw [this] at hi; simp at hi)
    have hcc := hc i _ (u64s_get all i hi)
    exact ⟨b, o, rfl, by omega, World.block_lt_of_cell? w2 _ hcc, hcc⟩
  case pass =>
    rintro a' wr ⟨i, ac, A, v, out, LF, U, rfl, hi256, hac, hlen, hLF, hdr, hdi⟩
    have HLF := Lib.hid hLF
    have HDI := Lib.hid hdi
    have HX := Lib.hid (HXB.out.below hdi.below HXB.out.lt)
    have HV := Lib.hid (fun i (h : i < D.nv) => (HST.out.vc i h).below hdi.below (Nat.le_refl _))
    have TR := Lib.hid (HT.out.below hdi.below h2)
    obtain ⟨base0, -, hown0, -⟩ := hdi.own
    obtain ⟨Av, cv, rfl, q1, q2, q3⟩ := Sl.own hown0
    rw [u64s_length] at HDI q1 ⊢
    obtain ⟨m, hm⟩ : ∃ m, m = out.length := ⟨_, rfl⟩
    rw [← hm] at HDI q1 hlen ⊢
    have HM := Lib.hid hm
    have hstep : drawF D all S want (257 - i) i out = if out.length = want then some out else if all.length = 0 ∨ i = 256 then none else drawF D all S want (257 - (i + 1)) (i + 1) (if accB D all S i = true then out ++ [all.getD (i % all.length) 0] else out) := by
      rw [show 257 - i = (257 - (i + 1)) + 1 by omega, drawF]
    rw [hdr, ← hm, ← HN.out] at hstep
    have HSTEP := Lib.hid hstep
    have lmI : (m : Int) ≤ 256 := by omega
    clear hLF hdi hown0 q3 hm hstep hdr q2
    by_cases hmw : m = want
    · have hd : ((m : Int) == (want : Int)) = true := by simp [hmw]
      have hR := Lib.hid (show res = some out by have := HSTEP.out; rwa [if_pos hmw] at this)
      clear hmw
      go_wp2
      simp only [Exit.jump]
      go_ret2
      rw [hR.out]
      have := HDI.out.own
      obtain ⟨base, hb1, hown, -⟩ := this
      exact ⟨HDI.out.below, _, rfl, (OL.mk hown rfl rfl).lower (by omega)⟩
    · have hd : ((m : Int) == (want : Int)) = false := by simp; omega
      have HMW := Lib.hid hmw
      clear hmw
      by_cases hn0 : n = 0
      · have hd2 : ((n : Int) == 0) = true := by simp [hn0]
        have hR := Lib.hid (show res = none by have := HSTEP.out; rwa [if_neg HMW.out, if_pos (.inl hn0)] at this)
        clear hn0
        go_wp2
        simp only [Exit.jump]
        go_ret2
        rw [hR.out]
        exact ⟨HDI.out.below, _, rfl, World.ownsRow_nil _ _ _ _⟩
      · have hd2 : ((n : Int) == 0) = false := by simp; omega
        by_cases hi0 : i = 256
        · have hd3 : ((i : Int) == 256) = true := by simp; omega
          have hR := Lib.hid (show res = none by have := HSTEP.out; rwa [if_neg HMW.out, if_pos (.inr hi0)] at this)
          clear hi0
          go_wp2
          simp only [Exit.jump]
          go_ret2
          rw [hR.out]
          exact ⟨HDI.out.below, _, rfl, World.ownsRow_nil _ _ _ _⟩
        · have hd3 : ((i : Int) == 256) = false := by simp; omega
          have hR := Lib.hid (show res = drawF D all S want (257 - (i + 1)) (i + 1) (if accB D all S i = true then out ++ [all.getD (i % n) 0] else out) by have := HSTEP.out; rwa [if_neg HMW.out, if_neg (by omega)] at this)
          obtain ⟨i32, hi32⟩ : ∃ x, x = i % 32 := ⟨_, rfl⟩
          obtain ⟨d32, hd32⟩ : ∃ x, x = i / 32 := ⟨_, rfl⟩
          obtain ⟨im, him⟩ : ∃ x, x = i % n := ⟨_, rfl⟩
          have e1 : (i : Int) % 32 = (i32 : Int) := by omega
          have e2 : (i : Int) / 32 = (d32 : Int) := by omega
          have e3 : (i : Int) % (n : Int) = (im : Int) := by rw [him]; simp
          have lim : im < n := by rw [him]; exact Nat.mod_lt _ (by omega)
          have l32 : i32 < 32 := by omega
          have ld32 : d32 ≤ 8 := by omega
          have I32 := Lib.hid hi32
          have D32 := Lib.hid hd32
          have IM := Lib.hid him
          have BH := Lib.hid (behind_any S HSS.out d32 (by omega) wr TR.out)
          have NE := Lib.hid hn0
          have I256 := Lib.hid hi0
          clear hi32 hd32 him hn0 hi0
          by_cases hz : i32 = 0
          · have hd4 : ((i32 : Int) == 0) = true := by simp [hz]
            clear hz
            go_upto_region 11 with (first | (with_reducible refine wpList_load_blk rfl _ _ rfl _ rfl _ _ HDI.out.seed _ Tryd.underlying24 rfl 32 Tryd.size_root (nums_length _ _ _) ?_) | (go_at_call 13; refine BH.out.mono ?_; rintro en w5 ⟨rfl, hb5⟩; unfold bytesV; have HB5 := Lib.hid hb5; have LT5 := HDI.out.lots.below hb5 HDI.out.lots.lt; clear hb5) | (with_reducible refine wpList_store_blk rfl _ _ _ rfl _ _ rfl rfl _ _ LT5 32 Tryd.size_root (nums_length _ _ _) (nums_length _ _ _) nums_mem ?_; intro w6 ho6 hb6 hz6; have HO6 := Lib.hid ho6; have HK6 := Lib.hid hb6; clear ho6 hb6 hz6 LT5))
            refine wp_world ?_
            intro wx hwx
            have DX := Lib.hid (show DI w S (behindF S d32) all A (.slice Av m cv) out wx by rw [hwx]; exact (HDI.out.pure HB5.out).lots' HO6.out HK6.out)
            clear hwx
            have BX := Lib.hid DX.out.below
            have XX := Lib.hid (HXB.out.below DX.out.below HXB.out.lt)
            obtain ⟨base1, -, -, hall1⟩ := DX.out.own
            obtain ⟨b, o, rfl, -, -, cx⟩ := hall1 im (by rw [← HN.out]; exact lim)
            obtain ⟨x, hx⟩ : ∃ x, x = all.getD im 0 := ⟨_, rfl⟩
            rw [← hx] at cx
            have lx : x < D.nv := by
              have hl : im < all.length := by rw [← HN.out]; exact lim
              rw [hx, List.getD_eq_getElem?_getD, List.getElem?_eq_getElem hl]
              exact HAV.out _ (List.getElem_mem hl)
            have HX1 := Lib.hid hx
            have n1 : ¬ (n : Int) = 0 := by have := NE.out; omega
            clear hall1 hx
            go_upto_region 12 with fail
            clear cx
            have c721 : wx.cell? ⟨xb, 721, none⟩ = some (.slice D.A D.nv D.vcap) := by rw [XX.out.cell]; exact HST.out.vals
            rw [HST.out.addr (by omega)] at c721
            have ceff := ((HST.out.vc x lx).below BX.out (Nat.le_refl _)).eff
            have clot : wx.cell? ⟨w.heap.size + 1, i32, none⟩ = some (.int .u8 (behindF S d32 i32 : Nat)) := by rw [DX.out.lots.cell, nums_get _ _ _ _ l32]
            obtain ⟨lot, hlot⟩ : ∃ y, y = behindF S d32 i32 := ⟨_, rfl⟩
            have llot : lot < 256 := by rw [hlot]; exact behindF_lt _ _ _
            rw [← hlot] at clot
            obtain ⟨ef, hef⟩ : ∃ y, y = D.eff x := ⟨_, rfl⟩
            have lef : ef < 18446744073709551616 := by rw [hef]; exact HST.out.effl x
            rw [← hef] at ceff
            obtain ⟨P, hP⟩ : ∃ P, P = 32000000000 * lot := ⟨_, rfl⟩
            obtain ⟨Q, hQ⟩ : ∃ Q, Q = ef * 255 % 18446744073709551616 := ⟨_, rfl⟩
            have hwP : IntKind.u64.wrap (32000000000 * (lot : Int)) = (P : Int) := by rw [IntKind.wrap_u64]; omega
            have hwQ : IntKind.u64.wrap ((ef : Int) * 255) = (Q : Int) := by rw [IntKind.wrap_u64]; omega
            have hacc : accB D all S i = decide (P ≤ Q) := by
              unfold accB
              rw [← D32.out, ← I32.out, ← hlot, ← HN.out, ← IM.out, ← HX1.out, ← hef, ← hP, ← hQ]
            have HACC := Lib.hid hacc
            have HPB := Lib.hid (show P < 18446744073709551616 ∧ Q < 18446744073709551616 by omega)
            clear hlot hef hP hQ hacc
            by_cases hpq : P ≤ Q
            · have dq : decide (P ≤ Q) = true := by simp [hpq]
              have dq' : decide ((P : Int) ≤ (Q : Int)) = true := by simp; omega
              have HR2 := Lib.hid (show res = drawF D all S want (257 - (i + 1)) (i + 1) (out ++ [x]) by have := hR.out; rw [HACC.out, dq, if_pos rfl, ← IM.out, ← HX1.out] at this; exact this)
              go_quiet (fail)
              rename_i nq _
              have DN := Lib.hid (DX.out.pure (show Below wx.heap.size wx (wx.drewN nq) from below_drewN (Below.refl _ _) nq))
              obtain ⟨base, hb1, hown, hall2⟩ := DN.out.own
              rw [← HM.out] at hown
              have HOWN := Lib.hid hown
              have HALL2 := Lib.hid hall2
              have HOW := Lib.hid (hown.alloc (.cells #[.int .u64 (x : Nat)] 22))
              have hnews : ∀ (i : Nat) (u : Value), [(.int .u64 (x : Nat) : Value)][i]? = some u → ((wx.drewN nq).alloc (.cells #[.int .u64 (x : Nat)] 22)).cell? ((⟨wx.heap.size, 0, none⟩ : Addr).add i) = some u := by
                intro i u hu
                rw [show (⟨wx.heap.size, 0, none⟩ : Addr).add i = ⟨(wx.drewN nq).heap.size, i, none⟩ from by unfold Addr.add; split <;> simp_all, World.cell?_alloc_new]
                simpa using hu
              have HNW := Lib.hid hnews
              have hone : ∀ u ∈ [(.int .u64 (x : Nat) : Value)], u.oneCell' = true := by
                intro u hu
                simp only [List.mem_cons, List.not_mem_nil, or_false] at hu
                subst hu; rfl
              have HO := Lib.hid hone
              have H63 := Lib.hid (show m + 1 ≤ maxLen by unfold maxLen; omega)
              have HBYT := Lib.hid (show (m + 1) * 8 ≤ 140737488355328 by omega)
              have HBA := Lib.hid (show base ≤ ((wx.drewN nq).alloc (.cells #[.int .u64 (x : Nat)] 22)).heap.size by
                have := hb1.2
                rw [World.size_alloc]
                omega)
              clear hnews hone hown hall2
              go_wp2_with (at_builtin; refine wpList_append_at rfl _ _ _ rfl base 22 i0 _ 1 8 Tryd.underlying37 hi hz0 hz1 hz2 rfl (by decide) _ m _ rfl HOW.out ⟨wx.heap.size, 0, none⟩ 1 1 _ rfl rfl HNW.out HO.out H63.out HBYT.out HBA.out ?_; intro v' w7 hown7 hg7 hm7; have HO7 := Lib.hid hown7; have HG7 := Lib.hid hg7; clear hown7 hg7 hm7)
              go_step3
              have DG := Lib.hid (DN.out.grow hb1 (by rw [← HM.out]; exact HOWN.out) HALL2.out ((Below.refl _ _).alloc (Nat.le_refl _) (.cells #[.int .u64 (x : Nat)] 22)) (by rw [← HM.out]; exact HO7.out) HG7.out)
              refine ⟨rfl, DrawJ.of (i + 1) ac _ v' (out ++ [x]) (behindF S d32) (by rfl) (by have := I256.out; omega) hac (by rw [List.length_append, ← HM.out]; simp; omega) (fun h => by rw [D32.out, show (i + 1) / 32 = i / 32 by omega]) HR2.out.symm DG.out, ?_⟩
              show 256 - (intOf (.int .i64 ((i : Int) + 1))).toNat < 256 - (intOf (.int .i64 (i : Int))).toNat
              simp only [intOf]
              have := I256.out
              omega
            · have dq : decide (P ≤ Q) = false := by simp; omega
              have dq' : decide ((P : Int) ≤ (Q : Int)) = false := by simp; omega
              have HR2 := Lib.hid (show res = drawF D all S want (257 - (i + 1)) (i + 1) out by have := hR.out; rw [HACC.out, dq, if_neg (by simp)] at this; exact this)
              go_quiet (fail)
              rename_i nq _
              have DN := Lib.hid (DX.out.pure (show Below wx.heap.size wx (wx.drewN nq) from below_drewN (Below.refl _ _) nq))
              go_wp2
              go_step3
              refine ⟨rfl, DrawJ.of (i + 1) ac _ _ out (behindF S d32) (by rfl) (by have := I256.out; omega) hac (by rw [← HM.out]; omega) (fun h => by rw [D32.out, show (i + 1) / 32 = i / 32 by omega]) HR2.out.symm DN.out, ?_⟩
              show 256 - (intOf (.int .i64 ((i : Int) + 1))).toNat < 256 - (intOf (.int .i64 (i : Int))).toNat
              simp only [intOf]
              have := I256.out
              omega
          · have hd4 : ((i32 : Int) == 0) = false := by simp; omega
            have HZ := Lib.hid hz
            clear hz
            go_upto_region 11 with fail
            refine wp_world ?_
            intro wx hwx
            have DX := Lib.hid (show DI w S (behindF S d32) all A (.slice Av m cv) out wx by rw [hwx, D32.out, ← HLF.out (by rw [← I32.out]; exact HZ.out)]; exact HDI.out)
            clear hwx
            have BX := Lib.hid DX.out.below
            have XX := Lib.hid (HXB.out.below DX.out.below HXB.out.lt)
            obtain ⟨base1, -, -, hall1⟩ := DX.out.own
            obtain ⟨b, o, rfl, -, -, cx⟩ := hall1 im (by rw [← HN.out]; exact lim)
            obtain ⟨x, hx⟩ : ∃ x, x = all.getD im 0 := ⟨_, rfl⟩
            rw [← hx] at cx
            have lx : x < D.nv := by
              have hl : im < all.length := by rw [← HN.out]; exact lim
              rw [hx, List.getD_eq_getElem?_getD, List.getElem?_eq_getElem hl]
              exact HAV.out _ (List.getElem_mem hl)
            have HX1 := Lib.hid hx
            have n1 : ¬ (n : Int) = 0 := by have := NE.out; omega
            clear hall1 hx
            go_upto_region 12 with fail
            clear cx
            have c721 : wx.cell? ⟨xb, 721, none⟩ = some (.slice D.A D.nv D.vcap) := by rw [XX.out.cell]; exact HST.out.vals
            rw [HST.out.addr (by omega)] at c721
            have ceff := ((HST.out.vc x lx).below BX.out (Nat.le_refl _)).eff
            have clot : wx.cell? ⟨w.heap.size + 1, i32, none⟩ = some (.int .u8 (behindF S d32 i32 : Nat)) := by rw [DX.out.lots.cell, nums_get _ _ _ _ l32]
            obtain ⟨lot, hlot⟩ : ∃ y, y = behindF S d32 i32 := ⟨_, rfl⟩
            have llot : lot < 256 := by rw [hlot]; exact behindF_lt _ _ _
            rw [← hlot] at clot
            obtain ⟨ef, hef⟩ : ∃ y, y = D.eff x := ⟨_, rfl⟩
            have lef : ef < 18446744073709551616 := by rw [hef]; exact HST.out.effl x
            rw [← hef] at ceff
            obtain ⟨P, hP⟩ : ∃ P, P = 32000000000 * lot := ⟨_, rfl⟩
            obtain ⟨Q, hQ⟩ : ∃ Q, Q = ef * 255 % 18446744073709551616 := ⟨_, rfl⟩
            have hwP : IntKind.u64.wrap (32000000000 * (lot : Int)) = (P : Int) := by rw [IntKind.wrap_u64]; omega
            have hwQ : IntKind.u64.wrap ((ef : Int) * 255) = (Q : Int) := by rw [IntKind.wrap_u64]; omega
            have hacc : accB D all S i = decide (P ≤ Q) := by
              unfold accB
              rw [← D32.out, ← I32.out, ← hlot, ← HN.out, ← IM.out, ← HX1.out, ← hef, ← hP, ← hQ]
            have HACC := Lib.hid hacc
            have HPB := Lib.hid (show P < 18446744073709551616 ∧ Q < 18446744073709551616 by omega)
            clear hlot hef hP hQ hacc
            by_cases hpq : P ≤ Q
            · have dq : decide (P ≤ Q) = true := by simp [hpq]
              have dq' : decide ((P : Int) ≤ (Q : Int)) = true := by simp; omega
              have HR2 := Lib.hid (show res = drawF D all S want (257 - (i + 1)) (i + 1) (out ++ [x]) by have := hR.out; rw [HACC.out, dq, if_pos rfl, ← IM.out, ← HX1.out] at this; exact this)
              go_quiet (fail)
              rename_i nq _
              have DN := Lib.hid (DX.out.pure (show Below wx.heap.size wx (wx.drewN nq) from below_drewN (Below.refl _ _) nq))
              obtain ⟨base, hb1, hown, hall2⟩ := DN.out.own
              rw [← HM.out] at hown
              have HOWN := Lib.hid hown
              have HALL2 := Lib.hid hall2
              have HOW := Lib.hid (hown.alloc (.cells #[.int .u64 (x : Nat)] 22))
              have hnews : ∀ (i : Nat) (u : Value), [(.int .u64 (x : Nat) : Value)][i]? = some u → ((wx.drewN nq).alloc (.cells #[.int .u64 (x : Nat)] 22)).cell? ((⟨wx.heap.size, 0, none⟩ : Addr).add i) = some u := by
                intro i u hu
                rw [show (⟨wx.heap.size, 0, none⟩ : Addr).add i = ⟨(wx.drewN nq).heap.size, i, none⟩ from by unfold Addr.add; split <;> simp_all, World.cell?_alloc_new]
                simpa using hu
              have HNW := Lib.hid hnews
              have hone : ∀ u ∈ [(.int .u64 (x : Nat) : Value)], u.oneCell' = true := by
                intro u hu
                simp only [List.mem_cons, List.not_mem_nil, or_false] at hu
                subst hu; rfl
              have HO := Lib.hid hone
              have H63 := Lib.hid (show m + 1 ≤ maxLen by unfold maxLen; omega)
              have HBYT := Lib.hid (show (m + 1) * 8 ≤ 140737488355328 by omega)
              have HBA := Lib.hid (show base ≤ ((wx.drewN nq).alloc (.cells #[.int .u64 (x : Nat)] 22)).heap.size by
                have := hb1.2
                rw [World.size_alloc]
                omega)
              clear hnews hone hown hall2
              go_wp2_with (at_builtin; refine wpList_append_at rfl _ _ _ rfl base 22 i0 _ 1 8 Tryd.underlying37 hi hz0 hz1 hz2 rfl (by decide) _ m _ rfl HOW.out ⟨wx.heap.size, 0, none⟩ 1 1 _ rfl rfl HNW.out HO.out H63.out HBYT.out HBA.out ?_; intro v' w7 hown7 hg7 hm7; have HO7 := Lib.hid hown7; have HG7 := Lib.hid hg7; clear hown7 hg7 hm7)
              go_step3
              have DG := Lib.hid (DN.out.grow hb1 (by rw [← HM.out]; exact HOWN.out) HALL2.out ((Below.refl _ _).alloc (Nat.le_refl _) (.cells #[.int .u64 (x : Nat)] 22)) (by rw [← HM.out]; exact HO7.out) HG7.out)
              refine ⟨rfl, DrawJ.of (i + 1) ac _ v' (out ++ [x]) (behindF S d32) (by rfl) (by have := I256.out; omega) hac (by rw [List.length_append, ← HM.out]; simp; omega) (fun h => by rw [D32.out, show (i + 1) / 32 = i / 32 by omega]) HR2.out.symm DG.out, ?_⟩
              show 256 - (intOf (.int .i64 ((i : Int) + 1))).toNat < 256 - (intOf (.int .i64 (i : Int))).toNat
              simp only [intOf]
              have := I256.out
              omega
            · have dq : decide (P ≤ Q) = false := by simp; omega
              have dq' : decide ((P : Int) ≤ (Q : Int)) = false := by simp; omega
              have HR2 := Lib.hid (show res = drawF D all S want (257 - (i + 1)) (i + 1) out by have := hR.out; rw [HACC.out, dq, if_neg (by simp)] at this; exact this)
              go_quiet (fail)
              rename_i nq _
              have DN := Lib.hid (DX.out.pure (show Below wx.heap.size wx (wx.drewN nq) from below_drewN (Below.refl _ _) nq))
              go_wp2
              go_step3
              refine ⟨rfl, DrawJ.of (i + 1) ac _ _ out (behindF S d32) (by rfl) (by have := I256.out; omega) hac (by rw [← HM.out]; omega) (fun h => by rw [D32.out, show (i + 1) / 32 = i / 32 by omega]) HR2.out.symm DN.out, ?_⟩
              show 256 - (intOf (.int .i64 ((i : Int) + 1))).toNat < 256 - (intOf (.int .i64 (i : Int))).toNat
              simp only [intOf]
              have := I256.out
              omega
end Go.Proofs.YtfagmjlgpfnniaaDoor
