/- The plain laws of layer 3: cutting bytes into parts and laying parts as bytes, on lists; no program in sight. -/
namespace Go.Proofs.Ytamfceklddbldaa
abbrev Bs := List UInt8

def off4 (b : Bs) : Nat := (b.getD 0 0).toNat + (b.getD 1 0).toNat * 256 + (b.getD 2 0).toNat * 65536 + (b.getD 3 0).toNat * 16777216
def four (n : Nat) : Bs := [UInt8.ofNat n, UInt8.ofNat (n / 256), UInt8.ofNat (n / 65536), UInt8.ofNat (n / 16777216)]

theorem four_len (n : Nat) : (four n).length = 4 := rfl
theorem off4_four (n : Nat) (h : n < 4294967296) (r : Bs) : off4 (four n ++ r) = n := by
  simp [off4, four]
  omega
theorem off4_take (b : Bs) (k : Nat) (hk : 4 ≤ k) : off4 (b.take k) = off4 b := by
  simp only [off4, List.getD_eq_getElem?_getD, List.getElem?_take]
  rw [if_pos (by omega), if_pos (by omega), if_pos (by omega), if_pos (by omega)]
theorem four_off4 (b : Bs) (h : 4 ≤ b.length) : four (off4 b) = b.take 4 := by
  match b, h with
  | a :: b :: c :: d :: r, _ =>
    have h1 := a.toNat_lt; have h2 := b.toNat_lt; have h3 := c.toNat_lt; have h4 := d.toNat_lt
    simp only [four, off4, List.getD_cons_zero, List.getD_cons_succ, List.take_succ_cons, List.take_zero]
    congr 1
    · apply UInt8.toNat_inj.1; simp <;> omega
    congr 1
    · apply UInt8.toNat_inj.1; simp <;> omega
    congr 1
    · apply UInt8.toNat_inj.1; simp <;> omega
    congr 1
    · apply UInt8.toNat_inj.1; simp <;> omega
theorem off4_lt (b : Bs) : off4 b < 4294967296 := by
  have h1 := (b.getD 0 0).toNat_lt; have h2 := (b.getD 1 0).toNat_lt; have h3 := (b.getD 2 0).toNat_lt; have h4 := (b.getD 3 0).toNat_lt
  unfold off4; omega

/-- The head's bytes of one size. -/
def hd (s : Nat) : Nat := if s = 0 then 4 else s
def headLen : List Nat → Nat
  | [] => 0
  | s :: r => hd s + headLen r
def offs : List Nat → Bs → List Nat
  | [], _ => []
  | s :: r, b => if s = 0 then off4 b :: offs r (b.drop 4) else offs r (b.drop s)
def rises (e : Nat) : Nat → List Nat → Bool
  | _, [] => true
  | f, n :: r => decide (f ≤ n) && decide (n ≤ e) && rises e n r
def fill (whole : Bs) : List Nat → Bs → List Nat → List Bs
  | [], _, _ => []
  | s :: r, b, os => if s = 0 then ((whole.take (os.getD 1 0)).drop (os.getD 0 0)) :: fill whole r (b.drop 4) os.tail
      else b.take s :: fill whole r (b.drop s) os
def front : List Bs → List Nat → Nat → Bs
  | p :: ps, s :: ss, n => if s = 0 then four n ++ front ps ss (n + p.length) else p ++ front ps ss n
  | _, _, _ => []
def behind : List Bs → List Nat → Bs
  | p :: ps, s :: ss => if s = 0 then p ++ behind ps ss else behind ps ss
  | _, _ => []
/-- Each part with a size has it. -/
def fits : List Bs → List Nat → Bool
  | [], [] => true
  | p :: ps, s :: ss => (s == 0 || p.length == s) && fits ps ss
  | _, _ => false
def sizesOk (z : List Int) : Bool := decide (1 ≤ z.length) && decide (z.length ≤ 64) && z.all fun s => decide (0 ≤ s) && decide (s ≤ 65536)
def nats (z : List Int) : List Nat := z.map Int.toNat
def cutOk (b : Bs) (s : List Nat) : Bool :=
  match offs s b with
  | [] => true
  | o :: r => o == headLen s && rises b.length (headLen s) (o :: r)
def cutParts (b : Bs) (s : List Nat) : List Bs := fill b s b (offs s b ++ [b.length])
/-- P3.1: the parts, and the error's number. -/
def cut (b : Bs) (z : List Int) : List Bs × Nat :=
  if sizesOk z = false then ([], 1)
  else if b.length < headLen (nats z) then ([], 4)
  else if offs (nats z) b = [] ∧ b.length ≠ headLen (nats z) then ([], 4)
  else if cutOk b (nats z) = false then ([], 5)
  else (cutParts b (nats z), 0)
def laid (ps : List Bs) (s : List Nat) : Bs := front ps s (headLen s) ++ behind ps s
/-- P3.2, as far as the bytes are fewer than 2^32. -/
def lay (ps : List Bs) (z : List Int) : Bs × Nat :=
  if sizesOk z = false ∨ ps.length ≠ z.length then ([], 1)
  else if fits ps (nats z) = false then ([], 4)
  else (laid ps (nats z), 0)

theorem front_len (ps : List Bs) (ss : List Nat) (n : Nat) (h : fits ps ss = true) : (front ps ss n).length = headLen ss := by
  induction ps generalizing ss n with
  | nil => cases ss <;> simp_all [fits, front, headLen]
  | cons p ps ih =>
    cases ss with
    | nil => simp [fits] at h
    | cons s ss =>
      simp only [fits, Bool.and_eq_true, Bool.or_eq_true, beq_iff_eq] at h
      by_cases hs : s = 0
      · simp [front, headLen, hd, hs, four_len, ih ss _ h.2]
      · have : p.length = s := by rcases h.1 with h | h; exact absurd h hs; exact h
        simp [front, headLen, hd, hs, this, ih ss _ h.2]

/-- Where the parts of any size begin. -/
def places : List Bs → List Nat → Nat → List Nat
  | p :: ps, s :: ss, n => if s = 0 then n :: places ps ss (n + p.length) else places ps ss n
  | _, _, _ => []
theorem places_le (ps : List Bs) (ss : List Nat) (n e : Nat) (he : n + (behind ps ss).length ≤ e) : rises e n (places ps ss n) = true := by
  induction ps generalizing ss n with
  | nil => simp [places, rises]
  | cons p ps ih =>
    cases ss with
    | nil => simp [places, rises]
    | cons s ss =>
      by_cases hs : s = 0
      · simp only [behind, hs, if_true, List.length_append] at he
        have := ih ss (n + p.length) (by omega)
        simp only [places, hs, if_true, rises, Bool.and_eq_true, decide_eq_true_eq]
        refine ⟨⟨Nat.le_refl _, by omega⟩, ?_⟩
        revert this
        cases places ps ss (n + p.length) with
        | nil => simp [rises]
        | cons o r => simp only [rises, Bool.and_eq_true, decide_eq_true_eq]; rintro ⟨⟨h1, h2⟩, h3⟩; exact ⟨⟨by omega, h2⟩, h3⟩
      · simp only [behind, hs, if_false] at he
        simpa [places, hs] using ih ss n he
theorem offs_front (ps : List Bs) (ss : List Nat) (n : Nat) (X : Bs) (h : fits ps ss = true) (hn : n + (behind ps ss).length < 4294967296) :
    offs ss (front ps ss n ++ X) = places ps ss n := by
  induction ps generalizing ss n with
  | nil => cases ss <;> simp_all [fits, places, offs]
  | cons p ps ih =>
    cases ss with
    | nil => simp [fits] at h
    | cons s ss =>
      simp only [fits, Bool.and_eq_true, Bool.or_eq_true, beq_iff_eq] at h
      by_cases hs : s = 0
      · simp only [behind, hs, if_true, List.length_append] at hn
        simp only [offs, places, front, hs, if_true, List.append_assoc]
        rw [off4_four n (by omega), List.drop_left' (four_len n), ih ss (n + p.length) h.2 (by omega)]
      · have hp : p.length = s := by rcases h.1 with h | h; exact absurd h hs; exact h
        simp only [behind, hs, if_false] at hn
        simp only [offs, places, front, hs, if_false, List.append_assoc]
        rw [List.drop_left' hp, ih ss n h.2 hn]
theorem places_head (ps : List Bs) (ss : List Nat) (n : Nat) : places ps ss n = [] ∨ ∃ r, places ps ss n = n :: r := by
  induction ps generalizing ss with
  | nil => exact .inl (by simp [places])
  | cons p ps ih =>
    cases ss with
    | nil => exact .inl (by simp [places])
    | cons s ss =>
      by_cases hs : s = 0
      · exact .inr ⟨places ps ss (n + p.length), by simp [places, hs]⟩
      · simpa [places, hs] using ih ss
theorem places_nil (ps : List Bs) (ss : List Nat) (n : Nat) (h : places ps ss n = []) : behind ps ss = [] := by
  induction ps generalizing ss with
  | nil => simp [behind]
  | cons p ps ih =>
    cases ss with
    | nil => simp [behind]
    | cons s ss =>
      by_cases hs : s = 0
      · simp [places, hs] at h
      · simp only [places, hs, if_false] at h
        simp only [behind, hs, if_false]
        exact ih ss h
theorem fill_front (W : Bs) (ps : List Bs) (ss : List Nat) (n : Nat) (X : Bs) (h : fits ps ss = true) (hW : W.drop n = behind ps ss) (hn : W.length = n + (behind ps ss).length) :
    fill W ss (front ps ss n ++ X) (places ps ss n ++ [W.length]) = ps := by
  induction ps generalizing ss n with
  | nil => cases ss <;> simp_all [fits, fill]
  | cons p ps ih =>
    cases ss with
    | nil => simp [fits] at h
    | cons s ss =>
      simp only [fits, Bool.and_eq_true, Bool.or_eq_true, beq_iff_eq] at h
      by_cases hs : s = 0
      · simp only [behind, hs, if_true, List.length_append] at hn hW
        simp only [fill, places, front, hs, if_true, List.append_assoc, List.cons_append, List.getD_cons_zero, List.tail_cons]
        rw [List.drop_left' (four_len n)]
        have e1 : (n :: (places ps ss (n + p.length) ++ [W.length])).getD 1 0 = n + p.length := by
          rcases places_head ps ss (n + p.length) with e | ⟨r, e⟩
          · rw [e]
            have := places_nil ps ss _ e
            simp [this] at hn
            simp [hn]
          · rw [e]; simp
        rw [e1]
        have e2 : (W.take (n + p.length)).drop n = p := by
          rw [List.drop_take, hW]
          simp
        have e3 : W.drop (n + p.length) = behind ps ss := by
          rw [← List.drop_drop, hW]; simp
        rw [e2, ih ss (n + p.length) h.2 e3 (by omega)]
      · have hp : p.length = s := by rcases h.1 with h | h; exact absurd h hs; exact h
        simp only [behind, hs, if_false] at hn hW
        simp only [fill, places, front, hs, if_false, List.append_assoc]
        rw [List.drop_left' hp, List.take_left' hp, ih ss n h.2 hW hn]
theorem cutOk_laid (ps : List Bs) (ss : List Nat) (h : fits ps ss = true) (hn : (laid ps ss).length < 4294967296) : cutOk (laid ps ss) ss = true ∧ offs ss (laid ps ss) = places ps ss (headLen ss) := by
  have hl : (laid ps ss).length = headLen ss + (behind ps ss).length := by simp [laid, front_len ps ss _ h]
  have ho : offs ss (laid ps ss) = places ps ss (headLen ss) := offs_front ps ss _ _ h (by omega)
  refine ⟨?_, ho⟩
  have hr := places_le ps ss (headLen ss) (laid ps ss).length (by omega)
  unfold cutOk
  rw [ho]
  rcases places_head ps ss (headLen ss) with e | ⟨r, e⟩
  · rw [e]
  · rw [e] at hr ⊢; simp [hr]
theorem cutParts_laid (ps : List Bs) (ss : List Nat) (h : fits ps ss = true) (hn : (laid ps ss).length < 4294967296) : cutParts (laid ps ss) ss = ps := by
  have hl : (laid ps ss).length = headLen ss + (behind ps ss).length := by simp [laid, front_len ps ss _ h]
  unfold cutParts
  rw [(cutOk_laid ps ss h hn).2]
  exact fill_front _ ps ss _ _ h (by unfold laid; rw [List.drop_left' (front_len ps ss _ h)]) hl
/-- Cut of what was laid are the parts. -/
theorem cut_lay (ps : List Bs) (z : List Int) (h1 : sizesOk z = true) (h : fits ps (nats z) = true) (hn : (laid ps (nats z)).length < 4294967296) : cut (laid ps (nats z)) z = (ps, 0) := by
  have hl : (laid ps (nats z)).length = headLen (nats z) + (behind ps (nats z)).length := by simp [laid, front_len ps _ _ h]
  obtain ⟨hc, ho⟩ := cutOk_laid ps (nats z) h hn
  unfold cut
  rw [if_neg (by simp [h1]), if_neg (by omega), if_neg, if_neg (by simp [hc]), cutParts_laid ps _ h hn]
  rintro ⟨h2, h3⟩
  rw [ho] at h2
  have := places_nil _ _ _ h2
  rw [hl, this] at h3
  simp at h3

theorem rises_cons {e f n : Nat} {r : List Nat} (h : rises e f (n :: r) = true) : f ≤ n ∧ n ≤ e ∧ rises e n r = true := by
  simpa [rises, and_assoc] using h
theorem fill_fits (W : Bs) (ss : List Nat) (b : Bs) (os : List Nat) (hb : headLen ss ≤ b.length) : fits (fill W ss b os) ss = true := by
  induction ss generalizing b os with
  | nil => simp [fill, fits]
  | cons s ss ih =>
    by_cases hs : s = 0
    · simp only [headLen, hd, hs, if_true] at hb
      simp only [fill, hs, if_true, fits, beq_self_eq_true, Bool.true_or, Bool.true_and]
      exact ih _ _ (by simp; omega)
    · simp only [headLen, hd, hs, if_false] at hb
      simp only [fill, hs, if_false, fits, Bool.and_eq_true, Bool.or_eq_true, beq_iff_eq, List.length_take]
      exact ⟨.inr (by omega), ih _ _ (by simp; omega)⟩
theorem front_fill (W : Bs) (ss : List Nat) (b : Bs) (n : Nat) (hb : headLen ss ≤ b.length) (hr : rises W.length n (offs ss b) = true) (hn : offs ss b = [] ∨ ∃ r, offs ss b = n :: r) :
    front (fill W ss b (offs ss b ++ [W.length])) ss n = b.take (headLen ss) ∧ (offs ss b ≠ [] → behind (fill W ss b (offs ss b ++ [W.length])) ss = W.drop n) ∧ (offs ss b = [] → behind (fill W ss b (offs ss b ++ [W.length])) ss = []) := by
  induction ss generalizing b n with
  | nil => simp [fill, front, headLen, offs, behind]
  | cons s ss ih =>
    by_cases hs : s = 0
    · simp only [headLen, hd, hs, if_true] at hb
      have eo : offs (s :: ss) b = off4 b :: offs ss (b.drop 4) := by simp [offs, hs]
      have e0 : off4 b = n := by
        rw [eo] at hn
        rcases hn with h | ⟨r, h⟩
        · simp at h
        · injection h
      have ht : (b.take 4).length = 4 := by simp; omega
      have e4 : four n = b.take 4 := by rw [← e0]; exact four_off4 b (by omega)
      rw [eo, e0] at hr
      obtain ⟨_, hnW, hr'⟩ := rises_cons hr
      have hb' : headLen ss ≤ (b.drop 4).length := by simp; omega
      -- the next place
      obtain ⟨m, hm1, hm2, hm3, hm4⟩ : ∃ m, (off4 b :: (offs ss (b.drop 4) ++ [W.length])).getD 1 0 = m ∧ n ≤ m ∧ m ≤ W.length ∧ rises W.length m (offs ss (b.drop 4)) = true ∧ (offs ss (b.drop 4) = [] ∨ ∃ r, offs ss (b.drop 4) = m :: r) ∧ (offs ss (b.drop 4) = [] → m = W.length) := by
        cases h : offs ss (b.drop 4) with
        | nil => exact ⟨W.length, by simp, hnW, Nat.le_refl _, by simp [rises], .inl rfl, fun _ => rfl⟩
        | cons o r =>
          rw [h] at hr'
          obtain ⟨h1, h2, h3⟩ := rises_cons hr'
          exact ⟨o, by simp, h1, h2, by simp [rises, h2, h3], .inr ⟨r, rfl⟩, fun h => by simp at h⟩
      obtain ⟨hm4, hm5, hm6⟩ := hm4
      obtain ⟨i1, i2, i3⟩ := ih (b.drop 4) m hb' hm4 hm5
      have elen : ((W.take m).drop n).length = m - n := by simp; omega
      rw [eo]
      simp only [fill, hs, if_true, List.cons_append, List.getD_cons_zero, List.tail_cons, front, behind, headLen, hd]
      rw [hm1, e0, elen, show n + (m - n) = m from by omega, e4, i1]
      refine ⟨?_, fun _ => ?_, fun h => by simp at h⟩
      · rw [List.take_add]
      · by_cases h : offs ss (b.drop 4) = []
        · rw [i3 h, hm6 h]; simp
        · rw [i2 h, List.drop_take]
          rw [show W.drop m = (W.drop n).drop (m - n) from by rw [List.drop_drop]; congr 1; omega]
          exact List.take_append_drop _ _
    · simp only [headLen, hd, hs, if_false] at hb
      have eo : offs (s :: ss) b = offs ss (b.drop s) := by simp [offs, hs]
      rw [eo] at hr hn ⊢
      obtain ⟨i1, i2, i3⟩ := ih (b.drop s) n (by simp; omega) hr hn
      simp only [fill, hs, if_false, front, behind, headLen, hd]
      rw [i1]
      exact ⟨by rw [List.take_add], i2, i3⟩
/-- Laid again the parts are the bytes. -/
theorem lay_cut {b : Bs} {z : List Int} {l : List Bs} (h : cut b z = (l, 0)) : sizesOk z = true ∧ l.length = z.length ∧ fits l (nats z) = true ∧ laid l (nats z) = b := by
  unfold cut at h
  split at h
  · simp at h
  rename_i h1
  split at h
  · simp at h
  rename_i h2
  split at h
  · simp at h
  rename_i h3
  split at h
  · simp at h
  rename_i h4
  obtain rfl : cutParts b (nats z) = l := by simpa using h
  have hb : headLen (nats z) ≤ b.length := by omega
  have hf : fits (cutParts b (nats z)) (nats z) = true := fill_fits _ _ _ _ hb
  have hfl : ∀ (l : List Bs) (s : List Nat), fits l s = true → l.length = s.length := by
    intro l
    induction l with
    | nil => intro s h; cases s <;> simp_all [fits]
    | cons p l ih => intro s h; cases s with
      | nil => simp [fits] at h
      | cons s ss => simp only [fits, Bool.and_eq_true] at h; simp [ih ss h.2]
  refine ⟨by simpa using h1, by rw [hfl _ _ hf]; simp [nats], hf, ?_⟩
  simp only [Bool.not_eq_false] at h4
  unfold cutOk at h4
  unfold laid cutParts
  cases ho : offs (nats z) b with
  | nil =>
    have := front_fill b (nats z) b (headLen (nats z)) hb (by rw [ho]; simp [rises]) (.inl ho)
    rw [ho] at this
    rw [this.1, this.2.2 rfl, List.append_nil]
    have : b.length = headLen (nats z) := by
      simp only [ho, true_and, ne_eq, Decidable.not_not] at h3
      exact h3
    rw [← this, List.take_length]
  | cons o r =>
    rw [ho] at h4
    simp only [Bool.and_eq_true, beq_iff_eq] at h4
    obtain ⟨rfl, h4⟩ := h4
    have := front_fill b (nats z) b (headLen (nats z)) hb (by rw [ho]; exact h4) (.inr ⟨r, ho⟩)
    rw [ho] at this
    rw [this.1, this.2.1 (by simp), List.take_append_drop]
end Go.Proofs.Ytamfceklddbldaa
