/- Contracts of both Parts. -/
import Derived.Test.YtckkaalejfmonaaParts
namespace Go.Proofs.Ytckkaalejfmonaa
open Go.RowKit Go.Shelf flo

theorem bne_of {x : Option Ordering} {o : Ordering} (h : x = some o) (p : Ordering) : (x != some p) = !decide (o = p) := by rw [h]; cases o <;> cases p <;> rfl
theorem index0 (a b : Nat) (w : World) : (Instr.index 51 (.agg #[.float .f64 a, .float .f64 b]) (.int .i64 0)).run Try.prog w = .ok (.float .f64 a) w := by
  simp [Instr.index, run_underlying Try.underlying51, asIntOf, part, Try.sizeOf43, Try.isAgg43, go_sem]
theorem index1 (a b : Nat) (w : World) : (Instr.index 51 (.agg #[.float .f64 a, .float .f64 b]) (.int .i64 1)).run Try.prog w = .ok (.float .f64 b) w := by
  simp [Instr.index, run_underlying Try.underlying51, asIntOf, part, Try.sizeOf43, Try.isAgg43, go_sem]
theorem mid_facts {a T : Nat} {wh : Bool} (h : Mid a T wh) : (FloatKind.f64.format.order a 0 == some Ordering.lt) = false ∧ (FloatKind.f64.format.order a 4845873199050653696 == some Ordering.gt) = false := by
  obtain ⟨_, _, _, h6, h7⟩ := h
  have h6' : FloatKind.f64.format.order a 0 = some .gt ∨ FloatKind.f64.format.order a 0 = some .eq := h6
  have h7' : FloatKind.f64.format.order a 4845873199050653696 = some .lt ∨ FloatKind.f64.format.order a 4845873199050653696 = some .eq := h7
  constructor
  · rcases h6' with h | h <;> rw [beq_of h] <;> rfl
  · rcases h7' with h | h <;> rw [beq_of h] <;> rfl
set_option maxHeartbeats 800000 in
theorem part_pb (a : Nat) (h : PB a) (w : World) : Calls Try.prog 37 #[.float .f64 a] w fun e w' => (∃ n : Nat, e = .returned (.tuple #[.int .u64 (n : Int), .bool false])) ∧ w = w' := by
  rcases h with ⟨_, h⟩ | ⟨_, h⟩ | ⟨_, h, h2⟩ | ⟨_, T, h⟩
  · have h' : FloatKind.f64.format.order a 0 = none := h
    have b1 : (FloatKind.f64.format.order a 0 == some Ordering.gt) = false := by rw [h']; rfl
    have b2 : (FloatKind.f64.format.order a 0 == some Ordering.eq) = false := by rw [h']; rfl
    clear h h'
    go_enter Try.func37, Try.ntmps37
    go_wp2
    go_ret2
    exact ⟨⟨0, rfl⟩, rfl⟩
  · have h' : FloatKind.f64.format.order a 0 = some .lt := h
    have b1 := beq_of h' .gt
    have b2 := beq_of h' .eq
    simp only [reduceCtorEq, decide_false] at b1 b2
    clear h h'
    go_enter Try.func37, Try.ntmps37
    go_wp2
    go_ret2
    exact ⟨⟨0, rfl⟩, rfl⟩
  · have h' : FloatKind.f64.format.order a 0 = some .gt := h
    have h2' : FloatKind.f64.format.order a 4845873199050653696 = some .gt := h2
    have b1 := beq_of h' .gt
    have b2 := beq_of h' .eq
    have b3 := beq_of h2' .lt
    have b4 := beq_of h2' .eq
    simp only [reduceCtorEq, decide_true, decide_false, eq_self] at b1 b2 b3 b4
    clear h h' h2 h2'
    go_enter Try.func37, Try.ntmps37
    go_wp2
    go_ret2
    exact ⟨⟨0, rfl⟩, rfl⟩
  · refine (part_mid a T false h w).mono ?_
    rintro e w' ⟨rfl, rfl⟩
    exact ⟨⟨T, rfl⟩, rfl⟩
theorem part_pg (a T : Nat) (h : PG a T) (w : World) : Calls Try.prog 37 #[.float .f64 a] w fun e w' => e = .returned (.tuple #[.int .u64 (T : Int), .bool true]) ∧ w = w' := part_mid a T true h.2 w
def PartsPost (w : World) (p q : Nat) (c : Int) (e : Ending) (w' : World) : Prop := e = .returned (.tuple #[.int .u64 (p : Int), .int .u64 (q : Int), .int .i64 c]) ∧ w = w'
set_option maxHeartbeats 800000 in
theorem rparts_good (a b T S : Nat) (ha : PG a T) (hb : PG b S) (w : World) : Calls Try.prog 28 #[.complex .f64 a b] w (PartsPost w T S 0) := by
  have H1 := Lib.hid (part_pg a T ha)
  have H2 := Lib.hid (part_pg b S hb)
  clear ha hb
  go_enter Try.func28, Try.ntmps28
  go_wp2_with fail
  refine (H1.out _).mono ?_
  rintro e w1 ⟨rfl, rfl⟩
  go_wp2_with fail
  refine (H2.out _).mono ?_
  rintro e w1 ⟨rfl, rfl⟩
  go_wp2
  go_ret3
  exact ⟨rfl, rfl⟩
set_option maxHeartbeats 800000 in
theorem rparts_bad1 (a b : Nat) (ha : PB a) (w : World) : Calls Try.prog 28 #[.complex .f64 a b] w (PartsPost w 0 0 1) := by
  have H1 := Lib.hid (part_pb a ha)
  have H2 : ∃ (n : Nat) (ok : Bool), Hid (∀ w : World, Calls Try.prog 37 #[.float .f64 b] w fun e w' => (∃ n : Nat, e = .returned (.tuple #[.int .u64 (n : Int), .bool ok])) ∧ w = w') := by
    rcases pb_or b with h | ⟨S, h⟩
    · exact ⟨0, false, part_pb b h⟩
    · exact ⟨0, true, fun w => (part_pg b S h w).mono (by rintro e w' ⟨rfl, rfl⟩; exact ⟨⟨S, rfl⟩, rfl⟩)⟩
  obtain ⟨_, ok, H2⟩ := H2
  clear ha
  go_enter Try.func28, Try.ntmps28
  go_wp2_with fail
  refine (H1.out _).mono ?_
  rintro e w1 ⟨⟨n1, rfl⟩, rfl⟩
  go_wp2_with fail
  refine (H2.out _).mono ?_
  rintro e w1 ⟨⟨n2, rfl⟩, rfl⟩
  go_wp2
  go_ret3
  exact ⟨rfl, rfl⟩
set_option maxHeartbeats 800000 in
theorem rparts_bad2 (a b T : Nat) (ha : PG a T) (hb : PB b) (w : World) : Calls Try.prog 28 #[.complex .f64 a b] w (PartsPost w 0 0 1) := by
  have H1 := Lib.hid (part_pg a T ha)
  have H2 := Lib.hid (part_pb b hb)
  clear ha hb
  go_enter Try.func28, Try.ntmps28
  go_wp2_with fail
  refine (H1.out _).mono ?_
  rintro e w1 ⟨rfl, rfl⟩
  go_wp2_with fail
  refine (H2.out _).mono ?_
  rintro e w1 ⟨⟨n2, rfl⟩, rfl⟩
  go_wp2
  go_ret3
  exact ⟨rfl, rfl⟩
set_option maxHeartbeats 1600000 in
theorem parts_bad1 (a b : Nat) (ha : PB a) (w : World) : Calls Try.prog 27 #[.complex .f64 a b] w (PartsPost w 0 0 1) := by
  rcases ha with ⟨ha1, _⟩ | ⟨ha1, ha2⟩ | ⟨ha1, ha2, ha3⟩ | ⟨ha1, haT, ha2⟩
  · have han : (FloatKind.f64.format.order a a != some Ordering.eq) = true := by rw [show FloatKind.f64.format.order a a = none from ha1]; rfl
    clear ha1
    go_enter Try.func27, Try.ntmps27
    go_wp2_with fail
    refine wp_loop_rounds 3 ?_
    rw [rounds_succ]
    go_wp2_with (first | simp only [index0])
    refine (nan_any a _).mono ?_
    rintro e w1 ⟨rfl, rfl⟩
    go_wp2
    go_ret3
    exact ⟨rfl, rfl⟩
  · have han := bne_of (show FloatKind.f64.format.order a a = some .eq from ha1) .eq
    have hal := beq_of (show FloatKind.f64.format.order a 0 = some .lt from ha2) .lt
    simp only [decide_true, Bool.not_true, eq_self] at han hal
    clear ha1 ha2
    go_enter Try.func27, Try.ntmps27
    go_wp2_with fail
    refine wp_loop_rounds 3 ?_
    rw [rounds_succ]
    go_wp2_with (first | simp only [index0])
    refine (nan_any a _).mono ?_
    rintro e w1 ⟨rfl, rfl⟩
    go_wp2
    go_ret3
    exact ⟨rfl, rfl⟩
  · have han := bne_of (show FloatKind.f64.format.order a a = some .eq from ha1) .eq
    have hal := beq_of (show FloatKind.f64.format.order a 0 = some .gt from ha2) .lt
    have hag := beq_of (show FloatKind.f64.format.order a 4845873199050653696 = some .gt from ha3) .gt
    simp only [decide_true, decide_false, Bool.not_true, eq_self, reduceCtorEq] at han hal hag
    clear ha1 ha2 ha3
    go_enter Try.func27, Try.ntmps27
    go_wp2_with fail
    refine wp_loop_rounds 3 ?_
    rw [rounds_succ]
    go_wp2_with (first | simp only [index0])
    refine (nan_any a _).mono ?_
    rintro e w1 ⟨rfl, rfl⟩
    go_wp2
    go_ret3
    exact ⟨rfl, rfl⟩
  · have han := bne_of (show FloatKind.f64.format.order a a = some .eq from ha1) .eq
    obtain ⟨hal, hag⟩ := mid_facts ha2
    obtain ⟨haX, hax, hat⟩ := trunc_mid a haT false ha2 w
    have hay := bne_of hax .eq
    simp only [Bool.false_eq_true, if_false, reduceCtorEq, decide_true, decide_false, Bool.not_true, Bool.not_false, eq_self] at han hay
    have HAh := Lib.hid hat
    clear ha1 ha2 hax hat
    go_enter Try.func27, Try.ntmps27
    go_wp2_with fail
    refine wp_loop_rounds 3 ?_
    rw [rounds_succ]
    go_wp2_with (first | simp only [index0])
    refine (nan_any a _).mono ?_
    rintro e w1 ⟨rfl, rfl⟩
    go_wp2_with fail
    refine (HAh.out _).mono ?_
    rintro e w1 ⟨rfl, rfl⟩
    go_wp2
    go_ret3
    exact ⟨rfl, rfl⟩
set_option maxHeartbeats 1600000 in
theorem parts_bad2 (a b T : Nat) (ha : PG a T) (hb : PB b) (w : World) : Calls Try.prog 27 #[.complex .f64 a b] w (PartsPost w 0 0 1) := by
  obtain ⟨ha1, ha2⟩ := ha
  have han := bne_of (show FloatKind.f64.format.order a a = some .eq from ha1) .eq
  obtain ⟨hal, hag⟩ := mid_facts ha2
  obtain ⟨haX, hax, hat⟩ := trunc_mid a T true ha2 w
  have hay := bne_of hax .eq
  have hac := fun w => conv_mid a T true ha2 w
  simp only [if_true, decide_true, Bool.not_true, eq_self] at han hay
  have HAh := Lib.hid hat
  clear ha1 ha2 hax hat
  clear hac
  rcases hb with ⟨hb1, _⟩ | ⟨hb1, hb2⟩ | ⟨hb1, hb2, hb3⟩ | ⟨hb1, hbT, hb2⟩
  · have hbn : (FloatKind.f64.format.order b b != some Ordering.eq) = true := by rw [show FloatKind.f64.format.order b b = none from hb1]; rfl
    clear hb1
    go_enter Try.func27, Try.ntmps27
    go_wp2_with fail
    refine wp_loop_rounds 3 ?_
    rw [rounds_succ]
    go_wp2_with (first | simp only [index0])
    refine (nan_any a _).mono ?_
    rintro e w1 ⟨rfl, rfl⟩
    go_wp2_with fail
    refine (HAh.out _).mono ?_
    rintro e w1 ⟨rfl, rfl⟩
    go_wp2
    rw [rounds_succ]
    go_wp2_with (first | simp only [index1])
    refine (nan_any b _).mono ?_
    rintro e w1 ⟨rfl, rfl⟩
    go_wp2
    go_ret3
    exact ⟨rfl, rfl⟩
  · have hbn := bne_of (show FloatKind.f64.format.order b b = some .eq from hb1) .eq
    have hbl := beq_of (show FloatKind.f64.format.order b 0 = some .lt from hb2) .lt
    simp only [decide_true, Bool.not_true, eq_self] at hbn hbl
    clear hb1 hb2
    go_enter Try.func27, Try.ntmps27
    go_wp2_with fail
    refine wp_loop_rounds 3 ?_
    rw [rounds_succ]
    go_wp2_with (first | simp only [index0])
    refine (nan_any a _).mono ?_
    rintro e w1 ⟨rfl, rfl⟩
    go_wp2_with fail
    refine (HAh.out _).mono ?_
    rintro e w1 ⟨rfl, rfl⟩
    go_wp2
    rw [rounds_succ]
    go_wp2_with (first | simp only [index1])
    refine (nan_any b _).mono ?_
    rintro e w1 ⟨rfl, rfl⟩
    go_wp2
    go_ret3
    exact ⟨rfl, rfl⟩
  · have hbn := bne_of (show FloatKind.f64.format.order b b = some .eq from hb1) .eq
    have hbl := beq_of (show FloatKind.f64.format.order b 0 = some .gt from hb2) .lt
    have hbg := beq_of (show FloatKind.f64.format.order b 4845873199050653696 = some .gt from hb3) .gt
    simp only [decide_true, decide_false, Bool.not_true, eq_self, reduceCtorEq] at hbn hbl hbg
    clear hb1 hb2 hb3
    go_enter Try.func27, Try.ntmps27
    go_wp2_with fail
    refine wp_loop_rounds 3 ?_
    rw [rounds_succ]
    go_wp2_with (first | simp only [index0])
    refine (nan_any a _).mono ?_
    rintro e w1 ⟨rfl, rfl⟩
    go_wp2_with fail
    refine (HAh.out _).mono ?_
    rintro e w1 ⟨rfl, rfl⟩
    go_wp2
    rw [rounds_succ]
    go_wp2_with (first | simp only [index1])
    refine (nan_any b _).mono ?_
    rintro e w1 ⟨rfl, rfl⟩
    go_wp2
    go_ret3
    exact ⟨rfl, rfl⟩
  · have hbn := bne_of (show FloatKind.f64.format.order b b = some .eq from hb1) .eq
    obtain ⟨hbl, hbg⟩ := mid_facts hb2
    obtain ⟨hbX, hbx, hbt⟩ := trunc_mid b hbT false hb2 w
    have hby := bne_of hbx .eq
    simp only [Bool.false_eq_true, if_false, reduceCtorEq, decide_true, decide_false, Bool.not_true, Bool.not_false, eq_self] at hbn hby
    have HBh := Lib.hid hbt
    clear hb1 hb2 hbx hbt
    go_enter Try.func27, Try.ntmps27
    go_wp2_with fail
    refine wp_loop_rounds 3 ?_
    rw [rounds_succ]
    go_wp2_with (first | simp only [index0])
    refine (nan_any a _).mono ?_
    rintro e w1 ⟨rfl, rfl⟩
    go_wp2_with fail
    refine (HAh.out _).mono ?_
    rintro e w1 ⟨rfl, rfl⟩
    go_wp2
    rw [rounds_succ]
    go_wp2_with (first | simp only [index1])
    refine (nan_any b _).mono ?_
    rintro e w1 ⟨rfl, rfl⟩
    go_wp2_with fail
    refine (HBh.out _).mono ?_
    rintro e w1 ⟨rfl, rfl⟩
    go_wp2
    go_ret3
    exact ⟨rfl, rfl⟩
set_option maxHeartbeats 1600000 in
theorem parts_good (a b T S : Nat) (ha : PG a T) (hb : PG b S) (w : World) : Calls Try.prog 27 #[.complex .f64 a b] w (PartsPost w T S 0) := by
  obtain ⟨ha1, ha2⟩ := ha
  have han := bne_of (show FloatKind.f64.format.order a a = some .eq from ha1) .eq
  obtain ⟨hal, hag⟩ := mid_facts ha2
  obtain ⟨haX, hax, hat⟩ := trunc_mid a T true ha2 w
  have hay := bne_of hax .eq
  have hac := fun w => conv_mid a T true ha2 w
  simp only [if_true, decide_true, Bool.not_true, eq_self] at han hay
  have HAh := Lib.hid hat
  clear ha1 ha2 hax hat
  obtain ⟨hb1, hb2⟩ := hb
  have hbn := bne_of (show FloatKind.f64.format.order b b = some .eq from hb1) .eq
  obtain ⟨hbl, hbg⟩ := mid_facts hb2
  obtain ⟨hbX, hbx, hbt⟩ := trunc_mid b S true hb2 w
  have hby := bne_of hbx .eq
  have hbc := fun w => conv_mid b S true hb2 w
  simp only [if_true, decide_true, Bool.not_true, eq_self] at hbn hby
  have HBh := Lib.hid hbt
  clear hb1 hb2 hbx hbt
  go_enter Try.func27, Try.ntmps27
  go_wp2_with fail
  refine wp_loop_rounds 3 ?_
  rw [rounds_succ]
  go_wp2_with (first | simp only [index0])
  refine (nan_any a _).mono ?_
  rintro e w1 ⟨rfl, rfl⟩
  go_wp2_with fail
  refine (HAh.out _).mono ?_
  rintro e w1 ⟨rfl, rfl⟩
  go_wp2
  rw [rounds_succ]
  go_wp2_with (first | simp only [index1])
  refine (nan_any b _).mono ?_
  rintro e w1 ⟨rfl, rfl⟩
  go_wp2_with fail
  refine (HBh.out _).mono ?_
  rintro e w1 ⟨rfl, rfl⟩
  go_wp2
  rw [rounds_succ]
  go_wp2_with (first | simp only [hac] | simp only [hbc])
  go_ret3
  exact ⟨rfl, rfl⟩
end Go.Proofs.Ytckkaalejfmonaa
