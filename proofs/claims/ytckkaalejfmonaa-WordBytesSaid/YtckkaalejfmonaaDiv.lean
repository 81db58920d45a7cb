/- Contract of bits.Div64. -/
import Derived.Test.YtckkaalejfmonaaKnuth
import Derived.Deep.DeepCutAuto
import Derived.Deep.CutBlock
namespace Go.Proofs.Ytckkaalejfmonaa
open Go.RowKit Go.Shelf
theorem wrap_id (x : Int) (h0 : 0 ≤ x) (h1 : x < 18446744073709551616) : IntKind.u64.wrap x = x := by rw [IntKind.wrap_u64]; omega
theorem wrap_mul (a b X : Nat) (h : a * b = X) (hX : X < 18446744073709551616) : IntKind.u64.wrap ((a : Int) * (b : Int)) = (X : Int) := by
  rw [← h] at hX ⊢
  rw [← Int.natCast_mul]
  exact wrap_id _ (by omega) (by omega)

theorem wrap_rest {u v Y q : Nat} (hq : q = (u * 4294967296 + v) / Y) (hY : 0 < Y) (hYN : Y < 18446744073709551616) :
    IntKind.u64.wrap (IntKind.u64.wrap (IntKind.u64.wrap ((u : Int) * 4294967296) + (v : Int)) - IntKind.u64.wrap ((q : Int) * (Y : Int))) = (((u * 4294967296 + v) % Y : Nat) : Int) := by
  have h := knuth.rest_wrap (N := 18446744073709551616) hq
  have hm := Nat.mod_lt (u * 4294967296 + v) hY
  have e1 : ((u : Int) * 4294967296) = ((u * 4294967296 : Nat) : Int) := by rw [Int.natCast_mul]; rfl
  rw [e1, ← Int.natCast_mul]
  simp only [IntKind.wrap_u64]
  rw [Int.natCast_emod, Int.natCast_emod] at h
  generalize (((q * Y / 18446744073709551616 : Nat) : Int) - ((u * 4294967296 / 18446744073709551616 : Nat) : Int)) = k at h
  generalize ((u * 4294967296 : Nat) : Int) = U at h ⊢
  generalize ((q * Y : Nat) : Int) = Q at h ⊢
  generalize (u * 4294967296 + v) % Y = R at h hm ⊢
  clear e1 hq
  omega

set_option maxHeartbeats 3200000 in
theorem div64_walk (h l y s Y y1 y0 u L v1 v0 q1 D q0 : Nat) (hh : 0 < h) (hhy : h < y) (hs : s < 64)
    (hY : Y = y1 * 4294967296 + y0) (h0 : y0 < 4294967296) (h1 : 2147483648 ≤ y1) (h1' : y1 < 4294967296) (hu : u < Y) (hv1 : v1 < 4294967296) (hv0 : v0 < 4294967296)
    (hq1 : q1 = (u * 4294967296 + v1) / Y) (hD : D = (u * 4294967296 + v1) % Y) (hq0 : q0 = (D * 4294967296 + v0) / Y)
    (eY : IntKind.u64.wrap ((y : Int) * 2 ^ s) = (Y : Int)) (ey1 : (Y : Int) / 4294967296 = (y1 : Int)) (ey0 : bits .and .u64 (Y : Int) 4294967295 = (y0 : Int))
    (eU : bits .or .u64 (IntKind.u64.wrap ((h : Int) * 2 ^ s)) ((l : Int) / 2 ^ (64 - s)) = (u : Int))
    (eL : IntKind.u64.wrap ((l : Int) * 2 ^ s) = (L : Int)) (ev1 : (L : Int) / 4294967296 = (v1 : Int)) (ev0 : bits .and .u64 (L : Int) 4294967295 = (v0 : Int))
    (hz : ∀ w : World, Calls Try.prog 38 #[.int .u64 y] w fun e w' => e = .returned (.int .i64 s) ∧ w' = w) (w : World) :
    Calls Try.prog 30 #[.int .u64 h, .int .u64 l, .int .u64 y] w fun e w' => ∃ r : Int, e = .returned (.tuple #[.int .u64 ((q1 * 4294967296 + q0 : Nat) : Int), .int .u64 r]) ∧ w = w' := by
  have HZ := Lib.hid hz
  have HY := Lib.hid hY
  have HQ1 := Lib.hid hq1
  have HQ0 := Lib.hid hq0
  have HD := Lib.hid hD
  obtain ⟨qa, hqa⟩ : ∃ qa, qa = u / y1 := ⟨_, rfl⟩
  obtain ⟨ra, hra⟩ : ∃ ra, ra = u % y1 := ⟨_, rfl⟩
  obtain ⟨X, hX⟩ : ∃ X, X = qa * y1 := ⟨_, rfl⟩
  have hXr : X + ra = u := by rw [hX, hqa, hra, Nat.mul_comm]; exact Nat.div_add_mod _ _
  have eqa : (u : Int) / (y1 : Int) = (qa : Int) := by rw [hqa]; simp
  have eX : IntKind.u64.wrap ((qa : Int) * (y1 : Int)) = (X : Int) := wrap_mul _ _ _ hX.symm (by omega)
  have era : (u : Int) - (X : Int) = (ra : Int) := by omega
  have hle : q1 ≤ qa := by rw [hq1, hqa, hY]; exact knuth.start hv1 (by omega)
  have hral : ra < y1 := by rw [hra]; exact Nat.mod_lt _ (by omega)
  have hXr' := Lib.hid hXr
  have hX' := Lib.hid hX
  have hqaN : qa < 18446744073709551616 := by have : qa ≤ u := by rw [hqa]; exact Nat.div_le_self _ _
                                              omega
  have hXN : X ≤ u := by omega
  have hle' := Lib.hid hle
  have hu' := Lib.hid hu
  have hYN : Y < 18446744073709551616 := by omega
  clear hz hY hq1 hq0 hD hqa hra hX hXr hle
  go_enter Try.func30, Try.ntmps30
  go_wp2_with fail
  refine (HZ.out _).mono ?_
  rintro e w' ⟨rfl, rfl⟩
  go_upto_block 0 with fail
  clear eY ey1 ey0 eU eL ev1 ev0 eqa eX era
  go_cut [15] (fun s15 wx => w' = wx ∧ s15 = .int .u64 (q1 : Nat))
  case first =>
    go_wp2_with fail
    go_loop [15, 16] (fun a b => ∃ q r : Nat, a = .int .u64 q ∧ b = .int .u64 r ∧ q * y1 + r = u ∧ r < 4294967296 ∧ q1 ≤ q ∧ q < 18446744073709551616) (fun a _ => (intOf a).toNat)
    case atStart => exact ⟨qa, ra, rfl, rfl, by rw [← hX'.out]; exact hXr'.out, by omega, hle'.out, hqaN⟩
    case round =>
      obtain ⟨q, r, rfl, rfl, hqr, hr, hqle, hqN⟩ := hrel
      have HQR := Lib.hid hqr
      have HQLE := Lib.hid hqle
      clear hqr hqle
      by_cases hq : (4294967296 : Int) ≤ (q : Int)
      · have ho : q1 < q := by rw [HQ1.out, HY.out]; exact knuth.over HQR.out (Or.inl (by omega)) (by rw [← HY.out]; exact hu'.out) (by omega) (by omega)
        obtain ⟨q', hq'⟩ : ∃ q', q = q' + 1 := ⟨q - 1, by omega⟩
        have eq' : (q : Int) - 1 = (q' : Int) := by omega
        have hd := Lib.hid (knuth.dec (q := q') (r := r) (u := u) (y1 := y1) (by have h9 := HQR.out; rwa [hq'] at h9))
        have ho' := Lib.hid ho
        have hqq := Lib.hid hq'
        clear hq'
        clear ho
        by_cases hb : (4294967296 : Int) ≤ (r : Int) + (y1 : Int)
        · have he : q' = q1 := by rw [HQ1.out, HY.out]; exact knuth.exitB hd.out (by omega) (by rw [← HY.out]; exact hu'.out) (by omega) (by rw [← HY.out, ← HQ1.out]; have := ho'.out; have := hqq.out; omega) (by omega)
          have he' := Lib.hid he
          clear he
          go_wp2
          go_meet
          exact ⟨rfl, by rw [← he'.out]⟩
        · go_wp2
          go_round
          case rel => exact ⟨q', r + y1, by go_num, by go_num, hd.out, by omega, by have := ho'.out; have := hqq.out; omega, by have := hqq.out; omega⟩
          case measure => simp [intOf]; have := hqq.out; omega
      · obtain ⟨Z, hZ⟩ : ∃ Z, Z = q * y0 := ⟨_, rfl⟩
        have hZN : Z < 18446744073709551616 := by
          rw [hZ]
          have : q * y0 ≤ 4294967295 * 4294967295 := Nat.mul_le_mul (by omega) (by omega)
          omega
        have eZ : IntKind.u64.wrap ((q : Int) * (y0 : Int)) = (Z : Int) := wrap_mul _ _ _ hZ.symm hZN
        by_cases ht : (4294967296 : Int) * (r : Int) + (v1 : Int) < (Z : Int)
        · have ho : q1 < q := by rw [HQ1.out, HY.out]; exact knuth.over HQR.out (Or.inr (by rw [← hZ]; omega)) (by rw [← HY.out]; exact hu'.out) (by omega) (by omega)
          have hZ' := Lib.hid hZ
          clear hZ
          obtain ⟨q', hq'⟩ : ∃ q', q = q' + 1 := ⟨q - 1, by omega⟩
          have eq' : (q : Int) - 1 = (q' : Int) := by omega
          have hd := Lib.hid (knuth.dec (q := q') (r := r) (u := u) (y1 := y1) (by have h9 := HQR.out; rwa [hq'] at h9))
          have ho' := Lib.hid ho
          have hqq := Lib.hid hq'
          clear hq'
          clear ho
          by_cases hb : (4294967296 : Int) ≤ (r : Int) + (y1 : Int)
          · have he : q' = q1 := by rw [HQ1.out, HY.out]; exact knuth.exitB hd.out (by omega) (by rw [← HY.out]; exact hu'.out) (by omega) (by rw [← HY.out, ← HQ1.out]; have := ho'.out; have := hqq.out; omega) (by omega)
            have he' := Lib.hid he
            clear he
            go_wp2
            go_meet
            exact ⟨rfl, by rw [← he'.out]⟩
          · go_wp2
            go_round
            case rel => exact ⟨q', r + y1, by go_num, by go_num, hd.out, by omega, by have := ho'.out; have := hqq.out; omega, by have := hqq.out; omega⟩
            case measure => simp [intOf]; have := hqq.out; omega
        · have he : q = q1 := by rw [HQ1.out, HY.out]; exact knuth.exitA HQR.out (by rw [← hZ]; omega) (by rw [← HY.out, ← HQ1.out]; exact HQLE.out) (by omega)
          have he' := Lib.hid he
          clear he hZ
          go_wp2
          go_meet
          exact ⟨rfl, by rw [← he'.out]⟩
  case rest =>
    obtain ⟨rfl, rfl⟩ := hcut
    have hDY0 : D < Y := by rw [HD.out]; exact Nat.mod_lt _ (by omega)
    have hDY := Lib.hid hDY0
    have e21 := wrap_rest HQ1.out (by omega) hYN
    rw [← HD.out] at e21
    obtain ⟨qb, hqb⟩ : ∃ qb, qb = D / y1 := ⟨_, rfl⟩
    obtain ⟨rb, hrb⟩ : ∃ rb, rb = D % y1 := ⟨_, rfl⟩
    obtain ⟨X2, hX2⟩ : ∃ X, X = qb * y1 := ⟨_, rfl⟩
    have hXr2 : X2 + rb = D := by rw [hX2, hqb, hrb, Nat.mul_comm]; exact Nat.div_add_mod _ _
    have eqb : (D : Int) / (y1 : Int) = (qb : Int) := by rw [hqb]; simp
    have eX2 : IntKind.u64.wrap ((qb : Int) * (y1 : Int)) = (X2 : Int) := wrap_mul _ _ _ hX2.symm (by omega)
    have erb : (D : Int) - (X2 : Int) = (rb : Int) := by omega
    have erb' : (D : Int) - (qb : Int) * (y1 : Int) = (rb : Int) := by rw [← Int.natCast_mul, ← hX2]; exact erb
    have herb := Lib.hid erb'
    clear erb'
    have hle2 : q0 ≤ qb := by rw [HQ0.out, hqb, HY.out]; exact knuth.start hv0 (by omega)
    have hrbl : rb < y1 := by rw [hrb]; exact Nat.mod_lt _ (by omega)
    have hqbN : qb < 18446744073709551616 := by have : qb ≤ D := by rw [hqb]; exact Nat.div_le_self _ _
                                                omega
    have hXN2 : X2 ≤ D := by omega
    have hXr2 := Lib.hid hXr2
    have hX2 := Lib.hid hX2
    have hle2 := Lib.hid hle2
    clear hqb hrb
    go_upto_block 2 with fail
    clear e21 eqb eX2 erb
    go_cut [18] (fun s18 wx => w' = wx ∧ s18 = .int .u64 (q0 : Nat))
    case first =>
      go_wp2_with fail
      go_loop [18, 16] (fun a b => ∃ q r : Nat, a = .int .u64 q ∧ b = .int .u64 r ∧ q * y1 + r = D ∧ r < 4294967296 ∧ q0 ≤ q ∧ q < 18446744073709551616) (fun a _ => (intOf a).toNat)
      case atStart => exact ⟨qb, rb, rfl, (by first | rfl | rw [herb.out]), by rw [← hX2.out]; exact hXr2.out, by omega, hle2.out, hqbN⟩
      case round =>
        obtain ⟨q, r, rfl, rfl, hqr, hr, hqle, hqN⟩ := hrel
        have HQR := Lib.hid hqr
        have HQLE := Lib.hid hqle
        clear hqr hqle
        by_cases hq : (4294967296 : Int) ≤ (q : Int)
        · have ho : q0 < q := by rw [HQ0.out, HY.out]; exact knuth.over HQR.out (Or.inl (by omega)) (by rw [← HY.out]; exact hDY.out) (by omega) (by omega)
          obtain ⟨q', hq'⟩ : ∃ q', q = q' + 1 := ⟨q - 1, by omega⟩
          have eq' : (q : Int) - 1 = (q' : Int) := by omega
          have hd := Lib.hid (knuth.dec (q := q') (r := r) (u := D) (y1 := y1) (by have h9 := HQR.out; rwa [hq'] at h9))
          have ho' := Lib.hid ho
          have hqq := Lib.hid hq'
          clear hq'
          clear ho
          by_cases hb : (4294967296 : Int) ≤ (r : Int) + (y1 : Int)
          · have he : q' = q0 := by rw [HQ0.out, HY.out]; exact knuth.exitB hd.out (by omega) (by rw [← HY.out]; exact hDY.out) (by omega) (by rw [← HY.out, ← HQ0.out]; have := ho'.out; have := hqq.out; omega) (by omega)
            have he' := Lib.hid he
            clear he
            go_wp2
            go_meet
            exact ⟨rfl, by rw [← he'.out]⟩
          · go_wp2
            go_round
            case rel => exact ⟨q', r + y1, by go_num, by go_num, hd.out, by omega, by have := ho'.out; have := hqq.out; omega, by have := hqq.out; omega⟩
            case measure => simp [intOf]; have := hqq.out; omega
        · obtain ⟨Z, hZ⟩ : ∃ Z, Z = q * y0 := ⟨_, rfl⟩
          have hZN : Z < 18446744073709551616 := by
            rw [hZ]
            have : q * y0 ≤ 4294967295 * 4294967295 := Nat.mul_le_mul (by omega) (by omega)
            omega
          have eZ : IntKind.u64.wrap ((q : Int) * (y0 : Int)) = (Z : Int) := wrap_mul _ _ _ hZ.symm hZN
          by_cases ht : (4294967296 : Int) * (r : Int) + (v0 : Int) < (Z : Int)
          · have ho : q0 < q := by rw [HQ0.out, HY.out]; exact knuth.over HQR.out (Or.inr (by rw [← hZ]; omega)) (by rw [← HY.out]; exact hDY.out) (by omega) (by omega)
            have hZ' := Lib.hid hZ
            clear hZ
            obtain ⟨q', hq'⟩ : ∃ q', q = q' + 1 := ⟨q - 1, by omega⟩
            have eq' : (q : Int) - 1 = (q' : Int) := by omega
            have hd := Lib.hid (knuth.dec (q := q') (r := r) (u := D) (y1 := y1) (by have h9 := HQR.out; rwa [hq'] at h9))
            have ho' := Lib.hid ho
            have hqq := Lib.hid hq'
            clear hq'
            clear ho
            by_cases hb : (4294967296 : Int) ≤ (r : Int) + (y1 : Int)
            · have he : q' = q0 := by rw [HQ0.out, HY.out]; exact knuth.exitB hd.out (by omega) (by rw [← HY.out]; exact hDY.out) (by omega) (by rw [← HY.out, ← HQ0.out]; have := ho'.out; have := hqq.out; omega) (by omega)
              have he' := Lib.hid he
              clear he
              go_wp2
              go_meet
              exact ⟨rfl, by rw [← he'.out]⟩
            · go_wp2
              go_round
              case rel => exact ⟨q', r + y1, by go_num, by go_num, hd.out, by omega, by have := ho'.out; have := hqq.out; omega, by have := hqq.out; omega⟩
              case measure => simp [intOf]; have := hqq.out; omega
          · have he : q = q0 := by rw [HQ0.out, HY.out]; exact knuth.exitA HQR.out (by rw [← hZ]; omega) (by rw [← HY.out, ← HQ0.out]; exact HQLE.out) (by omega)
            have he' := Lib.hid he
            clear he hZ
            go_wp2
            go_meet
            exact ⟨rfl, by rw [← he'.out]⟩
    case rest =>
      obtain ⟨rfl, rfl⟩ := hcut
      have hq1l : q1 < 4294967296 := by rw [HQ1.out]; exact knuth.digit_lt hu hv1
      have hq0l : q0 < 4294967296 := by rw [HQ0.out]; exact knuth.digit_lt hDY.out hv0
      go_wp2
      go_ret2
      exact ⟨_, rfl, rfl⟩
end Go.Proofs.Ytckkaalejfmonaa
