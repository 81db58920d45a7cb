/- Contract of the reference's product. -/
import Derived.Test.YtckkaalejfmonaaWake
namespace Go.Proofs.Ytckkaalejfmonaa
open Go.RowKit Go.Shelf
set_option maxHeartbeats 400000 in
theorem rmul_any (a b : Nat) (ha : a < 18446744073709551616) (hb : b < 18446744073709551616) (w : World) : Calls Try.prog 19 #[.int .u64 a, .int .u64 b] w (Pair w (mulS a b)) := by
  have M := wide_any a b ha hb
  obtain ⟨p, hq⟩ : ∃ p, p = a * b := ⟨_, rfl⟩
  have e0 : Hid (mulS a b = if (p : Int) < 18446744073709551616 then ((p : Int), 0) else (0, 2)) := by show _ = _; rw [hq, Int.natCast_mul]; rfl
  rw [← hq] at M
  clear hq
  obtain ⟨H, hH⟩ : ∃ H, H = p / 18446744073709551616 := ⟨_, rfl⟩
  obtain ⟨L, hL⟩ : ∃ H, H = p % 18446744073709551616 := ⟨_, rfl⟩
  rw [← hH, ← hL] at M
  by_cases h : (p : Int) < 18446744073709551616
  · have e1 : Hid (mulS a b = ((p : Int), 0)) := by show _ = _; rw [e0.out, if_pos h]
    have h0 : H = 0 := by omega
    have h1 : L = p := by omega
    subst h0 h1
    have HM := Lib.hid M
    clear M hH hL h
    go_enter Try.func19, Try.ntmps19
    go_wp2_with fail
    refine (HM.out _).mono ?_
    rintro e w' ⟨rfl, rfl⟩
    go_wp2
    go_ret2
    exact ⟨by rw [e1.out]; rfl, rfl⟩
  · have e1 : Hid (mulS a b = (0, 2)) := by show _ = _; rw [e0.out, if_neg h]
    have h0 : ((H : Int) == 0) = false := by simp; omega
    have h0' : ((H : Int) != 0) = true := by simp; omega
    have HM := Lib.hid M
    clear M hH hL h
    go_enter Try.func19, Try.ntmps19
    go_wp2_with fail
    refine (HM.out _).mono ?_
    rintro e w' ⟨rfl, rfl⟩
    go_wp2
    go_ret2
    exact ⟨by rw [e1.out]; rfl, rfl⟩
end Go.Proofs.Ytckkaalejfmonaa
