/- Contract of bit. -/
import Derived.Test.YtfagmjlgpfnniaaDoorMem
namespace Go.Proofs.YtfagmjlgpfnniaaDoor
open Go.RowKit

/-- A bit of a block. -/
def bitF (B : Nat → Nat) (f : Nat) : Nat := B (f % 256 / 8) / 2 ^ (f % 8) % 2
set_option maxHeartbeats 1600000 in
theorem bit_any (g o : Nat) (B : Nat → Nat) (f : Nat) (hf : f < 1000) (w : World) (h : Row w g o 32 .u8 B) (hB : ∀ i, B i < 256) :
    Calls Tryd.prog 27 #[.pointer (some ⟨g, o, none⟩), .int .u64 f] w fun e w' => e = .returned (.bool (decide (bitF B f = 1))) ∧ w = w' := by
  obtain ⟨p, hp⟩ : ∃ p, p = f % 256 := ⟨_, rfl⟩
  obtain ⟨q, hq⟩ : ∃ q, q = p / 8 := ⟨_, rfl⟩
  obtain ⟨s, hs⟩ : ∃ s, s = f % 8 := ⟨_, rfl⟩
  obtain ⟨x, hx⟩ : ∃ x, x = B q := ⟨_, rfl⟩
  obtain ⟨y, hy⟩ : ∃ y, y = x / 2 ^ s := ⟨_, rfl⟩
  have e1 : bits .and .u64 (f : Int) 255 = (p : Int) := by
    rw [show (255 : Int) = ((255 : Nat) : Int) from rfl, u64_and_nat _ _ (by omega) (by omega), show (255 : Nat) = 2 ^ 8 - 1 from rfl, Nat.and_two_pow_sub_one_eq_mod, hp]
  have e2 : (p : Int) / 8 = (q : Int) := by omega
  have e3 : bits .and .u64 (f : Int) 7 = (s : Int) := by
    rw [show (7 : Int) = ((7 : Nat) : Int) from rfl, u64_and_nat _ _ (by omega) (by omega), show (7 : Nat) = 2 ^ 3 - 1 from rfl, Nat.and_two_pow_sub_one_eq_mod, hs]
  have lx : x < 256 := by rw [hx]; exact hB q
  have hc : w.cell? ⟨g, o + q, none⟩ = some (.int .u8 (x : Nat)) := by rw [hx]; exact h q (by omega)
  have ly : y < 256 := by rw [hy]; exact Nat.lt_of_le_of_lt (Nat.div_le_self _ _) lx
  have e4 : (x : Int) / 2 ^ s = (y : Int) := by rw [hy]; simp
  have e5 : bits .and .u8 (y : Int) 1 = ((y % 2 : Nat) : Int) := by
    rw [show (1 : Int) = ((1 : Nat) : Int) from rfl, u8_and_nat _ _ (by omega) (by omega), show (1 : Nat) = 2 ^ 1 - 1 from rfl, Nat.and_two_pow_sub_one_eq_mod]
  have es : min s 8 = s := by omega
  have lq : (q : Int) < 32 := by omega
  have ls : (s : Int) < 64 := by omega
  have hb : bitF B f = y % 2 := by unfold bitF; rw [← hp, ← hq, ← hs, ← hx, ← hy]
  rw [hb]
  clear hb hp hq hs hx hy h hB
  rcases Nat.mod_two_eq_zero_or_one y with h2 | h2
  · rw [h2] at e5 ⊢
    clear h2
    go_enter Tryd.func27, Tryd.ntmps27
    go_wp2
    go_ret
    exact ⟨rfl, rfl⟩
  · rw [h2] at e5 ⊢
    clear h2
    go_enter Tryd.func27, Tryd.ntmps27
    go_wp2
    go_ret
    exact ⟨rfl, rfl⟩
end Go.Proofs.YtfagmjlgpfnniaaDoor
