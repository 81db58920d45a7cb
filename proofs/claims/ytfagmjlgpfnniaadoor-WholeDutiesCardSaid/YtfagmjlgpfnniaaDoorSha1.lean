/- sha: turn. -/
import Derived.Test.YtfagmjlgpfnniaaDoorRows
import Derived.WalkKit
import Derived.WalkSpells
import Derived.WalkLawsBesides
import Derived.Deep.QuietTactic
import Derived.BigQuiet
import Derived.Deep.Draws
import Derived.Deep.DeepCutAuto
import Derived.Lib.Hide
import Derived.Below
namespace Go.Proofs.YtfagmjlgpfnniaaDoor
open Go.RowKit

/-- A word of 32 bits turned to the right. -/
def rotr (k x : Nat) : Nat := (x * 2 ^ (32 - k)) % 4294967296 ||| x / 2 ^ k
theorem rotr_lt (k x : Nat) (hx : x < 4294967296) : rotr k x < 4294967296 := by
  unfold rotr
  exact Nat.or_lt_two_pow (n := 32) (Nat.mod_lt _ (by decide)) (Nat.lt_of_le_of_lt (Nat.div_le_self _ _) hx)
theorem neg_and (k : Nat) (h1 : 1 ≤ k) (h2 : k ≤ 31) : bits .and .u64 (18446744073709551616 - (k : Int)) 31 = ((32 - k : Nat) : Int) := by
  have e : (18446744073709551616 - (k : Int)) = ((18446744073709551616 - k : Nat) : Int) := by omega
  rw [e, show (31 : Int) = ((31 : Nat) : Int) from rfl, u64_and_nat _ _ (by omega) (by omega), show (31 : Nat) = 2 ^ 5 - 1 from rfl, Nat.and_two_pow_sub_one_eq_mod]
  omega
theorem or32 (a b : Nat) (ha : a < 4294967296) (hb : b < 4294967296) : bits .or .u32 (a : Int) (b : Int) = ((a ||| b : Nat) : Int) := u32_or_nat a b ha hb
set_option maxHeartbeats 800000 in
theorem turn_any (x k : Nat) (hx : x < 4294967296) (h1 : 1 ≤ k) (h2 : k ≤ 31) (w : World) :
    Calls Tryd.prog 33 #[.int .u32 x, .int .i64 k] w fun e w' => e = .returned (.int .u32 (rotr k x : Nat)) ∧ w' = w := by
  obtain ⟨s, hs⟩ : ∃ s, s = 32 - k := ⟨_, rfl⟩
  have hk : IntKind.u64.wrap (-(k : Int)) = 18446744073709551616 - (k : Int) := by rw [IntKind.wrap_u64]; omega
  have ea : bits .and .u64 (IntKind.u64.wrap (-(k : Int))) 31 = (s : Int) := by rw [hk, neg_and k h1 h2, hs]
  have hs32 : 32 - s = k := by omega
  obtain ⟨L, hL⟩ : ∃ L, L = x * 2 ^ s % 4294967296 := ⟨_, rfl⟩
  obtain ⟨R, hR⟩ : ∃ R, R = x / 2 ^ (32 - s) := ⟨_, rfl⟩
  have eL : IntKind.u32.wrap ((x : Int) * 2 ^ s) = (L : Int) := by
    have e : ((x : Int) * 2 ^ s) = ((x * 2 ^ s : Nat) : Int) := by rw [Int.natCast_mul, Int.natCast_pow]; rfl
    rw [e, IntKind.wrap_u32, hL]; omega
  have eR : (x : Int) / 2 ^ (32 - s) = (R : Int) := by rw [hR]; simp
  have hLl : L < 4294967296 := by rw [hL]; exact Nat.mod_lt _ (by decide)
  have hRl : R < 4294967296 := by rw [hR]; exact Nat.lt_of_le_of_lt (Nat.div_le_self _ _) hx
  have eO : bits .or .u32 (L : Int) (R : Int) = ((rotr k x : Nat) : Int) := by
    rw [or32 L R hLl hRl, hL, hR, hs32, hs]; rfl
  have hsl : s ≤ 31 := by omega
  have hs1 : 1 ≤ s := by omega
  clear hk hs hs32 hL hR
  generalize rotr k x = y at *
  go_enter Tryd.func33, Tryd.ntmps33
  go_wp2
  go_ret
  exact ⟨rfl, rfl⟩
end Go.Proofs.YtfagmjlgpfnniaaDoor
