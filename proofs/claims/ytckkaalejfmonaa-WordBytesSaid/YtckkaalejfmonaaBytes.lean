/- Contracts of Bytes, both. -/
import Derived.Test.YtckkaalejfmonaaMemW
import Derived.Handy
namespace Go.Proofs.Ytckkaalejfmonaa
open Go.RowKit Go.Shelf

/-- The eight bytes' values. -/
def byteVals (n : Int) : Array Value := #[.int .u8 (n % 256), .int .u8 (n / 256 % 256), .int .u8 (n / 65536 % 256), .int .u8 (n / 16777216 % 256), .int .u8 (n / 4294967296 % 256), .int .u8 (n / 1099511627776 % 256), .int .u8 (n / 281474976710656 % 256), .int .u8 (n / 72057594037927936)]
def BytesPost (w : World) (n : Int) (e : Ending) (w' : World) : Prop := e = .returned (.agg (byteVals n)) ∧ Below w.heap.size w w'
set_option maxHeartbeats 1600000 in
theorem bytes_any (n : Nat) (hn : n < 18446744073709551616) (w : World) :
    Calls Try.prog 22 #[.int .u64 n] w (BytesPost w n) := by
  go_enter Try.func22, Try.ntmps22
  go_wp2
  go_rounds 9
  refine bodyPost_ret (v := .agg (byteVals n)) ?_ rfl ⟨rfl, ?_⟩
  · simp [results, Try.f22, go_sem, byteVals]
  · exact ((Below.refl _ w).alloc (Nat.le_refl _) _).alloc (by simp) _
set_option maxHeartbeats 1600000 in
theorem rbytes_any (n : Nat) (hn : n < 18446744073709551616) (w : World) :
    Calls Try.prog 25 #[.int .u64 n] w (BytesPost w n) := by
  go_enter Try.func25, Try.ntmps25
  go_wp2
  go_rounds 9
  refine bodyPost_ret (v := .agg (byteVals n)) ?_ rfl ⟨rfl, ?_⟩
  · simp [results, Try.f25, go_sem, byteVals]
  · exact ((Below.refl _ w).alloc (Nat.le_refl _) _).alloc (by simp) _
end Go.Proofs.Ytckkaalejfmonaa
