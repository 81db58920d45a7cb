/- Two arrays of the same eight bytes are the same. -/
import Derived.Test.YtckkaalejfmonaaRead
namespace Go.Proofs.Ytckkaalejfmonaa
open Go.RowKit Go.Shelf
set_option maxRecDepth 100000 in
theorem eq8 (c0 c1 c2 c3 c4 c5 c6 c7 : Int) (w : World) : (Op.equalIn 10000 34 (.agg #[.int .u8 c0, .int .u8 c1, .int .u8 c2, .int .u8 c3, .int .u8 c4, .int .u8 c5, .int .u8 c6, .int .u8 c7]) (.agg #[.int .u8 c0, .int .u8 c1, .int .u8 c2, .int .u8 c3, .int .u8 c4, .int .u8 c5, .int .u8 c6, .int .u8 c7])).run Try.prog w = .ok true w := by
  have h5 : ∀ a : Int, ∀ w, (Op.equalIn 9999 5 (.int .u8 a) (.int .u8 a)).run Try.prog w = .ok true w := fun a w => by
    rw [run_equalIn_int w 9998 _ .u8 .u8 a a Try.underlying5]; simp
  show (Op.equalIn (9999 + 1) _ _ _).run _ _ = _
  unfold Op.equalIn
  simp only [Sem.run_bind, run_underlying Try.underlying34, Result.andThen_ok]
  simp [part, Try.sizeOf5, Try.isAgg5, List.range', h5, go_sem]
end Go.Proofs.Ytckkaalejfmonaa
