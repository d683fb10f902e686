/- view.Len. -/
import Derived.Test.YtkmbeohheblhhaaView
namespace Go.Proofs.Ytkmbeohheblhhaa
open Go.RowKit
namespace Vw

set_option maxHeartbeats 400000 in
theorem len_any (a : Option Addr) (len cap : Nat) (w : World) :
    Calls Try.prog 20 #[.agg #[.slice a len cap]] w fun e w' => e = .returned (.int .i64 len) ∧ Below w.heap.size w w' := by
  go_enter Try.func20, Try.ntmps20
  go_wp2
  go_ret
  exact ⟨rfl, (Below.refl _ _).alloc (Nat.le_refl _) _⟩

end Vw
end Go.Proofs.Ytkmbeohheblhhaa
