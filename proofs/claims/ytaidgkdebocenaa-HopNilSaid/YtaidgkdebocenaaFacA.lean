/- A closed fact of the program: the first word on how it was made.
   No conditions. -/
import Derived.Test.YtaidgkdebocenaaRows
import Derived.KernelRfl
namespace Go.Proofs.Ytaidgkdebocenaa
open Go
theorem fac_head : (behindMainWord (wordsSigns Try.pinned.checked.prog.initOrder.toList)).head? = some "cut".toList := by kernel_rfl
end Go.Proofs.Ytaidgkdebocenaa
