/- What armillarylaw16's known answers. -/
import Derived.Test.YtflhcknnjembjaaSxV
namespace Go.Proofs.Ytflhcknnjembjaa
open Go.RowKit
variable {W : World}
theorem known16 : FWP Try.prog (means W) 26 [] [] fun a b => a = .bool true ∧ b = [] := closed (by kernel_rfl)
end Go.Proofs.Ytflhcknnjembjaa
