/- What armillarylaw6's known answers. -/
import Derived.Test.YtflhcknnjembjaaSxV
namespace Go.Proofs.Ytflhcknnjembjaa
open Go.RowKit
variable {W : World}
theorem known6 : FWP Try.prog (means W) 30 [] [] fun a b => a = .bool true ∧ b = [] := closed (by kernel_rfl)
end Go.Proofs.Ytflhcknnjembjaa
