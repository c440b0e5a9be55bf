/- What armillarylaw20's known answers. -/
import Derived.Test.YtflhcknnjembjaaRefN
import Derived.Test.YtflhcknnjembjaaOpq
namespace Go.Proofs.Ytflhcknnjembjaa
open Go.RowKit
variable {W : World}
theorem known20 : FWP Try.prog (means W) 14 [] [] fun a b => a = .bool true ∧ b = [] := closed (by kernel_rfl)
noncomputable def env20 : Env Ext := (((envK 14).add 18 (dt dRNext)).add 23 (dt dRAt)).add 16 dMakeO
theorem env20_ok : env20.Ok Try.prog (means W) := (((envK_ok known20).add fun args H v H' h => ok_RNext (by rw [← DT.out_of (dRNext args H)]; exact h)).add fun args H v H' h => ok_RAt (by rw [← DT.out_of (dRAt args H)]; exact h)).add fun _ _ _ _ h => ok_MakeO h
end Go.Proofs.Ytflhcknnjembjaa
