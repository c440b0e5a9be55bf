import Derived.Test.YtakbnbmbiaejiaaSxV
namespace Go.Proofs.Ytakbnbmbiaejiaa
open Go.RowKit
variable {W : World}
theorem known4 : FWP Try.prog (means W) 29 [] [] fun a b => a = .bool true ∧ b = [] := closed (by kernel_rfl)
end Go.Proofs.Ytakbnbmbiaejiaa
