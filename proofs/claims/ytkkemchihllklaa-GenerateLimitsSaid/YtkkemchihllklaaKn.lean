/- known() of chapter 53 is true. -/
import Derived.Test.YtkkemchihllklaaG9
namespace Go.Proofs.Ytkkemchihllklaa
open Go Go.RowKit
set_option maxRecDepth 1000000 in
theorem known53 : m_overseerlaw53_known = some true := by kernel_rfl
end Go.Proofs.Ytkkemchihllklaa
