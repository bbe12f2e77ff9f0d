import Derived.Test.YtljgloljncokeaaWInv
import Derived.Test.YtljgloljncokeaaWFootNe
namespace Go.Proofs.YtljgloljncokeaaW.PrintWords
open Go.RowKit
end Go.Proofs.YtljgloljncokeaaW.PrintWords
namespace Go.Proofs.YtljgloljncokeaaW.PrintLast
section
variable {ops : Array Oper} {a : Act} {o og : Oper} {g : Nat} {t : Tmp} {u : Bool}
end
end Go.Proofs.YtljgloljncokeaaW.PrintLast
