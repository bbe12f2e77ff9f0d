-- Written by a program of this session (pp.py, over the kit's print) out of the translation; functions with closures by hand.
import Derived.Test.YtljgloljncokeaaQa0
import Derived.Test.YtljgloljncokeaaQa2
import Derived.Test.YtljgloljncokeaaQa5
import Derived.Test.YtljgloljncokeaaQa6
namespace Go.Proofs.Ytljgloljncokeaa.PQa
open Go.RowKit Go.Proofs.YtljgloljncokeaaW.PrintWords Go.Proofs.YtljgloljncokeaaW.PrintLast Go.Proofs.YtljgloljncokeaaW.PrintMore
attribute [local go_sem] max2_int min2_int max_two min_two max_three min_three max_four min_four   -- for this text's walks alone
set_option linter.unusedVariables false
set_option linter.unusedSimpArgs false
/-! ### remontoirlaw10_knows: function 11 -/
/-! ### remontoirlaw10_VerdictAll: function 3 -/
end Go.Proofs.Ytljgloljncokeaa.PQa
