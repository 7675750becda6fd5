-- Written by a program of this seat (hprint.py), by way of the kit's print. Lean checks it.
import Derived.Test.YtefhhhdcgonmgaaPFnExactRetryTagx0
import Derived.Test.YtefhhhdcgonmgaaPFnExactRetryTagx1
import Derived.Test.YtefhhhdcgonmgaaPFnExactRetryTagx2
import Derived.Test.YtefhhhdcgonmgaaPFnExactRetryTagx3
import Derived.Test.YtefhhhdcgonmgaaPFnExactRetryTagx4
import Derived.Test.YtefhhhdcgonmgaaPFnExactRetryTagx5
import Derived.Test.YtefhhhdcgonmgaaPFnExactRetryTagx6
import Derived.Test.YtefhhhdcgonmgaaPFnExactRetryTagx7
import Derived.Test.YtefhhhdcgonmgaaPFnExactRetryTagx8
import Derived.Test.YtefhhhdcgonmgaaPFnExactRetryTagx9
import Derived.Test.YtefhhhdcgonmgaaPFnExactRetryTagx10
import Derived.Test.YtefhhhdcgonmgaaPFnExactRetryTagx11
import Derived.Test.YtefhhhdcgonmgaaPFnExactRetryTagx12
namespace Go.Proofs.Ytefhhhdcgonmgaa.PFnExactRetryTag
open Go.RowKit Go.Proofs.YtefhhhdcgonmgaaW.PrintWords Go.Proofs.YtefhhhdcgonmgaaW.PrintLast Go.Proofs.YtefhhhdcgonmgaaW.PrintMore
attribute [local go_sem] max2_int min2_int max_two min_two max_three min_three max_four min_four   -- for this text's walks alone
set_option linter.unusedVariables false
set_option linter.unusedSimpArgs false

end Go.Proofs.Ytefhhhdcgonmgaa.PFnExactRetryTag
