-- made by a program of this session (wip/tools/pp.py) over the kit's print
import Derived.Test.YtocchdbmeokmhaaPWinx0
import Derived.Test.YtocchdbmeokmhaaPWinx1
import Derived.Test.YtocchdbmeokmhaaPWinx2
import Derived.Test.YtocchdbmeokmhaaPWinx3
import Derived.Test.YtocchdbmeokmhaaPWinx4
namespace Go.Proofs.Ytocchdbmeokmhaa.PWin
open Go.RowKit Go.Proofs.YtocchdbmeokmhaaW.PrintWords Go.Proofs.YtocchdbmeokmhaaW.PrintLast Go.Proofs.YtocchdbmeokmhaaW.PrintMore
attribute [local go_sem] max2_int min2_int max_two min_two max_three min_three max_four min_four   -- for this text's walks alone
set_option linter.unusedVariables false
set_option linter.unusedSimpArgs false

end Go.Proofs.Ytocchdbmeokmhaa.PWin
