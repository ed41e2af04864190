-- Written by a turned copy of the print, with contracts that this session proved by hand.
import Derived.Test.YtjngkndiokfibaaPAsgnGivesx0
import Derived.Test.YtjngkndiokfibaaPAsgnGivesx1
import Derived.Test.YtjngkndiokfibaaPAsgnGivesx2
import Derived.Test.YtjngkndiokfibaaPAsgnGivesx3
namespace Go.Proofs.Ytjngkndiokfibaa.PAsgnGives
open Go.RowKit Go.Proofs.YtjngkndiokfibaaW.PrintWords Go.Proofs.YtjngkndiokfibaaW.PrintLast Go.Proofs.YtjngkndiokfibaaW.PrintMore
attribute [local go_sem] max2_int min2_int max_two min_two max_three min_three max_four min_four   -- for this text's walks alone
set_option linter.unusedVariables false
set_option linter.unusedSimpArgs false

end Go.Proofs.Ytjngkndiokfibaa.PAsgnGives
