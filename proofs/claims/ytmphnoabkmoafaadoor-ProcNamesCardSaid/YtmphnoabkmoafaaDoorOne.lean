/- One import for all that is turned from the labels' seat. -/
import Derived.Test.YtmphnoabkmoafaaDoorLess
import Derived.Test.YtmphnoabkmoafaaDoorWrapA
import Derived.Test.YtmphnoabkmoafaaDoorBackL
import Derived.Test.YtmphnoabkmoafaaDoorAsksL
import Derived.Test.YtmphnoabkmoafaaDoorRefHas
namespace Go.Proofs.YtmphnoabkmoafaaDoor
end Go.Proofs.YtmphnoabkmoafaaDoor
