/- The law and its row. No condition. -/
import Derived.Test.YtadghlcfbajamaaGreatMsH
set_option linter.unusedVariables false
set_option maxRecDepth 100000
section
namespace Go.Proofs.YtadghlcfbajamaaGreat.Av
open Go
end Go.Proofs.YtadghlcfbajamaaGreat.Av
end
