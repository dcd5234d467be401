/- The plain part: what the functions answer. No condition. -/
import Derived.Test.YtfmdnoljlbfjbaaDoorPu10f
set_option linter.unusedVariables false
set_option linter.unusedSimpArgs false
namespace Rk
open Go

end Rk
