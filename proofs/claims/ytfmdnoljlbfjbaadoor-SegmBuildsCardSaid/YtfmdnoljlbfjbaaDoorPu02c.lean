/- The plain part: what the functions answer. No condition. -/
import Derived.Test.YtfmdnoljlbfjbaaDoorPu02b
set_option linter.unusedVariables false
set_option linter.unusedSimpArgs false
namespace Rk
open Go

/-! ### What was written is read as it was -/

/-! ### What is written is what the document says -/

/-! ### What is read was written just so -/

end Rk
