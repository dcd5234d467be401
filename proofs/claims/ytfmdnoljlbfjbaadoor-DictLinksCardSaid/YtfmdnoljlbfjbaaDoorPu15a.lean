/- The plain part: what the functions answer. No condition. -/
import Derived.Test.YtfmdnoljlbfjbaaDoorPuSha
set_option linter.unusedVariables false
set_option linter.unusedSimpArgs false
namespace Rk
open Go

/-! ### Signs and heads: which may be, and their bytes -/

theorem iteA {c a : Bool} : (if c = true then a else false) = (c && a) := by cases c <;> rfl
theorem iteO {c a : Bool} : (if c = true then true else a) = (c || a) := by cases c <;> rfl

end Rk
