/- The plain part: what the functions answer. No condition. -/
import Derived.Test.YtfmdnoljlbfjbaaDoorPu02
set_option linter.unusedVariables false
set_option linter.unusedSimpArgs false
namespace Rk
open Go

/-! ### The reference -/

theorem encT_len {s : List UInt8} (h : s.length ≤ 10000000) : (encT s).length ≤ s.length + 9 := by
  have := encN_9 (v := s.length) (by omega)
  unfold encT
  simp only [List.length_append]; omega

/-! ### The document's examples -/

/-! ### CodeSizes -/

end Rk
