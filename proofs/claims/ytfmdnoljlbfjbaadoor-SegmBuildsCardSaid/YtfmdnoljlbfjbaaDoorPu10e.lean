/- The plain part: what the functions answer. No condition. -/
import Derived.Test.YtfmdnoljlbfjbaaDoorPu10d
set_option linter.unusedVariables false
set_option linter.unusedSimpArgs false
namespace Rk
open Go

abbrev hayB : List UInt8 := [104, 97, 121]
abbrev wainB : List UInt8 := [119, 97, 105, 110]
abbrev whB : List UInt8 := [119, 97, 105, 110, 32, 104, 97, 121]
theorem terms_of (p : List Int) (h : ∀ c ∈ p, rightC c = true) : termsS (p.flatMap encC) = termsW [] p := by unfold termsS; rw [decS_enc p h]
theorem terms_wh : termsS whB = [wainB, hayB] := terms_of [119, 97, 105, 110, 32, 104, 97, 121] (by decide)
theorem bindE {α β : Type} {x : Option α} {v : α} {f : α → Option β} (h : x = some v) : x.bind f = f v := by rw [h]; rfl
end Rk
