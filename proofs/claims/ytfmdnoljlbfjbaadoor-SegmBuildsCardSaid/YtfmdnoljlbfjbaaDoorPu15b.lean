/- The plain part: what the functions answer. No condition. -/
import Derived.Test.YtfmdnoljlbfjbaaDoorPu15a
set_option linter.unusedVariables false
set_option linter.unusedSimpArgs false
namespace Rk
open Go

/-! ### As the document's, and alike -/

/-! ### Links -/

def mayL (a b c : List UInt8) : Bool := decide (a.length ≤ 64) && (decide (b.length ≤ 64) && decide (c.length = 32))
def encK (a b c : List UInt8) : List UInt8 := encT a ++ encT b ++ c

theorem mayL_of {a b c : List UInt8} (h : mayL a b c = true) : a.length ≤ 64 ∧ b.length ≤ 64 ∧ c.length = 32 := by
  simp only [mayL, Bool.and_eq_true, decide_eq_true_eq] at h
  exact h

theorem encK_len {a b c : List UInt8} (h : mayL a b c = true) : (encK a b c).length ≤ 178 := by
  obtain ⟨h1, h2, h3⟩ := mayL_of h
  have e1 := encT_len (s := a) (by omega)
  have e2 := encT_len (s := b) (by omega)
  simp only [encK, List.length_append]
  omega

theorem dict_WriteLink_ok (a b c : List UInt8) : dict_WriteLink a b c = some (if mayL a b c then (0, encK a b c) else (1, [])) := by
  refine dict_WriteLink_of ?_
  unfold dict_WriteLink_b
  simp only [iteO]
  cases h : mayL a b c with
  | true =>
    obtain ⟨h1, h2, h3⟩ := mayL_of h
    have e1 := encT_len (s := a) (by omega)
    have e2 := encT_len (s := b) (by omega)
    rw [cF (by simp; omega), code_Text_ok (by simp) (by omega), bS, code_Text_ok (by simp; omega) (by omega), bS, grd (dT (by simp only [List.length_append, List.length_nil]; omega))]
    simp [encK]
  | false =>
    rw [cT (by
      simp only [mayL, Bool.and_eq_false_iff, decide_eq_false_iff_not] at h
      simp only [Bool.or_eq_true, decide_eq_true_eq, bne_iff_ne, ne_eq]
      omega)]
    rfl

end Rk
