/- The plain part: what the functions answer. No condition. -/
import Derived.Test.YtfmdnoljlbfjbaaDoorPu15a
set_option linter.unusedVariables false
set_option linter.unusedSimpArgs false
namespace Rk
open Go

theorem toNat_cast {x : Int} (h : 0 ≤ x) : ((x.toNat : Nat) : Int) = x := Int.toNat_of_nonneg h

theorem ref02_Num_ok' {x : Int} (h0 : 0 ≤ x) (h1 : x ≤ 4611686018427387904) : ref02_Num x = some (encN x.toNat) := by
  have := ref02_Num_ok 9 x.toNat (by omega) (by omega)
  rw [toNat_cast h0] at this
  exact this

/-! ### As the document's, and alike -/

/-! ### Links -/

def mayL (a b c : List UInt8) : Bool := decide (a.length ≤ 64) && (decide (b.length ≤ 64) && decide (c.length = 32))
def encK (a b c : List UInt8) : List UInt8 := encT a ++ encT b ++ c

theorem mayL_of {a b c : List UInt8} (h : mayL a b c = true) : a.length ≤ 64 ∧ b.length ≤ 64 ∧ c.length = 32 := by
  simp only [mayL, Bool.and_eq_true, decide_eq_true_eq] at h
  exact h

theorem encK_len {a b c : List UInt8} (h : mayL a b c = true) : (encK a b c).length ≤ 178 := by
  obtain ⟨h1, h2, h3⟩ := mayL_of h
  have e1 := encT_len (s := a) (by omega)
  have e2 := encT_len (s := b) (by omega)
  simp only [encK, List.length_append]
  omega

theorem dict_WriteLink_ok (a b c : List UInt8) : dict_WriteLink a b c = some (if mayL a b c then (0, encK a b c) else (1, [])) := by
  refine dict_WriteLink_of ?_
  unfold dict_WriteLink_b
  simp only [iteO]
  cases h : mayL a b c with
  | true =>
    obtain ⟨h1, h2, h3⟩ := mayL_of h
    have e1 := encT_len (s := a) (by omega)
    have e2 := encT_len (s := b) (by omega)
    rw [cF (by simp; omega), code_Text_ok (by simp) (by omega), bS, code_Text_ok (by simp; omega) (by omega), bS, grd (dT (by simp only [List.length_append, List.length_nil]; omega))]
    simp [encK]
  | false =>
    rw [cT (by
      simp only [mayL, Bool.and_eq_false_iff, decide_eq_false_iff_not] at h
      simp only [Bool.or_eq_true, decide_eq_true_eq, bne_iff_ne, ne_eq]
      omega)]
    rfl

theorem ref10_May_ok (a b c : List UInt8) : ref10_May a b c = some (mayL a b c) := by
  refine ref10_May_of ?_
  unfold ref10_May_b mayL
  congr 1
  simp only [iteA]
  rw [Bool.eq_iff_iff]
  simp only [Bool.and_eq_true, decide_eq_true_eq, beq_iff_eq]
  omega

theorem ref10_WriteLink_ok {a b c : List UInt8} (h : mayL a b c = true) : ref10_WriteLink a b c = some (encK a b c) := by
  refine ref10_WriteLink_of ?_
  unfold ref10_WriteLink_b
  obtain ⟨h1, h2, h3⟩ := mayL_of h
  have e1 := encT_len (s := a) (by omega)
  have e2 := encT_len (s := b) (by omega)
  rw [ref02_Text_ok (by omega), bS, ref02_Text_ok (by omega), bS, grd (dT (by simp only [List.length_append]; omega)), grd (dT (by simp only [List.length_append]; omega))]
  rfl

end Rk
