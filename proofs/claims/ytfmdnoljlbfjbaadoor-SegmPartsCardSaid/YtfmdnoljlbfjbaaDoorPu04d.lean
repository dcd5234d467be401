/- The plain part: what the functions answer. No condition. -/
import Derived.Test.YtfmdnoljlbfjbaaDoorPu04c
set_option linter.unusedVariables false
set_option linter.unusedSimpArgs false
namespace Rk
open Go

theorem is_dis (b : List UInt8) : (is2 b → ¬ is1 b) ∧ (is3 b → ¬ is1 b ∧ ¬ is2 b) ∧ (is4 b → ¬ is1 b ∧ ¬ is2 b ∧ ¬ is3 b) := by
  unfold is1 is2 is3 is4
  omega

noncomputable def decS (b : List UInt8) : List Int := if h : 1 ≤ b.length then (dec1 b).1 :: decS (b.drop (dec1 b).2) else []
  termination_by b.length
  decreasing_by
    have := dec1_ok b h
    simp only [List.length_drop]
    omega
theorem decS_nil : decS [] = [] := by rw [decS, dif_neg (by simp)]
theorem decS_cons {b : List UInt8} (h : 1 ≤ b.length) : decS b = (dec1 b).1 :: decS (b.drop (dec1 b).2) := by rw [decS, dif_pos h]
theorem decS_len : ∀ (n : Nat) (b : List UInt8), b.length ≤ n → (decS b).length ≤ b.length := by
  intro n
  induction n with
  | zero => intro b h; rw [List.length_eq_zero_iff.1 (by omega : b.length = 0), decS_nil]; simp
  | succ n ih =>
    intro b h
    by_cases hb : 1 ≤ b.length
    · rw [decS_cons hb]
      have q := dec1_ok b hb
      have := ih (b.drop (dec1 b).2) (by simp only [List.length_drop]; omega)
      simp only [List.length_drop] at this
      simp only [List.length_cons]
      omega
    · rw [List.length_eq_zero_iff.1 (by omega : b.length = 0), decS_nil]; simp
end Rk
