/- The plain part: what the functions answer. No condition. -/
import Derived.Test.YtfmdnoljlbfjbaaDoorPu10e
set_option linter.unusedVariables false
set_option linter.unusedSimpArgs false
namespace Rk
open Go

theorem greatdocs_l0 (d : List (List UInt8)) (hm : d.length ≤ 9223372036854775807) : ∀ (n i : Nat), i + n = d.length → ∃ g, law10_GreatDocs_l0 ((i : Int), d) = some g ∧ (g = false → d.length ≤ 40 ∧ ∀ e ∈ d.drop i, e.length ≤ 2500) := by
  intro n
  induction n with
  | zero =>
    intro i hi
    refine ⟨_, (by rw [law10_GreatDocs_l0_eq, law10_GreatDocs_l0_F]; dsimp only; rw [cF (dF (by omega))]), fun h => ⟨?_, ?_⟩⟩
    · have := of_decide_eq_false h
      omega
    · rw [List.drop_eq_nil_of_le (by omega)]; simp
  | succ n ih =>
    intro i hi
    rw [law10_GreatDocs_l0_eq, law10_GreatDocs_l0_F]
    dsimp only
    rw [cT (dT (by omega)), grd (aT (dT (by omega)) (dT (by omega))), idx_nat (l := d) (i := i) (by omega), List.drop_eq_getElem_cons (l := d) (i := i) (by omega)]
    generalize d[i]'(by omega) = e
    by_cases h : e.length ≤ 2500
    · rw [cF (dF (by omega)), W64_in (by omega) (by omega), show (i : Int) + 1 = ((i + 1 : Nat) : Int) by omega]
      obtain ⟨g, h1, h2⟩ := ih (i + 1) (by omega)
      refine ⟨g, h1, fun hgf => ⟨(h2 hgf).1, fun x hx => ?_⟩⟩
      rcases List.mem_cons.1 hx with rfl | hx
      · exact h
      · exact (h2 hgf).2 x hx
    · rw [cT (dT (by omega))]
      exact ⟨true, rfl, fun h => by cases h⟩
theorem law10_GreatDocs_ok {d : List (List UInt8)} (hm : d.length ≤ maxLen) : ∃ g, law10_GreatDocs d = some g ∧ (g = false → d.length ≤ 40 ∧ (∀ e ∈ d, e.length ≤ 2500)) := by
  unfold maxLen at hm
  obtain ⟨g, h1, h2⟩ := greatdocs_l0 d (by omega) d.length 0 (by omega)
  exact ⟨g, law10_GreatDocs_of h1, fun h => h2 h⟩

end Rk
