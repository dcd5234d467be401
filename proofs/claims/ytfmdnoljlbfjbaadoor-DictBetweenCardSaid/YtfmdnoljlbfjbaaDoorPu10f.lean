/- The plain part: what the functions answer. No condition. -/
import Derived.Test.YtfmdnoljlbfjbaaDoorPu10e
set_option linter.unusedVariables false
set_option linter.unusedSimpArgs false
namespace Rk
open Go

theorem great_l0 (d : List Ent) (hm : d.length ≤ 9223372036854775807) : ∀ (n i : Nat), i + n = d.length → ∃ g, law10_Great_l0 ((i : Int), d) = some g ∧ (g = false → d.length ≤ 100 ∧ ∀ e ∈ d.drop i, e.1.length ≤ 200 ∧ e.2.length ≤ 200) := by
  intro n
  induction n with
  | zero =>
    intro i hi
    refine ⟨_, (by rw [law10_Great_l0_eq]; dsimp only; rw [cF (dF (by omega))]), fun h => ⟨?_, ?_⟩⟩
    · have := of_decide_eq_false h
      omega
    · rw [List.drop_eq_nil_of_le (by omega)]; simp
  | succ n ih =>
    intro i hi
    rw [law10_Great_l0_eq]
    dsimp only
    have hg : (decide ((0 : Int) ≤ (i : Int)) && decide ((i : Int) < (d.length : Int))) = true := aT (dT (by omega)) (dT (by omega))
    rw [cT (dT (by omega)), hg]
    simp only [Bool.or_true, Bool.and_true, cond_true]
    rw [idx_nat (l := d) (i := i) (by omega), List.drop_eq_getElem_cons (l := d) (i := i) (by omega)]
    generalize d[i]'(by omega) = e
    by_cases h : e.1.length ≤ 200 ∧ e.2.length ≤ 200
    · rw [dF (show ¬ (e.1.length : Int) > 200 by omega), dF (show ¬ (e.2.length : Int) > 200 by omega)]
      simp only [Bool.false_eq_true, if_false, cond_false]
      rw [W64_in (by omega) (by omega), show (i : Int) + 1 = ((i + 1 : Nat) : Int) by omega]
      obtain ⟨g, h1, h2⟩ := ih (i + 1) (by omega)
      refine ⟨g, h1, fun hgf => ⟨(h2 hgf).1, fun x hx => ?_⟩⟩
      rcases List.mem_cons.1 hx with rfl | hx
      · exact h
      · exact (h2 hgf).2 x hx
    · rw [cT (by rw [orI, Bool.or_eq_true, decide_eq_true_iff, decide_eq_true_iff]; omega)]
      exact ⟨true, rfl, fun h => by cases h⟩
theorem law10_Great_ok {d : List Ent} (hm : d.length ≤ maxLen) : ∃ g, law10_Great d = some g ∧ (g = false → d.length ≤ 100 ∧ (∀ e ∈ d, e.1.length ≤ 200 ∧ e.2.length ≤ 200) ∧ okE d) := by
  unfold maxLen at hm
  obtain ⟨g, h1, h2⟩ := great_l0 d (by omega) d.length 0 (by omega)
  refine ⟨g, law10_Great_of h1, fun h => ⟨(h2 h).1, (h2 h).2, fun e he => ?_⟩⟩
  have := (h2 h).2 e he
  omega

end Rk
