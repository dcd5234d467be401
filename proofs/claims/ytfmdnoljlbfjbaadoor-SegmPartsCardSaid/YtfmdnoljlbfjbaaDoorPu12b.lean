/- The plain part: what the functions answer. No condition. -/
import Derived.Test.YtfmdnoljlbfjbaaDoorPu12
set_option linter.unusedVariables false
set_option linter.unusedSimpArgs false
namespace Rk
open Go

theorem fair_l0 (docs : List (List UInt8)) (a b : Int) (hl : docs.length ≤ 1000000000000) : ∀ (k i : Nat), i + k = docs.length → ∃ f, ref10_Fair_l0 ((i : Int), docs, b, a) = some f ∧ (f = true ↔ (docs.length ≤ 1000 ∧ (∀ x ∈ docs.drop i, x.length ≤ 2000) ∧ 0 ≤ a ∧ a ≤ b ∧ b ≤ (docs.length : Int))) := by
  intro k
  induction k with
  | zero =>
    intro i hi
    refine ⟨_, (by rw [ref10_Fair_l0_eq]; dsimp only; rw [cF (dF (by omega))]), ?_⟩
    rw [List.drop_eq_nil_of_le (by omega)]
    simp
    omega
  | succ k ih =>
    intro i hi
    rw [ref10_Fair_l0_eq]
    dsimp only
    rw [cT (dT (by omega)), grd (aT (dT (by omega)) (dT (by omega))), idx_nat (l := docs) (i := i) (by omega), List.drop_eq_getElem_cons (l := docs) (i := i) (by omega)]
    obtain ⟨f, h1, h2⟩ := ih (i + 1) (by omega)
    generalize docs[i]'(by omega) = e
    by_cases h : e.length > 2000
    · rw [cT (dT (by omega))]
      refine ⟨false, rfl, ?_⟩
      constructor
      · intro q; cases q
      · intro q
        have := q.2.1 e (List.mem_cons_self ..)
        omega
    · rw [cF (dF (by omega)), W64_in (by omega) (by omega), show (i : Int) + 1 = ((i + 1 : Nat) : Int) by omega]
      refine ⟨f, h1, h2.trans ?_⟩
      constructor
      · intro q
        refine ⟨q.1, fun x hx => ?_, q.2.2⟩
        rcases List.mem_cons.1 hx with rfl | hx
        · omega
        · exact q.2.1 x hx
      · intro q
        exact ⟨q.1, fun x hx => q.2.1 x (List.mem_cons_of_mem _ hx), q.2.2⟩
theorem ref10_Fair_ok {docs : List (List UInt8)} {a b : Int} (hl : docs.length ≤ 1000000000000) : ∃ f, ref10_Fair docs a b = some f ∧ (f = true ↔ fairM docs a b) := by
  obtain ⟨f, h1, h2⟩ := fair_l0 docs a b hl docs.length 0 (by omega)
  rw [List.drop_zero] at h2
  exact ⟨f, ref10_Fair_of h1, h2⟩
end Rk
