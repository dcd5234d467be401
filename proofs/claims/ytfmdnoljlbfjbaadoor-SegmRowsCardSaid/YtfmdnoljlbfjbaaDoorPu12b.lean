/- The plain part: what the functions answer. No condition. -/
import Derived.Test.YtfmdnoljlbfjbaaDoorPu12
set_option linter.unusedVariables false
set_option linter.unusedSimpArgs false
namespace Rk
open Go

theorem asSign_ok (a b c : Int) (d : List UInt8) : law12_AsSign a b c d = some (a, b, c, d) := law12_AsSign_of rfl
theorem rows_l0 (l : List Sg) (size : Int) (hl : l.length ≤ 200) : ∀ (k i : Nat), i + k = l.length → law12_SegmRows_l0 ((i : Int), l, l.take i, size) = some true := by
  intro k
  induction k with
  | zero =>
    intro i hi
    rw [law12_SegmRows_l0_eq]
    dsimp only
    rw [show i = l.length by omega, List.take_length]
    refine (cF (dF (by omega))).trans ((bindE (segm_Row_ok l size)).trans ((bindE (ref12_Row_ok l size (by omega))).trans ?_))
    have hc : (false ^^ (rowL l size == rowL l size)) = true := by simp
    rw [hc]
    exact (bindE ((cT rfl).trans law12_knows_ok)).trans rfl
  | succ k ih =>
    intro i hi
    rw [law12_SegmRows_l0_eq]
    dsimp only
    have hlt : i < l.length := by omega
    have hg : (decide ((0 : Int) ≤ (i : Int)) && decide ((i : Int) < (l.length : Int))) = true := aT (dT (by omega)) (dT (by omega))
    have ih' := ih (i + 1) (by omega)
    rw [List.take_succ_eq_append_getElem hlt] at ih'
    rw [cT (dT (by omega)), hg]
    simp only [Bool.or_true, Bool.and_true, cond_true]
    rw [idx_nat hlt]
    generalize l[i] = s at *
    by_cases h : s.2.2.2.length > 200
    · rw [dT (show (s.2.2.2.length : Int) > 200 by omega)]
      refine (bindE (v := false) rfl).trans ((bindE (v := (0, 0, 0, [])) rfl).trans ((bindE (v := false) rfl).trans ((cT rfl).trans ((bindE ((cT rfl).trans law12_knows_ok)).trans rfl))))
    · rw [dF (show ¬ (s.2.2.2.length : Int) > 200 by omega)]
      have hc : (if (false : Bool) = true then true else (true ^^ (goodS s == goodS s))) = false := by simp
      refine (bindE ((cT rfl).trans (segm_Good_ok s))).trans ((bindE ((cT rfl).trans (asSign_ok s.1 s.2.1 s.2.2.1 s.2.2.2))).trans ((bindE ((cT rfl).trans (ref12_Good_ok s))).trans ((cF hc).trans ((bindE (asSign_ok s.1 s.2.1 s.2.2.1 s.2.2.2)).trans ?_))))
      dsimp only
      rw [List.append_nil, cT (dT (by simp; omega)), W64_in (by omega) (by omega), show (i : Int) + 1 = ((i + 1 : Nat) : Int) by omega]
      exact ih'

theorem L_SegmRows (x0 : List Sg) (x1 : Int) (w0 : WF (.lst (.pair (.int .i64) (.pair (.int .i64) (.pair (.int .i64) .str)))) x0) (w1 : WF (.int .i64) x1) : law12_SegmRows x0 x1 = some true := by
  refine law12_SegmRows_of ?_
  unfold law12_SegmRows_b
  by_cases h : x0.length > 200
  · exact (cT (dT (by omega))).trans (bindE law12_knows_ok)
  · refine (cF (dF (by omega))).trans ?_
    exact rows_l0 x0 x1 (by omega) x0.length 0 (by omega)

end Rk
