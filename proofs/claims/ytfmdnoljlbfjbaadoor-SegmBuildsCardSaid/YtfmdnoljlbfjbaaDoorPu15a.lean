/- The plain part: what the functions answer. No condition. -/
import Derived.Test.YtfmdnoljlbfjbaaDoorPuSha
set_option linter.unusedVariables false
set_option linter.unusedSimpArgs false
namespace Rk
open Go

/-! ### Signs and heads: which may be, and their bytes -/

abbrev Sg := Int × (Int × (Int × List UInt8))

def goodS (s : Sg) : Bool := decide (0 ≤ s.1 ∧ s.1 < s.2.1 ∧ s.2.1 ≤ 1000 ∧ 1 ≤ s.2.2.1 ∧ s.2.2.1 ≤ 1099511627776 ∧ s.2.2.2.length = 32)

theorem iteA {c a : Bool} : (if c = true then a else false) = (c && a) := by cases c <;> rfl
theorem iteO {c a : Bool} : (if c = true then true else a) = (c || a) := by cases c <;> rfl

theorem segm_Good_ok (s : Sg) : segm_Good s.1 s.2.1 s.2.2.1 s.2.2.2 = some (goodS s) := by
  refine segm_Good_of ?_
  unfold segm_Good_b
  rw [show segm_spans s.1 s.2.1 = some _ from segm_spans_of rfl, bS]
  congr 1
  simp only [iteA, goodS]
  rw [Bool.eq_iff_iff]
  simp only [Bool.and_eq_true, decide_eq_true_eq, beq_iff_eq]
  omega

def rowS : Int → List Sg → Int → Bool
  | at_, [], size => at_ == size
  | at_, s :: r, size => goodS s && (s.1 == at_ && rowS s.2.1 r size)

def rowL (l : List Sg) (size : Int) : Bool := decide (l.length ≤ 64) && rowS 0 l size

theorem segm_Row_loop (l : List Sg) (size : Int) (hm : l.length ≤ 64) : ∀ (k i : Nat) (at_ : Int), i + k = l.length → segm_Row_l0 ((i : Int), at_, l, size, (l.length : Int)) = some (rowS at_ (l.drop i) size) := by
  intro k
  induction k with
  | zero =>
    intro i at_ hk
    rw [segm_Row_l0_eq, segm_Row_l0_F]
    dsimp only
    rw [cF (dF (by omega)), List.drop_eq_nil_iff.2 (by omega)]
    rfl
  | succ k ih =>
    intro i at_ hk
    have hi : i < l.length := by omega
    have hW : W64 ((i : Int) + 1) = ((i + 1 : Nat) : Int) := by rw [W64_in (by omega) (by omega)]; omega
    rw [segm_Row_l0_eq, segm_Row_l0_F]
    dsimp only
    rw [cT (dT (by omega)), grd (aT (dT (by omega)) (dT (by omega))), idx_nat hi, segm_Good_ok, bS, hW, ih (i + 1) _ (by omega), List.drop_eq_getElem_cons hi, rowS, iteO]
    cases goodS l[i] with
    | false => rfl
    | true =>
      by_cases he : (l[i].1 == at_) = true
      · have : (l[i].1 != at_) = false := by simpa using he
        rw [he, this]
        rfl
      · have h1 : (l[i].1 == at_) = false := by simpa using he
        have h2 : (l[i].1 != at_) = true := by simpa using he
        rw [h1, h2]
        rfl

theorem segm_Row_ok (l : List Sg) (size : Int) : segm_Row l size = some (rowL l size) := by
  refine segm_Row_of ?_
  unfold segm_Row_b rowL
  by_cases h : l.length ≤ 64
  · have := segm_Row_loop l size h l.length 0 0 (by omega)
    rw [List.drop_zero] at this
    rw [cF (dF (by omega)), dT h, Bool.true_and]
    exact this
  · rw [cT (dT (by omega)), dF h, Bool.false_and]

end Rk
