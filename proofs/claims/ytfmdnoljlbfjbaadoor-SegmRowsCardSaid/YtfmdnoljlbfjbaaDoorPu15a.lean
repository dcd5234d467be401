/- The plain part: what the functions answer. No condition. -/
import Derived.Test.YtfmdnoljlbfjbaaDoorPuSha
set_option linter.unusedVariables false
set_option linter.unusedSimpArgs false
namespace Rk
open Go

/-! ### Signs and heads: which may be, and their bytes -/

abbrev Sg := Int × (Int × (Int × List UInt8))

def goodS (s : Sg) : Bool := decide (0 ≤ s.1 ∧ s.1 < s.2.1 ∧ s.2.1 ≤ 1000 ∧ 1 ≤ s.2.2.1 ∧ s.2.2.1 ≤ 1099511627776 ∧ s.2.2.2.length = 32)

theorem iteA {c a : Bool} : (if c = true then a else false) = (c && a) := by cases c <;> rfl
theorem iteO {c a : Bool} : (if c = true then true else a) = (c || a) := by cases c <;> rfl

theorem segm_Good_ok (s : Sg) : segm_Good s.1 s.2.1 s.2.2.1 s.2.2.2 = some (goodS s) := by
  refine segm_Good_of ?_
  unfold segm_Good_b
  rw [show segm_spans s.1 s.2.1 = some _ from segm_spans_of rfl, bS]
  congr 1
  simp only [iteA, goodS]
  rw [Bool.eq_iff_iff]
  simp only [Bool.and_eq_true, decide_eq_true_eq, beq_iff_eq]
  omega

theorem ref12_Good_ok (s : Sg) : ref12_Good s.1 s.2.1 s.2.2.1 s.2.2.2 = some (goodS s) := by
  refine ref12_Good_of ?_
  unfold ref12_Good_b
  rw [show ref12_spans s.1 s.2.1 = some _ from ref12_spans_of rfl, bS]
  congr 1
  simp only [iteA, goodS]
  rw [Bool.eq_iff_iff]
  simp only [Bool.and_eq_true, decide_eq_true_eq, beq_iff_eq]
  omega

def rowS : Int → List Sg → Int → Bool
  | at_, [], size => at_ == size
  | at_, s :: r, size => goodS s && (s.1 == at_ && rowS s.2.1 r size)

def rowL (l : List Sg) (size : Int) : Bool := decide (l.length ≤ 64) && rowS 0 l size

theorem segm_Row_loop (l : List Sg) (size : Int) (hm : l.length ≤ 64) : ∀ (k i : Nat) (at_ : Int), i + k = l.length → segm_Row_l0 ((i : Int), at_, l, size, (l.length : Int)) = some (rowS at_ (l.drop i) size) := by
  intro k
  induction k with
  | zero =>
    intro i at_ hk
    rw [segm_Row_l0_eq]
    dsimp only
    rw [cF (dF (by omega)), List.drop_eq_nil_iff.2 (by omega)]
    rfl
  | succ k ih =>
    intro i at_ hk
    have hi : i < l.length := by omega
    have hW : W64 ((i : Int) + 1) = ((i + 1 : Nat) : Int) := by rw [W64_in (by omega) (by omega)]; omega
    rw [segm_Row_l0_eq]
    dsimp only
    rw [cT (dT (by omega)), grd (aT (dT (by omega)) (dT (by omega))), idx_nat hi, segm_Good_ok, bS, hW, ih (i + 1) _ (by omega), List.drop_eq_getElem_cons hi, rowS, iteO]
    cases goodS l[i] with
    | false => rfl
    | true =>
      by_cases he : (l[i].1 == at_) = true
      · have : (l[i].1 != at_) = false := by simpa using he
        rw [he, this]
        rfl
      · have h1 : (l[i].1 == at_) = false := by simpa using he
        have h2 : (l[i].1 != at_) = true := by simpa using he
        rw [h1, h2]
        rfl

theorem segm_Row_ok (l : List Sg) (size : Int) : segm_Row l size = some (rowL l size) := by
  refine segm_Row_of ?_
  unfold segm_Row_b rowL
  by_cases h : l.length ≤ 64
  · have := segm_Row_loop l size h l.length 0 0 (by omega)
    rw [List.drop_zero] at this
    rw [cF (dF (by omega)), dT h, Bool.true_and]
    exact this
  · rw [cT (dT (by omega)), dF h, Bool.false_and]

/-- As the document has it. -/
def chainS : Option Int → List Sg → Bool
  | _, [] => true
  | p, s :: r => goodS s && ((match p with | none => true | some q => s.1 == q) && chainS (some s.2.1) r)

theorem chainS_cons (p : Option Int) (s : Sg) (r : List Sg) : chainS p (s :: r) = (goodS s && ((match p with | none => true | some q => s.1 == q) && chainS (some s.2.1) r)) := by cases p <;> rfl

def lastS : Int → List Sg → Int
  | at_, [] => at_
  | _, s :: r => lastS s.2.1 r

theorem rowS_chain : ∀ (l : List Sg) (at_ size : Int), rowS at_ l size = (chainS (some at_) l && (lastS at_ l == size))
  | [], at_, size => rfl
  | s :: r, at_, size => by
    simp only [rowS, chainS, lastS, rowS_chain r s.2.1 size, Bool.and_assoc]

theorem lastS_get : ∀ (l : List Sg) (at_ : Int) (h : 0 < l.length), lastS at_ l = (l[l.length - 1]'(by omega)).2.1
  | [s], at_, h => rfl
  | s :: t :: r, at_, h => by
    have := lastS_get (t :: r) s.2.1 (by simp)
    simp only [lastS] at this ⊢
    rw [this]
    rfl

theorem ref12_Row_loop (l : List Sg) (size : Int) (h0 : 0 < l.length) (hm : l.length ≤ 9223372036854775807) : ∀ (k i : Nat), i + k = l.length →
    ref12_Row_l0 ((i : Int), l, size) = some (chainS (if h : 0 < i ∧ i ≤ l.length then some (l[i - 1]'(by omega)).2.1 else none) (l.drop i) && (decide (l.length ≤ 64) && ((l[0].1 == 0) && ((l[l.length - 1]'(by omega)).2.1 == size)))) := by
  intro k
  induction k with
  | zero =>
    intro i hk
    have hi : i = l.length := by omega
    have hW : W64 ((l.length : Int) - 1) = ((l.length - 1 : Nat) : Int) := by rw [W64_in (by omega) (by omega)]; omega
    rw [ref12_Row_l0_eq]
    dsimp only
    rw [cF (dF (by omega)), hW, List.drop_eq_nil_iff.2 (by omega)]
    have e0 : idx (((0 : Int), ((0 : Int), ((0 : Int), ([] : List UInt8)))) : Sg) l 0 = l[0] := by have := idx_nat (d := (((0 : Int), ((0 : Int), ((0 : Int), ([] : List UInt8)))) : Sg)) h0; exact this
    rw [idx_nat (by omega), e0, grd (by rw [dT (p := (0 : Int) ≤ 0) (by omega), dT (p := (0 : Int) < (l.length : Int)) (by omega)]; simp), grd (by rw [dT (p := (0 : Int) ≤ ((l.length - 1 : Nat) : Int)) (by omega), dT (p := ((l.length - 1 : Nat) : Int) < (l.length : Int)) (by omega)]; simp)]
    congr 1
    simp only [iteA, chainS, Bool.true_and, Bool.and_assoc]
    congr 1
    rw [Bool.eq_iff_iff]
    simp only [decide_eq_true_eq]
    omega
  | succ k ih =>
    intro i hk
    have hi : i < l.length := by omega
    have hW : W64 ((i : Int) + 1) = ((i + 1 : Nat) : Int) := by rw [W64_in (by omega) (by omega)]; omega
    rw [ref12_Row_l0_eq]
    dsimp only
    rw [cT (dT (by omega)), grd (aT (dT (by omega)) (dT (by omega))), idx_nat hi, ref12_Good_ok, bS]
    rw [grd (by rw [dT (p := (0 : Int) ≤ (i : Int)) (by omega), dT (p := (i : Int) < (l.length : Int)) (by omega)]; simp)]
    by_cases h1 : 0 < i
    · have hW2 : W64 ((i : Int) - 1) = ((i - 1 : Nat) : Int) := by rw [W64_in (by omega) (by omega)]; omega
      rw [hW2, grd (by rw [dT (p := (0 : Int) ≤ ((i - 1 : Nat) : Int)) (by omega), dT (p := ((i - 1 : Nat) : Int) < (l.length : Int)) (by omega)]; simp), idx_nat (show i - 1 < l.length by omega), hW, ih (i + 1) (by omega), List.drop_eq_getElem_cons hi, chainS_cons,
        dif_pos (show 0 < i ∧ i ≤ l.length by omega), dif_pos (show 0 < i + 1 ∧ i + 1 ≤ l.length by omega)]
      rw [dT (show (i : Int) > 0 by omega)]
      simp only [if_true, iteO, Nat.add_sub_cancel]
      cases goodS l[i] with
      | false => rfl
      | true =>
        by_cases he : (l[i].1 == (l[i - 1]).2.1) = true
        · have : (l[i].1 != (l[i - 1]).2.1) = false := by simpa using he
          rw [he, this]
          rfl
        · have h1 : (l[i].1 == (l[i - 1]).2.1) = false := by simpa using he
          have h2 : (l[i].1 != (l[i - 1]).2.1) = true := by simpa using he
          rw [h1, h2]
          rfl
    · have h1 : i = 0 := by omega
      subst h1
      rw [grd (by rw [dF (show ¬ ((0 : Nat) : Int) > 0 by omega)]; simp), hW, ih (0 + 1) (by omega), List.drop_eq_getElem_cons hi, chainS_cons, dif_neg (show ¬ (0 < 0 ∧ 0 ≤ l.length) by omega), dif_pos (show 0 < 0 + 1 ∧ 0 + 1 ≤ l.length by omega), dF (show ¬ ((0 : Nat) : Int) > 0 by omega)]
      simp only [Bool.false_eq_true, if_false, iteO, Nat.add_sub_cancel, Bool.or_false, Bool.true_and]
      cases goodS l[0] with
      | false => rfl
      | true => rfl

theorem ref12_Row_ok (l : List Sg) (size : Int) (hm : l.length ≤ 9223372036854775807) : ref12_Row l size = some (rowL l size) := by
  refine ref12_Row_of ?_
  unfold ref12_Row_b rowL
  by_cases h : l.length = 0
  · have : l = [] := List.length_eq_zero_iff.1 h
    subst this
    rw [cT (by rfl)]
    congr 1
    show _ = (true && ((0 : Int) == size))
    rw [Bool.true_and, Bool.eq_iff_iff]
    simp only [beq_iff_eq]
    exact eq_comm
  · have h0 : 0 < l.length := by omega
    have e : (((l.length : Nat) : Int) == (0 : Int)) = false := by
      rw [Bool.eq_false_iff]
      simp only [ne_eq, beq_iff_eq]
      omega
    have := ref12_Row_loop l size h0 hm l.length 0 (by omega)
    rw [List.drop_zero, dif_neg (by omega)] at this
    rw [cF e, show ((0 : Int)) = ((0 : Nat) : Int) from rfl, this, rowS_chain, lastS_get l _ h0]
    congr 1
    match l, h0 with
    | s :: r, _ =>
      simp only [chainS, List.getElem_cons_zero]
      cases goodS s <;> cases (s.1 == ((0 : Nat) : Int)) <;> cases chainS (some s.2.1) r <;> simp

end Rk
