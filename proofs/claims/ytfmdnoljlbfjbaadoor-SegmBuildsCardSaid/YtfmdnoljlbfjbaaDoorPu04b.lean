/- The plain part: what the functions answer. No condition. -/
import Derived.Test.YtfmdnoljlbfjbaaDoorPu04
set_option linter.unusedVariables false
set_option linter.unusedSimpArgs false
namespace Rk
open Go

def btw (c a b : Int) : Bool := decide (a ≤ c ∧ c ≤ b)
theorem ref04_in_ok (c a b : Int) : ref04_in c a b = some (btw c a b) := by
  refine ref04_in_of ?_
  unfold ref04_in_b btw
  congr 1
  rw [Bool.eq_iff_iff]
  simp
def letterC (c : Int) : Bool := btw c 65 90 || btw c 97 122 || btw c 192 214 || btw c 216 246 || btw c 248 255 || btw c 913 929 || btw c 931 937 || btw c 945 969 || btw c 1024 1119
def smallC (c : Int) : Int := if btw c 1024 1039 then c + 80 else if btw c 65 90 || btw c 192 214 || btw c 216 222 || btw c 913 929 || btw c 931 937 || btw c 1040 1071 then c + 32 else c
theorem ref04_Letter_ok (c : Int) : ref04_Letter c = some (letterC c) := by
  refine ref04_Letter_of ?_
  unfold ref04_Letter_b
  simp only [ref04_in_ok, bifS, Option.bind_some, orB]
  unfold letterC
  rfl
theorem smallC_bd {c : Int} (h0 : 0 ≤ c) (h9 : c ≤ 1114111) : 0 ≤ smallC c ∧ smallC c ≤ 1114111 := by
  unfold smallC btw
  repeat' split
  all_goals simp_all
  all_goals omega
theorem ref04_Small_ok {c : Int} (h0 : 0 ≤ c) (h9 : c ≤ 1114111) : ref04_Small c = some (smallC c) := by
  refine ref04_Small_of ?_
  unfold ref04_Small_b
  simp only [ref04_in_ok, bifS, Option.bind_some, orB]
  rw [W64_in (by omega) (by omega), W64_in (by omega) (by omega)]
  unfold smallC
  generalize (btw c 65 90 || btw c 192 214 || btw c 216 222 || btw c 913 929 || btw c 931 937 || btw c 1040 1071) = d
  cases btw c 1024 1039 <;> cases d <;> rfl
def inC (c : Int) : Bool := letterC c || btw c 48 57
theorem ref05_In_ok (c : Int) : ref05_In c = some (inC c) := by
  refine ref05_In_of ?_
  unfold ref05_In_b
  rw [ref04_Letter_ok, bS, orI]
  unfold inC btw
  congr 2
  rw [Bool.eq_iff_iff]
  simp
theorem utf_Digit_ok (c : Int) : utf_Digit c = some (btw c 48 57) := by
  refine utf_Digit_of ?_
  unfold utf_Digit_b btw
  congr 1
  rw [Bool.eq_iff_iff]
  simp

def findT (c : Int) : List (Int × (Int × Int)) → Int × (Int × (Int × Bool))
  | [] => (0, 0, 0, false)
  | s :: t => if s.1 ≤ c ∧ c ≤ s.2.1 then (s.1, s.2.1, s.2.2, true) else findT c t
noncomputable def finds (i : Int) (c : Int) : Option (Int × Int × Int × Bool) := utf_find_l0 (i, c, 65, 90, 32, 97, 122, 0, 192, 214, 32, 216, 222, 32, 223, 246, 0, 248, 255, 0, 913, 929, 32, 931, 937, 32, 945, 969, 0, 1024, 1039, 80, 1040, 1071, 32, 1072, 1119, 0)
theorem finds_eq (i c : Int) : finds i c = (bif (decide (i < 12)) then (bif (((decide (0 ≤ i)) && (decide (i < 12))) && true) then (bif (if (decide (c ≥ (idx ((0 : Int), ((0 : Int), (0 : Int))) tab0 i).1)) then (decide (c ≤ (idx ((0 : Int), ((0 : Int), (0 : Int))) tab0 i).2.1)) else false) then (some ((idx ((0 : Int), ((0 : Int), (0 : Int))) tab0 i).1, (idx ((0 : Int), ((0 : Int), (0 : Int))) tab0 i).2.1, (idx ((0 : Int), ((0 : Int), (0 : Int))) tab0 i).2.2, true)) else finds (W64 (i + 1)) c) else none) else (some (0, 0, 0, false))) := by
  unfold finds
  rw [utf_find_l0_eq, utf_find_l0_F]
  rfl
theorem finds_ok (c : Int) : ∀ k i : Nat, i + k = 12 → finds (i : Int) c = some (findT c (tab0.drop i)) := by
  intro k
  have hl : tab0.length = 12 := rfl
  induction k with
  | zero =>
    intro i h
    rw [finds_eq, cF (dF (by omega)), List.drop_eq_nil_of_le (by omega)]
    rfl
  | succ k ih =>
    intro i h
    rw [finds_eq, cT (dT (by omega)), grd (aT (dT (by omega)) (dT (by omega))), idx_nat (by omega), W64_in (by omega) (by omega), show (i : Int) + 1 = ((i + 1 : Nat) : Int) by omega, ih (i + 1) (by omega), List.drop_eq_getElem_cons (l := tab0) (i := i) (by omega)]
    generalize tab0[i]'(by omega) = s
    rw [show findT c (s :: List.drop (i + 1) tab0) = if s.1 ≤ c ∧ c ≤ s.2.1 then (s.1, s.2.1, s.2.2, true) else findT c (List.drop (i + 1) tab0) from rfl]
    by_cases h1 : s.1 ≤ c
    · by_cases h2 : c ≤ s.2.1
      · rw [cT (by simp [h1, h2]), if_pos ⟨h1, h2⟩]
      · rw [cF (by simp [h1, h2]), if_neg (fun q => h2 q.2)]
    · rw [cF (by simp [h1]), if_neg (fun q => h1 q.1)]
theorem utf_find_ok (c : Int) : utf_find c = some (findT c tab0) := by
  refine utf_find_of ?_
  have : utf_find_b c = finds 0 c := by unfold utf_find_b finds; rfl
  rw [this, show (0 : Int) = ((0 : Nat) : Int) from rfl, finds_ok c 12 0 rfl, List.drop_zero]
def smT (c : Int) : List (Int × (Int × Int)) → Int
  | [] => 0
  | s :: t => if s.1 ≤ c ∧ c ≤ s.2.1 then s.2.2 else smT c t
theorem findT_eq (c : Int) : ∀ T, (findT c T).2.2.2 = T.any (fun s => decide (s.1 ≤ c ∧ c ≤ s.2.1)) ∧ (findT c T).2.2.1 = smT c T
  | [] => ⟨rfl, rfl⟩
  | s :: t => by
    obtain ⟨h1, h2⟩ := findT_eq c t
    unfold findT smT
    rw [List.any_cons]
    by_cases h : s.1 ≤ c ∧ c ≤ s.2.1
    · rw [if_pos h, if_pos h, dT h]; exact ⟨rfl, rfl⟩
    · rw [if_neg h, if_neg h, dF h, Bool.false_or]; exact ⟨h1, h2⟩
theorem findT_letter (c : Int) : (findT c tab0).2.2.2 = letterC c := by
  rw [(findT_eq c tab0).1]
  unfold tab0 letterC btw
  simp only [List.any_cons, List.any_nil]
  rw [Bool.eq_iff_iff]
  simp only [Bool.or_eq_true, decide_eq_true_eq, Bool.false_eq_true, or_false]
  constructor
  · rintro (h | h | h | h | h | h | h | h | h | h | h | h) <;> omega
  · rintro ((((((((h | h) | h) | h) | h) | h) | h) | h) | h) <;> omega
theorem smT_small : ∀ n : Fin 1120, (n.val : Int) + smT (n.val : Int) tab0 = smallC (n.val : Int) := by decide +kernel
theorem findT_small (c : Int) : c + (findT c tab0).2.2.1 = smallC c := by
  rw [(findT_eq c tab0).2]
  by_cases h : 0 ≤ c ∧ c < 1120
  · have := smT_small ⟨c.toNat, by omega⟩
    simp only [] at this
    rwa [show ((c.toNat : Nat) : Int) = c by omega] at this
  · have n1 : ∀ a b : Int, 0 ≤ a → b < 1120 → ¬ (a ≤ c ∧ c ≤ b) := by intro a b; omega
    have n2 : ∀ a b : Int, 0 ≤ a → b < 1120 → btw c a b = false := fun a b h h' => dF (n1 a b h h')
    unfold tab0 smallC
    simp only [smT]
    repeat rw [if_neg (n1 _ _ (by decide) (by decide))]
    repeat rw [n2 _ _ (by decide) (by decide)]
    simp
theorem utf_Letter_ok (c : Int) : utf_Letter c = some (letterC c) := by
  refine utf_Letter_of ?_
  unfold utf_Letter_b
  rw [utf_find_ok, bS]
  exact congrArg some (findT_letter c)
theorem utf_Small_ok {c : Int} (h0 : 0 ≤ c) (h9 : c ≤ 1114111) : utf_Small c = some (smallC c) := by
  refine utf_Small_of ?_
  unfold utf_Small_b
  rw [utf_find_ok, bS, findT_small c, W64_in] <;> have := smallC_bd h0 h9 <;> omega

theorem smallC_right {c : Int} (h : inC c = true) : rightC (smallC c) = true ∧ inC (smallC c) = true ∧ smallC (smallC c) = smallC c := by
  have hh : inC c = true := h
  unfold inC letterC btw at h
  simp at h
  have e : smallC c = c + 80 ∧ 1024 ≤ c ∧ c ≤ 1039 ∨ smallC c = c + 32 ∧ ((65 ≤ c ∧ c ≤ 90) ∨ (192 ≤ c ∧ c ≤ 214) ∨ (216 ≤ c ∧ c ≤ 222) ∨ (913 ≤ c ∧ c ≤ 929) ∨ (931 ≤ c ∧ c ≤ 937) ∨ (1040 ≤ c ∧ c ≤ 1071)) ∨ smallC c = c ∧ ¬ ((65 ≤ c ∧ c ≤ 90) ∨ (192 ≤ c ∧ c ≤ 214) ∨ (216 ≤ c ∧ c ≤ 222) ∨ (913 ≤ c ∧ c ≤ 929) ∨ (931 ≤ c ∧ c ≤ 937) ∨ (1040 ≤ c ∧ c ≤ 1071) ∨ (1024 ≤ c ∧ c ≤ 1039)) := by
    unfold smallC btw
    simp only [Bool.or_eq_true, decide_eq_true_eq]
    repeat' split
    all_goals omega
  rcases e with ⟨e, h1⟩ | ⟨e, h1⟩ | ⟨e, h1⟩
  · rw [e]
    refine ⟨by rw [rightC_iff]; omega, by unfold inC letterC btw; simp; omega, ?_⟩
    unfold smallC btw
    simp only [Bool.or_eq_true, decide_eq_true_eq]
    repeat' split
    all_goals omega
  · rw [e]
    refine ⟨by rw [rightC_iff]; omega, by unfold inC letterC btw; simp; omega, ?_⟩
    unfold smallC btw
    simp only [Bool.or_eq_true, decide_eq_true_eq]
    repeat' split
    all_goals omega
  · rw [e]
    exact ⟨by rw [rightC_iff]; omega, hh, e⟩
end Rk
