/- The plain part: what the functions answer. No condition. -/
import Derived.Test.YtfmdnoljlbfjbaaDoorPu05
set_option linter.unusedVariables false
set_option linter.unusedSimpArgs false
namespace Rk
open Go

theorem ref_term_l0 (l : List Int) (hl : l.length ≤ 1000000000000) (hin : ∀ c ∈ l, inC c = true) : ∀ (k i : Nat) (s : List UInt8), i + k = l.length → s.length ≤ 64 →
    ref05_Term_l0 (s, (i : Int), l) = some ((l.drop i).foldl stepT (false, s)).2 := by
  intro k
  induction k with
  | zero =>
    intro i s hi hs
    rw [ref05_Term_l0_eq, ref05_Term_l0_F]
    dsimp only
    rw [cF (dF (by omega)), List.drop_eq_nil_of_le (by omega)]
    rfl
  | succ k ih =>
    intro i s hi hs
    rw [ref05_Term_l0_eq, ref05_Term_l0_F]
    dsimp only
    rw [List.drop_eq_getElem_cons (l := l) (i := i) (by omega), List.foldl_cons]
    have hc : inC (l[i]'(by omega)) = true := hin _ (List.getElem_mem _)
    rw [cT (dT (by omega)), grd (aT (dT (by omega)) (dT (by omega))), idx_nat (by omega)]
    generalize l[i]'(by omega) = c at hc
    have hb := inC_bd hc
    have hr := smallC_rt hc
    have el := encC_len (smallC c)
    rw [ref04_Small_ok (by omega) (by omega), bS, ref04_Encode_ok (by omega) (by omega), bS, W64_in (by omega) (by omega)]
    by_cases h : 64 < s.length + (encC (smallC c)).length
    · rw [cT (by simp; omega), show stepT (false, s) c = (true, s) from if_pos (Or.inr h), fold_full]
    · rw [cF (by simp; omega), grd (dT (by simp; omega)), W64_in (by omega) (by omega), show (i : Int) + 1 = ((i + 1 : Nat) : Int) by omega, ih _ _ (by omega) (by simp; omega), show stepT (false, s) c = (false, s ++ encC (smallC c)) from if_neg (by simp; omega)]

theorem ref_Term_ok (l : List Int) (hl : l.length ≤ 1000000000000) (hin : ∀ c ∈ l, inC c = true) : ref05_Term l = some (termS l) := by
  refine ref05_Term_of ?_
  unfold ref05_Term_b
  exact ref_term_l0 l hl hin l.length 0 [] (by omega) (by simp)

theorem termsW_go (l : List Int) (i : Nat) : ∀ (n k : Nat), k = i + n → k ≤ l.length → (∀ c ∈ (l.take k).drop i, inC c = true) → termsW [] (l.drop i) = termsW ((l.take k).drop i) (l.drop k) := by
  intro n
  induction n with
  | zero => intro k h1 h2 _; rw [h1, show (l.take (i + 0)).drop i = [] from List.drop_eq_nil_of_le (by simp; omega)]; rfl
  | succ n ih =>
    intro k h1 h2 h3
    obtain ⟨k, rfl⟩ : ∃ k', k = k' + 1 := ⟨k - 1, by omega⟩
    have e : (l.take (k + 1)).drop i = (l.take k).drop i ++ [l[k]'(by omega)] := by
      rw [List.take_succ_eq_append_getElem (by omega), List.drop_append_of_le_length (by simp; omega)]
    rw [e] at h3 ⊢
    rw [ih k (by omega) (by omega) (fun c hc => h3 c (List.mem_append_left _ hc)), List.drop_eq_getElem_cons (l := l) (i := k) (by omega), termsW, if_pos (h3 _ (by simp))]

theorem ref_terms_l1 (l : List Int) (hl : l.length ≤ 1000000000000) (i : Nat) (out : List (List UInt8)) : ∀ (n k : Nat), k + n = l.length → i ≤ k → (∀ c ∈ (l.take k).drop i, inC c = true) →
    ∃ k', k ≤ k' ∧ k' ≤ l.length ∧ (∀ c ∈ (l.take k').drop i, inC c = true) ∧ (∀ h : k' < l.length, inC l[k'] = false) ∧ ref05_Terms_l1 ((k : Int), l, out, (i : Int)) = some (l, (k' : Int), out, (i : Int)) := by
  intro n
  induction n with
  | zero =>
    intro k hk hik hin
    refine ⟨k, Nat.le_refl _, by omega, hin, fun h => by omega, ?_⟩
    rw [ref05_Terms_l1_eq, ref05_Terms_l1_F]
    dsimp only
    have : ¬ ((k : Int) < (l.length : Int)) := by omega
    rw [dF this]
    rfl
  | succ n ih =>
    intro k hk hik hin
    have hlt : ((k : Int) < (l.length : Int)) := by omega
    by_cases hc : inC (l[k]'(by omega)) = true
    · have e : (l.take (k + 1)).drop i = (l.take k).drop i ++ [l[k]'(by omega)] := by
        rw [List.take_succ_eq_append_getElem (by omega), List.drop_append_of_le_length (by simp; omega)]
      obtain ⟨k', h1, h2, h3, h4, h5⟩ := ih (k + 1) (by omega) (by omega) (by
        rw [e]
        intro c hcm
        rcases List.mem_append.1 hcm with h | h
        · exact hin c h
        · rw [List.mem_singleton.1 h]; exact hc)
      refine ⟨k', by omega, h2, h3, h4, ?_⟩
      rw [ref05_Terms_l1_eq, ref05_Terms_l1_F]
      dsimp only
      rw [dT hlt, dT (show (0 : Int) ≤ (k : Int) by omega)]
      simp only [Bool.not_true, Bool.false_or, Bool.and_true, cond_true, if_true]
      rw [idx_nat (by omega), ref05_In_ok, bS, hc, cond_true, W64_in (by omega) (by omega), show (k : Int) + 1 = ((k + 1 : Nat) : Int) by omega, h5]
    · rw [Bool.not_eq_true] at hc
      refine ⟨k, Nat.le_refl _, by omega, hin, fun _ => hc, ?_⟩
      rw [ref05_Terms_l1_eq, ref05_Terms_l1_F]
      dsimp only
      rw [dT hlt, dT (show (0 : Int) ≤ (k : Int) by omega)]
      simp only [Bool.not_true, Bool.false_or, Bool.and_true, cond_true, if_true]
      rw [idx_nat (by omega), ref05_In_ok, bS, hc, cond_false]

theorem ref_terms_l0 (l : List Int) (hl : l.length ≤ 1000000000000) : ∀ (n i : Nat) (out : List (List UInt8)), l.length + 1 ≤ i + n → out.length ≤ i → i ≤ l.length + 1 →
    ref05_Terms_l0 (out, l, (i : Int)) = some (out ++ termsW [] (l.drop i)) := by
  intro n
  induction n with
  | zero =>
    intro i out hi ho hi2
    rw [ref05_Terms_l0_eq, ref05_Terms_l0_F]
    dsimp only
    rw [cF (dF (by omega)), List.drop_eq_nil_of_le (by omega)]
    simp [termsW, endW]
  | succ n ih =>
    intro i out hi ho hi2
    by_cases hlt : i < l.length
    · rw [ref05_Terms_l0_eq, ref05_Terms_l0_F]
      dsimp only
      obtain ⟨k, h1, h2, h3, h4, h5⟩ := ref_terms_l1 l hl i out (l.length - i) i (by omega) (Nat.le_refl _) (by rw [show (l.take i).drop i = [] from List.drop_eq_nil_of_le (by simp; omega)]; simp)
      rw [cT (dT (by omega)), h5, bS]
      dsimp only
      have e1 : termsW [] (l.drop i) = endW ((l.take k).drop i) ++ termsW [] (l.drop (k + 1)) := by
        rw [termsW_go l i (k - i) k (by omega) h2 h3]
        by_cases hk : k < l.length
        · rw [List.drop_eq_getElem_cons (l := l) (i := k) hk, termsW, if_neg (by rw [h4 hk]; decide)]
        · rw [show l.drop k = [] from List.drop_eq_nil_of_le (by omega), show l.drop (k + 1) = [] from List.drop_eq_nil_of_le (by omega)]
          simp [termsW, endW]
      by_cases hik : i < k
      · have es : sub l (i : Int) ((i : Int) + ((k : Int) - (i : Int))) = (l.take k).drop i := by
          rw [show (i : Int) + ((k : Int) - (i : Int)) = (k : Int) by omega, sub_nat]
        rw [cT (dT (by omega)), grd (aT (dT (by omega)) (aT (dT (by omega)) (dT (by omega)))), es, ref_Term_ok _ (by simp; omega) h3, bS, grd (dT (by simp; omega)), bS, bS]
        dsimp only
        rw [W64_in (by omega) (by omega), show (k : Int) + 1 = ((k + 1 : Nat) : Int) by omega, ih (k + 1) _ (by omega) (by simp; omega) (by omega), e1]
        have hne : (l.take k).drop i ≠ [] := by
          intro h
          have := congrArg List.length h
          simp at this
          omega
        rw [show endW ((l.take k).drop i) = [termS ((l.take k).drop i)] from if_neg hne]
        simp
      · rw [cF (dF (by omega)), bS, bS]
        dsimp only
        rw [W64_in (by omega) (by omega), show (k : Int) + 1 = ((k + 1 : Nat) : Int) by omega, ih (k + 1) _ (by omega) (by omega) (by omega), e1]
        rw [show (l.take k).drop i = [] from List.drop_eq_nil_of_le (by simp; omega)]
        simp [endW]
    · rw [ref05_Terms_l0_eq, ref05_Terms_l0_F]
      dsimp only
      rw [cF (dF (by omega)), List.drop_eq_nil_of_le (by omega)]
      simp [termsW, endW]

theorem ref_Terms_ok {b : List UInt8} (hb : b.length ≤ 1000000000000) : ref05_Terms b = some (termsS b) := by
  refine ref05_Terms_of ?_
  unfold ref05_Terms_b
  have hl := decS_len b.length b (Nat.le_refl _)
  rw [ref04_Decode_ok hb, bS]
  have := ref_terms_l0 (decS b) (by omega) ((decS b).length + 1) 0 [] (by omega) (by simp) (by omega)
  rw [show ((0 : Nat) : Int) = 0 from rfl] at this
  rw [this]
  rfl

def plS (s : List UInt8) : Nat → List (List UInt8) → List Int
  | _, [] => []
  | i, x :: t => if x = s then (i : Int) :: plS s (i + 1) t else plS s (i + 1) t
theorem ref_places_l0 (l : List (List UInt8)) (s : List UInt8) (hl : l.length ≤ 1000000000000) : ∀ (n i : Nat) (out : List Int), i + n = l.length → out.length ≤ i →
    ref05_Places_l0 ((i : Int), out, s, l) = some (out ++ plS s i (l.drop i)) := by
  intro n
  induction n with
  | zero =>
    intro i out hi ho
    rw [ref05_Places_l0_eq, ref05_Places_l0_F]
    dsimp only
    rw [cF (dF (by omega)), List.drop_eq_nil_of_le (by omega)]
    simp [plS]
  | succ n ih =>
    intro i out hi ho
    rw [ref05_Places_l0_eq, ref05_Places_l0_F]
    dsimp only
    rw [cT (dT (by omega)), grd (aT (dT (by omega)) (dT (by omega))), idx_nat (by omega), List.drop_eq_getElem_cons (l := l) (i := i) (by omega)]
    unfold plS
    by_cases h : l[i]'(by omega) = s
    · rw [cT (by simpa using h), grd (dT (by simp; omega)), bS, if_pos h]
      dsimp only
      rw [W64_in (by omega) (by omega), show (i : Int) + 1 = ((i + 1 : Nat) : Int) by omega, ih _ _ (by omega) (by simp; omega)]
      simp
    · rw [cF (by simpa using h), bS, if_neg h]
      dsimp only
      rw [W64_in (by omega) (by omega), show (i : Int) + 1 = ((i + 1 : Nat) : Int) by omega, ih _ _ (by omega) (by omega)]
theorem ref_Places_ok {b : List UInt8} (hb : b.length ≤ 1000000000000 - 1) (s : List UInt8) : ref05_Places b s = some (plS s 0 (termsS b)) := by
  refine ref05_Places_of ?_
  unfold ref05_Places_b
  have := termsS_len b
  rw [ref_Terms_ok (by omega), bS]
  have := ref_places_l0 (termsS b) s (by omega) (termsS b).length 0 [] (by omega) (by simp)
  rw [show ((0 : Nat) : Int) = 0 from rfl] at this
  rw [this]
  rfl
theorem plS_pos (s : List UInt8) : ∀ (l : List (List UInt8)) (i : Nat), 0 < (plS s i l).length ↔ s ∈ l
  | [], i => by simp [plS]
  | x :: t, i => by
    unfold plS
    by_cases h : x = s
    · rw [if_pos h]; simp [h]
    · rw [if_neg h, plS_pos s t]
      simp [Ne.symm h]

theorem ref10_Has_ok {b : List UInt8} (hb : b.length ≤ 1000000000000 - 1) (s : List UInt8) : ref10_Has b s = some (decide (s ∈ termsS b)) := by
  refine ref10_Has_of ?_
  unfold ref10_Has_b
  rw [ref_Places_ok hb, bS]
  congr 1
  rw [decide_eq_decide, ← plS_pos s _ 0]
  omega
end Rk
