/- The plain part: what the functions answer. No condition. -/
import Derived.Test.YtfmdnoljlbfjbaaDoorPu05b
set_option linter.unusedVariables false
set_option linter.unusedSimpArgs false
namespace Rk
open Go

theorem dec1_enc {c : Int} (h : rightC c = true) (t : List UInt8) : dec1 (encC c ++ t) = (c, (encC c).length) := by
  have hr := rightC_iff.1 h
  unfold encC
  by_cases h1 : c < 128
  · rw [if_pos h1]
    have e : yB ([o8 c] ++ t) 0 = c := i8_o8 (by omega) (by omega)
    rw [dec1_is1 ⟨by simp, by omega⟩, e]
    rfl
  · rw [if_neg h1]
    by_cases h2 : c < 2048
    · rw [if_pos h2]
      have e0 : yB ([o8 (192 + c / 64), o8 (128 + c % 64)] ++ t) 0 = 192 + c / 64 := i8_o8 (by omega) (by omega)
      have e1 : yB ([o8 (192 + c / 64), o8 (128 + c % 64)] ++ t) 1 = 128 + c % 64 := i8_o8 (by omega) (by omega)
      have ed : d2 ([o8 (192 + c / 64), o8 (128 + c % 64)] ++ t) = c := by unfold d2; rw [e0, e1]; omega
      rw [dec1_is2 ⟨by simp, by omega, by omega, by omega, by omega, by omega⟩, ed]
      rfl
    · rw [if_neg h2]
      by_cases h3 : c < 65536
      · rw [if_pos h3]
        have e0 : yB ([o8 (224 + c / 4096), o8 (128 + c / 64 % 64), o8 (128 + c % 64)] ++ t) 0 = 224 + c / 4096 := i8_o8 (by omega) (by omega)
        have e1 : yB ([o8 (224 + c / 4096), o8 (128 + c / 64 % 64), o8 (128 + c % 64)] ++ t) 1 = 128 + c / 64 % 64 := i8_o8 (by omega) (by omega)
        have e2 : yB ([o8 (224 + c / 4096), o8 (128 + c / 64 % 64), o8 (128 + c % 64)] ++ t) 2 = 128 + c % 64 := i8_o8 (by omega) (by omega)
        have ed : d3 ([o8 (224 + c / 4096), o8 (128 + c / 64 % 64), o8 (128 + c % 64)] ++ t) = c := by unfold d3; rw [e0, e1, e2]; omega
        rw [dec1_is3 ⟨by simp, by omega, by omega, by omega, by omega, by omega, by omega, by omega, by omega⟩, ed]
        rfl
      · rw [if_neg h3]
        have e0 : yB ([o8 (240 + c / 262144), o8 (128 + c / 4096 % 64), o8 (128 + c / 64 % 64), o8 (128 + c % 64)] ++ t) 0 = 240 + c / 262144 := i8_o8 (by omega) (by omega)
        have e1 : yB ([o8 (240 + c / 262144), o8 (128 + c / 4096 % 64), o8 (128 + c / 64 % 64), o8 (128 + c % 64)] ++ t) 1 = 128 + c / 4096 % 64 := i8_o8 (by omega) (by omega)
        have e2 : yB ([o8 (240 + c / 262144), o8 (128 + c / 4096 % 64), o8 (128 + c / 64 % 64), o8 (128 + c % 64)] ++ t) 2 = 128 + c / 64 % 64 := i8_o8 (by omega) (by omega)
        have e3 : yB ([o8 (240 + c / 262144), o8 (128 + c / 4096 % 64), o8 (128 + c / 64 % 64), o8 (128 + c % 64)] ++ t) 3 = 128 + c % 64 := i8_o8 (by omega) (by omega)
        have ed : d4 ([o8 (240 + c / 262144), o8 (128 + c / 4096 % 64), o8 (128 + c / 64 % 64), o8 (128 + c % 64)] ++ t) = c := by unfold d4; rw [e0, e1, e2, e3]; omega
        rw [dec1_is4 ⟨by simp, by omega, by omega, by omega, by omega, by omega, by omega, by omega, by omega, by omega, by omega⟩, ed]
        rfl

theorem decS_enc : ∀ p : List Int, (∀ c ∈ p, rightC c = true) → decS (p.flatMap encC) = p
  | [], _ => decS_nil
  | c :: p, h => by
    have hl := encC_len c
    rw [List.flatMap_cons, decS_cons (by simp; omega), dec1_enc (h c (List.mem_cons_self ..))]
    dsimp only
    rw [List.drop_left, decS_enc p (fun c' hc => h c' (List.mem_cons_of_mem _ hc))]

def goodT (s : List UInt8) : Prop := ∃ p : List Int, p ≠ [] ∧ (∀ c ∈ p, inC c = true ∧ smallC c = c) ∧ s = p.flatMap encC ∧ s.length ≤ 64

theorem inC_right {c : Int} (h : inC c = true) : rightC c = true := by
  have := inC_bd h
  rw [rightC_iff]; omega

theorem fold_small : ∀ (p : List Int) (s : List UInt8), (∀ c ∈ p, smallC c = c) → s.length + (p.flatMap encC).length ≤ 64 → p.foldl stepT (false, s) = (false, s ++ p.flatMap encC)
  | [], s, _, _ => by simp
  | c :: p, s, h, hl => by
    rw [List.flatMap_cons, List.length_append] at hl
    have hc := h c (List.mem_cons_self ..)
    rw [List.foldl_cons, show stepT (false, s) c = (false, s ++ encC c) from by unfold stepT; rw [hc, if_neg (by simp; omega)], fold_small p _ (fun c' h' => h c' (List.mem_cons_of_mem _ h')) (by simp only [List.length_append]; omega)]
    simp

theorem termsW_all (l : List Int) : ∀ cur, (∀ c ∈ l, inC c = true) → termsW cur l = endW (cur ++ l) := by
  induction l with
  | nil => intro cur _; simp [termsW]
  | cons c l ih =>
    intro cur h
    rw [termsW, if_pos (h c (List.mem_cons_self ..)), ih _ (fun c' h' => h c' (List.mem_cons_of_mem _ h'))]
    simp

theorem goodT_terms {s : List UInt8} (h : goodT s) : termsS s = [s] ∧ ((∀ c ∈ decS s, inC c = true ∧ smallC c = c) ∧ decS s ≠ [] ∧ s.length ≤ 64) := by
  obtain ⟨p, h1, h2, h3, h4⟩ := h
  have e : decS s = p := by rw [h3]; exact decS_enc p (fun c hc => inC_right (h2 c hc).1)
  refine ⟨?_, by rw [e]; exact ⟨h2, h1, h4⟩⟩
  unfold termsS
  rw [e, termsW_all p [] (fun c hc => (h2 c hc).1), List.nil_append]
  unfold endW termS foldW
  rw [if_neg h1, fold_small p [] (fun c hc => (h2 c hc).2) (by rw [← h3]; simpa using h4), List.nil_append, ← h3]

theorem fold_pre : ∀ (l : List Int) (s : List UInt8), s.length ≤ 64 → (∀ c ∈ l, inC c = true) → ∃ p : List Int, (∀ c ∈ p, inC c = true ∧ smallC c = c) ∧ (l.foldl stepT (false, s)).2 = s ++ p.flatMap encC ∧ (s ++ p.flatMap encC).length ≤ 64 ∧ (s = [] → l ≠ [] → p ≠ [])
  | [], s, hs, _ => ⟨[], by simp, by simp, by simpa using hs, fun _ h => absurd rfl h⟩
  | c :: l, s, hs, h => by
    have hc := smallC_right (h c (List.mem_cons_self ..))
    have el := encC_len (smallC c)
    rw [List.foldl_cons]
    by_cases hf : 64 < s.length + (encC (smallC c)).length
    · rw [show stepT (false, s) c = (true, s) from if_pos (Or.inr hf), fold_full]
      exact ⟨[], by simp, by simp, by simpa using hs, fun e _ => by rw [e] at hf; simp at hf; omega⟩
    · rw [show stepT (false, s) c = (false, s ++ encC (smallC c)) from if_neg (by simp; omega)]
      obtain ⟨p, h1, h2, h3, h4⟩ := fold_pre l (s ++ encC (smallC c)) (by simp; omega) (fun c' h' => h c' (List.mem_cons_of_mem _ h'))
      refine ⟨smallC c :: p, ?_, by rw [h2]; simp, by simpa using h3, by simp⟩
      intro c' hc'
      rcases List.mem_cons.1 hc' with rfl | hc'
      · exact hc.2
      · exact h1 c' hc'

theorem termsW_good : ∀ (l cur : List Int), (∀ c ∈ cur, inC c = true) → ∀ s ∈ termsW cur l, goodT s := by
  have he : ∀ cur : List Int, (∀ c ∈ cur, inC c = true) → ∀ s ∈ endW cur, goodT s := by
    intro cur hc s hs
    unfold endW at hs
    by_cases h : cur = []
    · rw [if_pos h] at hs; cases hs
    · rw [if_neg h] at hs
      rw [List.mem_singleton.1 hs]
      obtain ⟨p, h1, h2, h3, h4⟩ := fold_pre cur [] (by simp) hc
      exact ⟨p, h4 rfl h, h1, by unfold termS foldW; rw [h2]; simp, by unfold termS foldW; rw [h2]; exact h3⟩
  intro l
  induction l with
  | nil => intro cur hc s hs; exact he cur hc s hs
  | cons c l ih =>
    intro cur hc s hs
    unfold termsW at hs
    by_cases h : inC c = true
    · rw [if_pos h] at hs
      refine ih _ ?_ s hs
      intro c' hc'
      rcases List.mem_append.1 hc' with h' | h'
      · exact hc c' h'
      · rw [List.mem_singleton.1 h']; exact h
    · rw [if_neg h] at hs
      rcases List.mem_append.1 hs with h' | h'
      · exact he cur hc s h'
      · exact ih [] (by simp) s h'
theorem termsS_good {b s : List UInt8} (h : s ∈ termsS b) : goodT s := termsW_good _ [] (by simp) s h
theorem goodT_iff {s : List UInt8} : goodT s ↔ termsS s = [s] := ⟨fun h => (goodT_terms h).1, fun h => termsS_good (b := s) (by rw [h]; simp)⟩

noncomputable def rightT (s : List UInt8) : Bool := decide (termsS s = [s])
theorem rightT_iff {s : List UInt8} : rightT s = true ↔ goodT s := by unfold rightT; rw [decide_eq_true_iff, goodT_iff]

theorem token_Right_ok {s : List UInt8} (h : s.length ≤ 1000000000000) : token_Right s = some (rightT s) := by
  refine token_Right_of ?_
  unfold token_Right_b rightT
  rw [token_Terms_ok h, bS]
  have hl := termsS_len s
  by_cases h1 : (termsS s).length = 1
  · obtain ⟨x, hx⟩ := List.length_eq_one_iff.1 h1
    rw [hx, show ((([x] : List (List UInt8)).length : Int) == 1) = true from rfl, dT (show (0 : Int) ≤ 0 by omega), dT (show (0 : Int) < (([x] : List (List UInt8)).length : Int) by simp), show idx ([] : List UInt8) [x] 0 = x from rfl]
    simp only [Bool.not_true, Bool.and_true, Bool.false_or, cond_true, if_true]
    congr 1
    rw [Bool.eq_iff_iff, decide_eq_true_iff]
    simp
  · have e : (((termsS s).length : Int) == 1) = false := by simp; omega
    rw [e]
    simp only [Bool.not_false, Bool.true_or, Bool.and_true, cond_true, Bool.false_eq_true, if_false]
    congr 1
    symm
    rw [decide_eq_false_iff_not]
    intro q
    rw [q] at h1
    exact h1 rfl

end Rk
