/- The plain part: what the functions answer. No condition. -/
import Derived.Test.YtfmdnoljlbfjbaaDoorPu10
set_option linter.unusedVariables false
set_option linter.unusedSimpArgs false
namespace Rk
open Go

theorem entR_bd {d : List Ent} (h : okE d) {i : Nat} (hi : i < d.length) : (d[i]).1.length ≤ 1000000000 ∧ (d[i]).2.length ≤ 1000000000 := h _ (List.getElem_mem hi)

theorem dict_right_l0 (d : List Ent) (hl : d.length ≤ 1000000000000) (ho : okE d) : ∀ (n i : Nat), i + n = d.length →
    dict_Right_l0 ((i : Int), d, d, (d.length : Int)) = some (dictF (if i = 0 then none else some (d.getD (i - 1) ([], [])).1) (d.drop i)) := by
  intro n
  induction n with
  | zero =>
    intro i hi
    rw [dict_Right_l0_eq, dict_Right_l0_F]
    dsimp only
    rw [cF (dF (by omega)), List.drop_eq_nil_of_le (by omega)]
    rfl
  | succ n ih =>
    intro i hi
    rw [dict_Right_l0_eq, dict_Right_l0_F]
    dsimp only
    have hb := entR_bd ho (i := i) (by omega)
    have hbt : ∀ p : List UInt8, True := fun _ => trivial
    rw [cT (dT (by omega)), grd (aT (dT (by omega)) (dT (by omega))), idx_nat (l := d) (i := i) (by omega), List.drop_eq_getElem_cons (l := d) (i := i) (by omega)]
    have hge : (if decide ((i : Int) > 0) = true then cmpS .geq (idx (([] : List UInt8), ([] : List Int)) d (W64 ((i : Int) - 1))).1 (d[i]'(by omega)).1 else false) = !(prevB (if i = 0 then none else some (d.getD (i - 1) ([], [])).1) (d[i]'(by omega)).1) := by
      by_cases h0 : i = 0
      · subst h0
        rw [dF (show ¬ ((0 : Nat) : Int) > 0 by omega), if_pos rfl]
        rfl
      · rw [dT (show (i : Int) > 0 by omega), if_neg h0, W64_in (by omega) (by omega), show (i : Int) - 1 = ((i - 1 : Nat) : Int) by omega, idx_nat (l := d) (i := i - 1) (by omega)]
        rw [List.getD_eq_getElem?_getD, List.getElem?_eq_getElem (by omega)]
        rfl
    have hg : ((!decide ((i : Int) > 0) || (decide ((0 : Int) ≤ W64 ((i : Int) - 1)) && decide (W64 ((i : Int) - 1) < (d.length : Int)))) && true) = true := by
      by_cases h0 : i = 0
      · subst h0; simp
      · rw [W64_in (by omega) (by omega), dT (show (0 : Int) ≤ (i : Int) - 1 by omega), dT (show (i : Int) - 1 < (d.length : Int) by omega)]; simp
    rw [hg, cond_true, hge]
    have ih' := ih (i + 1) (by omega)
    rw [if_neg (by omega), show i + 1 - 1 = i by omega, List.getD_eq_getElem?_getD, List.getElem?_eq_getElem (l := d) (i := i) (by omega)] at ih'
    rw [show (some (d[i]'(by omega))).getD ([], []) = d[i]'(by omega) from rfl] at ih'
    generalize hp : (if i = 0 then none else some (d.getD (i - 1) ([], [])).1) = prev
    generalize (d[i]'(by omega)) = e at *
    rw [show dictF prev (e :: d.drop (i + 1)) = ((prevB prev e.1 && entR e) && dictF (some e.1) (d.drop (i + 1))) from rfl]
    generalize prevB prev e.1 = c1
    rw [token_Right_ok (by omega), post_Right_ok (by omega), bifS, bS, bifS, bS, W64_in (by omega) (by omega), show (i : Int) + 1 = ((i + 1 : Nat) : Int) by omega, ih']
    unfold entR
    have hz : ((e.2.length : Int) == 0) = (e.2.length == 0) := by
      rw [Bool.eq_iff_iff]; simp
    rw [hz]
    generalize rightT e.1 = c2
    generalize (e.2.length == 0) = c3
    generalize postR e.2 = c4
    cases c1 <;> cases c2 <;> cases c3 <;> cases c4 <;> rfl
theorem dict_Right_ok {d : List Ent} (hl : d.length ≤ 1000000000000) (ho : okE d) : dict_Right d = some (dictG d) := by
  refine dict_Right_of ?_
  unfold dict_Right_b
  have := dict_right_l0 d hl ho d.length 0 (by omega)
  rw [if_pos rfl, List.drop_zero, dictF_none] at this
  exact this

/-! Where a term is. -/
theorem asc_get {l : List (List UInt8)} (h : Asc l) {i j : Nat} (hij : i < j) (hj : j < l.length) : bl (l[i]'(by omega)) (l[j]) = true :=
  List.pairwise_iff_getElem.1 h i j (by omega) hj hij
theorem asc_ent {d : List Ent} (h : Asc (d.map Prod.fst)) {i j : Nat} (hij : i < j) (hj : j < d.length) : bl (d[i]'(by omega)).1 (d[j]).1 = true := by
  have := asc_get h (i := i) (j := j) hij (by simpa using hj)
  simpa using this

def IsPlace (d : List Ent) (s : List UInt8) (p : Nat) : Prop := p ≤ d.length ∧ (∀ q (h : q < d.length), q < p → bl (d[q]).1 s = true) ∧ (∀ q (h : q < d.length), p ≤ q → bl (d[q]).1 s = false)

theorem place_l0 {d : List Ent} {s : List UInt8} (hl : d.length ≤ 1000000000000) (ha : Asc (d.map Prod.fst)) : ∀ (n lo hi : Nat), hi - lo ≤ n → lo ≤ hi → hi ≤ d.length →
    (∀ q (h : q < d.length), q < lo → bl (d[q]).1 s = true) → (∀ q (h : q < d.length), hi ≤ q → bl (d[q]).1 s = false) →
    ∃ p : Nat, dict_place_l0 (s, d, (hi : Int), (lo : Int)) = some (p : Int) ∧ IsPlace d s p := by
  intro n
  induction n with
  | zero =>
    intro lo hi h1 h2 h3 h4 h5
    refine ⟨lo, ?_, by omega, h4, fun q hq hp => h5 q hq (by omega)⟩
    rw [dict_place_l0_eq, dict_place_l0_F]
    dsimp only
    rw [cF (dF (by omega))]
  | succ n ih =>
    intro lo hi h1 h2 h3 h4 h5
    by_cases hlt : lo < hi
    · rw [dict_place_l0_eq, dict_place_l0_F]
      dsimp only
      have hm : (lo + hi) / 2 < d.length := by omega
      rw [cT (dT (by omega)), grd (show ((2 : Int) != 0) = true from rfl), mid_ok (by omega) (by omega), grd (aT (dT (by omega)) (dT (by omega))), idx_nat hm]
      rw [show cmpS .lss (d[(lo + hi) / 2]).1 s = bl (d[(lo + hi) / 2]).1 s from rfl]
      cases hb : bl (d[(lo + hi) / 2]).1 s with
      | true =>
        rw [cT rfl, bS]
        dsimp only
        rw [W64_in (by omega) (by omega), show (((lo + hi) / 2 : Nat) : Int) + 1 = (((lo + hi) / 2 + 1 : Nat) : Int) by omega]
        exact ih ((lo + hi) / 2 + 1) hi (by omega) (by omega) (by omega) (fun q hq hp => by
          rcases Nat.lt_or_eq_of_le (Nat.le_of_lt_succ hp) with h' | h'
          · exact bl_trans _ _ _ (asc_ent ha h' hm) hb
          · subst h'; exact hb) h5
      | false =>
        rw [cond_false, bS]
        exact ih lo ((lo + hi) / 2) (by omega) (by omega) (by omega) h4 (fun q hq hp => by
          rcases Nat.lt_or_eq_of_le hp with h' | h'
          · cases h : bl (d[q]).1 s with
            | false => rfl
            | true => rw [bl_trans _ _ _ (asc_ent ha h' hq) h] at hb; cases hb
          · subst h'; exact hb)
    · refine ⟨lo, ?_, by omega, h4, fun q hq hp => h5 q hq (by omega)⟩
      rw [dict_place_l0_eq, dict_place_l0_F]
      dsimp only
      rw [cF (dF (by omega))]
theorem place_ok {d : List Ent} (s : List UInt8) (hl : d.length ≤ 1000000000000) (ha : Asc (d.map Prod.fst)) : ∃ p : Nat, dict_place d s = some (p : Int) ∧ IsPlace d s p := by
  obtain ⟨p, h1, h2⟩ := place_l0 (s := s) hl ha d.length 0 d.length (by omega) (by omega) (Nat.le_refl _) (fun q _ h => by omega) (fun q h h' => by omega)
  refine ⟨p, dict_place_of ?_, h2⟩
  unfold dict_place_b
  have h1' : dict_place_l0 (s, d, (d.length : Int), 0) = some (p : Int) := h1
  rw [h1']
  rfl

/-- What is found: the last place that is not above, and whether it is there. -/
def FoundAt (d : List Ent) (s : List UInt8) (i : Int) (ok : Bool) : Prop :=
  ∃ p : Nat, IsPlace d s p ∧ ((∃ h : p < d.length, (d[p]).1 = s ∧ i = (p : Int) ∧ ok = true) ∨ ((∀ h : p < d.length, (d[p]).1 ≠ s) ∧ i = (p : Int) - 1 ∧ ok = false))

theorem dict_Find_ok {d : List Ent} (s : List UInt8) (hl : d.length ≤ 1000000000000) (ho : okE d) : (dictG d = false ∧ dict_Find d s = some (-1, false)) ∨ (dictG d = true ∧ ∃ i ok, dict_Find d s = some (i, ok) ∧ FoundAt d s i ok) := by
  cases hg : dictG d with
  | false =>
    refine Or.inl ⟨rfl, dict_Find_of ?_⟩
    unfold dict_Find_b
    rw [dict_Right_ok hl ho, bS, hg]
    rfl
  | true =>
    right
    refine ⟨rfl, ?_⟩
    obtain ⟨p, h1, h2⟩ := place_ok s hl ((dictG_iff d).1 hg).1
    have hp := h2.1
    have e : dict_Find_b d s = (bif (if decide ((p : Int) < (d.length : Int)) = true then (idx (([] : List UInt8), ([] : List Int)) d (p : Int)).1 == s else false) then some ((p : Int), true) else some (W64 ((p : Int) - 1), false)) := by
      unfold dict_Find_b
      rw [dict_Right_ok hl ho, bS, hg, h1]
      simp only [Bool.not_true, cond_false, Option.bind_some]
      rw [grd]
      rw [dT (show (0 : Int) ≤ (p : Int) by omega)]
      cases decide ((p : Int) < (d.length : Int)) <;> rfl
    by_cases h : p < d.length
    · rw [dT (show (p : Int) < (d.length : Int) by omega), idx_nat h] at e
      by_cases hs : (d[p]).1 = s
      · refine ⟨(p : Int), true, dict_Find_of ?_, p, h2, Or.inl ⟨h, hs, rfl, rfl⟩⟩
        rw [e, cT (by simpa using hs)]
      · refine ⟨(p : Int) - 1, false, dict_Find_of ?_, p, h2, Or.inr ⟨fun _ => hs, rfl, rfl⟩⟩
        rw [e, cF (by simpa using hs), W64_in (by omega) (by omega)]
    · rw [dF (show ¬ (p : Int) < (d.length : Int) by omega)] at e
      refine ⟨(p : Int) - 1, false, dict_Find_of ?_, p, h2, Or.inr ⟨fun h' => absurd h' h, rfl, rfl⟩⟩
      rw [e, W64_in (by omega) (by omega)]
      rfl

/-- The documents of a term. -/
def docsD (d : List Ent) (s : List UInt8) : List Int := match d.find? (fun e => e.1 == s) with | some e => e.2 | none => []
theorem docsD_at {d : List Ent} (ha : Asc (d.map Prod.fst)) {p : Nat} (h : p < d.length) : docsD d (d[p]).1 = (d[p]).2 := by
  unfold docsD
  have : d.find? (fun e => e.1 == (d[p]).1) = some d[p] := by
    rw [List.find?_eq_some_iff_getElem]
    refine ⟨by simp, p, h, rfl, fun j hj => ?_⟩
    have := bl_ne (asc_ent ha hj h)
    simpa using this
  rw [this]
theorem docsD_no {d : List Ent} {s : List UInt8} (h : ∀ e ∈ d, e.1 ≠ s) : docsD d s = [] := by
  unfold docsD
  rw [List.find?_eq_none.2 (fun e he => by simpa using h e he)]
theorem found_no {d : List Ent} {s : List UInt8} (ha : Asc (d.map Prod.fst)) {p : Nat} (hp : IsPlace d s p) (h : ∀ h : p < d.length, (d[p]).1 ≠ s) : ∀ e ∈ d, e.1 ≠ s := by
  intro e he hs
  obtain ⟨q, hq, rfl⟩ := List.getElem_of_mem he
  rcases Nat.lt_trichotomy q p with h' | h' | h'
  · exact bl_ne (hp.2.1 q hq h') hs
  · subst h'; exact h hq hs
  · have l1 := asc_ent ha h' hq
    rw [hs, hp.2.2 p (by omega) (Nat.le_refl _)] at l1
    cases l1

theorem dict_Docs_ok {d : List Ent} (s : List UInt8) (hl : d.length ≤ 1000000000000) (ho : okE d) : dict_Docs d s = some (if dictG d = true then docsD d s else []) := by
  refine dict_Docs_of ?_
  unfold dict_Docs_b
  rcases dict_Find_ok s hl ho with ⟨hg, hf⟩ | ⟨hg, i, ok, hf, p, hp, h⟩
  · rw [hf, bS, hg]; rfl
  · have ha := ((dictG_iff d).1 hg).1
    rw [hf, bS, hg, if_pos rfl]
    rcases h with ⟨h, hs, rfl, rfl⟩ | ⟨h, rfl, rfl⟩
    · have hb := entR_bd ho h
      dsimp only
      rw [Bool.not_true, cond_false, grd (aT (dT (by omega)) (dT (by omega))), idx_nat h, List.nil_append, grd (dT (by omega)), ← hs, docsD_at ha h]
    · dsimp only
      rw [docsD_no (found_no ha hp h)]
      rfl
end Rk
