/- The plain part: what the functions answer. No condition. -/
import Derived.Test.YtfmdnoljlbfjbaaDoorPu10f
set_option linter.unusedVariables false
set_option linter.unusedSimpArgs false
namespace Rk
open Go

theorem between_cond {d : List Ent} {s : List UInt8} (hg : dictG d = true) (hs : s ≠ []) {p : Nat} (hp : IsPlace d s p) {i : Nat} (hi : i < d.length + 1) {a b : List UInt8} (h1 : i = 0 → a = []) (h2 : ∀ (h0 : 0 < i) (h1 : i - 1 < d.length), a = (d[i-1]).1) (h3 : ∀ h2 : i < d.length, b = (d[i]).1) (h4 : i = d.length → b = []) :
    (if (bl a s) = true then (if (bl s b) = true then true else (b == ([] : List UInt8))) else false) = decide (i = p ∧ ∀ h : p < d.length, (d[p]).1 ≠ s) := by
  have ha : bl a s = decide (i ≤ p) := by
    rcases Nat.eq_zero_or_pos i with h | h
    · rw [h1 h, dT (show i ≤ p by omega)]
      cases s with
      | nil => exact absurd rfl hs
      | cons x t => exact bl_nilc x t
    · rw [h2 h (by omega)]
      by_cases hip : i ≤ p
      · rw [dT hip]; exact hp.2.1 _ _ (by omega)
      · rw [dF hip]; exact hp.2.2 _ _ (by omega)
  have hA := ((dictG_iff d).1 hg).1
  rw [iteA, iteO, ha]
  by_cases hip : i ≤ p
  · rw [dT hip, Bool.true_and]
    by_cases hil : i < d.length
    · have hb := h3 hil
      have hne : (b == ([] : List UInt8)) = false := by
        have := (goodT_len (dictG_ent hg (List.getElem_mem hil)).1).1
        rw [hb]
        cases h : (d[i]).1 with
        | nil => rw [h] at this; simp at this
        | cons x t => rfl
      rw [hne, Bool.or_false]
      rcases Nat.lt_or_eq_of_le hip with h | h
      · have := hp.2.1 i hil h
        rw [hb, bl_asym this, dF (fun q => by omega)]
      · subst h
        have q := hp.2.2 i hil (Nat.le_refl _)
        by_cases he : (d[i]).1 = s
        · rw [hb, he, bl_irr, dF (fun q => q.2 hil he)]
        · rw [dT ⟨rfl, fun _ => he⟩, hb]
          cases hh : bl s (d[i]).1 with
          | true => rfl
          | false => exact absurd (bl_tri _ _ q hh) he
    · have : i = d.length := by omega
      have hb := h4 this
      have hpl := hp.1
      rw [hb, dT ⟨by omega, fun h => absurd h (by omega)⟩]
      simp
  · rw [dF hip, dF (fun q => hip (by omega))]
    rfl

theorem between_l0 {d : List Ent} {s : List UInt8} (hl : d.length ≤ 1000000) (hg : dictG d = true) (hs : s ≠ []) {p : Nat} (hp : IsPlace d s p) (nf : Bool) (hnf : nf = decide (∀ h : p < d.length, (d[p]).1 ≠ s)) (hf : ∃ j, dict_Find d s = some (j, !nf)) : ∀ (k i : Nat), i + k = d.length + 1 →
    law10_DictBetween_l0 ((i : Int), (if nf = true ∧ p < i then 1 else 0), s, linksS d, d) = some true := by
  have hpl := hp.1
  intro k
  induction k with
  | zero =>
    intro i hi
    rw [law10_DictBetween_l0_eq]
    dsimp only
    have hL := linksS_len d
    obtain ⟨j, hf⟩ := hf
    refine (cF (dF (by omega))).trans ((bindE hf).trans ?_)
    have hc : (if (if decide ((if nf = true ∧ p < i then (1 : Int) else 0) ≤ 1) = true then (false ^^ (((if nf = true ∧ p < i then (1 : Int) else 0) == 1) == (!(!nf)))) else false) = true then ((linksS d).length : Int) == W64 ((d.length : Int) + 1) else false) = true := by
      rw [W64_in (by omega) (by omega), hL]
      have hpi : p < i := by omega
      cases nf <;> simp [hpi]
    dsimp only
    rw [hc]
    exact (bindE ((cT rfl).trans law10_knows_ok)).trans rfl
  | succ k ih =>
    intro i hi
    rw [law10_DictBetween_l0_eq]
    dsimp only
    have hL := linksS_len d
    obtain ⟨a, b, c, k1, k2, k3, k4, k5, k6⟩ := linksS_get hg i (by omega)
    have hc := between_cond hg hs hp (show i < d.length + 1 by omega) k3 k4 k5 k6
    have hx : dict_ReadLink (idx ([] : List UInt8) (linksS d) (i : Int)) = some (a, b, c, 0) := by
      rw [idx_nat (l := linksS d) (i := i) (by omega), k1, dict_ReadLink_back k2]
    rw [cT (dT (by omega)), grd (aT (dT (by omega)) (dT (by omega)))]
    have ih' := ih (i + 1) (by omega)
    by_cases hq : i = p ∧ ∀ h : p < d.length, (d[p]).1 ≠ s
    · rw [dT hq] at hc
      have hn : nf = true := by rw [hnf]; exact dT hq.2
      have e1 : (if nf = true ∧ p < i then (1 : Int) else 0) = 0 := if_neg (by omega)
      have e2 : (if nf = true ∧ p < i + 1 then (1 : Int) else 0) = 1 := if_pos ⟨hn, by omega⟩
      rw [e2] at ih'
      rw [e1]
      refine (bindE (v := Sum.inl (1, s, linksS d, d, (i : Int))) ((bindE hx).trans ((cF rfl).trans ((cT hc).trans rfl)))).trans ?_
      show law10_DictBetween_l0 ((W64 ((i : Int) + 1)), 1, s, linksS d, d) = some true
      rw [W64_in (by omega) (by omega), show (i : Int) + 1 = ((i + 1 : Nat) : Int) by omega]
      exact ih'
    · rw [dF hq] at hc
      have e2 : (if nf = true ∧ p < i + 1 then (1 : Int) else 0) = (if nf = true ∧ p < i then (1 : Int) else 0) := by
        by_cases h : nf = true ∧ p < i
        · rw [if_pos h, if_pos ⟨h.1, by omega⟩]
        · rw [if_neg h, if_neg (fun h2 => hq ⟨(by have := h2.2; have : ¬ p < i := fun q => h ⟨h2.1, q⟩; omega), of_decide_eq_true (hnf.symm.trans h2.1)⟩)]
      rw [e2] at ih'
      refine (bindE (v := Sum.inl ((if nf = true ∧ p < i then (1 : Int) else 0), s, linksS d, d, (i : Int))) ((bindE hx).trans ((cF rfl).trans ((cF hc).trans rfl)))).trans ?_
      show law10_DictBetween_l0 ((W64 ((i : Int) + 1)), (if nf = true ∧ p < i then (1 : Int) else 0), s, linksS d, d) = some true
      rw [W64_in (by omega) (by omega), show (i : Int) + 1 = ((i + 1 : Nat) : Int) by omega]
      exact ih'

theorem L_DictBetween (x0 : List Ent) (x1 : List UInt8) (w0 : WF (.lst (.pair .str (.lst (.int .i64)))) x0) (w1 : WF .str x1) : law10_DictBetween x0 x1 = some true := by
  obtain ⟨g, h1, h2⟩ := law10_Great_ok (d := x0) w0.1
  refine law10_DictBetween_of ?_
  unfold law10_DictBetween_b
  refine (bindE h1).trans ?_
  by_cases hg : (if (if g = true then true else decide ((x1.length : Int) > 200)) = true then true else (x1 == ([] : List UInt8))) = true
  · exact (cT hg).trans (bindE law10_knows_ok)
  · refine (cF (by simpa using hg)).trans ?_
    rw [orI, orI, Bool.or_eq_true, Bool.or_eq_true, not_or, not_or, Bool.not_eq_true] at hg
    obtain ⟨l1, l2, ho⟩ := h2 hg.1.1
    have hne : x1 ≠ [] := fun e => hg.2 (by rw [e]; rfl)
    refine (bindE (dict_Links_ok (by omega) ho)).trans ?_
    rcases dict_Find_ok (d := x0) x1 (by omega) ho with ⟨a, b⟩ | ⟨a, i, ok, b, p, hp, c⟩
    · rw [a]
      exact (cT rfl).trans ((bindE ((cT rfl).trans law10_knows_ok)).trans rfl)
    · rw [a, if_pos rfl]
      refine (cF rfl).trans ?_
      have := between_l0 (by omega) a hne hp (!ok) (by
        rcases c with ⟨c1, c2, c3, c4⟩ | ⟨c1, c2, c3⟩
        · rw [c4]; exact (dF (fun q => q c1 c2)).symm
        · rw [c3]; exact (dT c1).symm) ⟨i, by rw [Bool.not_not]; exact b⟩ (x0.length + 1) 0 (by omega)
      rw [if_neg (by omega)] at this
      exact this
end Rk
