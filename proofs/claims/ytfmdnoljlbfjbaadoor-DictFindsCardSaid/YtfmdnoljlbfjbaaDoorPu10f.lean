/- The plain part: what the functions answer. No condition. -/
import Derived.Test.YtfmdnoljlbfjbaaDoorPu10e
set_option linter.unusedVariables false
set_option linter.unusedSimpArgs false
namespace Rk
open Go

theorem great_l0 (d : List Ent) (hm : d.length ≤ 9223372036854775807) : ∀ (n i : Nat), i + n = d.length → ∃ g, law10_Great_l0 ((i : Int), d) = some g ∧ (g = false → d.length ≤ 100 ∧ ∀ e ∈ d.drop i, e.1.length ≤ 200 ∧ e.2.length ≤ 200) := by
  intro n
  induction n with
  | zero =>
    intro i hi
    refine ⟨_, (by rw [law10_Great_l0_eq]; dsimp only; rw [cF (dF (by omega))]), fun h => ⟨?_, ?_⟩⟩
    · have := of_decide_eq_false h
      omega
    · rw [List.drop_eq_nil_of_le (by omega)]; simp
  | succ n ih =>
    intro i hi
    rw [law10_Great_l0_eq]
    dsimp only
    have hg : (decide ((0 : Int) ≤ (i : Int)) && decide ((i : Int) < (d.length : Int))) = true := aT (dT (by omega)) (dT (by omega))
    rw [cT (dT (by omega)), hg]
    simp only [Bool.or_true, Bool.and_true, cond_true]
    rw [idx_nat (l := d) (i := i) (by omega), List.drop_eq_getElem_cons (l := d) (i := i) (by omega)]
    generalize d[i]'(by omega) = e
    by_cases h : e.1.length ≤ 200 ∧ e.2.length ≤ 200
    · rw [dF (show ¬ (e.1.length : Int) > 200 by omega), dF (show ¬ (e.2.length : Int) > 200 by omega)]
      simp only [Bool.false_eq_true, if_false, cond_false]
      rw [W64_in (by omega) (by omega), show (i : Int) + 1 = ((i + 1 : Nat) : Int) by omega]
      obtain ⟨g, h1, h2⟩ := ih (i + 1) (by omega)
      refine ⟨g, h1, fun hgf => ⟨(h2 hgf).1, fun x hx => ?_⟩⟩
      rcases List.mem_cons.1 hx with rfl | hx
      · exact h
      · exact (h2 hgf).2 x hx
    · rw [cT (by rw [orI, Bool.or_eq_true, decide_eq_true_iff, decide_eq_true_iff]; omega)]
      exact ⟨true, rfl, fun h => by cases h⟩
theorem law10_Great_ok {d : List Ent} (hm : d.length ≤ maxLen) : ∃ g, law10_Great d = some g ∧ (g = false → d.length ≤ 100 ∧ (∀ e ∈ d, e.1.length ≤ 200 ∧ e.2.length ≤ 200) ∧ okE d) := by
  unfold maxLen at hm
  obtain ⟨g, h1, h2⟩ := great_l0 d (by omega) d.length 0 (by omega)
  refine ⟨g, law10_Great_of h1, fun h => ⟨(h2 h).1, (h2 h).2, fun e he => ?_⟩⟩
  have := (h2 h).2 e he
  omega

theorem docsD_len {d : List Ent} (ho : okE d) (s : List UInt8) : (docsD d s).length ≤ 1000000000 := by
  unfold docsD
  cases h : d.find? (fun e => e.1 == s) with
  | none => simp
  | some e => exact (ho e (List.mem_of_find?_eq_some h)).2

theorem L_DictFinds (x0 : List Ent) (x1 : List UInt8) (w0 : WF (.lst (.pair .str (.lst (.int .i64)))) x0) (w1 : WF .str x1) : law10_DictFinds x0 x1 = some true := by
  obtain ⟨g, h1, h2⟩ := law10_Great_ok (d := x0) w0.1
  refine law10_DictFinds_of ?_
  unfold law10_DictFinds_b
  refine (bindE h1).trans ?_
  by_cases hg : (if g = true then true else decide ((x1.length : Int) > 200)) = true
  · exact (cT hg).trans (bindE law10_knows_ok)
  · refine (cF (by simpa using hg)).trans ?_
    rw [orI, Bool.or_eq_true, not_or, Bool.not_eq_true] at hg
    obtain ⟨l1, l2, ho⟩ := h2 hg.1
    have hD := dict_Docs_ok (d := x0) x1 (by omega) ho
    have hR := ref10_Docs_ok (d := x0) x1 (by omega) ho
    have hF := ref10_Find_ok (d := x0) x1 (by omega) ho
    obtain ⟨i, ok, f1, f2⟩ : ∃ i ok, dict_Find x0 x1 = some (i, ok) ∧ ref10_Find x0 x1 = some (i, ok) := by
      rcases dict_Find_ok (d := x0) x1 (by omega) ho with ⟨a, b⟩ | ⟨a, i, ok, b, c⟩
      · exact ⟨-1, false, b, hF.1 a⟩
      · obtain ⟨j, ok', b', c'⟩ := hF.2 a
        obtain ⟨rfl, rfl⟩ := found_uniq c c'
        exact ⟨i, ok, b, b'⟩
    have hc : (if (i == i) = true then (false ^^ (ok == ok)) else false) = true := by simp
    refine (bindE f1).trans ((bindE f2).trans ?_)
    dsimp only
    rw [hc]
    have hl := docsD_len ho x1
    have hS := ref09_Same_ok (a := (if dictG x0 = true then docsD x0 x1 else [])) (b := (if dictG x0 = true then docsD x0 x1 else [])) (by split <;> first | omega | exact Nat.zero_le _)
    rw [dT rfl] at hS
    refine (bindE ((cT rfl).trans hD)).trans ((bindE ((cT rfl).trans hR)).trans ((bindE ((cT rfl).trans hS)).trans ((bindE ((cT rfl).trans law10_knows_ok)).trans rfl)))

end Rk
