/- The plain part: what the functions answer. No condition. -/
import Derived.Test.YtfmdnoljlbfjbaaDoorPu10e
set_option linter.unusedVariables false
set_option linter.unusedSimpArgs false
namespace Rk
open Go

theorem greatdocs_l0 (d : List (List UInt8)) (hm : d.length ≤ 9223372036854775807) : ∀ (n i : Nat), i + n = d.length → ∃ g, law10_GreatDocs_l0 ((i : Int), d) = some g ∧ (g = false → d.length ≤ 40 ∧ ∀ e ∈ d.drop i, e.length ≤ 2500) := by
  intro n
  induction n with
  | zero =>
    intro i hi
    refine ⟨_, (by rw [law10_GreatDocs_l0_eq]; dsimp only; rw [cF (dF (by omega))]), fun h => ⟨?_, ?_⟩⟩
    · have := of_decide_eq_false h
      omega
    · rw [List.drop_eq_nil_of_le (by omega)]; simp
  | succ n ih =>
    intro i hi
    rw [law10_GreatDocs_l0_eq]
    dsimp only
    rw [cT (dT (by omega)), grd (aT (dT (by omega)) (dT (by omega))), idx_nat (l := d) (i := i) (by omega), List.drop_eq_getElem_cons (l := d) (i := i) (by omega)]
    generalize d[i]'(by omega) = e
    by_cases h : e.length ≤ 2500
    · rw [cF (dF (by omega)), W64_in (by omega) (by omega), show (i : Int) + 1 = ((i + 1 : Nat) : Int) by omega]
      obtain ⟨g, h1, h2⟩ := ih (i + 1) (by omega)
      refine ⟨g, h1, fun hgf => ⟨(h2 hgf).1, fun x hx => ?_⟩⟩
      rcases List.mem_cons.1 hx with rfl | hx
      · exact h
      · exact (h2 hgf).2 x hx
    · rw [cT (dT (by omega))]
      exact ⟨true, rfl, fun h => by cases h⟩
theorem law10_GreatDocs_ok {d : List (List UInt8)} (hm : d.length ≤ maxLen) : ∃ g, law10_GreatDocs d = some g ∧ (g = false → d.length ≤ 40 ∧ (∀ e ∈ d, e.length ≤ 2500)) := by
  unfold maxLen at hm
  obtain ⟨g, h1, h2⟩ := greatdocs_l0 d (by omega) d.length 0 (by omega)
  exact ⟨g, law10_GreatDocs_of h1, fun h => h2 h⟩

theorem made_docs {docs : List (List UInt8)} {lo n : Nat} {D : List Ent} (h : IsMade docs lo n D) (s : List UInt8) : docsD D s = occ docs lo s n := by
  by_cases hs : s ∈ D.map Prod.fst
  · obtain ⟨e, he, rfl⟩ := List.mem_map.1 hs
    obtain ⟨p, hp, rfl⟩ := List.getElem_of_mem he
    rw [docsD_at h.asc hp, h.val _ he]
  · rw [docsD_no (fun e he q => hs (by rw [← q]; exact List.mem_map_of_mem he))]
    by_cases h0 : occ docs lo s n = []
    · rw [h0]
    · exact absurd ((h.mem s).2 h0) hs

theorem has_loop (docs : List (List UInt8)) (s : List UInt8) (lo hi : Nat) (hl : docs.length ≤ 1000) (hb : ∀ x ∈ docs, x.length ≤ 2500) (hhi : hi ≤ docs.length) (hlo : lo ≤ hi) : ∀ (n i : Nat), i + n = docs.length →
    law10_DictHas_l0 ((i : Int), occ docs lo s (hi - lo), s, docs, (hi : Int), (lo : Int)) = some true := by
  intro n
  induction n with
  | zero =>
    intro i hi'
    rw [law10_DictHas_l0_eq]
    dsimp only
    rw [cF (dF (by omega))]
    exact bindE law10_knows_ok
  | succ n ih =>
    intro i hi'
    have hx := hb _ (List.getElem_mem (l := docs) (n := i) (by omega))
    rw [law10_DictHas_l0_eq]
    dsimp only
    have hg : (decide ((0 : Int) ≤ (i : Int)) && decide ((i : Int) < (docs.length : Int))) = true := aT (dT (by omega)) (dT (by omega))
    rw [cT (dT (by omega)), hg]
    simp only [Bool.or_true, Bool.and_true, cond_true]
    rw [idx_nat (l := docs) (i := i) (by omega)]
    have hol := occ_len docs lo s (hi - lo)
    have hHas := ref09_Has_ok (l := occ docs lo s (hi - lo)) (x := (i : Int)) (by omega)
    have hP := ref_Places_ok (b := docs[i]'(by omega)) (by omega) s
    have hpos := plS_pos s (termsS (docs[i]'(by omega))) 0
    have hmem : (i : Int) ∈ occ docs lo s (hi - lo) ↔ lo ≤ i ∧ i < hi ∧ s ∈ termsS (docs[i]'(by omega)) := by
      rw [occ_mem]
      constructor
      · rintro ⟨j, h1, h2, h3⟩
        have e : i = lo + j := by omega
        refine ⟨by omega, by omega, ?_⟩
        rw [← e, List.getD_eq_getElem?_getD, List.getElem?_eq_getElem (by omega)] at h3
        exact h3
      · rintro ⟨h1, h2, h3⟩
        refine ⟨i - lo, by omega, by omega, ?_⟩
        rw [show lo + (i - lo) = i by omega, List.getD_eq_getElem?_getD, List.getElem?_eq_getElem (by omega)]
        exact h3
    have hnext : law10_DictHas_l0 ((W64 ((i : Int) + 1)), occ docs lo s (hi - lo), s, docs, (hi : Int), (lo : Int)) = some true := by
      rw [W64_in (by omega) (by omega), show (i : Int) + 1 = ((i + 1 : Nat) : Int) by omega]
      exact ih (i + 1) (by omega)
    by_cases hin : lo ≤ i ∧ i < hi
    · rw [dT (show (i : Int) ≥ (lo : Int) by omega), dT (show (i : Int) < (hi : Int) by omega), if_pos rfl]
      refine (bindE ((cT rfl).trans hP)).trans ((bindE hHas).trans ((cF ?_).trans hnext))
      rw [if_pos rfl]
      have : decide ((i : Int) ∈ occ docs lo s (hi - lo)) = decide (((plS s 0 (termsS (docs[i]'(by omega)))).length : Int) > 0) := by
        rw [decide_eq_decide, hmem]
        constructor
        · intro h; have := hpos.2 h.2.2; omega
        · intro h; exact ⟨hin.1, hin.2, hpos.1 (by omega)⟩
      rw [this]
      simp
    · have hc : (if decide ((i : Int) ≥ (lo : Int)) = true then decide ((i : Int) < (hi : Int)) else false) = false := by
        rw [andI]; simp; omega
      rw [hc]
      refine (bindE (v := []) rfl).trans ((bindE hHas).trans ((cF ?_).trans hnext))
      rw [show decide ((i : Int) ∈ occ docs lo s (hi - lo)) = false from dF (fun q => hin ⟨(hmem.1 q).1, (hmem.1 q).2.1⟩)]
      rfl

theorem L_DictHas (x0 : List (List UInt8)) (x1 x2 : Int) (x3 : List UInt8) (w0 : WF (.lst (.lst (.int .u8))) x0) (w1 : WF (.int .i64) x1) (w2 : WF (.int .i64) x2) (w3 : WF .str x3) : law10_DictHas x0 x1 x2 x3 = some true := by
  obtain ⟨g, h1, h2⟩ := law10_GreatDocs_ok (d := x0) w0.1
  refine law10_DictHas_of ?_
  unfold law10_DictHas_b
  refine (bindE h1).trans ?_
  by_cases hg : (if g = true then true else decide ((x3.length : Int) > 200)) = true
  · exact (cT hg).trans (bindE law10_knows_ok)
  · refine (cF (by simpa using hg)).trans ?_
    rw [orI, Bool.or_eq_true, not_or, Bool.not_eq_true] at hg
    obtain ⟨l1, l2⟩ := h2 hg.1
    by_cases hf : fairM x0 x1 x2
    · obtain ⟨D, m1, m2, m3, m4, m5⟩ := make_ok hf
      have hd := dict_Docs_ok (d := D) x3 (by omega) m4
      rw [m3, if_pos rfl, made_docs m2] at hd
      refine (bindE m1).trans ((cF rfl).trans ((bindE hd).trans ?_))
      obtain ⟨f1, f2, f3, f4, f5⟩ := hf
      obtain ⟨lo, rfl⟩ := Int.eq_ofNat_of_zero_le f3
      obtain ⟨hi, rfl⟩ := Int.eq_ofNat_of_zero_le (show 0 ≤ x2 by omega)
      simp only [Int.toNat_natCast]
      exact has_loop x0 x3 lo hi (by omega) l2 (by omega) (by omega) x0.length 0 (by omega)
    · refine (bindE (make_bad hf (by omega))).trans ((cT rfl).trans ((bindE ((cT rfl).trans law10_knows_ok)).trans rfl))
end Rk
