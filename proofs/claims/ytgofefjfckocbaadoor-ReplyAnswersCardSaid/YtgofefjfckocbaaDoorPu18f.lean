/- The plain part: what the functions answer. No condition. -/
import Derived.Test.YtgofefjfckocbaaDoorPu18e
set_option linter.unusedVariables false
set_option linter.unusedSimpArgs false
namespace Rk
open Go

/-! ### Answers: what is too great -/

structure PfG (p : Pf) : Prop where
  s : p.2.2.2.2.2.length ≤ 5000
  n : p.2.2.2.2.1.length ≤ 100
  d : ∀ d ∈ p.2.2.2.2.1, d.length ≤ 100

theorem PfG.small {p : Pf} (h : PfG p) : PfS p := ⟨by have := h.n; omega, fun d hd => by have := h.d d hd; omega, by have := h.s; omega⟩

/-- All lists within are such as there may be. -/
structure WfP (ps : List (List Pf)) : Prop where
  n : ps.length ≤ 9223372036854775807
  q : ∀ q ∈ ps, q.length ≤ 9223372036854775807
  p : ∀ q ∈ ps, ∀ p ∈ q, p.2.2.2.2.1.length ≤ 9223372036854775807

theorem great_l1_ok {ps : List (List Pf)} (hw : WfP ps) (self1 : (Int × List (List Pf)) → Option Bool) {i : Nat} (hi : i < ps.length) : ∀ (k' k : Nat), k + k' = (ps[i]).length →
    law18_great_l1 self1 ((k : Int), (i : Int), ps) = some true ∨ (law18_great_l1 self1 ((k : Int), (i : Int), ps) = self1 (((i + 1 : Nat) : Int), ps) ∧ ∀ p ∈ (ps[i]).drop k, PfG p) := by
  have hn := hw.n
  have hq := hw.q _ (List.getElem_mem hi)
  have hWi : W64 ((i : Int) + 1) = ((i + 1 : Nat) : Int) := by rw [W64_in (by omega) (by omega)]; omega
  intro k'
  induction k' with
  | zero =>
    intro k hk
    refine .inr ⟨?_, by rw [List.drop_eq_nil_iff.2 (by omega)]; simp⟩
    rw [law18_great_l1_eq]
    dsimp only
    rw [grd (aT (dT (by omega)) (dT (by omega))), idx_nat hi, cF (dF (by omega)), hWi]
  | succ k' ih =>
    intro k hk
    have hki : k < (ps[i]).length := by omega
    have hW : W64 ((k : Int) + 1) = ((k + 1 : Nat) : Int) := by rw [W64_in (by omega) (by omega)]; omega
    have hp := hw.p _ (List.getElem_mem hi) _ (List.getElem_mem hki)
    obtain ⟨r, h1, h2⟩ := law06_Great_ok (l := ((ps[i])[k]).2.2.2.2.1) (by omega)
    have run : ∀ y, (bif (((((decide ((((ps[i])[k]).2.1.length : Int) > 200) || decide ((((ps[i])[k]).2.2.1.length : Int) > 200)) || decide ((((ps[i])[k]).2.2.2.1.length : Int) > 200)) || decide ((((ps[i])[k]).2.2.2.2.2.length : Int) > 5000))) || r) then some true else law18_great_l1 self1 (((k + 1 : Nat) : Int), (i : Int), ps)) = y → law18_great_l1 self1 ((k : Int), (i : Int), ps) = y := by
      intro y hy
      rw [law18_great_l1_eq]
      dsimp only
      rw [grd (aT (dT (by omega)) (dT (by omega))), idx_nat hi, cT (dT (by omega)), grd (aT (dT (by omega)) (dT (by omega))), grd (aT (dT (by omega)) (dT (by omega))), idx_nat hki, h1, hW, iteA3, bS]
      rw [← hy]
      simp only [iteO]
      cases (((decide ((((ps[i])[k]).2.1.length : Int) > 200) || decide ((((ps[i])[k]).2.2.1.length : Int) > 200)) || decide ((((ps[i])[k]).2.2.2.1.length : Int) > 200)) || decide ((((ps[i])[k]).2.2.2.2.2.length : Int) > 5000)) <;> cases r <;> rfl
    cases hc : (((((decide ((((ps[i])[k]).2.1.length : Int) > 200) || decide ((((ps[i])[k]).2.2.1.length : Int) > 200)) || decide ((((ps[i])[k]).2.2.2.1.length : Int) > 200)) || decide ((((ps[i])[k]).2.2.2.2.2.length : Int) > 5000))) || r) with
    | true => exact .inl (run _ (by rw [hc]; rfl))
    | false =>
      simp only [Bool.or_eq_false_iff, decide_eq_false_iff_not] at hc
      obtain ⟨q1, q2⟩ := h2 hc.2
      have hg : PfG (ps[i])[k] := ⟨by omega, q1, q2⟩
      have hc' : (((((decide ((((ps[i])[k]).2.1.length : Int) > 200) || decide ((((ps[i])[k]).2.2.1.length : Int) > 200)) || decide ((((ps[i])[k]).2.2.2.1.length : Int) > 200)) || decide ((((ps[i])[k]).2.2.2.2.2.length : Int) > 5000))) || r) = false := by
        simp only [Bool.or_eq_false_iff, decide_eq_false_iff_not]
        exact hc
      rcases ih (k + 1) (by omega) with h3 | ⟨h3, h4⟩
      · exact .inl (run _ (by rw [hc']; exact h3))
      · refine .inr ⟨run _ (by rw [hc']; exact h3), fun p hp => ?_⟩
        rw [List.drop_eq_getElem_cons hki] at hp
        rcases List.mem_cons.1 hp with hp | hp
        · rw [hp]; exact hg
        · exact h4 p hp

theorem great_l0_ok {ps : List (List Pf)} (hw : WfP ps) : ∀ (k i : Nat), i + k = ps.length → ∃ r, law18_great_l0 ((i : Int), ps) = some r ∧ (r = false → ∀ q ∈ ps.drop i, q.length ≤ 30 ∧ ∀ p ∈ q, PfG p) := by
  have hn := hw.n
  intro k
  induction k with
  | zero =>
    intro i hk
    refine ⟨false, ?_, fun _ => by rw [List.drop_eq_nil_iff.2 (by omega)]; simp⟩
    rw [law18_great_l0_eq]
    dsimp only
    rw [cF (dF (by omega))]
  | succ k ih =>
    intro i hk
    have hi : i < ps.length := by omega
    by_cases h30 : (ps[i]).length ≤ 30
    · have run : ∀ y, law18_great_l1 law18_great_l0 (0, (i : Int), ps) = y → law18_great_l0 ((i : Int), ps) = y := by
        intro y hy
        rw [law18_great_l0_eq]
        dsimp only
        rw [cT (dT (by omega)), grd (aT (dT (by omega)) (dT (by omega))), idx_nat hi, cF (dF (by omega))]
        exact hy
      rcases great_l1_ok hw law18_great_l0 hi (ps[i]).length 0 (by omega) with h1 | ⟨h1, h2⟩
      · exact ⟨true, run _ h1, fun h => by simp at h⟩
      · obtain ⟨r, h3, h4⟩ := ih (i + 1) (by omega)
        refine ⟨r, run _ (Eq.trans h1 h3), fun h q hq => ?_⟩
        rw [List.drop_eq_getElem_cons hi] at hq
        rcases List.mem_cons.1 hq with hq | hq
        · rw [hq]; exact ⟨h30, by simpa using h2⟩
        · exact h4 h q hq
    · refine ⟨true, ?_, fun h => by simp at h⟩
      rw [law18_great_l0_eq]
      dsimp only
      rw [cT (dT (by omega)), grd (aT (dT (by omega)) (dT (by omega))), idx_nat hi, cT (dT (by omega))]

theorem great18_ok {z : Int} {g : List UInt8} {l : List Sg} {ps : List (List Pf)} (hm : l.length ≤ 9223372036854775807) (hw : WfP ps) :
    ∃ r, law18_great z g l ps = some r ∧ (r = false → l.length ≤ 200 ∧ ps.length ≤ 100 ∧ (∀ q ∈ ps, q.length ≤ 30) ∧ ∀ q ∈ ps, ∀ p ∈ q, PfS p) := by
  obtain ⟨r0, h0, g0⟩ := law15_Great_ok (z := z) (g := g) hm
  by_cases hc : (r0 || decide ((ps.length : Int) > 100)) = true
  · refine ⟨true, law18_great_of ?_, fun h => by simp at h⟩
    unfold law18_great_b
    rw [h0, bS]
    simp only [iteO]
    rw [cT hc]
  · obtain ⟨r, h1, h2⟩ := great_l0_ok hw ps.length 0 (by omega)
    refine ⟨r, law18_great_of ?_, fun h => ?_⟩
    · unfold law18_great_b
      rw [h0, bS]
      simp only [iteO]
      rw [cF (by simpa using hc)]
      exact h1
    · simp only [Bool.or_eq_true, decide_eq_true_eq, not_or, Bool.not_eq_true] at hc
      have h3 := h2 h
      rw [List.drop_zero] at h3
      exact ⟨(g0 hc.1).1, by omega, fun q hq => (h3 q hq).1, fun q hq p hp => ((h3 q hq).2 p hp).small⟩

/-! ### As the document's -/

theorem as_l1_ok {ps : List (List Pf)} (z : Int) (g : List UInt8) (segs : List Sg) (outp : List (List Pf)) {i : Nat} (hi : i < ps.length) (hn : ps.length ≤ 1000) (h30 : (ps[i]).length ≤ 30) : ∀ (k' k : Nat) (out : List Pf), k + k' = (ps[i]).length → out.length = k →
    law18_AsAnswer_l1 ((k : Int), outp, out, (i : Int), ps, z, g, segs) = some (ps, z, g, (i : Int), out ++ (ps[i]).drop k, segs, outp) := by
  intro k'
  induction k' with
  | zero =>
    intro k out hk ho
    rw [law18_AsAnswer_l1_eq]
    dsimp only
    rw [grd (aT (dT (by omega)) (dT (by omega))), idx_nat hi, cF (dF (by omega)), List.drop_eq_nil_iff.2 (by omega), List.append_nil]
  | succ k' ih =>
    intro k out hk ho
    have hki : k < (ps[i]).length := by omega
    have hW : W64 ((k : Int) + 1) = ((k + 1 : Nat) : Int) := by rw [W64_in (by omega) (by omega)]; omega
    rw [law18_AsAnswer_l1_eq]
    dsimp only
    rw [grd (aT (dT (by omega)) (dT (by omega))), idx_nat hi, cT (dT (by omega)), grd (aT (dT (by omega)) (dT (by omega))), grd (aT (dT (by omega)) (dT (by omega))), idx_nat hki,
      show law11_As ((ps[i])[k]).1 ((ps[i])[k]).2.1 ((ps[i])[k]).2.2.1 ((ps[i])[k]).2.2.2.1 ((ps[i])[k]).2.2.2.2.1 ((ps[i])[k]).2.2.2.2.2 = some _ from law11_As_of rfl, bS,
      grd (dT (by simp only [List.length_append, List.length_cons, List.length_nil]; omega)), hW, ih (k + 1) _ (by omega) (by simp; omega), List.drop_eq_getElem_cons hki]
    simp
    exact (List.drop_eq_getElem_cons hki).symm

theorem as_l0_ok {ps : List (List Pf)} (z : Int) (g : List UInt8) (segs : List Sg) (hn : ps.length ≤ 1000) (h30 : ∀ q ∈ ps, q.length ≤ 30) : ∀ (k i : Nat) (outp : List (List Pf)), i + k = ps.length → outp.length = i →
    law18_AsAnswer_l0 ((i : Int), ps, segs, outp, z, g) = some (segs, outp ++ ps.drop i, z, g) := by
  intro k
  induction k with
  | zero =>
    intro i outp hk ho
    rw [law18_AsAnswer_l0_eq]
    dsimp only
    rw [cF (dF (by omega)), List.drop_eq_nil_iff.2 (by omega), List.append_nil]
  | succ k ih =>
    intro i outp hk ho
    have hi : i < ps.length := by omega
    have hW : W64 ((i : Int) + 1) = ((i + 1 : Nat) : Int) := by rw [W64_in (by omega) (by omega)]; omega
    have h1 := as_l1_ok z g segs outp hi hn (h30 _ (List.getElem_mem hi)) (ps[i]).length 0 [] (by omega) rfl
    have h1' : law18_AsAnswer_l1 (0, outp, [], (i : Int), ps, z, g, segs) = some (ps, z, g, (i : Int), ps[i], segs, outp) := h1
    rw [law18_AsAnswer_l0_eq]
    dsimp only
    rw [cT (dT (by omega)), h1', bS]
    dsimp only
    rw [grd (dT (by simp only [List.length_append, List.length_cons, List.length_nil]; omega)), bS, bS]
    dsimp only
    rw [hW, ih (i + 1) _ (by omega) (by simp; omega), List.drop_eq_getElem_cons hi]
    simp

theorem AsAnswer_ok {z : Int} {g : List UInt8} {l : List Sg} {ps : List (List Pf)} (hl : l.length ≤ 1000) (hn : ps.length ≤ 1000) (h30 : ∀ q ∈ ps, q.length ≤ 30) : law18_AsAnswer z g l ps = some (z, g, l, ps) := by
  refine law18_AsAnswer_of ?_
  unfold law18_AsAnswer_b
  have h := as_l0_ok z g l hn h30 ps.length 0 [] (by omega) rfl
  rw [List.drop_zero, List.nil_append] at h
  have h' : law18_AsAnswer_l0 (0, ps, l, [], z, g) = some (l, ps, z, g) := h
  rw [law15_As_ok hl, bS]
  dsimp only
  rw [h', bS]

/-! ### Which may be -/

theorem May_ok (p : Pf) (hp : p.2.2.2.2.1.length ≤ 9223372036854775807) : ref18_May p.1 p.2.1 p.2.2.1 p.2.2.2.1 p.2.2.2.2.1 p.2.2.2.2.2 = some (pfOk p) := by
  refine ref18_May_of ?_
  unfold ref18_May_b
  have e : decide ((p.2.2.2.2.2.length : Int) ≤ 4000) = decide (p.2.2.2.2.2.length ≤ 4000) := by rw [Bool.eq_iff_iff]; simp only [decide_eq_true_eq]; omega
  rw [ref10_May_ok, iteA3, bS, ref18_paths_ok hp, iteA3, bS, e]
  simp only [iteA, pfOk, numOk, ge_iff_le]
  cases decide (0 ≤ p.1) <;> cases decide (p.1 ≤ 4611686018427387904) <;> cases mayL p.2.1 p.2.2.1 p.2.2.2.1 <;> cases pathOk p.2.2.2.2.1 <;> cases decide (p.2.2.2.2.2.length ≤ 4000) <;> rfl

theorem fair_l1_ok {ps : List (List Pf)} (hw : WfP ps) (self1 : (Int × List (List Pf)) → Option Bool) {i : Nat} (hi : i < ps.length) : ∀ (k' k : Nat), k + k' = (ps[i]).length →
    ref18_FairAnswer_l1 self1 ((k : Int), (i : Int), ps) = (bif ((ps[i]).drop k).all pfOk then self1 (((i + 1 : Nat) : Int), ps) else some false) := by
  have hn := hw.n
  have hq := hw.q _ (List.getElem_mem hi)
  have hWi : W64 ((i : Int) + 1) = ((i + 1 : Nat) : Int) := by rw [W64_in (by omega) (by omega)]; omega
  intro k'
  induction k' with
  | zero =>
    intro k hk
    rw [ref18_FairAnswer_l1_eq]
    dsimp only
    rw [grd (aT (dT (by omega)) (dT (by omega))), idx_nat hi, cF (dF (by omega)), hWi, List.drop_eq_nil_iff.2 (by omega)]
    rfl
  | succ k' ih =>
    intro k hk
    have hki : k < (ps[i]).length := by omega
    have hW : W64 ((k : Int) + 1) = ((k + 1 : Nat) : Int) := by rw [W64_in (by omega) (by omega)]; omega
    have hp := hw.p _ (List.getElem_mem hi) _ (List.getElem_mem hki)
    rw [ref18_FairAnswer_l1_eq]
    dsimp only
    rw [grd (aT (dT (by omega)) (dT (by omega))), idx_nat hi, cT (dT (by omega)), grd (aT (dT (by omega)) (dT (by omega))), grd (aT (dT (by omega)) (dT (by omega))), idx_nat hki, May_ok _ (by omega), bS, hW, ih (k + 1) (by omega),
      List.drop_eq_getElem_cons hki, List.all_cons]
    cases pfOk (ps[i])[k] <;> rfl

theorem fair_l0_ok {ps : List (List Pf)} (hw : WfP ps) : ∀ (k i : Nat), i + k = ps.length → ref18_FairAnswer_l0 ((i : Int), ps) = some ((ps.drop i).all qOk) := by
  have hn := hw.n
  intro k
  induction k with
  | zero =>
    intro i hk
    rw [ref18_FairAnswer_l0_eq]
    dsimp only
    rw [cF (dF (by omega)), List.drop_eq_nil_iff.2 (by omega)]
    rfl
  | succ k ih =>
    intro i hk
    have hi : i < ps.length := by omega
    rw [ref18_FairAnswer_l0_eq]
    dsimp only
    rw [cT (dT (by omega)), grd (aT (dT (by omega)) (dT (by omega))), idx_nat hi, List.drop_eq_getElem_cons hi, List.all_cons]
    by_cases h16 : (ps[i]).length ≤ 16
    · have h1 := fair_l1_ok hw ref18_FairAnswer_l0 hi (ps[i]).length 0 (by omega)
      rw [List.drop_zero] at h1
      have h1' : ref18_FairAnswer_l1 ref18_FairAnswer_l0 (0, (i : Int), ps) = (bif (ps[i]).all pfOk then ref18_FairAnswer_l0 (((i + 1 : Nat) : Int), ps) else some false) := h1
      rw [cF (dF (by omega)), h1', ih (i + 1) (by omega), qOk, dT h16, Bool.true_and]
      cases (ps[i]).all pfOk <;> rfl
    · rw [cT (dT (by omega)), qOk, dF h16, Bool.false_and, Bool.false_and]

theorem FairAnswer_ok {z : Int} {g : List UInt8} {l : List Sg} {ps : List (List Pf)} (hm : l.length ≤ 9223372036854775807) (hw : WfP ps) : ref18_FairAnswer z g l ps = some (ansOk z g l ps) := by
  refine ref18_FairAnswer_of ?_
  unfold ref18_FairAnswer_b
  have h1 := fair_l0_ok hw ps.length 0 (by omega)
  rw [List.drop_zero] at h1
  have h1' : ref18_FairAnswer_l0 (0, ps) = some (ps.all qOk) := h1
  rw [ref15_Right_ok _ _ _ hm, bS]
  simp only [iteO, ansOk]
  rw [h1']
  by_cases he : ps.length = l.length
  · have : ((ps.length : Int) != (l.length : Int)) = false := by simp only [bne_eq_false_iff_eq]; omega
    rw [this, dT he]
    cases headR z g l <;> simp
  · have : ((ps.length : Int) != (l.length : Int)) = true := by simp only [bne_iff_ne, ne_eq]; omega
    rw [this, dF he]
    cases headR z g l <;> simp

/-! ### The document's bytes -/

theorem encF_len {p : Pf} (h : pfOk p = true) : (encF p).length ≤ 7000 := by
  obtain ⟨g1, g2, g3, g4⟩ := pfOk_of h
  have e1 := encN_9 (v := p.1.toNat) (by omega)
  have e2 := encK_len g1
  have e3 := encT_len (s := encK p.2.1 p.2.2.1 p.2.2.2.1) (by omega)
  have e4 := encP_len g3
  have e5 := encT_len (s := p.2.2.2.2.2) (by omega)
  simp only [encF, List.length_append]
  omega

theorem rproofW_ok {p : Pf} (h : pfOk p = true) : ref18_proof p.1 p.2.1 p.2.2.1 p.2.2.2.1 p.2.2.2.2.1 p.2.2.2.2.2 = some (encF p) := by
  obtain ⟨g1, g2, g3, g4⟩ := pfOk_of h
  have e1 := encN_9 (v := p.1.toNat) (by omega)
  have e2 := encK_len g1
  have e3 := encT_len (s := encK p.2.1 p.2.2.1 p.2.2.2.1) (by omega)
  have e4 := encP_len g3
  have e5 := encT_len (s := p.2.2.2.2.2) (by omega)
  refine ref18_proof_of ?_
  unfold ref18_proof_b
  rw [ref02_Num_ok' g2.1 g2.2, bS, ref10_WriteLink_ok g1, bS, ref02_Text_ok (by omega), bS, grd (dT (by simp only [List.length_append]; omega)), ref18_path_ok g3, bS, grd (dT (by simp only [List.length_append]; omega)),
    ref02_Text_ok (by omega), bS, grd (dT (by simp only [List.length_append]; omega))]
  simp [encF]

theorem wr_l1_ok {ps : List (List Pf)} {i : Nat} (hi : i < ps.length) (hn : ps.length ≤ 100) (hq : qOk ps[i] = true) : ∀ (k' k : Nat) (b : List UInt8), k + k' = (ps[i]).length → b.length ≤ 20000000 + 7000 * k →
    ref18_WriteAnswer_l1 ((k : Int), b, (i : Int), ps) = some (ps, b ++ ((ps[i]).drop k).flatMap encF, (i : Int)) := by
  obtain ⟨q1, q2⟩ := qOk_of hq
  intro k'
  induction k' with
  | zero =>
    intro k b hk hb
    rw [ref18_WriteAnswer_l1_eq]
    dsimp only
    rw [grd (aT (dT (by omega)) (dT (by omega))), idx_nat hi, cF (dF (by omega)), List.drop_eq_nil_iff.2 (by omega)]
    simp
  | succ k' ih =>
    intro k b hk hb
    have hki : k < (ps[i]).length := by omega
    have hW : W64 ((k : Int) + 1) = ((k + 1 : Nat) : Int) := by rw [W64_in (by omega) (by omega)]; omega
    have hp := q2 _ (List.getElem_mem hki)
    have hl := encF_len hp
    rw [ref18_WriteAnswer_l1_eq]
    dsimp only
    rw [grd (aT (dT (by omega)) (dT (by omega))), idx_nat hi, cT (dT (by omega)), grd (aT (dT (by omega)) (dT (by omega))), grd (aT (dT (by omega)) (dT (by omega))), idx_nat hki, rproofW_ok hp, bS,
      grd (dT (by simp only [List.length_append]; omega)), hW, ih (k + 1) _ (by omega) (by simp only [List.length_append]; omega), List.drop_eq_getElem_cons hki]
    rw [List.flatMap_cons, List.append_assoc]

theorem flatF_len : ∀ (l : List Pf), (∀ p ∈ l, pfOk p = true) → (l.flatMap encF).length ≤ 7000 * l.length
  | [], _ => by simp
  | p :: l, h => by
    have h1 := encF_len (h p (by simp))
    have h2 := flatF_len l (fun x hx => h x (by simp [hx]))
    simp only [List.flatMap_cons, List.length_append, List.length_cons]
    omega

theorem encQ_len {l : List Pf} (h : qOk l = true) : (encQ l).length ≤ 120000 := by
  obtain ⟨q1, q2⟩ := qOk_of h
  have e1 := encN_9 (v := l.length) (by omega)
  have e2 := flatF_len l q2
  simp only [encQ, List.length_append]
  omega

theorem wr_l0_ok {ps : List (List Pf)} (hn : ps.length ≤ 100) (hq : ∀ q ∈ ps, qOk q = true) : ∀ (k i : Nat) (b : List UInt8), i + k = ps.length → b.length ≤ 10000 + 120000 * i →
    ref18_WriteAnswer_l0 ((i : Int), ps, b) = some (b ++ (ps.drop i).flatMap encQ) := by
  intro k
  induction k with
  | zero =>
    intro i b hk hb
    rw [ref18_WriteAnswer_l0_eq]
    dsimp only
    rw [cF (dF (by omega)), List.drop_eq_nil_iff.2 (by omega)]
    simp
  | succ k ih =>
    intro i b hk hb
    have hi : i < ps.length := by omega
    have hW : W64 ((i : Int) + 1) = ((i + 1 : Nat) : Int) := by rw [W64_in (by omega) (by omega)]; omega
    have hqi := hq _ (List.getElem_mem hi)
    have hl := encQ_len hqi
    obtain ⟨q1, q2⟩ := qOk_of hqi
    have e9 := encN_9 (v := (ps[i]).length) (by omega)
    have e3 : ref02_Num (((ps[i]).length : Nat) : Int) = some (encN (ps[i]).length) := by
      have := ref02_Num_ok' (x := (((ps[i]).length : Nat) : Int)) (by omega) (by omega)
      rw [Int.toNat_natCast] at this
      exact this
    have h1 := wr_l1_ok hi hn hqi (ps[i]).length 0 (b ++ encN (ps[i]).length) (by omega) (by simp only [List.length_append]; omega)
    rw [List.drop_zero] at h1
    have h1' : ref18_WriteAnswer_l1 (0, b ++ encN (ps[i]).length, (i : Int), ps) = some (ps, b ++ encN (ps[i]).length ++ (ps[i]).flatMap encF, (i : Int)) := h1
    have hb2 : (b ++ encN (ps[i]).length ++ (ps[i]).flatMap encF) = b ++ encQ ps[i] := by rw [encQ, List.append_assoc]
    rw [ref18_WriteAnswer_l0_eq]
    dsimp only
    rw [cT (dT (by omega)), grd (aT (dT (by omega)) (dT (by omega))), idx_nat hi, e3, bS, grd (dT (by simp only [List.length_append]; omega)), h1', bS, bS]
    dsimp only
    rw [hW, hb2, ih (i + 1) _ (by omega) (by simp only [List.length_append]; omega), List.drop_eq_getElem_cons hi, List.flatMap_cons, List.append_assoc]

theorem WriteRef_ok {z : Int} {g : List UInt8} {l : List Sg} {ps : List (List Pf)} (h : ansOk z g l ps = true) : ref18_WriteAnswer z g l ps = some (encA z g l ps) := by
  simp only [ansOk, Bool.and_eq_true, decide_eq_true_eq, List.all_eq_true] at h
  obtain ⟨g1, g2, g3⟩ := h
  have h64 := (headR_of g1).2.2.2.1
  have e1 := encH_len g1
  have e2 := encT_len (s := encH z g l) (by omega)
  refine ref18_WriteAnswer_of ?_
  unfold ref18_WriteAnswer_b
  have h1 := wr_l0_ok (by omega) g3 ps.length 0 (([1] ++ []) ++ encT (encH z g l)) (by omega) (by simp only [List.length_append, List.length_cons, List.length_nil]; omega)
  rw [List.drop_zero] at h1
  have h1' : ref18_WriteAnswer_l0 (0, ps, ([1] ++ []) ++ encT (encH z g l)) = some (([1] ++ []) ++ encT (encH z g l) ++ ps.flatMap encQ) := h1
  rw [ref18_head_ok g1, bS, grd (dT (by simp only [List.length_append, List.length_cons, List.length_nil]; omega)), h1', bS]
  simp [encA]

/-! ### Alike -/

theorem same11_loop (l : List (List UInt8)) (hm : l.length ≤ 9223372036854775807) : ∀ (k i : Nat), i + k = l.length → ref11_Same_l0 ((i : Int), l, l) = some true := by
  intro k
  induction k with
  | zero =>
    intro i hk
    rw [ref11_Same_l0_eq]
    dsimp only
    rw [cF (dF (by omega))]
  | succ k ih =>
    intro i hk
    have hi : i < l.length := by omega
    have hW : W64 ((i : Int) + 1) = ((i + 1 : Nat) : Int) := by rw [W64_in (by omega) (by omega)]; omega
    rw [ref11_Same_l0_eq]
    dsimp only
    rw [cT (dT (by omega)), grd (aT (dT (by omega)) (dT (by omega))), grd (aT (dT (by omega)) (dT (by omega))), idx_nat hi, cF (by simp), hW, ih (i + 1) (by omega)]

theorem same11_ok (p : Pf) (hm : p.2.2.2.2.1.length ≤ 9223372036854775807) : ref11_Same p.1 p.2.1 p.2.2.1 p.2.2.2.1 p.2.2.2.2.1 p.2.2.2.2.2 p.1 p.2.1 p.2.2.1 p.2.2.2.1 p.2.2.2.2.1 p.2.2.2.2.2 = some true := by
  refine ref11_Same_of ?_
  unfold ref11_Same_b
  have h := same11_loop p.2.2.2.2.1 hm p.2.2.2.2.1.length 0 (by omega)
  have h' : ref11_Same_l0 (0, p.2.2.2.2.1, p.2.2.2.2.1) = some true := h
  rw [cF (by simp), h']

theorem sameA_l1_ok {ps : List (List Pf)} (hw : WfP ps) (self1 : (Int × List (List Pf) × List (List Pf)) → Option Bool) {i : Nat} (hi : i < ps.length) : ∀ (k' k : Nat), k + k' = (ps[i]).length →
    ref18_SameAnswer_l1 self1 ((k : Int), (i : Int), ps, ps) = self1 (((i + 1 : Nat) : Int), ps, ps) := by
  have hn := hw.n
  have hq := hw.q _ (List.getElem_mem hi)
  have hWi : W64 ((i : Int) + 1) = ((i + 1 : Nat) : Int) := by rw [W64_in (by omega) (by omega)]; omega
  intro k'
  induction k' with
  | zero =>
    intro k hk
    rw [ref18_SameAnswer_l1_eq]
    dsimp only
    rw [grd (aT (dT (by omega)) (dT (by omega))), idx_nat hi, cF (dF (by omega)), hWi]
  | succ k' ih =>
    intro k hk
    have hki : k < (ps[i]).length := by omega
    have hW : W64 ((k : Int) + 1) = ((k + 1 : Nat) : Int) := by rw [W64_in (by omega) (by omega)]; omega
    have hp := hw.p _ (List.getElem_mem hi) _ (List.getElem_mem hki)
    rw [ref18_SameAnswer_l1_eq]
    dsimp only
    rw [grd (aT (dT (by omega)) (dT (by omega))), idx_nat hi, cT (dT (by omega)), grd (aT (dT (by omega)) (dT (by omega))), grd (aT (dT (by omega)) (dT (by omega))), grd (aT (dT (by omega)) (dT (by omega))), grd (aT (dT (by omega)) (dT (by omega))),
      idx_nat hki, same11_ok _ hp, bS, cF (by rfl), hW, ih (k + 1) (by omega)]

theorem sameA_l0_ok {ps : List (List Pf)} (hw : WfP ps) : ∀ (k i : Nat), i + k = ps.length → ref18_SameAnswer_l0 ((i : Int), ps, ps) = some true := by
  have hn := hw.n
  intro k
  induction k with
  | zero =>
    intro i hk
    rw [ref18_SameAnswer_l0_eq]
    dsimp only
    rw [cF (dF (by omega))]
  | succ k ih =>
    intro i hk
    have hi : i < ps.length := by omega
    have h1 := sameA_l1_ok hw ref18_SameAnswer_l0 hi (ps[i]).length 0 (by omega)
    have h1' : ref18_SameAnswer_l1 ref18_SameAnswer_l0 (0, (i : Int), ps, ps) = ref18_SameAnswer_l0 (((i + 1 : Nat) : Int), ps, ps) := h1
    rw [ref18_SameAnswer_l0_eq]
    dsimp only
    rw [cT (dT (by omega)), grd (aT (dT (by omega)) (dT (by omega))), grd (aT (dT (by omega)) (dT (by omega))), idx_nat hi, cF (by simp), h1', ih (i + 1) (by omega)]

theorem SameAnswer_ok {z : Int} {g : List UInt8} {l : List Sg} {ps : List (List Pf)} (hm : l.length ≤ 9223372036854775807) (hw : WfP ps) : ref18_SameAnswer z g l ps z g l ps = some true := by
  refine ref18_SameAnswer_of ?_
  unfold ref18_SameAnswer_b
  have h := sameA_l0_ok hw ps.length 0 (by omega)
  have h' : ref18_SameAnswer_l0 (0, ps, ps) = some true := h
  rw [ref15_Same_ok hm, bS, cF (by simp), h']

theorem L_ReplyAnswers (x0 : Int) (x1 : List UInt8) (x2 : List Sg) (x3 : List (List Pf)) (w0 : WF (.int .i64) x0) (w1 : WF .str x1) (w2 : WF (.lst (.pair (.int .i64) (.pair (.int .i64) (.pair (.int .i64) .str)))) x2) (w3 : WF (.lst (.lst (.pair (.int .i64) (.pair .str (.pair .str (.pair .str (.pair (.lst .str) (.lst (.int .u8))))))))) x3) :
    law18_ReplyAnswers x0 x1 x2 x3 = some true := by
  have m2 : x2.length ≤ 9223372036854775807 := by have : x2.length ≤ maxLen := w2.1; unfold maxLen at this; omega
  have hw : WfP x3 := by
    refine ⟨?_, fun q hq => ?_, fun q hq p hp => ?_⟩
    · have : x3.length ≤ maxLen := w3.1
      unfold maxLen at this; omega
    · have : q.length ≤ maxLen := (w3.2 q hq).1
      unfold maxLen at this; omega
    · have : p.2.2.2.2.1.length ≤ maxLen := ((w3.2 q hq).2 p hp).2.2.2.2.1.1
      unfold maxLen at this; omega
  obtain ⟨r, h0, g0⟩ := great18_ok (z := x0) (g := x1) m2 hw
  refine law18_ReplyAnswers_of ?_
  unfold law18_ReplyAnswers_b
  rw [h0, bS]
  cases r with
  | true => rw [cT rfl, knows18_ok, bS]
  | false =>
    obtain ⟨l1, l2, l3, l4⟩ := g0 rfl
    have hwr := WriteAnswer_ok x0 x1 x2 x3 l2 l3 l4
    have hAs := AsAnswer_ok (z := x0) (g := x1) (l := x2) (ps := x3) (by omega) (by omega) l3
    rw [cF rfl, hwr, bS, hAs, bS]
    dsimp only
    rw [FairAnswer_ok m2 hw, bS]
    cases hok : ansOk x0 x1 x2 x3 with
    | false =>
      rw [cT (by rfl), show outW false (encA x0 x1 x2 x3) = ([], 1) from rfl, knows18_ok]
      rfl
    | true =>
      rw [cF (by rfl), bS]
      dsimp only
      rw [WriteRef_ok hok, bS]
      by_cases hbig : (encA x0 x1 x2 x3).length > 1048576
      · rw [cT (dT (by omega)), outW, if_pos rfl, if_pos hbig, knows18_ok]
        rfl
      · rw [cF (dF (by omega)), outW, if_pos rfl, if_neg hbig]
        dsimp only
        rw [ReadAnswer_back hok (by omega), bS]
        dsimp only
        simp only [iteA, beq_self_eq_true, if_true, Bool.true_and, Bool.and_true, Bool.and_self, cond_true]
        rw [hAs, bS, bS]
        dsimp only
        rw [SameAnswer_ok m2 hw, bS]
        simp only [Bool.and_self, Bool.true_and, Bool.and_true, cond_true]
        rw [knows18_ok, bS]

end Rk
