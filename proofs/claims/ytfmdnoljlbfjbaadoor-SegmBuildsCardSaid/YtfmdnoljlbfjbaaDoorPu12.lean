/- The plain part: what the functions answer. No condition. -/
import Derived.Test.YtfmdnoljlbfjbaaDoorPu06b
set_option linter.unusedVariables false
set_option linter.unusedSimpArgs false
namespace Rk
open Go

def inR (a b x : Int) : Bool := decide (a ≤ x ∧ x < b)
def spanB (a b : Int) : Bool := decide (0 ≤ a ∧ a < b ∧ b ≤ 1000)
theorem segm_spans_ok (a b : Int) : segm_spans a b = some (spanB a b) := by
  refine segm_spans_of ?_
  unfold segm_spans_b spanB
  congr 1
  rw [Bool.eq_iff_iff]
  simp
  omega
theorem post_in_l0 (l : List Int) (a b : Int) (hl : l.length ≤ 1000000000) : ∀ (k i : Nat) (out : List Int), i + k = l.length → out.length ≤ i → post_In_l0 ((i : Int), out, b, a, l, (l.length : Int)) = some (out ++ (l.drop i).filter (inR a b)) := by
  intro k
  induction k with
  | zero =>
    intro i out hi ho
    rw [post_In_l0_eq, post_In_l0_F]
    dsimp only
    rw [cF (dF (by omega)), List.drop_eq_nil_of_le (by omega)]
    simp
  | succ k ih =>
    intro i out hi ho
    rw [post_In_l0_eq, post_In_l0_F]
    dsimp only
    rw [cT (dT (by omega)), grd (aT (dT (by omega)) (dT (by omega))), idx_nat (l := l) (i := i) (by omega), List.drop_eq_getElem_cons (l := l) (i := i) (by omega), List.filter_cons]
    generalize l[i]'(by omega) = x
    have hc : (if decide (x ≥ a) = true then decide (x < b) else false) = inR a b x := by
      unfold inR
      rw [andI, Bool.eq_iff_iff]
      simp
    rw [hc]
    cases h : inR a b x with
    | true =>
      rw [cT rfl, grd (dT (by simp; omega)), bS, if_pos rfl]
      dsimp only
      rw [W64_in (by omega) (by omega), show (i : Int) + 1 = ((i + 1 : Nat) : Int) by omega, ih (i + 1) _ (by omega) (by simp; omega), List.append_nil, List.append_assoc]
      rfl
    | false =>
      rw [cond_false, bS, if_neg (by decide)]
      dsimp only
      rw [W64_in (by omega) (by omega), show (i : Int) + 1 = ((i + 1 : Nat) : Int) by omega, ih (i + 1) _ (by omega) (by omega)]
theorem post_In_ok {l : List Int} (a b : Int) (hl : l.length ≤ 1000000000) (h : postR l = true) : post_In l a b = some (l.filter (inR a b)) := by
  refine post_In_of ?_
  unfold post_In_b
  have hg : post_good l = some l := by
    refine post_good_of ?_
    unfold post_good_b
    rw [post_Right_ok (by omega), bS, h]
    rfl
  have := post_in_l0 l a b hl l.length 0 [] (by omega) (by simp)
  rw [List.drop_zero] at this
  exact bindE ((bindE hg).trans this)

def entIn (a b : Int) (e : Ent) : Bool := e.2.all (inR a b)
theorem segm_right_l0 (d : List Ent) (a b : Int) (hl : d.length ≤ 1000000000) (ho : okE d) (hp : ∀ e ∈ d, postR e.2 = true) : ∀ (k i : Nat), i + k = d.length → segm_Right_l0 ((i : Int), a, b, d, (d.length : Int)) = some ((d.drop i).all (entIn a b)) := by
  intro k
  induction k with
  | zero =>
    intro i hi
    rw [segm_Right_l0_eq, segm_Right_l0_F]
    dsimp only
    rw [cF (dF (by omega)), List.drop_eq_nil_of_le (by omega)]
    rfl
  | succ k ih =>
    intro i hi
    rw [segm_Right_l0_eq, segm_Right_l0_F]
    dsimp only
    have hb := ho _ (List.getElem_mem (l := d) (n := i) (by omega))
    have hpe := hp _ (List.getElem_mem (l := d) (n := i) (by omega))
    rw [cT (dT (by omega)), grd (aT (dT (by omega)) (dT (by omega))), idx_nat (l := d) (i := i) (by omega), List.drop_eq_getElem_cons (l := d) (i := i) (by omega), List.all_cons]
    generalize d[i]'(by omega) = e at *
    refine (bindE (post_In_ok a b hb.2 hpe)).trans ?_
    by_cases h : entIn a b e = true
    · have hf : e.2.filter (inR a b) = e.2 := List.filter_eq_self.2 (fun x hx => (List.all_eq_true.1 h) x hx)
      rw [hf, h, cF (by simp), W64_in (by omega) (by omega), show (i : Int) + 1 = ((i + 1 : Nat) : Int) by omega, ih (i + 1) (by omega)]
      rfl
    · have hf : (e.2.filter (inR a b)).length ≠ e.2.length := fun q => h (List.all_eq_true.2 (fun x hx => (List.length_filter_eq_length_iff.1 q) x hx))
      rw [Bool.not_eq_true] at h
      rw [h, cT (by rw [bne_iff_ne]; omega)]
      rfl
noncomputable def segR (a b : Int) (d : List Ent) : Bool := (spanB a b && dictG d) && d.all (entIn a b)
theorem segm_Right_ok {d : List Ent} (a b : Int) (hl : d.length ≤ 1000000000) (ho : okE d) : segm_Right a b d = some (segR a b d) := by
  refine segm_Right_of ?_
  unfold segm_Right_b segR
  refine (bindE (segm_spans_ok a b)).trans ?_
  cases hs : spanB a b with
  | false => rfl
  | true =>
    refine (bindE ((cT rfl).trans (dict_Right_ok (by omega) ho))).trans ?_
    cases hg : dictG d with
    | false => rfl
    | true =>
      have := segm_right_l0 d a b hl ho (fun e he => (dictG_ent hg he).2.2) d.length 0 (by omega)
      rw [List.drop_zero] at this
      exact (cF rfl).trans this
theorem segm_Of_ok {d : List Ent} (a b : Int) (hl : d.length ≤ 10000000) (ho : okE d) : segm_Of a b d = some (if segR a b d = true then (a, b, (d.length : Int) + 1, droot d, 0) else (0, 0, 0, [], 1)) := by
  refine segm_Of_of ?_
  unfold segm_Of_b
  refine (bindE (segm_Right_ok a b (by omega) ho)).trans ?_
  cases h : segR a b d with
  | false => exact cT rfl
  | true =>
    have hg : dictG d = true := by
      unfold segR at h
      rw [Bool.and_eq_true, Bool.and_eq_true] at h
      exact h.1.2
    have hr := (dict_Root_ok (d := d) (by omega) ho).1
    rw [hg, if_pos rfl] at hr
    refine (cF rfl).trans ((bindE hr).trans ?_)
    rw [W64_in (by omega) (by omega)]
    rfl

theorem made_in {docs : List (List UInt8)} {lo n : Nat} {D : List Ent} (h : IsMade docs lo n D) : D.all (entIn (lo : Int) ((lo + n : Nat) : Int)) = true := by
  rw [List.all_eq_true]
  intro e he
  unfold entIn
  rw [List.all_eq_true]
  intro x hx
  rw [h.val e he] at hx
  obtain ⟨j, h1, h2, _⟩ := (occ_mem docs lo e.1 x n).1 hx
  unfold inR
  exact dT (by omega)

theorem segm_Build_ok {docs : List (List UInt8)} {a b : Int} (h : fairM docs a b) (hab : a < b) : ∃ D, segm_Build docs a b = some (a, b, 0, D) ∧ dict_Make docs a b = some (0, D) ∧ IsMade docs a.toNat (b.toNat - a.toNat) D ∧ dictG D = true ∧ okE D ∧ D.length ≤ 2001000 ∧ segR a b D = true := by
  obtain ⟨D, h1, h2, h3, h4, h5⟩ := make_ok h
  refine ⟨D, segm_Build_of ?_, h1, h2, h3, h4, h5, ?_⟩
  · unfold segm_Build_b
    refine (bindE h1).trans ((cF rfl).trans (cF ?_))
    simp
    omega
  · unfold segR
    obtain ⟨f1, f2, f3, f4, f5⟩ := h
    have := made_in h2
    rw [show ((a.toNat : Nat) : Int) = a by omega, show ((a.toNat + (b.toNat - a.toNat) : Nat) : Int) = b by omega] at this
    rw [h3, this, show spanB a b = true from dT (by omega)]
    rfl
theorem segm_Build_bad {docs : List (List UInt8)} {a b : Int} (h : ¬ (fairM docs a b ∧ a < b)) (hl : docs.length ≤ 1000000000000) : segm_Build docs a b = some (0, 0, 1, []) := by
  refine segm_Build_of ?_
  unfold segm_Build_b
  by_cases hf : fairM docs a b
  · obtain ⟨D, h1, _⟩ := make_ok hf
    have he : a = b := by
      have := hf.2.2.2.1
      have : ¬ a < b := fun q => h ⟨hf, q⟩
      omega
    exact (bindE h1).trans ((cF rfl).trans (cT (by simp [he])))
  · exact (bindE (make_bad hf hl)).trans (cT rfl)

/-! The document's examples. -/
theorem occ_12 (s : List UInt8) : occ [hayB, whB] 1 s 1 = if s = wainB ∨ s = hayB then [1] else [] := by
  have e1 : ([hayB, whB] : List (List UInt8)).getD (1 + 0) [] = whB := rfl
  unfold occ occ
  rw [e1, terms_wh]
  simp
abbrev D12 : List Ent := [(hayB, [1]), (wainB, [1])]
theorem made_12 : IsMade [hayB, whB] 1 1 D12 where
  asc := by
    unfold Asc
    simp [bl, Op.bytesLess]
  mem := by
    intro s
    rw [occ_12 s]
    by_cases h : s = wainB ∨ s = hayB
    · rw [if_pos h]
      rcases h with h | h <;> simp [h]
    · rw [if_neg h]
      have h1 : s ≠ wainB := fun q => h (Or.inl q)
      have h2 : s ≠ hayB := fun q => h (Or.inr q)
      simp [h1, h2]
  val := by
    intro e he
    rw [occ_12]
    rcases List.mem_cons.1 he with rfl | he
    · rfl
    · rw [List.mem_singleton.1 he]; rfl

theorem law12_knows_ok : law12_knows = some true := by
  refine law12_knows_of ?_
  unfold law12_knows_b
  obtain ⟨D, h1, _, h2, h3, h4, h5, h6⟩ := segm_Build_ok (docs := [hayB, whB]) (a := 1) (b := 2) ⟨by decide, by decide, by decide, by decide, by decide⟩ (by decide)
  obtain rfl : D = D12 := h2.uniq made_12
  have ho := segm_Of_ok (d := D12) 1 2 (by decide) h4
  rw [h6, if_pos rfl] at ho
  have hd := dict_Docs_ok (d := D12) hayB (by decide) h4
  rw [h3, if_pos rfl, show docsD D12 hayB = [1] from rfl] at hd
  have s2 := ref09_Same_ok (a := [1]) (b := [1]) (by decide)
  rw [dT rfl] at s2
  have h32 := (dict_Root_ok (d := D12) (by decide) h4).2 h3
  have hgood : goodS (1, 2, (D12.length : Int) + 1, droot D12) = true := dT ⟨by decide, by decide, by decide, by decide, by decide, h32⟩
  have hG := segm_Good_ok (1, 2, (D12.length : Int) + 1, droot D12)
  rw [hgood] at hG
  have hR := segm_Row_ok [(1, 2, (D12.length : Int) + 1, droot D12)] 2
  have hrow : rowL [(1, 2, (D12.length : Int) + 1, droot D12)] 2 = false := by
    unfold rowL rowS
    rw [hgood]
    rfl
  rw [hrow] at hR
  have hR0 := segm_Row_ok [] 0
  rw [show rowL [] 0 = true from rfl] at hR0
  refine (grd rfl).trans ((grd rfl).trans ((bindE h1).trans ((bindE ho).trans ?_)))
  refine (bindE ((cT rfl).trans hd)).trans ((bindE ((cT rfl).trans s2)).trans ((bindE ((cT rfl).trans hG)).trans ((bindE ((cT rfl).trans hR)).trans ((bindE ((cT rfl).trans hR0)).trans rfl))))
end Rk
