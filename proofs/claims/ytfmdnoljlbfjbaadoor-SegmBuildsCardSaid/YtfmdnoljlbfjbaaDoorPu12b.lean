/- The plain part: what the functions answer. No condition. -/
import Derived.Test.YtfmdnoljlbfjbaaDoorPu12
set_option linter.unusedVariables false
set_option linter.unusedSimpArgs false
namespace Rk
open Go

theorem as_ok (a b : Int) (d : List Ent) : law12_As a b d = some (a, b, d) := law12_As_of rfl

theorem fair_l0 (docs : List (List UInt8)) (a b : Int) (hl : docs.length ≤ 1000000000000) : ∀ (k i : Nat), i + k = docs.length → ∃ f, ref10_Fair_l0 ((i : Int), docs, b, a) = some f ∧ (f = true ↔ (docs.length ≤ 1000 ∧ (∀ x ∈ docs.drop i, x.length ≤ 2000) ∧ 0 ≤ a ∧ a ≤ b ∧ b ≤ (docs.length : Int))) := by
  intro k
  induction k with
  | zero =>
    intro i hi
    refine ⟨_, (by rw [ref10_Fair_l0_eq, ref10_Fair_l0_F]; dsimp only; rw [cF (dF (by omega))]), ?_⟩
    rw [List.drop_eq_nil_of_le (by omega)]
    simp
    omega
  | succ k ih =>
    intro i hi
    rw [ref10_Fair_l0_eq, ref10_Fair_l0_F]
    dsimp only
    rw [cT (dT (by omega)), grd (aT (dT (by omega)) (dT (by omega))), idx_nat (l := docs) (i := i) (by omega), List.drop_eq_getElem_cons (l := docs) (i := i) (by omega)]
    obtain ⟨f, h1, h2⟩ := ih (i + 1) (by omega)
    generalize docs[i]'(by omega) = e
    by_cases h : e.length > 2000
    · rw [cT (dT (by omega))]
      refine ⟨false, rfl, ?_⟩
      constructor
      · intro q; cases q
      · intro q
        have := q.2.1 e (List.mem_cons_self ..)
        omega
    · rw [cF (dF (by omega)), W64_in (by omega) (by omega), show (i : Int) + 1 = ((i + 1 : Nat) : Int) by omega]
      refine ⟨f, h1, h2.trans ?_⟩
      constructor
      · intro q
        refine ⟨q.1, fun x hx => ?_, q.2.2⟩
        rcases List.mem_cons.1 hx with rfl | hx
        · omega
        · exact q.2.1 x hx
      · intro q
        exact ⟨q.1, fun x hx => q.2.1 x (List.mem_cons_of_mem _ hx), q.2.2⟩
theorem ref10_Fair_ok {docs : List (List UInt8)} {a b : Int} (hl : docs.length ≤ 1000000000000) : ∃ f, ref10_Fair docs a b = some f ∧ (f = true ↔ fairM docs a b) := by
  obtain ⟨f, h1, h2⟩ := fair_l0 docs a b hl docs.length 0 (by omega)
  rw [List.drop_zero] at h2
  exact ⟨f, ref10_Fair_of h1, h2⟩
theorem ref12_Fair_ok {docs : List (List UInt8)} {a b : Int} (hl : docs.length ≤ 1000000000000) : ∃ f, ref12_Fair docs a b = some f ∧ (f = true ↔ (fairM docs a b ∧ a < b)) := by
  obtain ⟨f, h1, h2⟩ := ref10_Fair_ok (a := a) (b := b) hl
  refine ⟨_, ref12_Fair_of (bindE h1), ?_⟩
  rw [andI, Bool.and_eq_true, decide_eq_true_iff, h2]

theorem dsame_l0 (d : List Ent) (hl : d.length ≤ 1000000000) (ho : okE d) : ∀ (k i : Nat), i + k = d.length → ref10_Same_l0 ((i : Int), d, d) = some true := by
  intro k
  induction k with
  | zero =>
    intro i hi
    rw [ref10_Same_l0_eq, ref10_Same_l0_F]
    dsimp only
    rw [cF (dF (by omega))]
  | succ k ih =>
    intro i hi
    rw [ref10_Same_l0_eq, ref10_Same_l0_F]
    dsimp only
    have hlt : i < d.length := by omega
    have hg : (decide ((0 : Int) ≤ (i : Int)) && decide ((i : Int) < (d.length : Int))) = true := aT (dT (by omega)) (dT (by omega))
    have hb := ho _ (List.getElem_mem hlt)
    rw [cT (dT (by omega)), hg]
    simp only [Bool.or_true, Bool.and_true, cond_true]
    rw [idx_nat hlt]
    generalize d[i] = e at *
    have hs := ref09_Same_ok (a := e.2) (b := e.2) (by omega)
    rw [dT rfl] at hs
    have hc : (e.1 == e.1) = true := by simp
    rw [hc]
    refine (bindE ((cT rfl).trans hs)).trans ((cF rfl).trans ?_)
    rw [W64_in (by omega) (by omega), show (i : Int) + 1 = ((i + 1 : Nat) : Int) by omega]
    exact ih (i + 1) (by omega)
theorem ref10_Same_self {d : List Ent} (hl : d.length ≤ 1000000000) (ho : okE d) : ref10_Same d d = some true := by
  refine ref10_Same_of ?_
  unfold ref10_Same_b
  exact (cF (by simp)).trans (dsame_l0 d hl ho d.length 0 (by omega))
theorem ref12_Same_self {a b : Int} {d : List Ent} (hl : d.length ≤ 1000000000) (ho : okE d) : ref12_Same a b d a b d = some true := by
  refine ref12_Same_of ?_
  unfold ref12_Same_b
  have hc : ((a == a) && (b == b)) = true := by simp
  rw [hc]
  exact (bindE ((cT rfl).trans (ref10_Same_self hl ho))).trans rfl

theorem rmake_l0 (docs : List (List UInt8)) (hb : ∀ x ∈ docs, x.length ≤ 2000) (lo hi : Nat) (hl : docs.length ≤ 1000) (hhi : hi ≤ docs.length) : ∀ (k i : Nat) (all : List (List UInt8)), i + k = hi → lo ≤ i → all.length ≤ 2001 * (i - lo) → (∀ s, s ∈ all ↔ ∃ j, lo ≤ j ∧ j < i ∧ s ∈ termsS (docs.getD j [])) →
    ∃ r, ref10_Make_l0 ((i : Int), all, docs, (hi : Int), (lo : Int)) = some (docs, (hi : Int), (lo : Int), r) ∧ r.length ≤ 2001 * (hi - lo) ∧ (∀ s, s ∈ r ↔ ∃ j, lo ≤ j ∧ j < hi ∧ s ∈ termsS (docs.getD j [])) := by
  intro k
  induction k with
  | zero =>
    intro i all hi' hlo hal hm
    obtain rfl : i = hi := by omega
    refine ⟨all, ?_, hal, hm⟩
    rw [ref10_Make_l0_eq, ref10_Make_l0_F]
    dsimp only
    rw [cF (dF (by omega))]
  | succ k ih =>
    intro i all hi' hlo hal hm
    rw [ref10_Make_l0_eq, ref10_Make_l0_F]
    dsimp only
    have hlt : i < docs.length := by omega
    have hbl := hb _ (List.getElem_mem hlt)
    obtain ⟨T, t1, _, t3, t4⟩ := ref_Set_ex (b := docs[i]) (by omega)
    have hg : docs.getD i [] = docs[i] := by rw [List.getD_eq_getElem?_getD, List.getElem?_eq_getElem hlt]; rfl
    rw [cT (dT (by omega)), grd (aT (dT (by omega)) (dT (by omega))), idx_nat hlt, t1, bS, grd (dT (by rw [List.length_append]; omega)), W64_in (by omega) (by omega), show (i : Int) + 1 = ((i + 1 : Nat) : Int) by omega]
    refine ih (i + 1) _ (by omega) (by omega) (by rw [List.length_append]; omega) (fun s => ?_)
    rw [List.mem_append, hm s, t3 s]
    constructor
    · rintro (⟨j, j1, j2, j3⟩ | h)
      · exact ⟨j, j1, by omega, j3⟩
      · exact ⟨i, hlo, by omega, by rw [hg]; exact h⟩
    · rintro ⟨j, j1, j2, j3⟩
      rcases Nat.lt_or_eq_of_le (Nat.le_of_lt_succ j2) with h | h
      · exact Or.inl ⟨j, j1, h, j3⟩
      · subst h; rw [hg] at j3; exact Or.inr j3

theorem rmake_l2 (docs : List (List UInt8)) (hb : ∀ x ∈ docs, x.length ≤ 2000) (lo hi : Nat) (hl : docs.length ≤ 1000) (hhi : hi ≤ docs.length) (all : List (List UInt8)) (i : Nat) (hi0 : i < all.length) (out : List Ent) (z : List UInt8) : ∀ (k m : Nat), lo + m + k = hi →
    ref10_Make_l2 (((lo + m : Nat) : Int), occ docs lo (all[i]) m, all, (i : Int), docs, (hi : Int), (lo : Int), out, z) = some (all, docs, (hi : Int), (lo : Int), (i : Int), occ docs lo (all[i]) (m + k), out, z) := by
  intro k
  induction k with
  | zero =>
    intro m hm
    rw [ref10_Make_l2_eq, ref10_Make_l2_F]
    dsimp only
    rw [cF (dF (by omega))]
    rfl
  | succ k ih =>
    intro m hm
    rw [ref10_Make_l2_eq, ref10_Make_l2_F]
    dsimp only
    have hlt : lo + m < docs.length := by omega
    have hbl := hb _ (List.getElem_mem hlt)
    have hg : docs.getD (lo + m) [] = docs[lo + m] := by rw [List.getD_eq_getElem?_getD, List.getElem?_eq_getElem hlt]; rfl
    have hol := occ_len docs lo all[i] m
    have eo : occ docs lo all[i] (m + 1) = occ docs lo all[i] m ++ if all[i] ∈ termsS docs[lo + m] then [((lo + m : Nat) : Int)] else [] := by rw [← hg]; rfl
    have ih' := ih (m + 1) (by omega)
    rw [show m + 1 + k = m + (k + 1) by omega, eo] at ih'
    rw [cT (dT (by omega)), grd (aT (dT (by omega)) (dT (by omega))), grd (aT (dT (by omega)) (dT (by omega))), idx_nat hlt, idx_nat hi0, ref10_Has_ok (by omega), bS]
    by_cases h : all[i] ∈ termsS docs[lo + m]
    · rw [if_pos h] at ih'
      rw [cT (dT h), grd (dT (by simp; omega)), bS]
      dsimp only
      rw [W64_in (by omega) (by omega), show ((lo + m : Nat) : Int) + 1 = ((lo + (m + 1) : Nat) : Int) by omega, List.append_nil]
      exact ih'
    · rw [if_neg h, List.append_nil] at ih'
      rw [cF (dF h), bS]
      dsimp only
      rw [W64_in (by omega) (by omega), show ((lo + m : Nat) : Int) + 1 = ((lo + (m + 1) : Nat) : Int) by omega]
      exact ih'

theorem rmake_l1 (docs : List (List UInt8)) (hb : ∀ x ∈ docs, x.length ≤ 2000) (lo hi : Nat) (hl : docs.length ≤ 1000) (hhi : hi ≤ docs.length) (hlo : lo ≤ hi) (all : List (List UInt8)) (ha : all.length ≤ 1000000000) : ∀ (k i : Nat) (out : List Ent), i + k = all.length → out.length ≤ i →
    ref10_Make_l1 (all, (i : Int), docs, out, (hi : Int), (lo : Int)) = some (out ++ (all.drop i).map fun s => (s, occ docs lo s (hi - lo))) := by
  intro k
  induction k with
  | zero =>
    intro i out hi' ho
    rw [ref10_Make_l1_eq, ref10_Make_l1_F]
    dsimp only
    rw [cF (dF (by omega)), List.drop_eq_nil_of_le (by omega)]
    simp
  | succ k ih =>
    intro i out hi' ho
    rw [ref10_Make_l1_eq, ref10_Make_l1_F]
    dsimp only
    have hlt : i < all.length := by omega
    have e := rmake_l2 docs hb lo hi hl hhi all i hlt out all[i] (hi - lo) 0 (by omega)
    rw [Nat.add_zero, Nat.zero_add] at e
    have e' : ref10_Make_l2 ((lo : Int), [], all, (i : Int), docs, (hi : Int), (lo : Int), out, all[i]) = some (all, docs, (hi : Int), (lo : Int), (i : Int), occ docs lo (all[i]) (hi - lo), out, all[i]) := e
    rw [cT (dT (by omega)), grd (aT (dT (by omega)) (dT (by omega))), idx_nat hlt, e', bS]
    dsimp only
    rw [grd (dT (by simp; omega)), bS, bS]
    dsimp only
    rw [W64_in (by omega) (by omega), show (i : Int) + 1 = ((i + 1 : Nat) : Int) by omega, ih (i + 1) _ (by omega) (by simp; omega), List.drop_eq_getElem_cons (l := all) (i := i) hlt, List.append_nil, List.map_cons, List.append_assoc]
    rfl

theorem ref10_Make_ok {docs : List (List UInt8)} {a b : Int} (h : fairM docs a b) : ∃ D, ref10_Make docs a b = some D ∧ IsMade docs a.toNat (b.toNat - a.toNat) D := by
  obtain ⟨h1, h2, h3, h4, h5⟩ := h
  obtain ⟨lo, rfl⟩ := Int.eq_ofNat_of_zero_le h3
  obtain ⟨hi, rfl⟩ := Int.eq_ofNat_of_zero_le (show 0 ≤ b by omega)
  simp only [Int.toNat_natCast]
  obtain ⟨r, e1, e2, e3⟩ := rmake_l0 docs h2 lo hi h1 (by omega) (hi - lo) lo [] (by omega) (Nat.le_refl _) (by simp) (fun s => by
    constructor
    · intro q; cases q
    · rintro ⟨j, j1, j2, _⟩; omega)
  obtain ⟨S, s1, s2, s3, s4⟩ := ref_Sorted_ex (L := r) (by omega)
  have e4 := rmake_l1 docs h2 lo hi h1 (by omega) (by omega) S (by omega) S.length 0 [] (by omega) (by simp)
  rw [List.drop_zero, List.nil_append] at e4
  refine ⟨S.map fun s => (s, occ docs lo s (hi - lo)), ref10_Make_of ?_, ?_, ?_, ?_⟩
  · unfold ref10_Make_b
    exact (bindE e1).trans ((bindE s1).trans (bindE e4))
  · rw [List.map_map, show (Prod.fst ∘ fun s => (s, occ docs lo s (hi - lo))) = id from rfl, List.map_id]
    exact s2
  · intro s
    rw [List.map_map, show (Prod.fst ∘ fun s => (s, occ docs lo s (hi - lo))) = id from rfl, List.map_id, s3 s, e3 s]
    constructor
    · rintro ⟨j, j1, j2, j3⟩ q
      have : (j : Int) ∈ occ docs lo s (hi - lo) := (occ_mem docs lo s _ _).2 ⟨j - lo, by omega, by omega, by rw [show lo + (j - lo) = j by omega]; exact j3⟩
      rw [q] at this
      cases this
    · intro q
      obtain ⟨x, hx⟩ := List.exists_mem_of_ne_nil _ q
      obtain ⟨j, j1, j2, j3⟩ := (occ_mem docs lo s x _).1 hx
      exact ⟨lo + j, by omega, by omega, j3⟩
  · intro e he
    obtain ⟨s, hs, rfl⟩ := List.mem_map.1 he
    rfl

theorem L_SegmBuilds (x0 : List (List UInt8)) (x1 x2 : Int) (w0 : WF (.lst (.lst (.int .u8))) x0) (w1 : WF (.int .i64) x1) (w2 : WF (.int .i64) x2) : law12_SegmBuilds x0 x1 x2 = some true := by
  obtain ⟨g, h1, h2⟩ := law10_GreatDocs_ok (d := x0) w0.1
  refine law12_SegmBuilds_of ?_
  unfold law12_SegmBuilds_b
  refine (bindE h1).trans ?_
  cases g with
  | true => exact (cT rfl).trans (bindE law12_knows_ok)
  | false =>
    obtain ⟨l1, l2⟩ := h2 rfl
    obtain ⟨f, f1, f2⟩ := ref12_Fair_ok (docs := x0) (a := x1) (b := x2) (by omega)
    refine (cF rfl).trans ?_
    cases f with
    | true =>
      obtain ⟨hf, hab⟩ := f2.1 rfl
      obtain ⟨D, d1, _, d2, d3, d4, d5, _⟩ := segm_Build_ok hf hab
      obtain ⟨E, e1, e2⟩ := ref10_Make_ok hf
      obtain rfl := e2.uniq d2
      have hB : ref12_Build x0 x1 x2 = some (x1, x2, E) := ref12_Build_of (bindE e1)
      refine (bindE d1).trans ((bindE f1).trans ((cF rfl).trans ((bindE (as_ok x1 x2 E)).trans ((bindE hB).trans ((bindE (ref12_Same_self (by omega) d4)).trans ((bindE ((cT rfl).trans law12_knows_ok)).trans rfl))))))
    | false =>
      have hb := segm_Build_bad (docs := x0) (a := x1) (b := x2) (fun q => by have := f2.2 q; cases this) (by omega)
      refine (bindE hb).trans ((bindE f1).trans ((cT rfl).trans ((bindE (as_ok 0 0 [])).trans ((bindE (ref12_Same_self (d := []) (by simp) (fun e he => by cases he))).trans ((bindE ((cT rfl).trans law12_knows_ok)).trans rfl)))))
end Rk
