/- The plain part: what the functions answer. No condition. -/
import Derived.Test.YtfmdnoljlbfjbaaDoorPu06
set_option linter.unusedVariables false
set_option linter.unusedSimpArgs false
namespace Rk
open Go

theorem root_l0 (l : Dgs) (ha : all32 l) (hl : l.length ≤ 100000000) : ∀ (k i : Nat), i + k = l.length → tree_root_l0 ((i : Int), stkT 0 i (l.take i), l, (l.length : Int)) = some (stkT 0 l.length l) := by
  intro k
  induction k with
  | zero =>
    intro i hi
    rw [tree_root_l0_eq, tree_root_l0_F]
    dsimp only
    rw [cF (dF (by omega)), show i = l.length by omega, List.take_length]
  | succ k ih =>
    intro i hi
    rw [tree_root_l0_eq, tree_root_l0_F]
    dsimp only
    have hlt : i < l.length := by omega
    have hsl := stkT_len i 0 i (l.take i) (Nat.le_refl _) (fun x hx => ha x (List.mem_of_mem_take hx)) (by rw [List.length_take]; omega)
    have e := root_l1 l (l.length : Int) (i : Int) (i + 1) 0 (i + 1) (l.take (i + 1)) (Nat.le_refl _) (by omega) (by omega) (fun x hx => ha x (List.mem_of_mem_take hx)) (by rw [List.length_take]; omega)
    rw [Nat.add_sub_cancel, Nat.pow_zero, Nat.mul_one, List.take_take, Nat.min_eq_left (by omega)] at e
    have ep : perfT 0 ((l.take (i + 1)).drop i) = l[i] := by
      rw [List.take_succ_eq_append_getElem hlt, List.drop_append_of_le_length (by rw [List.length_take]; omega), show (l.take i).drop i = [] from List.drop_eq_nil_of_le (by rw [List.length_take]; omega)]
      rfl
    rw [ep] at e
    rw [cT (dT (by omega)), grd (aT (dT (by omega)) (dT (by omega))), idx_nat hlt, List.append_nil, grd (dT (by simp; omega)), W64_in (x := (i : Int) + 1) (by omega) (by omega), show (i : Int) + 1 = ((i + 1 : Nat) : Int) by omega, e, bS, bS]
    dsimp only
    rw [W64_in (by omega) (by omega), show (i : Int) + 1 = ((i + 1 : Nat) : Int) by omega]
    exact ih (i + 1) (by omega)

noncomputable def foldS : Dgs → List UInt8
  | [] => []
  | [x] => x
  | x :: y :: t => nodeT x (foldS (y :: t))
theorem foldS_snoc (a b : List UInt8) : ∀ T : Dgs, foldS (T ++ [a, b]) = foldS (T ++ [nodeT a b])
  | [] => rfl
  | [x] => rfl
  | x :: y :: t => by
    have := foldS_snoc a b (y :: t)
    rw [List.cons_append, List.cons_append, List.cons_append, List.cons_append]
    rw [List.cons_append, List.cons_append] at this
    show nodeT x (foldS (y :: (t ++ [a, b]))) = nodeT x (foldS (y :: (t ++ [nodeT a b])))
    rw [this]

theorem root_l2_step {S : Dgs} {a b : List UInt8} (hS : S.length ≤ 1000000000) (ha : a.length = 32) (hb : b.length = 32) : tree_root_l2 (S ++ [a, b]) = tree_root_l2 (S ++ [nodeT a b]) := by
  rw [tree_root_l2_eq, tree_root_l2_F]
  obtain ⟨f1, f2⟩ := pair_facts (a := a) (b := b) hS _ rfl
  rw [f1, f2]
  have hl : ((S ++ [a, b]).length : Int) = (S.length : Int) + 2 := by simp
  rw [hl, cT (dT (by omega))]
  rw [grd (aT (dT (by omega)) (aT (dT (by omega)) (dT (by omega)))), grd (aT (dT (by omega)) (dT (by omega))), grd (aT (dT (by omega)) (dT (by omega))), idx_a, idx_b]
  refine (bindE (tree_node_ok ha hb)).trans ?_
  have hs : sub (S ++ [a, b]) 0 (S.length : Int) = S := by rw [sub_zero]; simp
  rw [hs]
  exact grd (dT (by simp; omega))
theorem root_l2 : ∀ (n : Nat) (S : Dgs), S.length = n + 1 → n ≤ 1000000000 → all32 S → tree_root_l2 S = some [foldS S]
  | 0, S, h, _, _ => by
    obtain ⟨x, rfl⟩ := List.length_eq_one_iff.1 h
    rw [tree_root_l2_eq, tree_root_l2_F]
    rfl
  | n + 1, S, h, hn, ha => by
    have hsp : S = S.take n ++ [S[n]'(by omega), S[n+1]'(by omega)] := by
      conv => lhs; rw [← List.take_append_drop n S, List.drop_eq_getElem_cons (l := S) (i := n) (by omega), List.drop_eq_getElem_cons (l := S) (i := n + 1) (by omega), List.drop_eq_nil_of_le (by omega)]
    have h1 := ha _ (List.getElem_mem (l := S) (n := n) (by omega))
    have h2 := ha _ (List.getElem_mem (l := S) (n := n + 1) (by omega))
    rw [hsp, root_l2_step (by rw [List.length_take]; omega) h1 h2, root_l2 n _ (by simp; omega) (by omega) (fun x hx => by
      rcases List.mem_append.1 hx with hx | hx
      · exact ha x (List.mem_of_mem_take hx)
      · rw [List.mem_singleton.1 hx]; exact nodeT_len h1 h2), foldS_snoc]

theorem tree_all_ok (l : Dgs) (hl : l.length ≤ 1000000000) : ∀ (k i : Nat), i + k = l.length → (∀ x ∈ l.drop i, x.length = 32) → tree_all_l0 ((i : Int), l, (l.length : Int)) = some true := by
  intro k
  induction k with
  | zero =>
    intro i hi _
    rw [tree_all_l0_eq, tree_all_l0_F]
    dsimp only
    rw [cF (dF (by omega))]
  | succ k ih =>
    intro i hi h
    rw [List.drop_eq_getElem_cons (l := l) (i := i) (by omega)] at h
    have hx := h _ (List.mem_cons_self ..)
    rw [tree_all_l0_eq, tree_all_l0_F]
    dsimp only
    rw [cT (dT (by omega)), grd (aT (dT (by omega)) (dT (by omega))), idx_nat (l := l) (i := i) (by omega), cF (by simp [hx]), W64_in (by omega) (by omega), show (i : Int) + 1 = ((i + 1 : Nat) : Int) by omega]
    exact ih (i + 1) (by omega) (fun x hx => h x (List.mem_cons_of_mem _ hx))

noncomputable def rootS (l : Dgs) : List UInt8 := if l.length = 0 then shaOf [] else foldS (stkT 0 l.length l)

theorem foldS_len : ∀ S : Dgs, S ≠ [] → all32 S → (foldS S).length = 32
  | [], h, _ => absurd rfl h
  | [x], _, h => h x (List.mem_cons_self ..)
  | x :: y :: t, _, h => nodeT_len (h x (List.mem_cons_self ..)) (foldS_len (y :: t) (by simp) (fun z hz => h z (List.mem_cons_of_mem _ hz)))
theorem stkT_ne : ∀ (m t n : Nat) (l : Dgs), n ≤ m → 1 ≤ n → stkT t n l ≠ []
  | 0, t, n, l, h, h1 => by omega
  | m + 1, t, n, l, h, h1 => by
    by_cases ho : n % 2 = 1
    · rw [stkT_odd l ho]; simp
    · rw [stkT_even l (by omega)]; exact stkT_ne m (t + 1) (n / 2) l (by omega) (by omega)

theorem tree_root_ok {l : Dgs} (ha : all32 l) (hl : l.length ≤ 100000000) : tree_root l = some (rootS l) ∧ (rootS l).length = 32 := by
  unfold rootS
  by_cases h0 : l.length = 0
  · rw [if_pos h0]
    have hs := sha_Sum_ok (b := []) (by simp)
    refine ⟨tree_root_of ?_, hs.2⟩
    unfold tree_root_b
    exact (cT (by simp [h0])).trans (bindE hs.1)
  · rw [if_neg h0]
    obtain ⟨s1, s2⟩ := stkT_len l.length 0 l.length l (Nat.le_refl _) ha (by omega)
    have hne := stkT_ne l.length 0 l.length l (Nat.le_refl _) (by omega)
    have hpos : 0 < (stkT 0 l.length l).length := List.length_pos_iff.2 hne
    refine ⟨tree_root_of ?_, foldS_len _ hne s1⟩
    unfold tree_root_b
    have e1 := root_l0 l ha hl l.length 0 (by omega)
    rw [stkT_0] at e1
    have e2 := root_l2 ((stkT 0 l.length l).length - 1) (stkT 0 l.length l) (by omega) (by omega) s1
    exact (cF (by rw [beq_eq_false_iff_ne]; omega)).trans ((bindE e1).trans ((bindE e2).trans (grd (by rfl))))
theorem tree_Root_ok {l : Dgs} (ha : all32 l) (hl : l.length ≤ 100000000) : tree_Root l = some (rootS l, 0) := by
  refine tree_Root_of ?_
  unfold tree_Root_b
  have : tree_all l = some true := by
    refine tree_all_of ?_
    unfold tree_all_b
    exact tree_all_ok l (by omega) l.length 0 (by omega) (by rw [List.drop_zero]; exact ha)
  exact (bindE this).trans ((cF (by rfl)).trans (bindE (tree_root_ok ha hl).1))

theorem leaves_l0 (L : List (List UInt8)) (hl : L.length ≤ 1000000000) (hb : ∀ x ∈ L, x.length ≤ 10000000) : ∀ (k i : Nat) (out : Dgs), i + k = L.length → out.length ≤ i → tree_Leaves_l0 ((i : Int), out, L, (L.length : Int)) = some (out ++ (L.drop i).map leafT) := by
  intro k
  induction k with
  | zero =>
    intro i out hi ho
    rw [tree_Leaves_l0_eq, tree_Leaves_l0_F]
    dsimp only
    rw [cF (dF (by omega)), List.drop_eq_nil_of_le (by omega)]
    simp
  | succ k ih =>
    intro i out hi ho
    rw [tree_Leaves_l0_eq, tree_Leaves_l0_F]
    dsimp only
    have hx := hb _ (List.getElem_mem (l := L) (n := i) (by omega))
    rw [cT (dT (by omega)), grd (aT (dT (by omega)) (dT (by omega))), idx_nat (l := L) (i := i) (by omega), List.drop_eq_getElem_cons (l := L) (i := i) (by omega)]
    refine (bindE (seal_Leaf_ok hx).1).trans ?_
    rw [List.append_nil, grd (dT (by simp; omega)), W64_in (by omega) (by omega), show (i : Int) + 1 = ((i + 1 : Nat) : Int) by omega, ih (i + 1) _ (by omega) (by simp; omega)]
    rw [List.map_cons, List.append_assoc]
    rfl
theorem tree_Leaves_ok {L : List (List UInt8)} (hl : L.length ≤ 1000000000) (hb : ∀ x ∈ L, x.length ≤ 10000000) : tree_Leaves L = some (L.map leafT) ∧ all32 (L.map leafT) := by
  refine ⟨tree_Leaves_of ?_, fun x hx => ?_⟩
  · unfold tree_Leaves_b
    have := leaves_l0 L hl hb L.length 0 [] (by omega) (by simp)
    rw [List.drop_zero] at this
    exact bindE this
  · obtain ⟨y, hy, rfl⟩ := List.mem_map.1 hx
    exact (seal_Leaf_ok (hb y hy)).2

noncomputable def droot (d : List Ent) : List UInt8 := rootS ((linksS d).map leafT)
theorem links_small {d : List Ent} (hg : dictG d = true) : ∀ x ∈ linksS d, x.length ≤ 10000000 := by
  intro x hx
  obtain ⟨i, hi, rfl⟩ := List.getElem_of_mem hx
  rw [linksS_len] at hi
  obtain ⟨a, b, c, h1, h2, _⟩ := linksS_get hg i hi
  rw [h1]
  have := encK_len h2
  omega
theorem dict_Root_ok {d : List Ent} (hl : d.length ≤ 10000000) (ho : okE d) : dict_Root d = some (if dictG d = true then (droot d, 0) else ([], 1)) ∧ (dictG d = true → (droot d).length = 32) := by
  have hL := linksS_len d
  constructor
  · refine dict_Root_of ?_
    unfold dict_Root_b
    refine (bindE (dict_Links_ok (by omega) ho)).trans ?_
    cases hg : dictG d with
    | false => exact cT rfl
    | true =>
      rw [if_pos rfl]
      obtain ⟨t1, t2⟩ := tree_Leaves_ok (L := linksS d) (by omega) (links_small hg)
      exact (cF rfl).trans ((bindE t1).trans (bindE (tree_Root_ok t2 (by rw [List.length_map]; omega))))
  · intro hg
    obtain ⟨t1, t2⟩ := tree_Leaves_ok (L := linksS d) (by omega) (links_small hg)
    exact (tree_root_ok t2 (by rw [List.length_map]; omega)).2
end Rk
