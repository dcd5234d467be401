/- The plain part: what the functions answer. No condition. -/
import Derived.Test.YtfmdnoljlbfjbaaDoorPu10i
set_option linter.unusedVariables false
set_option linter.unusedSimpArgs false
namespace Rk
open Go

/-! Trees of digests. -/
noncomputable def nodeT (a b : List UInt8) : List UInt8 := shaOf (1 :: (a ++ b))
noncomputable def leafT (b : List UInt8) : List UInt8 := shaOf (0 :: b)
abbrev Dgs := List (List UInt8)
def all32 (l : Dgs) : Prop := ∀ x ∈ l, x.length = 32

noncomputable def perfT : Nat → Dgs → List UInt8
  | 0, l => l.headD []
  | t + 1, l => nodeT (perfT t (l.take (2 ^ t))) (perfT t (l.drop (2 ^ t)))
noncomputable def stkT (t n : Nat) (l : Dgs) : Dgs :=
  if h : n = 0 then [] else if n % 2 = 1 then stkT (t + 1) (n / 2) (l.take ((n - 1) * 2 ^ t)) ++ [perfT t (l.drop ((n - 1) * 2 ^ t))] else stkT (t + 1) (n / 2) l
  termination_by n
  decreasing_by all_goals omega
theorem stkT_0 (t : Nat) (l : Dgs) : stkT t 0 l = [] := by rw [stkT, dif_pos rfl]
theorem stkT_odd {t n : Nat} (l : Dgs) (h : n % 2 = 1) : stkT t n l = stkT (t + 1) (n / 2) (l.take ((n - 1) * 2 ^ t)) ++ [perfT t (l.drop ((n - 1) * 2 ^ t))] := by rw [stkT, dif_neg (by omega), if_pos h]
theorem stkT_even {t n : Nat} (l : Dgs) (h : n % 2 = 0) : stkT t n l = stkT (t + 1) (n / 2) l := by
  by_cases h0 : n = 0
  · subst h0; rw [stkT_0, stkT_0]
  · conv => lhs; rw [stkT, dif_neg h0, if_neg (by omega)]

theorem nodeT_len {a b : List UInt8} (ha : a.length = 32) (hb : b.length = 32) : (nodeT a b).length = 32 := (sha_Sum_ok (by simp; omega)).2
theorem perfT_len : ∀ (t : Nat) (l : Dgs), all32 l → 2 ^ t ≤ l.length → (perfT t l).length = 32
  | 0, [], _, h2 => by simp at h2
  | 0, x :: l, h, _ => h x (List.mem_cons_self ..)
  | t + 1, l, h, h2 => by
    rw [Nat.pow_succ] at h2
    exact nodeT_len (perfT_len t _ (fun x hx => h x (List.mem_of_mem_take hx)) (by rw [List.length_take]; omega)) (perfT_len t _ (fun x hx => h x (List.mem_of_mem_drop hx)) (by rw [List.length_drop]; omega))
theorem stkT_len : ∀ (m t n : Nat) (l : Dgs), n ≤ m → all32 l → n * 2 ^ t ≤ l.length → all32 (stkT t n l) ∧ (stkT t n l).length ≤ n
  | 0, t, n, l, h, _, _ => by
    have : n = 0 := by omega
    subst this
    rw [stkT_0]
    exact ⟨fun x hx => (by cases hx), Nat.zero_le _⟩
  | m + 1, t, n, l, h, ha, hl => by
    have hp : 0 < 2 ^ t := Nat.pow_pos (by decide)
    by_cases h0 : n = 0
    · subst h0; rw [stkT_0]; exact ⟨fun x hx => (by cases hx), Nat.zero_le _⟩
    by_cases ho : n % 2 = 1
    · rw [stkT_odd l ho]
      have e : n / 2 * 2 ^ (t + 1) = (n - 1) * 2 ^ t := by rw [Nat.pow_succ, Nat.mul_comm (2 ^ t), ← Nat.mul_assoc]; congr 1; omega
      have e2 : n * 2 ^ t = (n - 1) * 2 ^ t + 2 ^ t := by
        obtain ⟨k, rfl⟩ : ∃ k, n = k + 1 := ⟨n - 1, by omega⟩
        rw [Nat.add_sub_cancel, Nat.succ_mul]
      obtain ⟨h1, h2⟩ := stkT_len m (t + 1) (n / 2) (l.take ((n - 1) * 2 ^ t)) (by omega) (fun x hx => ha x (List.mem_of_mem_take hx)) (by rw [List.length_take]; omega)
      refine ⟨fun x hx => ?_, by simp; omega⟩
      rcases List.mem_append.1 hx with hx | hx
      · exact h1 x hx
      · rw [List.mem_singleton.1 hx]
        exact perfT_len t _ (fun x hx => ha x (List.mem_of_mem_drop hx)) (by rw [List.length_drop]; omega)
    · rw [stkT_even l (by omega)]
      have e : n / 2 * 2 ^ (t + 1) = n * 2 ^ t := by rw [Nat.pow_succ, Nat.mul_comm (2 ^ t), ← Nat.mul_assoc]; congr 1; omega
      obtain ⟨h1, h2⟩ := stkT_len m (t + 1) (n / 2) l (by omega) ha (by omega)
      exact ⟨h1, by omega⟩

theorem seal_Node_ok {a b : List UInt8} (ha : a.length = 32) (hb : b.length = 32) : seal_Node a b = some (nodeT a b, 0) := by
  refine seal_Node_of ?_
  unfold seal_Node_b
  rw [cF (by simp [ha, hb])]
  have : seal_NodeBytes a b = some (1 :: (a ++ b)) := by
    refine seal_NodeBytes_of ?_
    unfold seal_NodeBytes_b
    refine (bindE (seal_put_ok 1 ([a] ++ ([b] ++ [])) (by simp) (by simp; omega))).trans ?_
    simp
  exact (bindE this).trans (bindE (sha_Sum_ok (by simp; omega)).1)
theorem tree_node_ok {a b : List UInt8} (ha : a.length = 32) (hb : b.length = 32) : tree_node a b = some (nodeT a b) := by
  refine tree_node_of ?_
  unfold tree_node_b
  exact bindE (seal_Node_ok ha hb)
theorem seal_Leaf_ok {b : List UInt8} (hb : b.length ≤ 10000000) : seal_Leaf b = some (leafT b) ∧ (leafT b).length = 32 := by
  have hs := sha_Sum_ok (b := 0 :: b) (by simp; omega)
  refine ⟨seal_Leaf_of ?_, hs.2⟩
  unfold seal_Leaf_b
  have : seal_LeafBytes b = some (0 :: b) := by
    refine seal_LeafBytes_of ?_
    unfold seal_LeafBytes_b
    refine (bindE (seal_put_ok 0 ([b] ++ []) (by simp) (by simpa using hb))).trans ?_
    simp
  exact (bindE this).trans (bindE hs.1)

/-- The two last are put together. -/
theorem pair_facts {S : Dgs} {a b : List UInt8} (hS : S.length ≤ 1000000000) (i : Int) (hi : i = ((S ++ [a, b]).length : Int)) :
    W64 (W64 (i - 1) - 1) = (S.length : Int) ∧ W64 (i - 1) = (S.length : Int) + 1 := by
  have : i = (S.length : Int) + 2 := by rw [hi]; simp
  rw [this, W64_in (x := (S.length : Int) + 2 - 1) (by omega) (by omega), W64_in (by omega) (by omega)]
  omega

theorem and1 {c : Int} (h0 : 0 ≤ c) (h1 : c < 9223372036854775808) : arI .and .i64 c 1 = c % 2 := by
  obtain ⟨n, rfl⟩ := Int.eq_ofNat_of_zero_le h0
  show IntKind.i64.wrap ((BitVec.ofInt 64 (n : Int) &&& BitVec.ofInt 64 1).toNat : Int) = _
  rw [BitVec.toNat_and, BitVec.ofInt_natCast, BitVec.toNat_ofNat, Nat.mod_eq_of_lt (by omega), show (BitVec.ofInt 64 1).toNat = 2 ^ 1 - 1 by decide, Nat.and_two_pow_sub_one_eq_mod]
  rw [IntWalk.i64_in _ (by omega)]
  omega
theorem shr1 {x : Int} (h0 : 0 ≤ x) : arI .shr .i64 x 1 = x / 2 := by
  show x.fdiv (2 ^ (min (1 : Int).toNat 64)) = x / 2
  rw [Int.fdiv_eq_ediv_of_nonneg _ (by decide)]
  rfl

theorem idx_a {S : Dgs} {a b : List UInt8} : idx ([] : List UInt8) (S ++ [a, b]) (S.length : Int) = a := by
  rw [idx_nat (by simp), List.getElem_append_right (Nat.le_refl _)]
  simp
theorem idx_b {S : Dgs} {a b : List UInt8} : idx ([] : List UInt8) (S ++ [a, b]) ((S.length : Int) + 1) = b := by
  rw [show (S.length : Int) + 1 = ((S.length + 1 : Nat) : Int) by omega, idx_nat (by simp), List.getElem_append_right (by omega)]
  simp

theorem root_l1_step {n : Int} {S : Dgs} {a b : List UInt8} {X : Dgs} {y z : Int} (hS : S.length ≤ 1000000000) (ha : a.length = 32) (hb : b.length = 32) (hn : 0 ≤ n) (hn2 : n < 1000000000000) (he : n % 2 = 0) :
    tree_root_l1 (n, S ++ [a, b], X, y, z) = tree_root_l1 (n / 2, S ++ [nodeT a b], X, y, z) := by
  rw [tree_root_l1_eq, tree_root_l1_F]
  dsimp only
  obtain ⟨f1, f2⟩ := pair_facts (a := a) (b := b) hS _ rfl
  rw [f1, f2, and1 hn (by omega), cT (by rw [he]; rfl)]
  have hl : ((S ++ [a, b]).length : Int) = (S.length : Int) + 2 := by simp
  rw [hl]
  rw [grd (aT (dT (by omega)) (aT (dT (by omega)) (dT (by omega)))), grd (aT (dT (by omega)) (dT (by omega))), grd (aT (dT (by omega)) (dT (by omega))), idx_a, idx_b]
  refine (bindE (tree_node_ok ha hb)).trans ?_
  have hs : sub (S ++ [a, b]) 0 (S.length : Int) = S := by rw [sub_zero]; simp
  rw [hs, shr1 hn]
  exact (grd (dT (by simp; omega))).trans (grd (by rfl))
theorem root_l1_stop {n : Int} {S X : Dgs} {y z : Int} (hn : 0 ≤ n) (hn2 : n < 1000000000000) (he : n % 2 = 1) : tree_root_l1 (n, S, X, y, z) = some (S, X, y, z) := by
  rw [tree_root_l1_eq, tree_root_l1_F]
  dsimp only
  rw [and1 hn (by omega), cF (by rw [he]; rfl)]

theorem root_l1 (X : Dgs) (y z : Int) : ∀ (m t n : Nat) (l : Dgs), n ≤ m → 1 ≤ n → n < 1000000000 → all32 l → l.length = n * 2 ^ t →
    tree_root_l1 ((n : Int), stkT t (n - 1) (l.take ((n - 1) * 2 ^ t)) ++ [perfT t (l.drop ((n - 1) * 2 ^ t))], X, y, z) = some (stkT t n l, X, y, z)
  | 0, t, n, l, h, h1, _, _, _ => by omega
  | m + 1, t, n, l, h, h1, hb, ha, hl => by
    have hp : 0 < 2 ^ t := Nat.pow_pos (by decide)
    by_cases ho : n % 2 = 1
    · rw [root_l1_stop (by omega) (by omega) (by omega), stkT_odd l ho, stkT_even _ (show (n - 1) % 2 = 0 by omega), show (n - 1) / 2 = n / 2 by omega]
    · have hodd : (n - 1) % 2 = 1 := by omega
      have e0 : (n - 1) * 2 ^ t = (n - 2) * 2 ^ t + 2 ^ t := by
        obtain ⟨k, rfl⟩ : ∃ k, n = k + 2 := ⟨n - 2, by omega⟩
        rw [show k + 2 - 1 = k + 1 by omega, Nat.add_sub_cancel, Nat.succ_mul]
      have e1 : n * 2 ^ t = (n - 2) * 2 ^ t + 2 ^ t + 2 ^ t := by
        obtain ⟨k, rfl⟩ : ∃ k, n = k + 2 := ⟨n - 2, by omega⟩
        rw [Nat.add_sub_cancel, Nat.succ_mul, Nat.succ_mul]
      have e2 : (n / 2 - 1) * 2 ^ (t + 1) = (n - 2) * 2 ^ t := by rw [Nat.pow_succ, Nat.mul_comm (2 ^ t), ← Nat.mul_assoc]; congr 1; omega
      have e3 : n / 2 * 2 ^ (t + 1) = n * 2 ^ t := by rw [Nat.pow_succ, Nat.mul_comm (2 ^ t), ← Nat.mul_assoc]; congr 1; omega
      rw [stkT_odd _ hodd, show n - 1 - 1 = n - 2 by omega, show (n - 1) / 2 = n / 2 - 1 by omega, List.take_take, Nat.min_eq_left (by omega), List.append_assoc]
      have ha1 : (perfT t ((l.take ((n - 1) * 2 ^ t)).drop ((n - 2) * 2 ^ t))).length = 32 := perfT_len t _ (fun x hx => ha x (List.mem_of_mem_take (List.mem_of_mem_drop hx))) (by rw [List.length_drop, List.length_take]; omega)
      have ha2 : (perfT t (l.drop ((n - 1) * 2 ^ t))).length = 32 := perfT_len t _ (fun x hx => ha x (List.mem_of_mem_drop hx)) (by rw [List.length_drop]; omega)
      have hsl := (stkT_len (n / 2 - 1) (t + 1) (n / 2 - 1) (l.take ((n - 2) * 2 ^ t)) (Nat.le_refl _) (fun x hx => ha x (List.mem_of_mem_take hx)) (by rw [List.length_take]; omega)).2
      have st := root_l1_step (n := (n : Int)) (S := stkT (t + 1) (n / 2 - 1) (l.take ((n - 2) * 2 ^ t))) (a := perfT t ((l.take ((n - 1) * 2 ^ t)).drop ((n - 2) * 2 ^ t))) (b := perfT t (l.drop ((n - 1) * 2 ^ t))) (X := X) (y := y) (z := z) (by omega) ha1 ha2 (by omega) (by omega) (by omega)
      refine st.trans ?_
      have ep : nodeT (perfT t ((l.take ((n - 1) * 2 ^ t)).drop ((n - 2) * 2 ^ t))) (perfT t (l.drop ((n - 1) * 2 ^ t))) = perfT (t + 1) (l.drop ((n / 2 - 1) * 2 ^ (t + 1))) := by
        rw [perfT, e2, List.drop_drop]
        congr 2
        · rw [List.drop_take]; congr 1; omega
        · congr 1
      rw [ep, show (n : Int) / 2 = ((n / 2 : Nat) : Int) by omega, ← e2, stkT_even l (show n % 2 = 0 by omega)]
      exact root_l1 X y z m (t + 1) (n / 2) l (by omega) (by omega) (by omega) ha (by omega)
end Rk
