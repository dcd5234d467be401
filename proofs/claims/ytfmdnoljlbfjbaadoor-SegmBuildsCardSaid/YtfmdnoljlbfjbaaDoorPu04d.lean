/- The plain part: what the functions answer. No condition. -/
import Derived.Test.YtfmdnoljlbfjbaaDoorPu04c
set_option linter.unusedVariables false
set_option linter.unusedSimpArgs false
namespace Rk
open Go

theorem begins_step {i k : Nat} {b : List UInt8} {c : Int} (h : i < k) (hk : k ≤ b.length) (hk4 : k ≤ 4) (h1 : -1000000000000 ≤ c) (h2 : c ≤ 1000000000000) :
    ref04_begins_l0 ((i : Int), b, c, (k : Int)) = ref04_begins_l0 (((i + 1 : Nat) : Int), b, c * 64 + yB b i - 128, (k : Int)) := by
  have := yB_bd b i
  rw [ref04_begins_l0_eq, ref04_begins_l0_F]
  dsimp only
  rw [cT (dT (by omega)), grd (aT (dT (by omega)) (dT (by omega))), idx_y, W64_in (x := (i : Int) + 1) (by omega) (by omega), W64_in (x := c * 64) (by omega) (by omega), W64_in (x := yB b i) (by omega) (by omega), W64_in (x := c * 64 + yB b i) (by omega) (by omega), W64_in (by omega) (by omega)]
  rfl
theorem begins_stop {k : Nat} {b : List UInt8} {c : Int} : ref04_begins_l0 ((k : Int), b, c, (k : Int)) = some c := by
  rw [ref04_begins_l0_eq, ref04_begins_l0_F]
  dsimp only
  rw [cF (dF (by omega))]

theorem begins_ok {b : List UInt8} {k : Nat} (h1 : 1 ≤ k) (h4 : k ≤ 4) : ref04_begins b (k : Int) = some (begS b k) := by
  refine ref04_begins_of ?_
  unfold ref04_begins_b
  have y0 := yB_bd b 0
  have y1 := yB_bd b 1
  have y2 := yB_bd b 2
  have y3 := yB_bd b 3
  have y2' := yB_bd b (1 + 1)
  have y3' := yB_bd b (1 + 1 + 1)
  by_cases hl : b.length < k
  · rw [cT (dT (by omega))]
    have : begS b k = -1 := by
      rcases (by omega : k = 1 ∨ k = 2 ∨ k = 3 ∨ k = 4) with rfl | rfl | rfl | rfl <;> exact if_pos hl
    rw [this]
  · rw [cF (dF (by omega)), grd (aT (dT (by omega)) (dT (by omega)))]
    rcases (by omega : k = 1 ∨ k = 2 ∨ k = 3 ∨ k = 4) with rfl | rfl | rfl | rfl
    · rw [grd (by decide), show idx (0 : UInt8) b 0 = idx 0 b ((0 : Nat) : Int) from rfl, idx_y, W64_in (x := yB b 0) (by omega) (by omega), show (1 : Int) = ((1 : Nat) : Int) from rfl, begins_stop]
      rw [show begS b 1 = if b.length < 1 then -1 else yB b 0 from rfl, if_neg hl]
      rw [show idx (0 : Int) ([0] ++ ([0] ++ ([192] ++ ([224] ++ ([240] ++ []))))) ((1 : Nat) : Int) = 0 from rfl, W64_in (by omega) (by omega)]
      show some (yB b 0 - 0) = _
      rw [Int.sub_zero]
    · rw [grd (by decide), show idx (0 : UInt8) b 0 = idx 0 b ((0 : Nat) : Int) from rfl, idx_y, W64_in (x := yB b 0) (by omega) (by omega)]
      rw [show idx (0 : Int) ([0] ++ ([0] ++ ([192] ++ ([224] ++ ([240] ++ []))))) ((2 : Nat) : Int) = 192 from rfl, W64_in (by omega) (by omega), show (1 : Int) = ((1 : Nat) : Int) from rfl, begins_step (by omega) (by omega) (by omega) (by omega) (by omega), begins_stop]
      rw [show begS b 2 = if b.length < 2 then -1 else d2 b from rfl, if_neg hl]
      rfl
    · rw [grd (by decide), show idx (0 : UInt8) b 0 = idx 0 b ((0 : Nat) : Int) from rfl, idx_y, W64_in (x := yB b 0) (by omega) (by omega)]
      rw [show idx (0 : Int) ([0] ++ ([0] ++ ([192] ++ ([224] ++ ([240] ++ []))))) ((3 : Nat) : Int) = 224 from rfl, W64_in (by omega) (by omega), show (1 : Int) = ((1 : Nat) : Int) from rfl, begins_step (by omega) (by omega) (by omega) (by omega) (by omega), begins_step (by omega) (by omega) (by omega) (by omega) (by omega), begins_stop]
      rw [show begS b 3 = if b.length < 3 then -1 else d3 b from rfl, if_neg hl]
      rfl
    · rw [grd (by decide), show idx (0 : UInt8) b 0 = idx 0 b ((0 : Nat) : Int) from rfl, idx_y, W64_in (x := yB b 0) (by omega) (by omega)]
      rw [show idx (0 : Int) ([0] ++ ([0] ++ ([192] ++ ([224] ++ ([240] ++ []))))) ((4 : Nat) : Int) = 240 from rfl, W64_in (by omega) (by omega), show (1 : Int) = ((1 : Nat) : Int) from rfl, begins_step (by omega) (by omega) (by omega) (by omega) (by omega), begins_step (by omega) (by omega) (by omega) (by omega) (by omega), begins_step (by omega) (by omega) (by omega) (by omega) (by omega), begins_stop]
      rw [show begS b 4 = if b.length < 4 then -1 else d4 b from rfl, if_neg hl]
      rfl

theorem begS_bd {b : List UInt8} {k : Nat} (h : rightC (begS b k) = true) : k ≤ b.length := by
  rw [rightC_iff] at h
  unfold begS at h
  split at h
  case h_5 => omega
  all_goals (split at h <;> omega)

theorem least_ok (a c : Int) : ref04_least a c = some (if a < c then a else c) := by
  refine ref04_least_of ?_
  unfold ref04_least_b
  by_cases h : a < c
  · rw [cT (dT h), if_pos h]
  · rw [cF (dF h), if_neg h]

theorem dec_step {k i n : Nat} {b : List UInt8} {out : List Int} {c : Int} (h1 : 1 ≤ k) (h4 : k ≤ 4) (hi : i ≤ b.length) (hb : b.length ≤ 1000000000000) :
    ref04_Decode_l1 ((k : Int), b, (i : Int), (n : Int), out, c) =
      if rightC (begS (b.drop i) k) = true ∧ encC (begS (b.drop i) k) = (b.drop i).take k then ref04_Decode_l1 (((k + 1 : Nat) : Int), b, (i : Int), (k : Int), out, begS (b.drop i) k)
      else ref04_Decode_l1 (((k + 1 : Nat) : Int), b, (i : Int), (n : Int), out, c) := by
  rw [ref04_Decode_l1_eq, ref04_Decode_l1_F]
  dsimp only
  rw [cT (dT (by omega)), grd (aT (dT (by omega)) (aT (dT (by omega)) (dT (by omega)))), sub_len, show ((i : Int)).toNat = i by omega, begins_ok h1 h4, bS, ref04_Right_ok, bS]
  by_cases hr : rightC (begS (b.drop i) k) = true
  · have hk := begS_bd hr
    have hk' := hk
    simp only [List.length_drop] at hk'
    have hr' := rightC_iff.1 hr
    have el : (if (i : Int) + (k : Int) < (b.length : Int) then (i : Int) + (k : Int) else (b.length : Int)) = ((i + k : Nat) : Int) := by
      split <;> omega
    by_cases he : encC (begS (b.drop i) k) = (b.drop i).take k
    · rw [if_pos ⟨hr, he⟩]
      simp only [hr, Bool.and_true, cond_true]
      rw [ref04_Encode_ok (by omega) (by omega), bS, least_ok, bS, W64_in (by omega) (by omega)]
      rw [el, cT (by simp; omega), sub_nat, List.drop_take, show i + k - i = k by omega]
      rw [cT (by simp [he]), bS]
      dsimp only
      rw [W64_in (x := (k : Int) + 1) (by omega) (by omega)]
      rfl
    · rw [if_neg (fun q => he q.2)]
      simp only [hr, Bool.and_true, cond_true]
      rw [ref04_Encode_ok (by omega) (by omega), bS, least_ok, bS, W64_in (by omega) (by omega)]
      rw [el, cT (by simp; omega), sub_nat, List.drop_take, show i + k - i = k by omega]
      rw [cF (by simp [he]), bS]
      dsimp only
      rw [W64_in (x := (k : Int) + 1) (by omega) (by omega)]
      rfl
  · rw [if_neg (fun q => hr q.1)]
    rw [Bool.not_eq_true] at hr
    simp only [hr, Bool.false_and, cond_false, Option.bind_some, Bool.not_false, Bool.true_or, Bool.and_true, cond_true]
    rw [if_neg (by decide)]
    simp only [cond_false, Option.bind_some]
    rw [W64_in (x := (k : Int) + 1) (by omega) (by omega)]
    rfl

theorem is_dis (b : List UInt8) : (is2 b → ¬ is1 b) ∧ (is3 b → ¬ is1 b ∧ ¬ is2 b) ∧ (is4 b → ¬ is1 b ∧ ¬ is2 b ∧ ¬ is3 b) := by
  unfold is1 is2 is3 is4
  omega

theorem dec_l1 {i : Nat} {b : List UInt8} {out : List Int} (hi : i < b.length) (hb : b.length ≤ 1000000000000) :
    ref04_Decode_l1 (1, b, (i : Int), 1, out, 65533) = some (b, ((dec1 (b.drop i)).2 : Int), (i : Int), out, (dec1 (b.drop i)).1) := by
  have s5 : ∀ (n c : Int), ref04_Decode_l1 (((4 + 1 : Nat) : Int), b, (i : Int), n, out, c) = some (b, n, (i : Int), out, c) := by
    intro n c
    rw [ref04_Decode_l1_eq, ref04_Decode_l1_F]
    rfl
  have e0 := dec_step (k := 1) (n := 1) (out := out) (c := 65533) (by omega) (by omega) (Nat.le_of_lt hi) hb
  refine Eq.trans e0 ?_
  obtain ⟨x2, x3, x4⟩ := is_dis (b.drop i)
  have y2 := begS_is2 (b.drop i)
  have y3 := begS_is3 (b.drop i)
  have y4 := begS_is4 (b.drop i)
  have v1 : ∀ h : is1 (b.drop i), begS (b.drop i) 1 = yB (b.drop i) 0 := fun h => if_neg (by have := h.1; omega)
  have v2 : ∀ h : is2 (b.drop i), begS (b.drop i) 2 = d2 (b.drop i) := fun h => if_neg (by have := h.1; omega)
  have v3 : ∀ h : is3 (b.drop i), begS (b.drop i) 3 = d3 (b.drop i) := fun h => if_neg (by have := h.1; omega)
  have v4 : ∀ h : is4 (b.drop i), begS (b.drop i) 4 = d4 (b.drop i) := fun h => if_neg (by have := h.1; omega)
  have st := fun (k n : Nat) (c : Int) h1 h4 => dec_step (k := k) (n := n) (out := out) (c := c) h1 h4 (Nat.le_of_lt hi) hb
  unfold dec1
  by_cases h1 : is1 (b.drop i)
  · rw [if_pos ((begS_is1 _).2 h1), if_pos h1, v1 h1, st 2 1 _ (by omega) (by omega), if_neg (fun q => x2 (y2.1 q) h1), st 3 1 _ (by omega) (by omega), if_neg (fun q => (x3 (y3.1 q)).1 h1), st 4 1 _ (by omega) (by omega), if_neg (fun q => (x4 (y4.1 q)).1 h1), s5]
  · rw [if_neg (fun q => h1 ((begS_is1 _).1 q)), if_neg h1]
    refine Eq.trans (st 2 1 _ (by omega) (by omega)) ?_
    by_cases h2 : is2 (b.drop i)
    · rw [if_pos (y2.2 h2), if_pos h2, v2 h2, st 3 2 _ (by omega) (by omega), if_neg (fun q => (x3 (y3.1 q)).2 h2), st 4 2 _ (by omega) (by omega), if_neg (fun q => (x4 (y4.1 q)).2.1 h2), s5]
    · rw [if_neg (fun q => h2 (y2.1 q)), if_neg h2]
      refine Eq.trans (st 3 1 _ (by omega) (by omega)) ?_
      by_cases h3 : is3 (b.drop i)
      · rw [if_pos (y3.2 h3), if_pos h3, v3 h3, st 4 3 _ (by omega) (by omega), if_neg (fun q => (x4 (y4.1 q)).2.2 h3), s5]
      · rw [if_neg (fun q => h3 (y3.1 q)), if_neg h3]
        refine Eq.trans (st 4 1 _ (by omega) (by omega)) ?_
        by_cases h4 : is4 (b.drop i)
        · rw [if_pos (y4.2 h4), if_pos h4, v4 h4, s5]
        · rw [if_neg (fun q => h4 (y4.1 q)), if_neg h4]
          exact s5 1 65533

noncomputable def decS (b : List UInt8) : List Int := if h : 1 ≤ b.length then (dec1 b).1 :: decS (b.drop (dec1 b).2) else []
  termination_by b.length
  decreasing_by
    have := dec1_ok b h
    simp only [List.length_drop]
    omega
theorem decS_nil : decS [] = [] := by rw [decS, dif_neg (by simp)]
theorem decS_cons {b : List UInt8} (h : 1 ≤ b.length) : decS b = (dec1 b).1 :: decS (b.drop (dec1 b).2) := by rw [decS, dif_pos h]
theorem decS_len : ∀ (n : Nat) (b : List UInt8), b.length ≤ n → (decS b).length ≤ b.length := by
  intro n
  induction n with
  | zero => intro b h; rw [List.length_eq_zero_iff.1 (by omega : b.length = 0), decS_nil]; simp
  | succ n ih =>
    intro b h
    by_cases hb : 1 ≤ b.length
    · rw [decS_cons hb]
      have q := dec1_ok b hb
      have := ih (b.drop (dec1 b).2) (by simp only [List.length_drop]; omega)
      simp only [List.length_drop] at this
      simp only [List.length_cons]
      omega
    · rw [List.length_eq_zero_iff.1 (by omega : b.length = 0), decS_nil]; simp
theorem ref04_dec_l0 (b : List UInt8) (hb : b.length ≤ 1000000000000) : ∀ (k i : Nat) (out : List Int), b.length - i ≤ k → i ≤ b.length → out.length ≤ i →
    ref04_Decode_l0 (b, (i : Int), out) = some (out ++ decS (b.drop i)) := by
  intro k
  induction k with
  | zero =>
    intro i out h1 h2 h3
    rw [ref04_Decode_l0_eq, ref04_Decode_l0_F]
    dsimp only
    rw [cF (dF (by omega)), List.drop_eq_nil_of_le (by omega), decS_nil, List.append_nil]
  | succ k ih =>
    intro i out h1 h2 h3
    by_cases hi : i < b.length
    · rw [ref04_Decode_l0_eq, ref04_Decode_l0_F]
      dsimp only
      have hd : 1 ≤ (b.drop i).length := by simp only [List.length_drop]; omega
      have q := dec1_ok _ hd
      rw [List.length_drop] at q
      rw [cT (dT (by omega)), dec_l1 hi hb, bS]
      dsimp only
      rw [grd (dT (by simp; omega)), bS]
      dsimp only
      rw [W64_in (by omega) (by omega), show (i : Int) + ((dec1 (b.drop i)).2 : Int) = ((i + (dec1 (b.drop i)).2 : Nat) : Int) by omega, ih _ _ (by omega) (by omega) (by simp; omega), decS_cons hd, List.drop_drop]
      simp
    · rw [ref04_Decode_l0_eq, ref04_Decode_l0_F]
      dsimp only
      rw [cF (dF (by omega)), List.drop_eq_nil_of_le (by omega), decS_nil, List.append_nil]
theorem ref04_Decode_ok {b : List UInt8} (hb : b.length ≤ 1000000000000) : ref04_Decode b = some (decS b) := by
  refine ref04_Decode_of ?_
  unfold ref04_Decode_b
  have := ref04_dec_l0 b hb b.length 0 [] (by omega) (by omega) (by simp)
  rw [show ((0 : Nat) : Int) = 0 from rfl] at this
  rw [this]
  rfl
end Rk
