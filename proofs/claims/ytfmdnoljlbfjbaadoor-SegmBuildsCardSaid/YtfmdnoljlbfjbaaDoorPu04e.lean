/- The plain part: what the functions answer. No condition. -/
import Derived.Test.YtfmdnoljlbfjbaaDoorPu04d
set_option linter.unusedVariables false
set_option linter.unusedSimpArgs false
namespace Rk
open Go

theorem lead_bit : ∀ x : Fin 256, ∀ k : Fin 5, ((i8 (o8 (arI .and .u8 (i8 (o8 (arI .shl .u8 (x.val : Int) (k.val : Int)))) 128))) != 0) = decide (x.val / 2 ^ (7 - k.val) % 2 = 1) := by decide +kernel
theorem lead_stp {k : Nat} (hk : k < 5) (x : UInt8) (b : List UInt8) : utf_first_l0 ((k : Int), x, b) = bif decide (x.toNat / 2 ^ (7 - k) % 2 = 1) then utf_first_l0 (((k + 1 : Nat) : Int), x, b) else some (x, (k : Int), b) := by
  rw [utf_first_l0_eq, utf_first_l0_F]
  dsimp only
  rw [dT (show (k : Int) < 5 by omega), dT (show (k : Int) ≥ 0 by omega)]
  simp only [Bool.not_true, Bool.false_or, Bool.and_true, cond_true, if_true]
  have := lead_bit ⟨x.toNat, x.toNat_lt⟩ ⟨k, hk⟩
  dsimp only at this
  rw [show i8 x = (x.toNat : Int) from rfl, this, W64_in (by omega) (by omega)]
  rfl
theorem lead_end (x : UInt8) (b : List UInt8) : utf_first_l0 (((5 : Nat) : Int), x, b) = some (x, 5, b) := by
  rw [utf_first_l0_eq, utf_first_l0_F]; rfl
def leadN (y : Nat) : Int := if y < 128 then 0 else if y < 192 then 1 else if y < 224 then 2 else if y < 240 then 3 else if y < 248 then 4 else 5
theorem lead_all (x : UInt8) (b : List UInt8) : utf_first_l0 (0, x, b) = some (x, leadN x.toNat, b) := by
  have hx := x.toNat_lt
  have s0 := lead_stp (k := 0) (by omega) x b
  have s1 := lead_stp (k := 1) (by omega) x b
  have s2 := lead_stp (k := 2) (by omega) x b
  have s3 := lead_stp (k := 3) (by omega) x b
  have s4 := lead_stp (k := 4) (by omega) x b
  have s5 := lead_end x b
  simp only [Nat.sub_zero, show (7 : Nat) - 1 = 6 from rfl, show (7 : Nat) - 2 = 5 from rfl, show (7 : Nat) - 3 = 4 from rfl, show (7 : Nat) - 4 = 3 from rfl, show (2 : Nat) ^ 7 = 128 from rfl, show (2 : Nat) ^ 6 = 64 from rfl, show (2 : Nat) ^ 5 = 32 from rfl, show (2 : Nat) ^ 4 = 16 from rfl, show (2 : Nat) ^ 3 = 8 from rfl] at s0 s1 s2 s3 s4
  unfold leadN
  refine Eq.trans s0 ?_
  by_cases h0 : x.toNat < 128
  · rw [cF (dF (by omega)), if_pos h0]; rfl
  · rw [cT (dT (by omega)), if_neg h0]
    refine Eq.trans s1 ?_
    by_cases h1 : x.toNat < 192
    · rw [cF (dF (by omega)), if_pos h1]; rfl
    · rw [cT (dT (by omega)), if_neg h1]
      refine Eq.trans s2 ?_
      by_cases h2 : x.toNat < 224
      · rw [cF (dF (by omega)), if_pos h2]; rfl
      · rw [cT (dT (by omega)), if_neg h2]
        refine Eq.trans s3 ?_
        by_cases h3 : x.toNat < 240
        · rw [cF (dF (by omega)), if_pos h3]; rfl
        · rw [cT (dT (by omega)), if_neg h3]
          refine Eq.trans s4 ?_
          by_cases h4 : x.toNat < 248
          · rw [cF (dF (by omega)), if_pos h4]; rfl
          · rw [cT (dT (by omega)), if_neg h4]; exact s5

theorem cont_bit : ∀ x : Fin 256, ((i8 (o8 (arI .and .u8 (x.val : Int) 192))) != 128) = !decide (128 ≤ x.val ∧ x.val < 192) ∧ i8 (o8 (arI .and .u8 (x.val : Int) 63)) = (x.val : Int) % 64 := by decide +kernel
theorem mask5 : ∀ x : Fin 256, arI .and .i64 (x.val : Int) 31 = (x.val : Int) % 32 ∧ arI .and .i64 (x.val : Int) 15 = (x.val : Int) % 16 ∧ arI .and .i64 (x.val : Int) 7 = (x.val : Int) % 8 := by decide +kernel

/-- The bytes that go on. -/
def contS : List UInt8 → Int → Option Int
  | [], c => some c
  | x :: t, c => if 128 ≤ i8 x ∧ i8 x < 192 then contS t (c * 64 + (i8 x - 128)) else none
def endS (n : Int) : Option Int → Int × Int
  | none => (65533, 1)
  | some c => if rightC c = true ∧ manyC c = n then (c, n) else (65533, 1)

theorem first_l1 (l : List UInt8) (n : Int) : ∀ (k i : Nat) (c : Int), i + k = l.length → 0 ≤ c → c < 64 ^ (i + 1) → l.length ≤ 5 →
    utf_first_l1 ((i : Int), c, l, n, (l.length : Int)) = some (endS n (contS (l.drop i) c)) := by
  intro k
  induction k with
  | zero =>
    intro i c hi h0 hc hl
    rw [utf_first_l1_eq, utf_first_l1_F]
    dsimp only
    rw [cF (dF (by omega)), List.drop_eq_nil_of_le (by omega), utf_Right_ok, bS]
    unfold contS endS
    dsimp only
    by_cases hr : rightC c = true
    · simp only [hr, Bool.not_true, Bool.not_false, Bool.and_true, cond_true, utf_many_ok, Option.bind_some, true_and]
      by_cases hm : manyC c = n
      · rw [if_pos hm, cF (by simp [hm])]
      · rw [if_neg hm, cT (by simp [hm])]
    · rw [if_neg (fun q => hr q.1)]
      rw [Bool.not_eq_true] at hr
      rw [hr]
      rfl
  | succ k ih =>
    intro i c hi h0 hc hl
    have hc2 : c < 64 ^ 6 := Int.lt_of_lt_of_le hc (by exact_mod_cast Nat.pow_le_pow_right (by decide) (by omega))
    rw [show (64 : Int) ^ 6 = 68719476736 from rfl] at hc2
    rw [utf_first_l1_eq, utf_first_l1_F]
    dsimp only
    rw [cT (dT (by omega)), grd (aT (dT (by omega)) (dT (by omega))), idx_nat (by omega), List.drop_eq_getElem_cons (l := l) (i := i) (by omega)]
    generalize hx : l[i]'(by omega) = x
    have q := cont_bit ⟨x.toNat, x.toNat_lt⟩
    dsimp only at q
    rw [show i8 x = (x.toNat : Int) from rfl, q.1, q.2]
    rw [show contS (x :: List.drop (i + 1) l) c = if 128 ≤ i8 x ∧ i8 x < 192 then contS (List.drop (i + 1) l) (c * 64 + (i8 x - 128)) else none from rfl, show i8 x = (x.toNat : Int) from rfl]
    by_cases h : 128 ≤ x.toNat ∧ x.toNat < 192
    · rw [cF (by simp [h]), grd (by decide), if_pos (by omega)]
      obtain ⟨m, rfl⟩ := Int.eq_ofNat_of_zero_le h0
      have e : arI .or .i64 (arI .shl .i64 (m : Int) 6) (W64 ((x.toNat : Int) % 64)) = (m : Int) * 64 + ((x.toNat : Int) - 128) := by
        rw [W64_in (by omega) (by omega), show (6 : Int) = ((6 : Nat) : Int) from rfl, shl64 (by omega) (by omega), show ((x.toNat : Int) % 64) = ((x.toNat % 64 : Nat) : Int) by omega, or64 (by omega) (by omega)]
        have := Nat.two_pow_add_eq_or_of_lt (i := 6) (b := x.toNat % 64) (by omega) m
        rw [Nat.mul_comm m, ← this]
        omega
      rw [e, W64_in (by omega) (by omega), show (i : Int) + 1 = ((i + 1 : Nat) : Int) by omega]
      refine ih (i + 1) _ (by omega) (by omega) ?_ hl
      rw [Int.pow_succ]
      omega
    · rw [cT (by simp only [dF h]; rfl), if_neg (by omega)]
      rfl

theorem leadN_i8 (x : UInt8) : leadN x.toNat = if i8 x < 128 then 0 else if i8 x < 192 then 1 else if i8 x < 224 then 2 else if i8 x < 240 then 3 else if i8 x < 248 then 4 else 5 := by
  unfold leadN i8
  repeat' split
  all_goals omega

theorem sub1 {b : List UInt8} {n : Nat} : sub b 1 (n : Int) = (b.take n).drop 1 := by
  rw [show (1 : Int) = ((1 : Nat) : Int) from rfl, sub_nat]

theorem dec1_is1 {b : List UInt8} (h : is1 b) : dec1 b = (yB b 0, 1) := by unfold dec1; rw [if_pos h]
theorem dec1_is2 {b : List UInt8} (h : is2 b) : dec1 b = (d2 b, 2) := by unfold dec1; rw [if_neg ((is_dis b).1 h), if_pos h]
theorem dec1_is3 {b : List UInt8} (h : is3 b) : dec1 b = (d3 b, 3) := by unfold dec1; rw [if_neg ((is_dis b).2.1 h).1, if_neg ((is_dis b).2.1 h).2, if_pos h]
theorem dec1_is4 {b : List UInt8} (h : is4 b) : dec1 b = (d4 b, 4) := by unfold dec1; rw [if_neg ((is_dis b).2.2 h).1, if_neg ((is_dis b).2.2 h).2.1, if_neg ((is_dis b).2.2 h).2.2, if_pos h]
theorem dec1_no {b : List UInt8} (h1 : ¬ is1 b) (h2 : ¬ is2 b) (h3 : ¬ is3 b) (h4 : ¬ is4 b) : dec1 b = (65533, 1) := by unfold dec1; rw [if_neg h1, if_neg h2, if_neg h3, if_neg h4]

theorem utf_first_ok {b : List UInt8} (h : 1 ≤ b.length) : utf_first b = some ((dec1 b).1, ((dec1 b).2 : Int)) := by
  refine utf_first_of ?_
  unfold utf_first_b
  have y0 := yB_bd b 0
  have y1 := yB_bd b 1
  have y2 := yB_bd b 2
  have y3 := yB_bd b 3
  rw [grd (aT (dT (by omega)) (dT (by omega))), lead_all, bS]
  dsimp only
  have e0 : i8 (idx 0 b 0) = yB b 0 := idx_y (k := 0)
  rw [leadN_i8, e0]
  have mk := mask5 ⟨(yB b 0).toNat, by omega⟩
  simp only [] at mk
  rw [show (((yB b 0).toNat : Nat) : Int) = yB b 0 by omega] at mk
  have hw : W64 (yB b 0) = yB b 0 := W64_in (by omega) (by omega)
  simp only [hw]
  by_cases c1 : yB b 0 < 128
  · rw [if_pos c1, dec1_is1 ⟨h, c1⟩]; rfl
  have n1 : ¬ is1 b := fun q => c1 q.2
  rw [if_neg c1]
  by_cases c2 : yB b 0 < 192
  · rw [if_pos c2, dec1_no n1 (fun q => by have := q.2; omega) (fun q => by have := q.2; omega) (fun q => by have := q.2; omega)]; rfl
  rw [if_neg c2]
  by_cases c3 : yB b 0 < 224
  · have n3 : ¬ is3 b := fun q => by have := q.2; omega
    have n4 : ¬ is4 b := fun q => by have := q.2; omega
    rw [if_pos c3]
    by_cases hl : b.length < 2
    · rw [dec1_no n1 (fun q => by have := q.1; omega) n3 n4]
      rw [show ((2 : Int) == 0) = false from rfl, cond_false, show ((2 : Int) == 1) = false from rfl, dF (show ¬ (2 : Int) > 4 by omega), dT (show (b.length : Int) < 2 by omega)]
      rfl
    · rw [show ((2 : Int) == 0) = false from rfl, cond_false, show ((2 : Int) == 1) = false from rfl, dF (show ¬ (2 : Int) > 4 by omega), dF (show ¬ (b.length : Int) < 2 by omega)]
      simp only [Bool.false_eq_true, if_false, cond_false]
      rw [grd (dT (show W64 (7 - 2) ≥ 0 by decide)), grd (aT (dT (by omega)) (aT (dT (by omega)) (dT (by omega)))), show W64 (arI .shl .i64 1 (W64 (7 - 2)) - 1) = 31 by decide, mk.1, show (2 : Int) = ((2 : Nat) : Int) from rfl, sub1, take2 (by omega)]
      refine (first_l1 _ _ 1 0 _ rfl (by omega) (by omega) (by simp)).trans ?_
      rw [show List.drop 0 (List.drop 1 [o8 (yB b 0), o8 (yB b 1)]) = [o8 (yB b 1)] from rfl]
      unfold contS
      rw [i8_o8 (by omega) (by omega)]
      by_cases hc : 128 ≤ yB b 1 ∧ yB b 1 < 192
      · rw [if_pos hc]
        unfold contS endS
        have ed : yB b 0 % 32 * 64 + (yB b 1 - 128) = d2 b := by unfold d2; omega
        rw [ed]
        by_cases hd : 128 ≤ d2 b
        · rw [dec1_is2 ⟨by omega, by omega, by omega, hc.1, hc.2, hd⟩]
          dsimp only
          rw [if_pos]
          unfold manyC
          refine ⟨by rw [rightC_iff]; omega, ?_⟩
          rw [if_neg (by omega), if_pos (by omega)]; rfl
        · rw [dec1_no n1 (fun q => hd q.2.2.2.2.2) n3 n4]
          dsimp only
          rw [if_neg]
          · rfl
          unfold manyC
          rw [if_pos (by omega)]
          omega
      · rw [if_neg hc, dec1_no n1 (fun q => hc ⟨q.2.2.2.1, q.2.2.2.2.1⟩) n3 n4]
        rfl
  have n2 : ¬ is2 b := fun q => by have := q.2; omega
  rw [if_neg c3]
  by_cases c4 : yB b 0 < 240
  · have n4 : ¬ is4 b := fun q => by have := q.2; omega
    rw [if_pos c4]
    by_cases hl : b.length < 3
    · rw [dec1_no n1 n2 (fun q => by have := q.1; omega) n4]
      rw [show ((3 : Int) == 0) = false from rfl, cond_false, show ((3 : Int) == 1) = false from rfl, dF (show ¬ (3 : Int) > 4 by omega), dT (show (b.length : Int) < 3 by omega)]
      rfl
    · rw [show ((3 : Int) == 0) = false from rfl, cond_false, show ((3 : Int) == 1) = false from rfl, dF (show ¬ (3 : Int) > 4 by omega), dF (show ¬ (b.length : Int) < 3 by omega)]
      simp only [Bool.false_eq_true, if_false, cond_false]
      rw [grd (dT (show W64 (7 - 3) ≥ 0 by decide)), grd (aT (dT (by omega)) (aT (dT (by omega)) (dT (by omega)))), show W64 (arI .shl .i64 1 (W64 (7 - 3)) - 1) = 15 by decide, mk.2.1, show (3 : Int) = ((3 : Nat) : Int) from rfl, sub1, take3 (by omega)]
      refine (first_l1 _ _ 2 0 _ rfl (by omega) (by omega) (by simp)).trans ?_
      rw [show List.drop 0 (List.drop 1 [o8 (yB b 0), o8 (yB b 1), o8 (yB b 2)]) = [o8 (yB b 1), o8 (yB b 2)] from rfl]
      unfold contS
      rw [i8_o8 (by omega) (by omega)]
      by_cases hc : 128 ≤ yB b 1 ∧ yB b 1 < 192
      · rw [if_pos hc]
        unfold contS
        rw [i8_o8 (by omega) (by omega)]
        by_cases hc2 : 128 ≤ yB b 2 ∧ yB b 2 < 192
        · rw [if_pos hc2]
          unfold contS endS
          have ed : (yB b 0 % 16 * 64 + (yB b 1 - 128)) * 64 + (yB b 2 - 128) = d3 b := by unfold d3; omega
          rw [ed]
          have hb3 : d3 b < 65536 ∧ 0 ≤ d3 b := by unfold d3; omega
          by_cases hd : 2048 ≤ d3 b ∧ (d3 b < 55296 ∨ 57343 < d3 b)
          · rw [dec1_is3 ⟨by omega, by omega, by omega, hc.1, hc.2, hc2.1, hc2.2, hd⟩]
            dsimp only
            rw [if_pos]
            unfold manyC
            refine ⟨by rw [rightC_iff]; omega, ?_⟩
            rw [if_neg (by omega), if_neg (by omega), if_pos (by omega)]; rfl
          · rw [dec1_no n1 n2 (fun q => hd q.2.2.2.2.2.2.2) n4]
            dsimp only
            rw [if_neg]
            · rfl
            intro q
            have q1 := rightC_iff.1 q.1
            have q2 := q.2
            unfold manyC at q2
            revert q2
            repeat' split
            all_goals omega
        · rw [if_neg hc2, dec1_no n1 n2 (fun q => hc2 ⟨q.2.2.2.2.2.1, q.2.2.2.2.2.2.1⟩) n4]
          rfl
      · rw [if_neg hc, dec1_no n1 n2 (fun q => hc ⟨q.2.2.2.1, q.2.2.2.2.1⟩) n4]
        rfl
  have n3 : ¬ is3 b := fun q => by have := q.2; omega
  rw [if_neg c4]
  by_cases c5 : yB b 0 < 248
  · rw [if_pos c5]
    by_cases hl : b.length < 4
    · rw [dec1_no n1 n2 n3 (fun q => by have := q.1; omega)]
      rw [show ((4 : Int) == 0) = false from rfl, cond_false, show ((4 : Int) == 1) = false from rfl, dF (show ¬ (4 : Int) > 4 by omega), dT (show (b.length : Int) < 4 by omega)]
      rfl
    · rw [show ((4 : Int) == 0) = false from rfl, cond_false, show ((4 : Int) == 1) = false from rfl, dF (show ¬ (4 : Int) > 4 by omega), dF (show ¬ (b.length : Int) < 4 by omega)]
      simp only [Bool.false_eq_true, if_false, cond_false]
      rw [grd (dT (show W64 (7 - 4) ≥ 0 by decide)), grd (aT (dT (by omega)) (aT (dT (by omega)) (dT (by omega)))), show W64 (arI .shl .i64 1 (W64 (7 - 4)) - 1) = 7 by decide, mk.2.2, show (4 : Int) = ((4 : Nat) : Int) from rfl, sub1, take4 (by omega)]
      refine (first_l1 _ _ 3 0 _ rfl (by omega) (by omega) (by simp)).trans ?_
      rw [show List.drop 0 (List.drop 1 [o8 (yB b 0), o8 (yB b 1), o8 (yB b 2), o8 (yB b 3)]) = [o8 (yB b 1), o8 (yB b 2), o8 (yB b 3)] from rfl]
      unfold contS
      rw [i8_o8 (by omega) (by omega)]
      by_cases hc : 128 ≤ yB b 1 ∧ yB b 1 < 192
      · rw [if_pos hc]
        unfold contS
        rw [i8_o8 (by omega) (by omega)]
        by_cases hc2 : 128 ≤ yB b 2 ∧ yB b 2 < 192
        · rw [if_pos hc2]
          unfold contS
          rw [i8_o8 (by omega) (by omega)]
          by_cases hc3 : 128 ≤ yB b 3 ∧ yB b 3 < 192
          · rw [if_pos hc3]
            unfold contS endS
            have ed : ((yB b 0 % 8 * 64 + (yB b 1 - 128)) * 64 + (yB b 2 - 128)) * 64 + (yB b 3 - 128) = d4 b := by unfold d4; omega
            rw [ed]
            by_cases hd : 65536 ≤ d4 b ∧ d4 b ≤ 1114111
            · rw [dec1_is4 ⟨by omega, by omega, by omega, hc.1, hc.2, hc2.1, hc2.2, hc3.1, hc3.2, hd⟩]
              dsimp only
              rw [if_pos]
              unfold manyC
              refine ⟨by rw [rightC_iff]; omega, ?_⟩
              rw [if_neg (by omega), if_neg (by omega), if_neg (by omega)]; rfl
            · rw [dec1_no n1 n2 n3 (fun q => hd q.2.2.2.2.2.2.2.2.2)]
              dsimp only
              rw [if_neg]
              · rfl
              intro q
              have q1 := rightC_iff.1 q.1
              have q2 := q.2
              unfold manyC at q2
              revert q2
              repeat' split
              all_goals omega
          · rw [if_neg hc3, dec1_no n1 n2 n3 (fun q => hc3 ⟨q.2.2.2.2.2.2.2.1, q.2.2.2.2.2.2.2.2.1⟩)]
            rfl
        · rw [if_neg hc2, dec1_no n1 n2 n3 (fun q => hc2 ⟨q.2.2.2.2.2.1, q.2.2.2.2.2.2.1⟩)]
          rfl
      · rw [if_neg hc, dec1_no n1 n2 n3 (fun q => hc ⟨q.2.2.2.1, q.2.2.2.2.1⟩)]
        rfl
  rw [if_neg c5, dec1_no n1 n2 n3 (fun q => by have := q.2; omega)]
  rfl

theorem utf_dec_l0 : ∀ (k : Nat) (b : List UInt8) (out : List Int), b.length ≤ k → out.length + b.length ≤ 1000000000000 → utf_Decode_l0 (b, out) = some (out ++ decS b) := by
  intro k
  induction k with
  | zero =>
    intro b out h1 h2
    rw [utf_Decode_l0_eq, utf_Decode_l0_F]
    dsimp only
    rw [cF (dF (by omega)), List.length_eq_zero_iff.1 (by omega : b.length = 0), decS_nil, List.append_nil]
  | succ k ih =>
    intro b out h1 h2
    rw [utf_Decode_l0_eq, utf_Decode_l0_F]
    dsimp only
    by_cases hb : 1 ≤ b.length
    · have q := dec1_ok b hb
      rw [cT (dT (by omega)), utf_first_ok hb, bS]
      dsimp only
      rw [grd (dT (by simp; omega)), grd (aT (dT (by omega)) (aT (dT (by omega)) (dT (by omega)))), sub_len, show (((dec1 b).2 : Nat) : Int).toNat = (dec1 b).2 by omega, ih _ _ (by simp; omega) (by simp; omega), decS_cons hb]
      simp
    · rw [cF (dF (by omega)), List.length_eq_zero_iff.1 (by omega : b.length = 0), decS_nil, List.append_nil]
theorem utf_Decode_ok {b : List UInt8} (hb : b.length ≤ 1000000000000) : utf_Decode b = some (decS b) := by
  refine utf_Decode_of ?_
  unfold utf_Decode_b
  rw [utf_dec_l0 b.length b [] (by omega) (by simpa using hb)]
  rfl
end Rk
