/- The plain part: what the functions answer. No condition. -/
import Derived.Test.YtfmdnoljlbfjbaaDoorPu10g
set_option linter.unusedVariables false
set_option linter.unusedSimpArgs false
namespace Rk
open Go

/-! Numbers, as the document reads them. -/
def valN : List UInt8 → Nat
  | [] => 0
  | x :: t => x.toNat % 128 + 128 * valN t
theorem valN_lt : ∀ (l : List UInt8) (n : Nat), l.length ≤ n → valN l < 128 ^ n
  | [], n, _ => Nat.pow_pos (by decide)
  | x :: t, 0, h => by simp at h
  | x :: t, n + 1, h => by
    have := valN_lt t n (by simpa using h)
    unfold valN
    rw [Nat.pow_succ]
    omega
theorem valN_snoc : ∀ (l : List UInt8) (x : UInt8), valN (l ++ [x]) = valN l + (x.toNat % 128) * 128 ^ l.length
  | [], x => by simp [valN]
  | y :: l, x => by
    rw [List.cons_append, valN, valN_snoc l x, valN, List.length_cons, Nat.pow_succ, Nat.mul_add, ← Nat.add_assoc]
    congr 1
    rw [Nat.mul_comm 128, Nat.mul_assoc]

theorem rdN_skip : ∀ (k : Nat) (b : List UInt8) (n v : Nat), n + k ≤ 9 → k ≤ b.length → (∀ j (h : j < b.length), j < k → 128 ≤ (b[j]).toNat) → rdN n v b = rdN (n + k) (v + valN (b.take k) * 128 ^ n) (b.drop k)
  | 0, b, n, v, _, _, _ => by simp [valN]
  | k + 1, [], n, v, _, h, _ => by simp at h
  | k + 1, x :: b, n, v, h1, h2, h3 => by
    have hx := h3 0 (by simp) (by omega)
    rw [List.getElem_cons_zero] at hx
    rw [rdN, if_neg (by omega), if_neg (by omega), rdN_skip k b (n + 1) _ (by omega) (by simpa using h2) (fun j h hj => by
      have := h3 (j + 1) (by simpa using h) (by omega)
      simpa using this), List.take_succ_cons, List.drop_succ_cons, valN]
    congr 1
    · omega
    · rw [Nat.pow_succ, Nat.add_mul, Nat.add_assoc]
      congr 1
      rw [Nat.mul_comm 128 (valN _), Nat.mul_assoc, Nat.mul_comm 128 (128 ^ n)]

theorem encN_last : ∀ (n v : Nat), v < 128 ^ (n + 1) → 0 < v → ∃ y, (encN v).getLast? = some y ∧ y.toNat ≠ 0
  | 0, v, h, h0 => by
    rw [encN_lt (by simpa using h)]
    refine ⟨o8 v, rfl, ?_⟩
    have := i8_o8 (n := (v : Int)) (by omega) (by simp at h; omega)
    unfold i8 at this
    omega
  | n + 1, v, h, h0 => by
    by_cases hv : v < 128
    · rw [encN_lt hv]
      refine ⟨o8 v, rfl, ?_⟩
      have := i8_o8 (n := (v : Int)) (by omega) (by omega)
      unfold i8 at this
      omega
    · obtain ⟨y, h1, h2⟩ := encN_last n (v / 128) (by rw [Nat.pow_succ] at h; omega) (by omega)
      rw [encN_ge hv]
      refine ⟨y, ?_, h2⟩
      rw [List.getLast?_cons, h1]
      rfl

theorem encN_val : ∀ (l : List UInt8) (x : UInt8), (∀ y ∈ l, 128 ≤ y.toNat) → x.toNat < 128 → (l = [] ∨ x.toNat ≠ 0) → encN (valN (l ++ [x])) = l ++ [x]
  | [], x, _, hx, _ => by
    simp only [List.nil_append, valN, Nat.mul_zero, Nat.add_zero]
    rw [Nat.mod_eq_of_lt hx, encN_lt hx]
    rw [o8_toNat]
  | y :: l, x, h, hx, h0 => by
    have h0' : x.toNat ≠ 0 := by
      rcases h0 with h0 | h0
      · cases h0
      · exact h0
    have ih := encN_val l x (fun z hz => h z (List.mem_cons_of_mem _ hz)) hx (Or.inr h0')
    have hy := h y (List.mem_cons_self ..)
    have hy2 := y.toNat_lt
    have hpos : 0 < valN (l ++ [x]) := by
      rw [valN_snoc]
      have : 0 < 128 ^ l.length := Nat.pow_pos (by decide)
      have : 0 < x.toNat % 128 * 128 ^ l.length := Nat.mul_pos (by omega) this
      omega
    rw [List.cons_append, valN, encN_ge (by omega)]
    have e1 : (y.toNat % 128 + 128 * valN (l ++ [x])) / 128 = valN (l ++ [x]) := by omega
    have e2 : ((y.toNat % 128 + 128 * valN (l ++ [x])) % 128 + 128 : Nat) = y.toNat := by omega
    rw [e1, e2, ih, o8_toNat]

theorem firstr_l0 (b : List UInt8) (hb : b.length ≤ 1000000000000) : ∀ (n i : Nat), i + n = 9 → i ≤ b.length → (∀ j (h : j < b.length), j < i → 128 ≤ (b[j]).toNat) →
    ∃ k : Nat, ref02_First_l0 ((i : Int), b) = some (b, (k : Int)) ∧ k ≤ 9 ∧ k ≤ b.length ∧ (∀ j (h : j < b.length), j < k → 128 ≤ (b[j]).toNat) ∧ (k < 9 → ∀ h : k < b.length, (b[k]).toNat < 128) := by
  intro n
  induction n with
  | zero =>
    intro i hi hib h
    refine ⟨i, ?_, by omega, hib, h, fun q => by omega⟩
    rw [ref02_First_l0_eq]
    dsimp only
    rw [dF (show ¬ (i : Int) < 9 by omega)]
    cases decide ((i : Int) < (b.length : Int)) <;> rfl
  | succ n ih =>
    intro i hi hib h
    by_cases hlt : i < b.length
    · rw [ref02_First_l0_eq]
      dsimp only
      rw [dT (show (i : Int) < (b.length : Int) by omega), dT (show (i : Int) < 9 by omega), dT (show (0 : Int) ≤ (i : Int) by omega), idx_nat hlt]
      simp only [if_true, Bool.not_true, Bool.false_or, Bool.and_true, Bool.and_self, cond_true]
      by_cases h128 : 128 ≤ (b[i]).toNat
      · rw [cT (dT (by unfold i8; omega)), W64_in (by omega) (by omega), show (i : Int) + 1 = ((i + 1 : Nat) : Int) by omega]
        exact ih (i + 1) (by omega) (by omega) (fun j hj hji => by
          rcases Nat.lt_or_eq_of_le (Nat.le_of_lt_succ hji) with q | q
          · exact h j hj q
          · subst q; exact h128)
      · rw [cF (dF (by unfold i8; omega))]
        exact ⟨i, rfl, by omega, hib, h, fun _ _ => by omega⟩
    · refine ⟨i, ?_, by omega, hib, h, fun _ q => absurd q hlt⟩
      rw [ref02_First_l0_eq]
      dsimp only
      rw [dF (show ¬ (i : Int) < (b.length : Int) by omega)]
      rfl

theorem firstr_l1 (b : List UInt8) (i : Nat) (hi : i < b.length) (h9 : i < 9) : ∀ (k : Nat), k ≤ i + 1 → ref02_First_l1 ((k : Int) - 1, b, (valN ((b.take (i + 1)).drop k) : Int), (i : Int)) = some ((i : Int), (valN (b.take (i + 1)) : Int), b) := by
  intro k
  induction k with
  | zero =>
    intro _
    rw [ref02_First_l1_eq]
    dsimp only
    rw [cF (dF (by omega)), List.drop_zero]
  | succ k ih =>
    intro hk
    have e : (b.take (i + 1)).drop k = b[k]'(by omega) :: (b.take (i + 1)).drop (k + 1) := by
      rw [List.drop_eq_getElem_cons (l := b.take (i + 1)) (i := k) (by simp; omega), List.getElem_take]
    have hv := valN_lt ((b.take (i + 1)).drop (k + 1)) 8 (by simp; omega)
    rw [show (128 : Nat) ^ 8 = 72057594037927936 from rfl] at hv
    have ih' := ih (by omega)
    rw [e, valN] at ih'
    rw [ref02_First_l1_eq]
    dsimp only
    rw [show ((k + 1 : Nat) : Int) - 1 = (k : Int) by omega, cT (dT (by omega)), grd (aT (dT (by omega)) (dT (by omega))), grd (show ((128 : Int) != 0) = true from rfl), idx_nat (l := b) (i := k) (by omega)]
    have hx := i8_lt (b[k]'(by omega))
    have hx0 := i8_nn (b[k]'(by omega))
    have er : arI .rem .i64 (W64 (i8 (b[k]'(by omega)))) 128 = (((b[k]'(by omega)).toNat % 128 : Nat) : Int) := by
      rw [W64_in (by omega) (by omega)]
      unfold i8
      show ((((b[k]'(by omega)).toNat : Nat) : Int)).tmod 128 = _
      rw [Int.tmod_eq_emod_of_nonneg (by omega)]
      omega
    rw [er, W64_in (x := (k : Int) - 1) (by omega) (by omega), W64_in (x := (valN ((b.take (i + 1)).drop (k + 1)) : Int) * 128) (by omega) (by omega), W64_in (by omega) (by omega), ← ih']
    congr 4
    omega

/-- What the document's reader answers. -/
def firS (t : Nat × Nat × Nat) : Int × Int × Int := ((t.2.1 : Int), (t.2.2 : Int), (t.1 : Int))

theorem ref02_First_ok {b : List UInt8} (hb : b.length ≤ 1000000000000) : ref02_First b = some (firS (rdN 0 0 b)) := by
  refine ref02_First_of ?_
  unfold ref02_First_b
  obtain ⟨k, h1, h2, h3, h4, h5⟩ := firstr_l0 b hb 9 0 (by omega) (by omega) (fun j _ h => by omega)
  have h1' : ref02_First_l0 (0, b) = some (b, (k : Int)) := h1
  have hsk := rdN_skip k b 0 0 (by omega) h3 h4
  rw [Nat.zero_add, Nat.zero_add, Nat.pow_zero, Nat.mul_one] at hsk
  refine (bindE h1').trans ?_
  dsimp only
  by_cases h9 : k = 9
  · rw [cT (by simp [h9]), hsk, h9]
    cases b.drop 9 <;> rfl
  · rw [cF (by simp; omega)]
    by_cases hl : k = b.length
    · rw [cT (by simp [hl]), hsk, show b.drop k = [] from List.drop_eq_nil_of_le (by omega), rdN, if_neg h9]
      rfl
    · have hlt : k < b.length := by omega
      have hx := h5 (by omega) hlt
      have ht : b.take (k + 1) = b.take k ++ [b[k]] := List.take_succ_eq_append_getElem hlt
      have hv9 := valN_lt (b.take (k + 1)) 9 (by simp; omega)
      rw [show (128 : Nat) ^ 9 = 9223372036854775808 from rfl] at hv9
      have hval : valN (b.take (k + 1)) = valN (b.take k) + (b[k]).toNat * 128 ^ k := by
        rw [ht, valN_snoc, Nat.mod_eq_of_lt hx, List.length_take, Nat.min_eq_left (by omega)]
      have e1 := firstr_l1 b k hlt (by omega) (k + 1) (Nat.le_refl _)
      rw [show (b.take (k + 1)).drop (k + 1) = [] from List.drop_eq_nil_of_le (by simp; omega), show ((k + 1 : Nat) : Int) - 1 = (k : Int) by omega] at e1
      have e1' : ref02_First_l1 ((k : Int), b, 0, (k : Int)) = some ((k : Int), (valN (b.take (k + 1)) : Int), b) := e1
      rw [cF (by simp; omega)]
      refine (bindE e1').trans ?_
      dsimp only
      rw [hsk, List.drop_eq_getElem_cons (l := b) (i := k) hlt, rdN, if_neg h9, if_pos hx, ← hval]
      rw [W64_in (x := (k : Int) + 1) (by omega) (by omega)]
      have hsub : sub b 0 ((k : Int) + 1) = b.take (k + 1) := by rw [sub_zero, show ((k : Int) + 1).toNat = k + 1 by omega]
      rw [hsub]
      by_cases hbig : valN (b.take (k + 1)) ≤ 4611686018427387904
      · rw [dF (show ¬ (valN (b.take (k + 1)) : Int) > 4611686018427387904 by omega)]
        have hN := ref02_Num_ok' (x := (valN (b.take (k + 1)) : Int)) (by omega) (by omega)
        rw [Int.toNat_natCast] at hN
        refine (bindE ((cT rfl).trans hN)).trans ?_
        rw [grd (by rw [dT (show (0 : Int) ≤ 0 by omega), dT (show (0 : Int) ≤ (k : Int) + 1 by omega), dT (show (k : Int) + 1 ≤ (b.length : Int) by omega)]; rfl)]
        by_cases hz : (b[k]).toNat = 0 ∧ 0 < k
        · rw [if_pos hz]
          have hne : (encN (valN (b.take (k + 1))) == b.take (k + 1)) = false := by
            rw [beq_eq_false_iff_ne]
            intro q
            have hlen := congrArg List.length q
            rw [List.length_take, Nat.min_eq_left (by omega)] at hlen
            have hvpos : 0 < valN (b.take (k + 1)) := by
              rcases Nat.eq_zero_or_pos (valN (b.take (k + 1))) with z | z
              · rw [z, encN_lt (by decide)] at hlen
                simp at hlen
                omega
              · exact z
            obtain ⟨y, y1, y2⟩ := encN_last 9 (valN (b.take (k + 1))) (by omega) hvpos
            rw [q, ht, List.getLast?_append] at y1
            simp at y1
            rw [← y1] at y2
            exact y2 hz.1
          rw [hne]
          rfl
        · rw [if_neg hz, if_neg (show ¬ 4611686018427387904 < valN (b.take (k + 1)) by omega)]
          have he : encN (valN (b.take (k + 1))) = b.take (k + 1) := by
            rw [ht]
            refine encN_val _ _ (fun y hy => ?_) hx ?_
            · obtain ⟨j, hj, rfl⟩ := List.getElem_of_mem hy
              rw [List.length_take] at hj
              rw [List.getElem_take]
              exact h4 j (by omega) (by omega)
            · by_cases h0 : k = 0
              · left; rw [h0]; rfl
              · right; intro q; exact hz ⟨q, by omega⟩
          rw [he]
          simp [firS]
      · rw [dT (show (valN (b.take (k + 1)) : Int) > 4611686018427387904 by omega)]
        have hr : (if (b[k]).toNat = 0 ∧ 0 < k then ((2, 0, 0) : Nat × Nat × Nat) else if 4611686018427387904 < valN (b.take (k + 1)) then (2, 0, 0) else (0, valN (b.take (k + 1)), k + 1)) = (2, 0, 0) := by
          rw [if_pos (by omega : 4611686018427387904 < valN (b.take (k + 1)))]
          split <;> rfl
        rw [hr]
        rfl
end Rk
