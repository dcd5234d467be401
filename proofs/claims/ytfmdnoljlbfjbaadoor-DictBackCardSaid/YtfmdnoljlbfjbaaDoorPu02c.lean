/- The plain part: what the functions answer. No condition. -/
import Derived.Test.YtfmdnoljlbfjbaaDoorPu02b
set_option linter.unusedVariables false
set_option linter.unusedSimpArgs false
namespace Rk
open Go

/-! ### What was written is read as it was -/

theorem rdN_enc : ∀ (k v n acc : Nat) (t : List UInt8), v < 128 ^ (k + 1) → v < 2 ^ 63 → (n = 0 ∨ 0 < v) → n + (encN v).length ≤ 9 → acc + v * 128 ^ n ≤ 4611686018427387904 →
    rdN n acc (encN v ++ t) = (0, acc + v * 128 ^ n, n + (encN v).length) := by
  intro k
  induction k with
  | zero =>
    intro v n acc t hv hm hz hl hmax
    simp at hv
    rw [encN_lt hv] at hl ⊢
    have e : (o8 (v : Int)).toNat = v := by
      have := i8_o8 (n := (v : Int)) (by omega) (by omega)
      unfold i8 at this; omega
    simp only [List.singleton_append, rdN, e, List.length_singleton] at hl ⊢
    rw [if_neg (by omega), if_pos hv, if_neg (by omega), if_neg (by omega)]
  | succ k ih =>
    intro v n acc t hv hm hz hl hmax
    by_cases hlt : v < 128
    · rw [encN_lt hlt] at hl ⊢
      have e : (o8 (v : Int)).toNat = v := by
        have := i8_o8 (n := (v : Int)) (by omega) (by omega)
        unfold i8 at this; omega
      simp only [List.singleton_append, rdN, e, List.length_singleton] at hl ⊢
      rw [if_neg (by omega), if_pos hlt, if_neg (by omega), if_neg (by omega)]
    · rw [encN_ge hlt] at hl ⊢
      have e : (o8 ((v % 128 + 128 : Nat) : Int)).toNat = v % 128 + 128 := by
        have := i8_o8 (n := ((v % 128 + 128 : Nat) : Int)) (by omega) (by omega)
        unfold i8 at this; omega
      simp only [List.cons_append, rdN, e, List.length_cons] at hl ⊢
      have hsum : acc + (v % 128 + 128) % 128 * 128 ^ n + v / 128 * 128 ^ (n + 1) = acc + v * 128 ^ n := by
        have e1 : (v % 128 + 128) % 128 = v % 128 := by omega
        rw [e1, Nat.pow_succ]
        have e2 : v / 128 * (128 ^ n * 128) = (v / 128 * 128) * 128 ^ n := by rw [Nat.mul_assoc, Nat.mul_comm (128 ^ n)]
        rw [e2, Nat.add_assoc, ← Nat.add_mul]
        congr 2
        omega
      rw [if_neg (by omega), if_neg (by omega), ih (v / 128) (n + 1) _ t (by rw [Nat.pow_succ] at hv; omega) (by omega) (by omega) (by omega) (by rw [hsum]; exact hmax), hsum]
      congr 2
      omega

theorem rdN_back {v : Nat} (hv : v ≤ 4611686018427387904) (t : List UInt8) : rdN 0 0 (encN v ++ t) = (0, v, (encN v).length) := by
  have := rdN_enc 8 v 0 0 t (by omega) (by omega) (.inl rfl) (by have := encN_9 (v := v) (by omega); omega) (by omega)
  simpa using this

theorem rdC_back {v : Nat} {most : Int} (hv : v ≤ 4611686018427387904) (hm : (v : Int) ≤ most) (t : List UInt8) : rdC most (encN v ++ t) = (0, v, (encN v).length) := by
  unfold rdC
  rw [rdN_back hv]
  simp only
  rw [if_neg (by simp; omega)]

theorem rdT_back {s : List UInt8} {most : Int} (hs : s.length ≤ 10000000) (hm : (s.length : Int) ≤ most) (t : List UInt8) : rdT most (encT s ++ t) = (0, s, (encT s).length) := by
  unfold rdT encT
  rw [List.append_assoc, rdC_back (by omega) hm]
  simp only [if_true, List.length_append]
  rw [if_neg (by omega)]
  simp

/-! ### What is written is what the document says -/

/-! ### What is read was written just so -/

theorem o8_toNat (x : UInt8) : o8 ((x.toNat : Nat) : Int) = x := o8_i8 x

theorem rdN_only : ∀ (l : List UInt8) (n acc : Nat), (rdN n acc l).1 = 0 → ∃ w, (rdN n acc l).2.1 = acc + w * 128 ^ n ∧ l.take ((rdN n acc l).2.2 - n) = encN w ∧ (0 < n → 0 < w)
  | [], n, acc, h => by
    simp only [rdN] at h
    split at h <;> simp at h
  | x :: r, n, acc, h => by
    simp only [rdN] at h ⊢
    by_cases h9 : n = 9
    · rw [if_pos h9] at h; simp at h
    · rw [if_neg h9] at h ⊢
      by_cases hx : x.toNat < 128
      · rw [if_pos hx] at h ⊢
        by_cases hz : x.toNat = 0 ∧ 0 < n
        · rw [if_pos hz] at h; simp at h
        · rw [if_neg hz] at h ⊢
          by_cases hm : 4611686018427387904 < acc + x.toNat * 128 ^ n
          · rw [if_pos hm] at h; simp at h
          · rw [if_neg hm]
            refine ⟨x.toNat, rfl, ?_, fun hn => by omega⟩
            dsimp only
            rw [show n + 1 - n = 1 by omega, encN_lt hx, o8_toNat]
            rfl
      · rw [if_neg hx] at h ⊢
        obtain ⟨w, h1, h2, h3⟩ := rdN_only r (n + 1) _ h
        obtain ⟨q1, q2, q3⟩ := rdN_le r (n + 1) _ h
        have hw := h3 (by omega)
        have hxl := x.toNat_lt
        refine ⟨x.toNat % 128 + 128 * w, ?_, ?_, fun _ => by omega⟩
        · rw [h1, Nat.pow_succ, Nat.add_mul, Nat.add_assoc]
          congr 2
          rw [Nat.mul_comm 128 w, Nat.mul_assoc, Nat.mul_comm 128]
        · have e1 : (rdN (n + 1) (acc + x.toNat % 128 * 128 ^ n) r).2.2 - n = ((rdN (n + 1) (acc + x.toNat % 128 * 128 ^ n) r).2.2 - (n + 1)) + 1 := by omega
          rw [e1, List.take_succ_cons, h2, encN_ge (v := x.toNat % 128 + 128 * w) (by omega)]
          congr 1
          · have : (x.toNat % 128 + 128 * w) % 128 + 128 = x.toNat := by omega
            rw [this, o8_toNat]
          · congr 1
            omega

/-- A text that is read, taken apart. -/
theorem rdT_parts {most : Int} {l s : List UInt8} {c : Nat} (h : rdT most l = (0, s, c)) : ∃ v m, rdC most l = (0, v, m) ∧ m + v ≤ l.length ∧ s = (l.drop m).take v ∧ c = m + v ∧ (v : Int) ≤ most ∧ 0 < m := by
  unfold rdT at h
  simp only at h
  by_cases hc : (rdC most l).1 = 0
  · rw [if_pos hc] at h
    obtain ⟨q1, q2, q3, q4, q5⟩ := rdC_le hc
    by_cases hlt : l.length < (rdC most l).2.2 + (rdC most l).2.1
    · rw [if_pos hlt] at h; simp at h
    · rw [if_neg hlt] at h
      simp only [Prod.mk.injEq, true_and] at h
      exact ⟨(rdC most l).2.1, (rdC most l).2.2, by rw [← hc], by omega, h.1.symm, h.2.symm, q4, q1⟩
  · rw [if_neg hc] at h
    simp only [Prod.mk.injEq] at h
    exact absurd h.1 hc

theorem rdC_only {most : Int} {l : List UInt8} {v m : Nat} (h : rdC most l = (0, v, m)) : l.take m = encN v := by
  obtain ⟨q1, q2, q3, q4, q5⟩ := rdC_le (most := most) (l := l) (by rw [h])
  rw [q5] at h
  obtain ⟨w, h1, h2, _⟩ := rdN_only l 0 0 (by rw [h])
  rw [h] at h1 h2
  simp at h1 h2
  rw [h1, h2]

theorem rdT_only {most : Int} {l s : List UInt8} {c : Nat} (h : rdT most l = (0, s, c)) : l.take c = encT s ∧ c ≤ l.length := by
  obtain ⟨v, m, h1, h2, rfl, rfl, h3, h4⟩ := rdT_parts h
  refine ⟨?_, h2⟩
  unfold encT
  have hl : ((l.drop m).take v).length = v := by simp; omega
  rw [hl, ← rdC_only h1, List.take_add]

end Rk
