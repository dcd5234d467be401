/- The plain part: what the functions answer. No condition. -/
import Derived.Test.YtfmdnoljlbfjbaaDoorPu02b
set_option linter.unusedVariables false
set_option linter.unusedSimpArgs false
namespace Rk
open Go

/-! ### What was written is read as it was -/

theorem rdN_enc : ∀ (k v n acc : Nat) (t : List UInt8), v < 128 ^ (k + 1) → v < 2 ^ 63 → (n = 0 ∨ 0 < v) → n + (encN v).length ≤ 9 → acc + v * 128 ^ n ≤ 4611686018427387904 →
    rdN n acc (encN v ++ t) = (0, acc + v * 128 ^ n, n + (encN v).length) := by
  intro k
  induction k with
  | zero =>
    intro v n acc t hv hm hz hl hmax
    simp at hv
    rw [encN_lt hv] at hl ⊢
    have e : (o8 (v : Int)).toNat = v := by
      have := i8_o8 (n := (v : Int)) (by omega) (by omega)
      unfold i8 at this; omega
    simp only [List.singleton_append, rdN, e, List.length_singleton] at hl ⊢
    rw [if_neg (by omega), if_pos hv, if_neg (by omega), if_neg (by omega)]
  | succ k ih =>
    intro v n acc t hv hm hz hl hmax
    by_cases hlt : v < 128
    · rw [encN_lt hlt] at hl ⊢
      have e : (o8 (v : Int)).toNat = v := by
        have := i8_o8 (n := (v : Int)) (by omega) (by omega)
        unfold i8 at this; omega
      simp only [List.singleton_append, rdN, e, List.length_singleton] at hl ⊢
      rw [if_neg (by omega), if_pos hlt, if_neg (by omega), if_neg (by omega)]
    · rw [encN_ge hlt] at hl ⊢
      have e : (o8 ((v % 128 + 128 : Nat) : Int)).toNat = v % 128 + 128 := by
        have := i8_o8 (n := ((v % 128 + 128 : Nat) : Int)) (by omega) (by omega)
        unfold i8 at this; omega
      simp only [List.cons_append, rdN, e, List.length_cons] at hl ⊢
      have hsum : acc + (v % 128 + 128) % 128 * 128 ^ n + v / 128 * 128 ^ (n + 1) = acc + v * 128 ^ n := by
        have e1 : (v % 128 + 128) % 128 = v % 128 := by omega
        rw [e1, Nat.pow_succ]
        have e2 : v / 128 * (128 ^ n * 128) = (v / 128 * 128) * 128 ^ n := by rw [Nat.mul_assoc, Nat.mul_comm (128 ^ n)]
        rw [e2, Nat.add_assoc, ← Nat.add_mul]
        congr 2
        omega
      rw [if_neg (by omega), if_neg (by omega), ih (v / 128) (n + 1) _ t (by rw [Nat.pow_succ] at hv; omega) (by omega) (by omega) (by omega) (by rw [hsum]; exact hmax), hsum]
      congr 2
      omega

theorem rdN_back {v : Nat} (hv : v ≤ 4611686018427387904) (t : List UInt8) : rdN 0 0 (encN v ++ t) = (0, v, (encN v).length) := by
  have := rdN_enc 8 v 0 0 t (by omega) (by omega) (.inl rfl) (by have := encN_9 (v := v) (by omega); omega) (by omega)
  simpa using this

theorem rdC_back {v : Nat} {most : Int} (hv : v ≤ 4611686018427387904) (hm : (v : Int) ≤ most) (t : List UInt8) : rdC most (encN v ++ t) = (0, v, (encN v).length) := by
  unfold rdC
  rw [rdN_back hv]
  simp only
  rw [if_neg (by simp; omega)]

theorem rdT_back {s : List UInt8} {most : Int} (hs : s.length ≤ 10000000) (hm : (s.length : Int) ≤ most) (t : List UInt8) : rdT most (encT s ++ t) = (0, s, (encT s).length) := by
  unfold rdT encT
  rw [List.append_assoc, rdC_back (by omega) hm]
  simp only [if_true, List.length_append]
  rw [if_neg (by omega)]
  simp

/-! ### What is written is what the document says -/

/-! ### What is read was written just so -/

theorem o8_toNat (x : UInt8) : o8 ((x.toNat : Nat) : Int) = x := o8_i8 x

end Rk
