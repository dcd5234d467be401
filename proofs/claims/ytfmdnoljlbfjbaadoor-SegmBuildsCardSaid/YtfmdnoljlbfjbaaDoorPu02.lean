/- The plain part: what the functions answer. No condition. -/
import Derived.Test.YtfmdnoljlbfjbaaDoorS1
set_option linter.unusedVariables false
set_option linter.unusedSimpArgs false
namespace Rk
open Go

/-- A number's bytes. -/
def encN (v : Nat) : List UInt8 := if h : v < 128 then [o8 v] else o8 ((v % 128 + 128 : Nat) : Int) :: encN (v / 128)
  termination_by v
  decreasing_by omega

theorem encN_lt {v : Nat} (h : v < 128) : encN v = [o8 v] := by rw [encN, dif_pos h]
theorem encN_ge {v : Nat} (h : ¬ v < 128) : encN v = o8 ((v % 128 + 128 : Nat) : Int) :: encN (v / 128) := by rw [encN, dif_neg h]

theorem encN_len : ∀ (n v : Nat), v < 128 ^ (n + 1) → (encN v).length ≤ n + 1 := by
  intro n
  induction n with
  | zero => intro v h; rw [encN_lt (by simpa using h)]; simp
  | succ n ih =>
    intro v h
    by_cases hlt : v < 128
    · rw [encN_lt hlt]; simp
    · rw [encN_ge hlt]
      have := ih (v / 128) (by rw [Nat.pow_succ] at h; omega)
      simp; omega

theorem encN_9 {v : Nat} (h : v < 2 ^ 63) : (encN v).length ≤ 9 := encN_len 8 v (by simpa using h)

theorem code_num_loop : ∀ (n : Nat) (v : Nat) (b : List UInt8), v < 128 ^ (n + 1) → v < 2 ^ 63 → b.length + n ≤ 70368744177664 →
    ∃ p q, code_num_l0 ((v : Int), b) = some (b ++ p, q) ∧ 0 ≤ q ∧ q < 128 ∧ encN v = p ++ [o8 q] ∧ p.length ≤ n := by
  intro n
  induction n with
  | zero =>
    intro v b hv hm hb
    simp at hv
    refine ⟨[], v, ?_, by omega, by omega, by rw [encN_lt hv]; rfl, by simp⟩
    rw [code_num_l0_eq, code_num_l0_F]
    dsimp only
    have : ¬ ((v : Int) ≥ (128 : Int)) := by omega
    rw [cF (dF this), List.append_nil]
  | succ n ih =>
    intro v b hv hm hb
    by_cases hlt : v < 128
    · refine ⟨[], v, ?_, by omega, by omega, by rw [encN_lt hlt]; rfl, by simp⟩
      rw [code_num_l0_eq, code_num_l0_F]
      dsimp only
      have : ¬ ((v : Int) ≥ (128 : Int)) := by omega
      rw [cF (dF this), List.append_nil]
    · obtain ⟨p, q, h1, h2, h3, h4, h5⟩ := ih (v / 128) (b ++ [o8 ((v % 128 + 128 : Nat) : Int)]) (by rw [Nat.pow_succ] at hv; omega) (by omega) (by simp; omega)
      refine ⟨o8 ((v % 128 + 128 : Nat) : Int) :: p, q, ?_, h2, h3, by rw [encN_ge hlt, h4]; rfl, by simp; omega⟩
      rw [code_num_l0_eq, code_num_l0_F]
      dsimp only
      have e1 : arI .or .u8 (i8 (o8 (IntKind.wrap .u8 (v : Int)))) 128 = ((v % 128 + 128 : Nat) : Int) := by
        rw [wrap8, i8_o8 (by omega) (by omega), or128 (by omega) (by omega)]; omega
      have e2 : arI .shr .i64 (v : Int) 7 = ((v / 128 : Nat) : Int) := by rw [shr7 (by omega)]; omega
      simp only [e1, e2, List.append_nil]
      have hge : (v : Int) ≥ 128 := by omega
      rw [cT (dT hge), grd (dT (by simp only [List.length_append, List.length_cons, List.length_nil]; omega)), grd (dT (by decide)), h1]
      simp

theorem code_num_ok {v : Nat} {b : List UInt8} (hv : v < 2 ^ 63) (hb : b.length ≤ 70368744177000) : code_num (v : Int) b = some (b ++ encN v) := by
  have hp : v < 128 ^ (8 + 1) := by omega
  obtain ⟨p, q, h1, h2, h3, h4, h5⟩ := code_num_loop 8 v b hp hv (by omega)
  refine code_num_of ?_
  unfold code_num_b
  have e : IntKind.wrap .u8 q = q := by rw [wrap8]; omega
  rw [h1, bS]
  dsimp only
  simp only [e, List.append_nil]
  rw [grd (dT (by simp only [List.length_append, List.length_cons, List.length_nil]; omega)), h4, List.append_assoc]

theorem code_Num_ok {v : Nat} {b : List UInt8} (hv : v ≤ 4611686018427387904) (hb : b.length ≤ 70368744177000) : code_Num b (v : Int) = some (0, b ++ encN v) := by
  refine code_Num_of ?_
  unfold code_Num_b
  have h1 : ¬ ((v : Int) < 0) := by omega
  have h2 : ¬ ((v : Int) > (4611686018427387904 : Int)) := by omega
  rw [dF h1, dF h2, List.nil_append, code_num_ok (by omega) hb]
  rw [cF (by rfl), grd (dT (by omega))]
  rfl

/-! ### Reading numbers -/

/-- A reader that may read. -/
structure RdOk (B : List UInt8) (At : Int) : Prop where
  lo : 0 ≤ At
  hi : At ≤ (B.length : Int)
  len : B.length ≤ 4611686018427387904

/-! ### Reading texts and lists -/

/-! ### Writing texts and lists -/

def encT (s : List UInt8) : List UInt8 := encN s.length ++ s
theorem code_Text_ok {b s : List UInt8} (hb : b.length ≤ 10000000) (hs : s.length ≤ 10000000) : code_Text b s = some (b ++ encT s) := by
  refine code_Text_of ?_
  unfold code_Text_b
  have := encN_9 (v := s.length) (by omega)
  rw [List.nil_append, grd (dT (by omega)), code_num_ok (by omega) (by omega), bS, grd (dT (by simp only [List.length_append]; omega)), List.append_assoc]
  rfl

end Rk
