/- The plain part: what the functions answer. No condition. -/
import Derived.Test.YtgofefjfckocbaaDoorPu02
set_option linter.unusedVariables false
set_option linter.unusedSimpArgs false
namespace Rk
open Go

/-! ### The reference -/

theorem ref02_Num_ok : ∀ (n v : Nat), v < 128 ^ (n + 1) → v < 2 ^ 63 → ref02_Num (v : Int) = some (encN v) := by
  intro n
  induction n with
  | zero =>
    intro v hv hm
    simp at hv
    refine ref02_Num_of ?_
    unfold ref02_Num_b
    rw [cT (dT (by omega)), encN_lt hv]
    have : IntKind.wrap .u8 (v : Int) = v := by rw [wrap8]; omega
    rw [this]; rfl
  | succ n ih =>
    intro v hv hm
    refine ref02_Num_of ?_
    unfold ref02_Num_b
    by_cases hlt : v < 128
    · rw [cT (dT (by omega)), encN_lt hlt]
      have : IntKind.wrap .u8 (v : Int) = v := by rw [wrap8]; omega
      rw [this]; rfl
    · have e1 : arI .quo .i64 (v : Int) 128 = ((v / 128 : Nat) : Int) := by rw [quo64 (by omega) (by omega) (by omega)]; omega
      have e2 : arI .rem .i64 (v : Int) 128 = ((v % 128 : Nat) : Int) := by
        show (v : Int).tmod 128 = _
        rw [Int.tmod_eq_emod_of_nonneg (by omega)]
        omega
      have e3 : IntKind.wrap .u8 (W64 (((v % 128 : Nat) : Int) + 128)) = ((v % 128 + 128 : Nat) : Int) := by rw [W64_in (by omega) (by omega), wrap8]; omega
      have := encN_9 (v := v / 128) (by omega)
      rw [cF (dF (by omega)), grd (by rfl), grd (by rfl), e1, ih (v / 128) (by rw [Nat.pow_succ] at hv; omega) (by omega), bS]
      rw [e2, e3]
      rw [grd (dT (by simp only [List.length_append, List.length_cons, List.length_nil]; omega)), encN_ge hlt]
      rfl

theorem ref02_Text_ok {s : List UInt8} (hs : s.length ≤ 10000000) : ref02_Text s = some (encT s) := by
  refine ref02_Text_of ?_
  unfold ref02_Text_b
  have := encN_9 (v := s.length) (by omega)
  rw [ref02_Num_ok 8 s.length (by omega) (by omega), bS, grd (dT (by simp only [List.length_append]; omega))]
  rfl

theorem encT_len {s : List UInt8} (h : s.length ≤ 10000000) : (encT s).length ≤ s.length + 9 := by
  have := encN_9 (v := s.length) (by omega)
  unfold encT
  simp only [List.length_append]; omega

theorem ref02_Same_loop (a b : List (List UInt8)) (hl : a.length = b.length) (hm : a.length ≤ 9223372036854775807) : ∀ (k i : Nat), i + k = a.length → ref02_Same_l0 ((i : Int), b, a) = some (decide (a.drop i = b.drop i)) := by
  intro k
  induction k with
  | zero =>
    intro i hk
    rw [ref02_Same_l0_eq]
    dsimp only
    rw [cF (dF (by omega)), List.drop_eq_nil_iff.2 (by omega), List.drop_eq_nil_iff.2 (by omega)]
    simp
  | succ k ih =>
    intro i hk
    rw [ref02_Same_l0_eq]
    dsimp only
    have hi : i < a.length := by omega
    have hi' : i < b.length := by omega
    have hW : W64 ((i : Int) + 1) = ((i + 1 : Nat) : Int) := by rw [W64_in (by omega) (by omega)]; omega
    rw [cT (dT (by omega)), grd (aT (dT (by omega)) (dT (by omega))), grd (aT (dT (by omega)) (dT (by omega))), idx_nat hi, idx_nat hi', hW, ih (i + 1) (by omega)]
    rw [List.drop_eq_getElem_cons hi, List.drop_eq_getElem_cons hi']
    by_cases he : a[i] = b[i]
    · have : (!(a[i] == b[i])) = false := by simp [he]
      rw [cF this]
      simp only [List.cons.injEq, he, true_and]
    · have : (!(a[i] == b[i])) = true := by simp [he]
      rw [cT this]
      simp only [List.cons.injEq, he, false_and, decide_false]

theorem ref02_Same_ok {a b : List (List UInt8)} (hm : a.length ≤ 9223372036854775807) : ref02_Same a b = some (decide (a = b)) := by
  refine ref02_Same_of ?_
  unfold ref02_Same_b
  by_cases hl : a.length = b.length
  · have : (((a.length : Nat) : Int) != ((b.length : Nat) : Int)) = false := by simp [hl]
    have h := ref02_Same_loop a b hl hm a.length 0 (by omega)
    rw [show ((0 : Nat) : Int) = 0 from rfl] at h
    rw [cF this, h]
    simp
  · have : (((a.length : Nat) : Int) != ((b.length : Nat) : Int)) = true := by simp; omega
    rw [cT this]
    have : a ≠ b := fun e => hl (by rw [e])
    simp [this]

/-! ### The document's examples -/

/-! ### CodeSizes -/

end Rk
