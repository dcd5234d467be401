/- The plain part: what the functions answer. No condition. -/
import Derived.Test.YtfmdnoljlbfjbaaDoorPu02
set_option linter.unusedVariables false
set_option linter.unusedSimpArgs false
namespace Rk
open Go

/-! ### The reference -/

theorem ref02_Num_ok : ∀ (n v : Nat), v < 128 ^ (n + 1) → v < 2 ^ 63 → ref02_Num (v : Int) = some (encN v) := by
  intro n
  induction n with
  | zero =>
    intro v hv hm
    simp at hv
    refine ref02_Num_of ?_
    unfold ref02_Num_b
    rw [cT (dT (by omega)), encN_lt hv]
    have : IntKind.wrap .u8 (v : Int) = v := by rw [wrap8]; omega
    rw [this]; rfl
  | succ n ih =>
    intro v hv hm
    refine ref02_Num_of ?_
    unfold ref02_Num_b
    by_cases hlt : v < 128
    · rw [cT (dT (by omega)), encN_lt hlt]
      have : IntKind.wrap .u8 (v : Int) = v := by rw [wrap8]; omega
      rw [this]; rfl
    · have e1 : arI .quo .i64 (v : Int) 128 = ((v / 128 : Nat) : Int) := by rw [quo64 (by omega) (by omega) (by omega)]; omega
      have e2 : arI .rem .i64 (v : Int) 128 = ((v % 128 : Nat) : Int) := by
        show (v : Int).tmod 128 = _
        rw [Int.tmod_eq_emod_of_nonneg (by omega)]
        omega
      have e3 : IntKind.wrap .u8 (W64 (((v % 128 : Nat) : Int) + 128)) = ((v % 128 + 128 : Nat) : Int) := by rw [W64_in (by omega) (by omega), wrap8]; omega
      have := encN_9 (v := v / 128) (by omega)
      rw [cF (dF (by omega)), grd (by rfl), grd (by rfl), e1, ih (v / 128) (by rw [Nat.pow_succ] at hv; omega) (by omega), bS]
      rw [e2, e3]
      rw [grd (dT (by simp only [List.length_append, List.length_cons, List.length_nil]; omega)), encN_ge hlt]
      rfl

theorem ref02_Text_ok {s : List UInt8} (hs : s.length ≤ 10000000) : ref02_Text s = some (encT s) := by
  refine ref02_Text_of ?_
  unfold ref02_Text_b
  have := encN_9 (v := s.length) (by omega)
  rw [ref02_Num_ok 8 s.length (by omega) (by omega), bS, grd (dT (by simp only [List.length_append]; omega))]
  rfl

theorem encT_len {s : List UInt8} (h : s.length ≤ 10000000) : (encT s).length ≤ s.length + 9 := by
  have := encN_9 (v := s.length) (by omega)
  unfold encT
  simp only [List.length_append]; omega

/-! ### The document's examples -/

/-! ### CodeSizes -/

end Rk
