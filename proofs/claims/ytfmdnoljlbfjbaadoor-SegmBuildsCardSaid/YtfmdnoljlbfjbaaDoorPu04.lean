/- The plain part: what the functions answer. No condition. -/
import Derived.Test.YtfmdnoljlbfjbaaDoorPu15c
set_option linter.unusedVariables false
set_option linter.unusedSimpArgs false
namespace Rk
open Go

/-! Characters: chapter 4. -/
theorem bifS {α : Type} {c : Bool} {a b : α} : (bif c then some a else some b) = some (bif c then a else b) := by cases c <;> rfl
theorem orB {r d : Bool} : (if r = true then true else (bif (!r && true) then d else false)) = (r || d) := by cases r <;> cases d <;> rfl
theorem orI {r d : Bool} : (if r = true then true else d) = (r || d) := by cases r <;> cases d <;> rfl
theorem andI {r d : Bool} : (if r = true then d else false) = (r && d) := by cases r <;> cases d <;> rfl
theorem o8_eq {n : Int} {x : UInt8} (h0 : 0 ≤ n) (h1 : n < 256) : o8 n = x ↔ n = i8 x := by
  constructor
  · intro h; rw [← h, i8_o8 h0 h1]
  · intro h; rw [h, o8_i8]
theorem and63 {c : Int} (h0 : 0 ≤ c) (h1 : c < 9223372036854775808) : arI .and .i64 c 63 = c % 64 := by
  obtain ⟨n, rfl⟩ := Int.eq_ofNat_of_zero_le h0
  show IntKind.i64.wrap ((BitVec.ofInt 64 (n : Int) &&& BitVec.ofInt 64 63).toNat : Int) = _
  rw [BitVec.toNat_and, BitVec.ofInt_natCast, BitVec.toNat_ofNat, Nat.mod_eq_of_lt (by omega), show (BitVec.ofInt 64 63).toNat = 2 ^ 6 - 1 by decide, Nat.and_two_pow_sub_one_eq_mod]
  rw [IntWalk.i64_in _ (by omega)]
  omega
theorem shr6 {x : Int} (h0 : 0 ≤ x) : arI .shr .i64 x 6 = x / 64 := by
  show x.fdiv (2 ^ (min (6 : Int).toNat 64)) = x / 64
  rw [Int.fdiv_eq_ediv_of_nonneg _ (by decide)]
  rfl
theorem remI {x y : Int} (h0 : 0 ≤ x) (h1 : x < 9223372036854775808) (h2 : 1 ≤ y) : arI .rem .i64 x y = x % y := by
  exact Int.tmod_eq_emod_of_nonneg h0

def rightC (c : Int) : Bool := decide (0 ≤ c ∧ c ≤ 1114111 ∧ (c < 55296 ∨ 57343 < c))
def manyC (c : Int) : Int := if c < 128 then 1 else if c < 2048 then 2 else if c < 65536 then 3 else 4
def encC (c : Int) : List UInt8 :=
  if c < 128 then [o8 c] else if c < 2048 then [o8 (192 + c / 64), o8 (128 + c % 64)]
  else if c < 65536 then [o8 (224 + c / 4096), o8 (128 + c / 64 % 64), o8 (128 + c % 64)]
  else [o8 (240 + c / 262144), o8 (128 + c / 4096 % 64), o8 (128 + c / 64 % 64), o8 (128 + c % 64)]

theorem rightC_iff {c : Int} : rightC c = true ↔ 0 ≤ c ∧ c ≤ 1114111 ∧ (c < 55296 ∨ 57343 < c) := by simp [rightC]

theorem utf_Right_ok (c : Int) : utf_Right c = some (rightC c) := by
  refine utf_Right_of ?_
  unfold utf_Right_b rightC
  congr 1
  rw [Bool.eq_iff_iff]
  simp
  omega
theorem ref04_Right_ok (c : Int) : ref04_Right c = some (rightC c) := by
  refine ref04_Right_of ?_
  unfold ref04_Right_b rightC
  congr 1
  rw [Bool.eq_iff_iff]
  simp
  omega

theorem utf_many_ok (c : Int) : utf_many c = some (manyC c) := by
  refine utf_many_of ?_
  unfold utf_many_b
  have e3 : ∀ n : Int, utf_many_l0 (3, n, c, 128, 2048, 65536) = some n := fun n => by
    rw [utf_many_l0_eq, utf_many_l0_F]; rfl
  have e2 : ∀ n : Int, 0 ≤ n → n < 9 → utf_many_l0 (2, n, c, 128, 2048, 65536) = some (if c ≥ 65536 then n + 1 else n) := fun n h1 h2 => by
    rw [utf_many_l0_eq, utf_many_l0_F]
    dsimp only
    rw [show decide ((2 : Int) < 3) = true from rfl, cT rfl, grd (aT (dT (by omega)) rfl), show idx (0 : Int) ([128] ++ ([2048] ++ ([65536] ++ ([] : List Int)))) 2 = 65536 from rfl]
    by_cases h : c ≥ 65536
    · rw [cT (dT h), bS, if_pos h]; dsimp only; rw [W64_in (x := 2 + 1) (by omega) (by omega), W64_in (x := n + 1) (by omega) (by omega)]; exact e3 _
    · rw [cF (dF h), bS, if_neg h]; dsimp only;rw [W64_in (x := 2 + 1) (by omega) (by omega)];exact e3 _
  have e1 : ∀ n : Int, 0 ≤ n → n < 8 → utf_many_l0 (1, n, c, 128, 2048, 65536) = some (if c ≥ 65536 then n + 2 else if c ≥ 2048 then n + 1 else n) := fun n h1 h2 => by
    rw [utf_many_l0_eq, utf_many_l0_F]
    dsimp only
    rw [show decide ((1 : Int) < 3) = true from rfl, cT rfl, grd (aT (dT (by omega)) rfl), show idx (0 : Int) ([128] ++ ([2048] ++ ([65536] ++ ([] : List Int)))) 1 = 2048 from rfl]
    by_cases h : c ≥ 2048
    · rw [cT (dT h), bS]
      dsimp only
      rw [W64_in (x := 1 + 1) (by omega) (by omega), W64_in (x := n + 1) (by omega) (by omega)]
      refine (e2 _ (by omega) (by omega)).trans ?_
      congr 1
      (repeat' split) <;> omega
    · rw [cF (dF h), bS]
      dsimp only
      rw [W64_in (x := 1 + 1) (by omega) (by omega)]
      refine (e2 _ (by omega) (by omega)).trans ?_
      congr 1
      (repeat' split) <;> omega
  have e0 : utf_many_l0 (0, 1, c, 128, 2048, 65536) = some (manyC c) := by
    rw [utf_many_l0_eq, utf_many_l0_F]
    dsimp only
    rw [show decide ((0 : Int) < 3) = true from rfl, cT rfl, grd (aT (dT (by omega)) rfl), show idx (0 : Int) ([128] ++ ([2048] ++ ([65536] ++ ([] : List Int)))) 0 = 128 from rfl]
    unfold manyC
    by_cases h : c ≥ 128
    · rw [cT (dT h), bS]
      dsimp only
      rw [W64_in (x := 0 + 1) (by omega) (by omega), W64_in (x := 1 + 1) (by omega) (by omega)]
      refine (e1 _ (by omega) (by omega)).trans ?_
      congr 1
      (repeat' split) <;> omega
    · rw [cF (dF h), bS]
      dsimp only
      rw [W64_in (x := 0 + 1) (by omega) (by omega)]
      refine (e1 _ (by omega) (by omega)).trans ?_
      congr 1
      (repeat' split) <;> omega
  rw [e0]
  rfl

theorem or8_128 : ∀ x : Fin 64, arI .or .u8 128 (x.val : Int) = 128 + (x.val : Int) := by decide +kernel
theorem or8_128' {x : Int} (h0 : 0 ≤ x) (h1 : x < 64) : arI .or .u8 128 x = 128 + x := by
  have := or8_128 ⟨x.toNat, by omega⟩
  simp only [] at this
  rw [show ((x.toNat : Nat) : Int) = x by omega] at this
  exact this
theorem or8_lead : ∀ x : Fin 32, arI .or .u8 192 (x.val : Int) = 192 + (x.val : Int) := by decide +kernel
theorem or8_lead3 : ∀ x : Fin 16, arI .or .u8 224 (x.val : Int) = 224 + (x.val : Int) := by decide +kernel
theorem or8_lead4 : ∀ x : Fin 8, arI .or .u8 240 (x.val : Int) = 240 + (x.val : Int) := by decide +kernel

theorem enc_step {i c n : Int} {out : List UInt8} (h1 : 1 ≤ i) (h2 : i < out.length) (h3 : i < 100) (hc : 0 ≤ c) (hc' : c < 9223372036854775808) :
    utf_Encode_l0 (i, c, out, n) = utf_Encode_l0 (i - 1, c / 64, out.set i.toNat (o8 (128 + c % 64)), n) := by
  rw [utf_Encode_l0_eq, utf_Encode_l0_F]
  dsimp only
  rw [cT (dT (by omega)), grd (aT (dT (by omega)) (dT (by omega))), grd (by decide), W64_in (by omega) (by omega), shr6 hc, and63 hc hc', wrap8, i8_o8 (by omega) (by omega), or8_128' (by omega) (by omega)]
  rw [show c % 64 % 256 = c % 64 by omega]
theorem enc_stop {c n : Int} {out : List UInt8} : utf_Encode_l0 (0, c, out, n) = some (out, c, n) := by
  rw [utf_Encode_l0_eq, utf_Encode_l0_F]; rfl

theorem utf_Encode_ok {c : Int} (h : rightC c = true) : utf_Encode c = some (0, encC c) := by
  have hr := rightC_iff.1 h
  refine utf_Encode_of ?_
  unfold utf_Encode_b
  rw [utf_Right_ok, bS, h, Bool.not_true, cond_false, utf_many_ok, bS]
  unfold manyC encC
  by_cases h1 : c < 128
  · rw [if_pos h1, if_pos h1, show ((1 : Int) == 1) = true from rfl, cond_true, wrap8, show c % 256 = c by omega]; rfl
  · rw [if_neg h1, if_neg h1]
    by_cases h2 : c < 2048
    · rw [if_pos h2, if_pos h2, show ((2 : Int) == 1) = false from rfl, cond_false, grd (by decide), W64_in (by decide) (by decide), enc_step (by decide) (by simp) (by decide) (by omega) (by omega), show (2 : Int) - 1 - 1 = 0 by decide, enc_stop, bS]
      dsimp only
      rw [grd (dT (by omega)), grd (aT (dT (by omega)) (dT (by simp)))]
      have e := or8_lead ⟨(c / 64).toNat, by omega⟩
      simp only [] at e
      rw [show (((c / 64).toNat : Nat) : Int) = c / 64 by omega] at e
      rw [wrap8, wrap8, show (arI .shr .i64 3840 2) % 256 = 192 by decide, i8_o8 (by decide) (by decide), i8_o8 (by omega) (by omega), show c / 64 % 256 = c / 64 by omega, e]
      rfl
    · rw [if_neg h2, if_neg h2]
      by_cases h3 : c < 65536
      · rw [if_pos h3, if_pos h3, show ((3 : Int) == 1) = false from rfl, cond_false, grd (by decide), W64_in (by decide) (by decide), enc_step (by decide) (by simp) (by decide) (by omega) (by omega), enc_step (by decide) (by simp) (by decide) (by omega) (by omega), show (3 : Int) - 1 - 1 - 1 = 0 by decide, enc_stop, bS]
        dsimp only
        rw [grd (dT (by omega)), grd (aT (dT (by omega)) (dT (by simp)))]
        have e := or8_lead3 ⟨(c / 4096).toNat, by omega⟩
        simp only [] at e
        rw [show (((c / 4096).toNat : Nat) : Int) = c / 4096 by omega] at e
        rw [wrap8, wrap8, show (arI .shr .i64 3840 3) % 256 = 224 by decide, i8_o8 (by decide) (by decide), i8_o8 (by omega) (by omega), show c / 64 / 64 % 256 = c / 4096 by omega, e]
        rfl
      · rw [if_neg h3, if_neg h3, show ((4 : Int) == 1) = false from rfl, cond_false, grd (by decide), W64_in (by decide) (by decide), enc_step (by decide) (by simp) (by decide) (by omega) (by omega), enc_step (by decide) (by simp) (by decide) (by omega) (by omega), enc_step (by decide) (by simp) (by decide) (by omega) (by omega), show (4 : Int) - 1 - 1 - 1 - 1 = 0 by decide, enc_stop, bS]
        dsimp only
        rw [grd (dT (by omega)), grd (aT (dT (by omega)) (dT (by simp)))]
        have e := or8_lead4 ⟨(c / 262144).toNat, by omega⟩
        simp only [] at e
        rw [show (((c / 262144).toNat : Nat) : Int) = c / 262144 by omega] at e
        rw [wrap8, wrap8, show (arI .shr .i64 3840 4) % 256 = 240 by decide, i8_o8 (by decide) (by decide), i8_o8 (by omega) (by omega), show c / 64 / 64 / 64 % 256 = c / 262144 by omega, e, show c / 64 / 64 % 64 = c / 4096 % 64 by omega]
        rfl

theorem n64 : ((64 : Int) != 0) = true := rfl
theorem n4096 : ((4096 : Int) != 0) = true := rfl
theorem n262144 : ((262144 : Int) != 0) = true := rfl
theorem ref04_Encode_ok {c : Int} (h0 : 0 ≤ c) (h9 : c ≤ 1114111) : ref04_Encode c = some (encC c) := by
  refine ref04_Encode_of ?_
  unfold ref04_Encode_b encC
  have q : ∀ y : Int, 1 ≤ y → arI .quo .i64 c y = c / y := fun y hy => quo64 h0 (by omega) hy
  by_cases h1 : c < 128
  · rw [cT (dT h1), if_pos h1, wrap8, show c % 256 = c by omega]; rfl
  · rw [cF (dF h1), if_neg h1]
    by_cases h2 : c < 2048
    · rw [cT (dT h2), if_pos h2]
      simp only [n64, n4096, n262144, Bool.and_true, cond_true]
      rw [q _ (by decide), remI h0 (by omega) (by decide), W64_in (by omega) (by omega), W64_in (by omega) (by omega), wrap8, wrap8, show (192 + c / 64) % 256 = 192 + c / 64 by omega, show (128 + c % 64) % 256 = 128 + c % 64 by omega]
      rfl
    · rw [cF (dF h2), if_neg h2]
      by_cases h3 : c < 65536
      · rw [cT (dT h3), if_pos h3]
        simp only [n64, n4096, n262144, Bool.and_true, cond_true]
        rw [q _ (by decide), q _ (by decide), remI h0 (by omega) (by decide), remI (by omega) (by omega) (by decide), W64_in (by omega) (by omega), W64_in (by omega) (by omega), W64_in (by omega) (by omega), wrap8, wrap8, wrap8, show (224 + c / 4096) % 256 = 224 + c / 4096 by omega, show (128 + c / 64 % 64) % 256 = 128 + c / 64 % 64 by omega, show (128 + c % 64) % 256 = 128 + c % 64 by omega]
        rfl
      · rw [cF (dF h3), if_neg h3]
        simp only [n64, n4096, n262144, Bool.and_true, cond_true]
        rw [q _ (by decide), q _ (by decide), q _ (by decide), remI h0 (by omega) (by decide), remI (by omega) (by omega) (by decide), remI (by omega) (by omega) (by decide), W64_in (by omega) (by omega), W64_in (by omega) (by omega), W64_in (by omega) (by omega), W64_in (by omega) (by omega), wrap8, wrap8, wrap8, wrap8, show (240 + c / 262144) % 256 = 240 + c / 262144 by omega, show (128 + c / 4096 % 64) % 256 = 128 + c / 4096 % 64 by omega, show (128 + c / 64 % 64) % 256 = 128 + c / 64 % 64 by omega, show (128 + c % 64) % 256 = 128 + c % 64 by omega]
        rfl

end Rk
