/- The plain part: what the functions answer. No condition. -/
import Derived.Test.YtfmdnoljlbfjbaaDoorPu04b
set_option linter.unusedVariables false
set_option linter.unusedSimpArgs false
namespace Rk
open Go

/-! Decoding. -/
def yB (b : List UInt8) (k : Nat) : Int := i8 (b.getD k 0)
theorem yB_bd (b : List UInt8) (k : Nat) : 0 ≤ yB b k ∧ yB b k < 256 := ⟨i8_nn _, i8_lt _⟩
def d2 (b : List UInt8) : Int := (yB b 0 - 192) * 64 + yB b 1 - 128
def d3 (b : List UInt8) : Int := ((yB b 0 - 224) * 64 + yB b 1 - 128) * 64 + yB b 2 - 128
def d4 (b : List UInt8) : Int := (((yB b 0 - 240) * 64 + yB b 1 - 128) * 64 + yB b 2 - 128) * 64 + yB b 3 - 128
def is1 (b : List UInt8) : Prop := 1 ≤ b.length ∧ yB b 0 < 128
def is2 (b : List UInt8) : Prop := 2 ≤ b.length ∧ 192 ≤ yB b 0 ∧ yB b 0 < 224 ∧ 128 ≤ yB b 1 ∧ yB b 1 < 192 ∧ 128 ≤ d2 b
def is3 (b : List UInt8) : Prop := 3 ≤ b.length ∧ 224 ≤ yB b 0 ∧ yB b 0 < 240 ∧ 128 ≤ yB b 1 ∧ yB b 1 < 192 ∧ 128 ≤ yB b 2 ∧ yB b 2 < 192 ∧ 2048 ≤ d3 b ∧ (d3 b < 55296 ∨ 57343 < d3 b)
def is4 (b : List UInt8) : Prop := 4 ≤ b.length ∧ 240 ≤ yB b 0 ∧ yB b 0 < 248 ∧ 128 ≤ yB b 1 ∧ yB b 1 < 192 ∧ 128 ≤ yB b 2 ∧ yB b 2 < 192 ∧ 128 ≤ yB b 3 ∧ yB b 3 < 192 ∧ 65536 ≤ d4 b ∧ d4 b ≤ 1114111
open Classical in
noncomputable def dec1 (b : List UInt8) : Int × Nat :=
  if is1 b then (yB b 0, 1) else if is2 b then (d2 b, 2) else if is3 b then (d3 b, 3) else if is4 b then (d4 b, 4) else (65533, 1)

theorem idx_y {b : List UInt8} {k : Nat} : i8 (idx 0 b (k : Int)) = yB b k := by
  unfold yB idx
  rw [if_neg (by omega)]
  rfl
theorem take1 {b : List UInt8} (h : 1 ≤ b.length) : b.take 1 = [o8 (yB b 0)] := by
  match b, h with
  | a :: t, _ => simp [yB, o8_i8]
theorem take2 {b : List UInt8} (h : 2 ≤ b.length) : b.take 2 = [o8 (yB b 0), o8 (yB b 1)] := by
  match b, h with
  | a :: a2 :: t, _ => simp [yB, o8_i8]
theorem take3 {b : List UInt8} (h : 3 ≤ b.length) : b.take 3 = [o8 (yB b 0), o8 (yB b 1), o8 (yB b 2)] := by
  match b, h with
  | a :: a2 :: a3 :: t, _ => simp [yB, o8_i8]
theorem take4 {b : List UInt8} (h : 4 ≤ b.length) : b.take 4 = [o8 (yB b 0), o8 (yB b 1), o8 (yB b 2), o8 (yB b 3)] := by
  match b, h with
  | a :: a2 :: a3 :: a4 :: t, _ => simp [yB, o8_i8]

theorem encC_dec1 {b : List UInt8} (h : is1 b) : encC (yB b 0) = b.take 1 ∧ rightC (yB b 0) = true := by
  have := yB_bd b 0
  obtain ⟨h1, h2⟩ := h
  refine ⟨by rw [take1 h1, encC, if_pos h2], by rw [rightC_iff]; omega⟩
theorem encC_dec2 {b : List UInt8} (h : is2 b) : encC (d2 b) = b.take 2 ∧ rightC (d2 b) = true := by
  obtain ⟨h1, h2⟩ := h
  unfold d2 at *
  refine ⟨?_, by rw [rightC_iff]; omega⟩
  rw [take2 h1, encC, if_neg (by omega), if_pos (by omega)]
  congr 2
  · omega
  · congr 1; omega
theorem encC_dec3 {b : List UInt8} (h : is3 b) : encC (d3 b) = b.take 3 ∧ rightC (d3 b) = true := by
  obtain ⟨h1, h2⟩ := h
  unfold d3 at *
  refine ⟨?_, by rw [rightC_iff]; omega⟩
  rw [take3 h1, encC, if_neg (by omega), if_neg (by omega), if_pos (by omega)]
  congr 2
  · omega
  · congr 1; omega
  · congr 2; omega
theorem encC_dec4 {b : List UInt8} (h : is4 b) : encC (d4 b) = b.take 4 ∧ rightC (d4 b) = true := by
  obtain ⟨h1, h2⟩ := h
  unfold d4 at *
  refine ⟨?_, by rw [rightC_iff]; omega⟩
  rw [take4 h1, encC, if_neg (by omega), if_neg (by omega), if_neg (by omega)]
  congr 2
  · omega
  · congr 1; omega
  · congr 2
    · congr 1; omega
    · congr 2; omega

theorem dec1_ok (b : List UInt8) (h : 1 ≤ b.length) : 1 ≤ (dec1 b).2 ∧ (dec1 b).2 ≤ b.length ∧ rightC (dec1 b).1 = true ∧ ((dec1 b).1 = 65533 ∧ (dec1 b).2 = 1 ∨ encC (dec1 b).1 = b.take (dec1 b).2) := by
  unfold dec1
  by_cases h1 : is1 b
  · rw [if_pos h1]; exact ⟨Nat.le_refl _, h1.1, (encC_dec1 h1).2, Or.inr (encC_dec1 h1).1⟩
  · rw [if_neg h1]
    by_cases h2 : is2 b
    · rw [if_pos h2]; exact ⟨by omega, h2.1, (encC_dec2 h2).2, Or.inr (encC_dec2 h2).1⟩
    · rw [if_neg h2]
      by_cases h3 : is3 b
      · rw [if_pos h3]; exact ⟨by omega, h3.1, (encC_dec3 h3).2, Or.inr (encC_dec3 h3).1⟩
      · rw [if_neg h3]
        by_cases h4 : is4 b
        · rw [if_pos h4]; exact ⟨by omega, h4.1, (encC_dec4 h4).2, Or.inr (encC_dec4 h4).1⟩
        · rw [if_neg h4]; exact ⟨Nat.le_refl _, h, by decide, Or.inl ⟨rfl, rfl⟩⟩

/-- What ref04's loop looks at for one length. -/
def begS (b : List UInt8) : Nat → Int
  | 1 => if b.length < 1 then -1 else yB b 0
  | 2 => if b.length < 2 then -1 else d2 b
  | 3 => if b.length < 3 then -1 else d3 b
  | 4 => if b.length < 4 then -1 else d4 b
  | _ => -1

theorem begS_is1 (b : List UInt8) : (rightC (begS b 1) = true ∧ encC (begS b 1) = b.take 1) ↔ is1 b := by
  constructor
  · intro ⟨h1, h2⟩
    rw [show begS b 1 = if b.length < 1 then -1 else yB b 0 from rfl] at h1 h2
    rw [rightC_iff] at h1
    by_cases hl : b.length < 1
    · rw [if_pos hl] at h1; omega
    · rw [if_neg hl] at h1 h2
      refine ⟨by omega, ?_⟩
      have := congrArg List.length h2
      rw [take1 (by omega)] at this
      unfold encC at this
      false_or_by_contra
      rw [if_neg (by omega)] at this
      revert this
      repeat' split
      all_goals simp
  · intro h
    rw [show begS b 1 = if b.length < 1 then -1 else yB b 0 from rfl]
    rw [if_neg (by have := h.1; omega)]
    exact ⟨(encC_dec1 h).2, (encC_dec1 h).1⟩
theorem begS_is2 (b : List UInt8) : (rightC (begS b 2) = true ∧ encC (begS b 2) = b.take 2) ↔ is2 b := by
  constructor
  · intro ⟨h1, h2⟩
    rw [show begS b 2 = if b.length < 2 then -1 else d2 b from rfl] at h1 h2
    rw [rightC_iff] at h1
    by_cases hl : b.length < 2
    · rw [if_pos hl] at h1; omega
    · rw [if_neg hl] at h1 h2
      have y0 := yB_bd b 0
      have y1 := yB_bd b 1
      rw [take2 (by omega)] at h2
      unfold encC at h2
      by_cases c1 : d2 b < 128
      · rw [if_pos c1] at h2; simp at h2
      · rw [if_neg c1] at h2
        by_cases c2 : d2 b < 2048
        · rw [if_pos c2] at h2
          simp only [List.cons.injEq, and_true] at h2
          obtain ⟨e1, e2⟩ := h2
          rw [o8_eq (by omega) (by omega), i8_o8 (by omega) (by omega)] at e1 e2
          refine ⟨by omega, ?_⟩
          omega
        · rw [if_neg c2] at h2
          revert h2
          split <;> simp
  · intro h
    rw [show begS b 2 = if b.length < 2 then -1 else d2 b from rfl]
    rw [if_neg (by have := h.1; omega)]
    exact ⟨(encC_dec2 h).2, (encC_dec2 h).1⟩
theorem begS_is3 (b : List UInt8) : (rightC (begS b 3) = true ∧ encC (begS b 3) = b.take 3) ↔ is3 b := by
  constructor
  · intro ⟨h1, h2⟩
    rw [show begS b 3 = if b.length < 3 then -1 else d3 b from rfl] at h1 h2
    rw [rightC_iff] at h1
    by_cases hl : b.length < 3
    · rw [if_pos hl] at h1; omega
    · rw [if_neg hl] at h1 h2
      have y0 := yB_bd b 0
      have y1 := yB_bd b 1
      have y2 := yB_bd b 2
      rw [take3 (by omega)] at h2
      unfold encC at h2
      by_cases c1 : d3 b < 128
      · rw [if_pos c1] at h2; simp at h2
      · rw [if_neg c1] at h2
        by_cases c2 : d3 b < 2048
        · rw [if_pos c2] at h2; simp at h2
        · rw [if_neg c2] at h2
          by_cases c3 : d3 b < 65536
          · rw [if_pos c3] at h2
            simp only [List.cons.injEq, and_true] at h2
            obtain ⟨e1, e2, e3⟩ := h2
            rw [o8_eq (by omega) (by omega), i8_o8 (by omega) (by omega)] at e1 e2 e3
            refine ⟨by omega, ?_⟩
            omega
          · rw [if_neg c3] at h2; simp at h2
  · intro h
    rw [show begS b 3 = if b.length < 3 then -1 else d3 b from rfl]
    rw [if_neg (by have := h.1; omega)]
    exact ⟨(encC_dec3 h).2, (encC_dec3 h).1⟩
theorem begS_is4 (b : List UInt8) : (rightC (begS b 4) = true ∧ encC (begS b 4) = b.take 4) ↔ is4 b := by
  constructor
  · intro ⟨h1, h2⟩
    rw [show begS b 4 = if b.length < 4 then -1 else d4 b from rfl] at h1 h2
    rw [rightC_iff] at h1
    by_cases hl : b.length < 4
    · rw [if_pos hl] at h1; omega
    · rw [if_neg hl] at h1 h2
      have y0 := yB_bd b 0
      have y1 := yB_bd b 1
      have y2 := yB_bd b 2
      have y3 := yB_bd b 3
      rw [take4 (by omega)] at h2
      unfold encC at h2
      by_cases c1 : d4 b < 128
      · rw [if_pos c1] at h2; simp at h2
      · rw [if_neg c1] at h2
        by_cases c2 : d4 b < 2048
        · rw [if_pos c2] at h2; simp at h2
        · rw [if_neg c2] at h2
          by_cases c3 : d4 b < 65536
          · rw [if_pos c3] at h2; simp at h2
          · rw [if_neg c3] at h2
            simp only [List.cons.injEq, and_true] at h2
            obtain ⟨e1, e2, e3, e4⟩ := h2
            rw [o8_eq (by omega) (by omega), i8_o8 (by omega) (by omega)] at e1 e2 e3 e4
            refine ⟨by omega, ?_⟩
            omega
  · intro h
    rw [show begS b 4 = if b.length < 4 then -1 else d4 b from rfl]
    rw [if_neg (by have := h.1; omega)]
    exact ⟨(encC_dec4 h).2, (encC_dec4 h).1⟩
end Rk
