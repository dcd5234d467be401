/- The plain part: what the functions answer. No condition. -/
import Derived.Test.YtfmdnoljlbfjbaaDoorS1
set_option linter.unusedVariables false
set_option linter.unusedSimpArgs false
namespace Rk
open Go

/-- A number's bytes. -/
def encN (v : Nat) : List UInt8 := if h : v < 128 then [o8 v] else o8 ((v % 128 + 128 : Nat) : Int) :: encN (v / 128)
  termination_by v
  decreasing_by omega

theorem encN_lt {v : Nat} (h : v < 128) : encN v = [o8 v] := by rw [encN, dif_pos h]
theorem encN_ge {v : Nat} (h : ¬ v < 128) : encN v = o8 ((v % 128 + 128 : Nat) : Int) :: encN (v / 128) := by rw [encN, dif_neg h]

theorem encN_len : ∀ (n v : Nat), v < 128 ^ (n + 1) → (encN v).length ≤ n + 1 := by
  intro n
  induction n with
  | zero => intro v h; rw [encN_lt (by simpa using h)]; simp
  | succ n ih =>
    intro v h
    by_cases hlt : v < 128
    · rw [encN_lt hlt]; simp
    · rw [encN_ge hlt]
      have := ih (v / 128) (by rw [Nat.pow_succ] at h; omega)
      simp; omega

theorem encN_9 {v : Nat} (h : v < 2 ^ 63) : (encN v).length ≤ 9 := encN_len 8 v (by simpa using h)

theorem code_num_loop : ∀ (n : Nat) (v : Nat) (b : List UInt8), v < 128 ^ (n + 1) → v < 2 ^ 63 → b.length + n ≤ 70368744177664 →
    ∃ p q, code_num_l0 ((v : Int), b) = some (b ++ p, q) ∧ 0 ≤ q ∧ q < 128 ∧ encN v = p ++ [o8 q] ∧ p.length ≤ n := by
  intro n
  induction n with
  | zero =>
    intro v b hv hm hb
    simp at hv
    refine ⟨[], v, ?_, by omega, by omega, by rw [encN_lt hv]; rfl, by simp⟩
    rw [code_num_l0_eq]
    dsimp only
    have : ¬ ((v : Int) ≥ (128 : Int)) := by omega
    rw [cF (dF this), List.append_nil]
  | succ n ih =>
    intro v b hv hm hb
    by_cases hlt : v < 128
    · refine ⟨[], v, ?_, by omega, by omega, by rw [encN_lt hlt]; rfl, by simp⟩
      rw [code_num_l0_eq]
      dsimp only
      have : ¬ ((v : Int) ≥ (128 : Int)) := by omega
      rw [cF (dF this), List.append_nil]
    · obtain ⟨p, q, h1, h2, h3, h4, h5⟩ := ih (v / 128) (b ++ [o8 ((v % 128 + 128 : Nat) : Int)]) (by rw [Nat.pow_succ] at hv; omega) (by omega) (by simp; omega)
      refine ⟨o8 ((v % 128 + 128 : Nat) : Int) :: p, q, ?_, h2, h3, by rw [encN_ge hlt, h4]; rfl, by simp; omega⟩
      rw [code_num_l0_eq]
      dsimp only
      have e1 : arI .or .u8 (i8 (o8 (IntKind.wrap .u8 (v : Int)))) 128 = ((v % 128 + 128 : Nat) : Int) := by
        rw [wrap8, i8_o8 (by omega) (by omega), or128 (by omega) (by omega)]; omega
      have e2 : arI .shr .i64 (v : Int) 7 = ((v / 128 : Nat) : Int) := by rw [shr7 (by omega)]; omega
      simp only [e1, e2, List.append_nil]
      have hge : (v : Int) ≥ 128 := by omega
      rw [cT (dT hge), grd (dT (by simp only [List.length_append, List.length_cons, List.length_nil]; omega)), grd (dT (by decide)), h1]
      simp

theorem code_num_ok {v : Nat} {b : List UInt8} (hv : v < 2 ^ 63) (hb : b.length ≤ 70368744177000) : code_num (v : Int) b = some (b ++ encN v) := by
  have hp : v < 128 ^ (8 + 1) := by omega
  obtain ⟨p, q, h1, h2, h3, h4, h5⟩ := code_num_loop 8 v b hp hv (by omega)
  refine code_num_of ?_
  unfold code_num_b
  have e : IntKind.wrap .u8 q = q := by rw [wrap8]; omega
  rw [h1, bS]
  dsimp only
  simp only [e, List.append_nil]
  rw [grd (dT (by simp only [List.length_append, List.length_cons, List.length_nil]; omega)), h4, List.append_assoc]

theorem code_Num_ok {v : Nat} {b : List UInt8} (hv : v ≤ 4611686018427387904) (hb : b.length ≤ 70368744177000) : code_Num b (v : Int) = some (0, b ++ encN v) := by
  refine code_Num_of ?_
  unfold code_Num_b
  have h1 : ¬ ((v : Int) < 0) := by omega
  have h2 : ¬ ((v : Int) > (4611686018427387904 : Int)) := by omega
  rw [dF h1, dF h2, List.nil_append, code_num_ok (by omega) hb]
  rw [cF (by rfl), grd (dT (by omega))]
  rfl

/-! ### Reading numbers -/

/-- A number at the beginning of bytes: the error, it, how many bytes it has (`n` are read, that make `v`). -/
def rdN (n v : Nat) : List UInt8 → Nat × Nat × Nat
  | [] => if n = 9 then (2, 0, 0) else (4, 0, 0)
  | x :: r =>
    if n = 9 then (2, 0, 0) else
    if x.toNat < 128 then
      if x.toNat = 0 ∧ 0 < n then (2, 0, 0) else
      if 4611686018427387904 < v + x.toNat * 128 ^ n then (2, 0, 0) else (0, v + x.toNat * 128 ^ n, n + 1)
    else rdN (n + 1) (v + (x.toNat % 128) * 128 ^ n) r

def resN (B : List UInt8) (At E : Int) (t : Nat × Nat × Nat) : List UInt8 × Int × Int × Int :=
  if t.1 = 0 then (B, At + (t.2.2 : Int), E, (t.2.1 : Int)) else (B, At, (t.1 : Int), 0)

theorem code_bad_ok (B : List UInt8) (At E e : Int) : code_bad B At E e = some (B, At, e) := code_bad_of rfl

theorem pow7 (n : Nat) : 2 ^ (7 * n) = 128 ^ n := by rw [Nat.pow_mul]

theorem code_ReadNum_loop (B : List UInt8) (At E : Int) (h0 : 0 ≤ At) (h1 : At ≤ 4611686018427387904) : ∀ (l pre : List UInt8) (v : Nat), pre.length ≤ 9 → v < 128 ^ pre.length → (pre ++ l).length ≤ 4611686018427387904 →
    code_ReadNum_l0 (B, At, E, (pre.length : Int), (v : Int), pre ++ l) = some (resN B At E (rdN pre.length v l)) := by
  intro l
  induction l with
  | nil =>
    intro pre v hp hv hl
    rw [code_ReadNum_l0_eq]
    dsimp only
    simp only [List.append_nil, rdN]
    by_cases h9 : pre.length = 9
    · have : (((pre.length : Nat) : Int) == 9) = true := by simp [h9]
      rw [cT this, if_pos h9, code_bad_ok]
      rfl
    · have : (((pre.length : Nat) : Int) == 9) = false := by simp; omega
      rw [cF this, if_neg h9, cT (by simp), code_bad_ok]
      rfl
  | cons x r ih =>
    intro pre v hp hv hl
    rw [code_ReadNum_l0_eq]
    dsimp only
    simp only [rdN]
    by_cases h9 : pre.length = 9
    · have : (((pre.length : Nat) : Int) == 9) = true := by simp [h9]
      rw [cT this, if_pos h9, code_bad_ok]
      rfl
    · have q1 : (((pre.length : Nat) : Int) == 9) = false := by simp; omega
      have hlen : (pre ++ x :: r).length = pre.length + r.length + 1 := by simp; omega
      have q2 : (((pre.length : Nat) : Int) == (((pre ++ x :: r).length : Nat) : Int)) = false := by
        rw [hlen]; simp; omega
      have q3 : (decide ((0 : Int) ≤ ((pre.length : Nat) : Int)) && decide (((pre.length : Nat) : Int) < (((pre ++ x :: r).length : Nat) : Int))) = true := by
        rw [hlen]; exact aT (dT (by omega)) (dT (by omega))
      have q4 : W64 (7 * ((pre.length : Nat) : Int)) = ((7 * pre.length : Nat) : Int) := by rw [W64_in (by omega) (by omega)]; omega
      have q5 : idx (0 : UInt8) (pre ++ x :: r) ((pre.length : Nat) : Int) = x := by
        rw [idx_nat (by rw [hlen]; omega)]
        simp
      have q6 : W64 (i8 (o8 (arI .and .u8 (i8 x) 127))) = ((x.toNat % 128 : Nat) : Int) := by
        have := i8_lt x
        have := i8_nn x
        rw [and127 (by omega) (by omega), i8_o8 (by omega) (by omega), W64_in (by omega) (by omega)]
        unfold i8
        omega
      have hpow : 128 ^ pre.length ≤ 128 ^ 8 := Nat.pow_le_pow_right (by omega) (by omega)
      have hm : x.toNat % 128 ≤ 127 := by omega
      have hle : (x.toNat % 128) * 128 ^ pre.length ≤ 127 * 128 ^ pre.length := Nat.mul_le_mul_right _ hm
      have q7 : arI .or .i64 (v : Int) (arI .shl .i64 ((x.toNat % 128 : Nat) : Int) ((7 * pre.length : Nat) : Int)) = ((v + (x.toNat % 128) * 128 ^ pre.length : Nat) : Int) := by
        rw [← pow7]
        refine or_shl (by rw [pow7]; exact hv) (by omega) ?_
        rw [pow7]
        omega
      have q8 : W64 (((pre.length : Nat) : Int) + 1) = ((pre.length + 1 : Nat) : Int) := by rw [W64_in (by omega) (by omega)]; omega
      have q9 : W64 (At + ((pre.length + 1 : Nat) : Int)) = At + ((pre.length + 1 : Nat) : Int) := W64_in (by omega) (by omega)
      simp only [q4, q5, q6, q7, q8, q9]
      rw [cF q1, cF q2, grd q3, grd (dT (by omega)), if_neg h9]
      by_cases hx : x.toNat < 128
      · have hx' : i8 x < 128 := by unfold i8; omega
        rw [cT (dT hx'), if_pos hx]
        have hmod : x.toNat % 128 = x.toNat := Nat.mod_eq_of_lt hx
        rw [hmod]
        by_cases hz : x.toNat = 0 ∧ 0 < pre.length
        · rw [if_pos hz]
          have e1 : (i8 x == 0) = true := by unfold i8; simp [hz.1]
          rw [e1, if_pos rfl, dT (show ((pre.length + 1 : Nat) : Int) > 1 by omega), code_bad_ok]
          rfl
        · rw [if_neg hz]
          have e1 : (if (i8 x == 0) = true then decide (((pre.length + 1 : Nat) : Int) > 1) else false) = false := by
            by_cases hz0 : x.toNat = 0
            · have : (i8 x == 0) = true := by unfold i8; simp [hz0]
              rw [if_pos this]
              exact dF (by omega)
            · have : ¬ (i8 x == 0) = true := by unfold i8; simp; omega
              rw [if_neg this]
          rw [cF e1]
          by_cases hmax : 4611686018427387904 < v + x.toNat * 128 ^ pre.length
          · rw [if_pos hmax, cT (dT (by omega)), code_bad_ok]
            rfl
          · rw [if_neg hmax, cF (dF (by omega))]
            rfl
      · have hx' : ¬ i8 x < 128 := by unfold i8; omega
        rw [cF (dF hx'), if_neg hx]
        have hn := ih (pre ++ [x]) (v + (x.toNat % 128) * 128 ^ pre.length) (by simp; omega) (by
          simp only [List.length_append, List.length_singleton, Nat.pow_succ]; omega) (by simpa using hl)
        simp only [List.length_append, List.length_singleton, List.append_assoc, List.singleton_append] at hn
        exact hn

/-- A reader that may read. -/
structure RdOk (B : List UInt8) (At : Int) : Prop where
  lo : 0 ≤ At
  hi : At ≤ (B.length : Int)
  len : B.length ≤ 4611686018427387904

theorem code_open_ok {B : List UInt8} {At : Int} (h : RdOk B At) : code_open B At 0 = some (B, At, 0, true) := by
  refine code_open_of ?_
  unfold code_open_b
  have h1 : ¬ At < 0 := by have := h.lo; omega
  have h2 : ¬ At > (B.length : Int) := by have := h.hi; omega
  rw [dF h1, dF h2]
  rfl

theorem code_ReadNum_ok {B : List UInt8} {At : Int} (h : RdOk B At) : code_ReadNum B At 0 = some (resN B At 0 (rdN 0 0 (B.drop At.toNat))) := by
  refine code_ReadNum_of ?_
  unfold code_ReadNum_b
  rw [code_open_ok h, bS]
  dsimp only
  simp only [Bool.not_true, sub_len]
  have := h.lo
  have := h.hi
  have := h.len
  rw [cF rfl, grd (aT (dT h.lo) (aT (dT h.hi) (dT (by omega))))]
  exact code_ReadNum_loop B At 0 h.lo (by omega) (B.drop At.toNat) [] 0 (by simp) (by simp) (by simp; omega)


/-! ### Reading texts and lists -/

theorem rdN_le : ∀ (l : List UInt8) (n v : Nat), (rdN n v l).1 = 0 → n < (rdN n v l).2.2 ∧ (rdN n v l).2.2 ≤ n + l.length ∧ (rdN n v l).2.1 ≤ 4611686018427387904
  | [], n, v, h => by
    simp only [rdN] at h
    split at h <;> simp at h
  | x :: r, n, v, h => by
    simp only [rdN] at h ⊢
    by_cases h9 : n = 9
    · rw [if_pos h9] at h; simp at h
    · rw [if_neg h9] at h ⊢
      by_cases hx : x.toNat < 128
      · rw [if_pos hx] at h ⊢
        by_cases hz : x.toNat = 0 ∧ 0 < n
        · rw [if_pos hz] at h; simp at h
        · rw [if_neg hz] at h ⊢
          by_cases hm : 4611686018427387904 < v + x.toNat * 128 ^ n
          · rw [if_pos hm] at h; simp at h
          · rw [if_neg hm] at h ⊢
            simp only [List.length_cons]
            omega
      · rw [if_neg hx] at h ⊢
        obtain ⟨g1, g2, g3⟩ := rdN_le r _ _ h
        simp only [List.length_cons]
        omega

theorem rdN_err : ∀ (l : List UInt8) (n v : Nat), (rdN n v l).1 = 0 ∨ (rdN n v l) = (2, 0, 0) ∨ (rdN n v l) = (4, 0, 0)
  | [], n, v => by simp only [rdN]; split <;> simp
  | x :: r, n, v => by
    simp only [rdN]
    split
    · simp
    · split
      · split
        · simp
        · split <;> simp
      · exact rdN_err r _ _

/-- A number not above another. -/
def rdC (most : Int) (l : List UInt8) : Nat × Nat × Nat :=
  let t := rdN 0 0 l
  if t.1 = 0 ∧ (t.2.1 : Int) > most then (2, 0, 0) else t

theorem code_count_ok {B : List UInt8} {At most : Int} (h : RdOk B At) : code_count B At 0 most = some (resN B At 0 (rdC most (B.drop At.toNat))) := by
  refine code_count_of ?_
  unfold code_count_b
  rw [code_ReadNum_ok h, bS]
  unfold rdC
  generalize rdN 0 0 (B.drop At.toNat) = t
  obtain ⟨e, v, n⟩ := t
  simp only [resN]
  by_cases he : e = 0
  · subst he
    simp only [if_pos, true_and]
    by_cases hm : (v : Int) > most
    · have e1 : (if ((0 : Int) == 0) = true then decide ((v : Int) > most) else false) = true := by rw [if_pos (by rfl)]; exact dT hm
      rw [cT e1, code_bad_ok, if_pos hm]
      rfl
    · have e1 : (if ((0 : Int) == 0) = true then decide ((v : Int) > most) else false) = false := by rw [if_pos (by rfl)]; exact dF hm
      rw [cF e1, if_neg hm]
      rfl
  · have hne : ¬ ((e : Int) == 0) = true := by simp; omega
    simp only [he, if_false, false_and]
    rw [if_neg hne, cF rfl]

/-- A text at the beginning of bytes. -/
def rdT (most : Int) (l : List UInt8) : Nat × List UInt8 × Nat :=
  let t := rdC most l
  if t.1 = 0 then (if l.length < t.2.2 + t.2.1 then (4, [], 0) else (0, (l.drop t.2.2).take t.2.1, t.2.2 + t.2.1)) else (t.1, [], 0)

def resT (B : List UInt8) (At : Int) (t : Nat × List UInt8 × Nat) : List UInt8 × Int × Int × List UInt8 :=
  if t.1 = 0 then (B, At + (t.2.2 : Int), 0, t.2.1) else (B, At, (t.1 : Int), [])

theorem rdC_le {most : Int} {l : List UInt8} (h : (rdC most l).1 = 0) : 0 < (rdC most l).2.2 ∧ (rdC most l).2.2 ≤ l.length ∧ (rdC most l).2.1 ≤ 4611686018427387904 ∧ ((rdC most l).2.1 : Int) ≤ most ∧ rdC most l = rdN 0 0 l := by
  unfold rdC at h ⊢
  simp only at h ⊢
  split at h
  · simp at h
  · rename_i hc
    rw [if_neg hc]
    obtain ⟨g1, g2, g3⟩ := rdN_le l 0 0 h
    refine ⟨g1, by omega, g3, ?_, rfl⟩
    refine Classical.byContradiction (fun hno => hc ⟨h, by omega⟩)

theorem code_ReadText_ok {B : List UInt8} {At most : Int} (h : RdOk B At) : code_ReadText B At 0 most = some (resT B At (rdT most (B.drop At.toNat))) := by
  refine code_ReadText_of ?_
  unfold code_ReadText_b
  have h0 := h.lo
  have h1 := h.hi
  have h2 := h.len
  rw [code_count_ok h, bS]
  have hle := rdC_le (most := most) (l := B.drop At.toNat)
  unfold rdT
  generalize rdC most (B.drop At.toNat) = t at hle
  obtain ⟨e, v, n⟩ := t
  simp only [List.length_drop] at hle
  simp only [resN, List.length_drop]
  by_cases he : e = 0
  · subst he
    obtain ⟨q1, q2, q3, q4, _⟩ := hle rfl
    simp only [if_true]
    rw [cF (by rfl)]
    have hAn : At + (n : Int) = ((At.toNat + n : Nat) : Int) := by omega
    have hw : W64 ((B.length : Int) - (At + (n : Int))) = ((B.length - (At.toNat + n) : Nat) : Int) := by rw [W64_in (by omega) (by omega)]; omega
    by_cases hlt : B.length - At.toNat < n + v
    · rw [if_pos hlt]
      have hs : code_some B (At + (n : Int)) 0 (v : Int) = some (B, At + (n : Int), 4, []) := by
        refine code_some_of ?_
        unfold code_some_b
        rw [hw, cT (dT (by omega)), code_bad_ok]
        rfl
      rw [hs, bS]
      dsimp only
      rw [cT (by rfl), code_bad_ok]
      rfl
    · rw [if_neg hlt]
      have hs : code_some B (At + (n : Int)) 0 (v : Int) = some (B, At + ((n + v : Nat) : Int), 0, ((B.drop At.toNat).drop n).take v) := by
        refine code_some_of ?_
        unfold code_some_b
        have hw2 : W64 (At + (n : Int) + (v : Int)) = ((At.toNat + n + v : Nat) : Int) := by rw [W64_in (by omega) (by omega)]; omega
        rw [hw, hw2, cF (dF (by omega)), grd (aT (dT (by omega)) (aT (dT (by omega)) (dT (by omega)))), hAn, sub_nat]
        have e1 : ((B.take (At.toNat + n + v)).drop (At.toNat + n)) = ((B.drop At.toNat).drop n).take v := by
          rw [List.drop_drop, List.drop_take]
          congr 1
          omega
        rw [e1]
        have e2 : ((At.toNat + n + v : Nat) : Int) = At + ((n + v : Nat) : Int) := by omega
        rw [e2]
      rw [hs, bS]
      dsimp only
      rw [cF (by rfl)]
      rfl
  · have hne : ((e : Int) != 0) = true := by simp; omega
    simp only [he, if_false]
    rw [cT hne]
    simp only [resT, he, if_false]

theorem rdT_le {most : Int} {l : List UInt8} (h : (rdT most l).1 = 0) : 0 < (rdT most l).2.2 ∧ (rdT most l).2.2 ≤ l.length ∧ ((rdT most l).2.1.length : Int) ≤ most := by
  unfold rdT at h ⊢
  simp only at h ⊢
  by_cases he : (rdC most l).1 = 0
  · obtain ⟨q1, q2, q3, q4, _⟩ := rdC_le he
    rw [if_pos he] at h ⊢
    by_cases hlt : l.length < (rdC most l).2.2 + (rdC most l).2.1
    · rw [if_pos hlt] at h; simp at h
    · rw [if_neg hlt]
      simp only [List.length_take, List.length_drop]
      omega
  · rw [if_neg he] at h
    simp only at h
    omega

theorem code_Done_ok {B : List UInt8} {At : Int} (h : RdOk B At) : code_Done B At 0 = some (if At < (B.length : Int) then 2 else 0) := by
  refine code_Done_of ?_
  unfold code_Done_b
  rw [code_open_ok h, bS]
  dsimp only
  by_cases hlt : At < (B.length : Int)
  · rw [dT hlt, if_pos hlt]; rfl
  · rw [dF hlt, if_neg hlt]; rfl

/-! ### Writing texts and lists -/

def encT (s : List UInt8) : List UInt8 := encN s.length ++ s
theorem code_Text_ok {b s : List UInt8} (hb : b.length ≤ 10000000) (hs : s.length ≤ 10000000) : code_Text b s = some (b ++ encT s) := by
  refine code_Text_of ?_
  unfold code_Text_b
  have := encN_9 (v := s.length) (by omega)
  rw [List.nil_append, grd (dT (by omega)), code_num_ok (by omega) (by omega), bS, grd (dT (by simp only [List.length_append]; omega)), List.append_assoc]
  rfl

end Rk
