/- The plain part: what the functions answer. No condition. -/
import Derived.Test.YtgofefjfckocbaaDoorPu15a
set_option linter.unusedVariables false
set_option linter.unusedSimpArgs false
namespace Rk
open Go

def encS (s : Sg) : List UInt8 := encN s.2.1.toNat ++ encN s.2.2.1.toNat ++ s.2.2.2
def encH (size : Int) (log : List UInt8) (segs : List Sg) : List UInt8 := encN size.toNat ++ log ++ encN segs.length ++ segs.flatMap encS

theorem goodS_of {s : Sg} (h : goodS s = true) : 0 ≤ s.1 ∧ s.1 < s.2.1 ∧ s.2.1 ≤ 1000 ∧ 1 ≤ s.2.2.1 ∧ s.2.2.1 ≤ 1099511627776 ∧ s.2.2.2.length = 32 := of_decide_eq_true h

theorem rowS_good : ∀ (l : List Sg) (at_ size : Int), rowS at_ l size = true → ∀ s ∈ l, goodS s = true
  | [], _, _, _, s, hs => by simp at hs
  | a :: r, at_, size, h, s, hs => by
    simp only [rowS, Bool.and_eq_true] at h
    rcases List.mem_cons.1 hs with hs | hs
    · rw [hs]; exact h.1
    · exact rowS_good r _ _ h.2.2 s hs

theorem headR_of {size : Int} {log : List UInt8} {segs : List Sg} (h : headR size log segs = true) : 0 ≤ size ∧ size ≤ 1000 ∧ log.length = 32 ∧ segs.length ≤ 64 ∧ rowS 0 segs size = true ∧ ∀ s ∈ segs, goodS s = true := by
  simp only [headR, rowL, Bool.and_eq_true, decide_eq_true_eq] at h
  exact ⟨h.1.1, h.1.2.1, h.1.2.2, h.2.1, h.2.2, rowS_good _ _ _ h.2.2⟩

theorem encS_len {s : Sg} (h : goodS s = true) : (encS s).length ≤ 50 := by
  obtain ⟨h1, h2, h3, h4, h5, h6⟩ := goodS_of h
  have e1 := encN_9 (v := s.2.1.toNat) (by omega)
  have e2 := encN_9 (v := s.2.2.1.toNat) (by omega)
  simp only [encS, List.length_append]
  omega

theorem flatS_len : ∀ (l : List Sg), (∀ s ∈ l, goodS s = true) → (l.flatMap encS).length ≤ 50 * l.length
  | [], _ => by simp
  | s :: r, h => by
    have h1 := encS_len (h s (by simp))
    have h2 := flatS_len r (fun x hx => h x (by simp [hx]))
    simp only [List.flatMap_cons, List.length_append, List.length_cons]
    omega

theorem encH_len {size : Int} {log : List UInt8} {segs : List Sg} (h : headR size log segs = true) : (encH size log segs).length ≤ 3300 := by
  obtain ⟨h1, h2, h3, h4, _, h5⟩ := headR_of h
  have e1 := encN_9 (v := size.toNat) (by omega)
  have e2 := encN_9 (v := segs.length) (by omega)
  have e3 := flatS_len segs h5
  simp only [encH, List.length_append]
  omega

theorem toNat_cast {x : Int} (h : 0 ≤ x) : ((x.toNat : Nat) : Int) = x := Int.toNat_of_nonneg h

theorem head_Write_1_ok {x : Int} {b : List UInt8} (h0 : 0 ≤ x) (h1 : x ≤ 4611686018427387904) (hb : b.length ≤ 10000000) : head_Write_1 x b = some (b ++ encN x.toNat) := by
  refine head_Write_1_of ?_
  unfold head_Write_1_b
  have := code_Num_ok (v := x.toNat) (b := b) (by omega) (by omega)
  rw [toNat_cast h0] at this
  rw [this, bS]

theorem ref02_Num_ok' {x : Int} (h0 : 0 ≤ x) (h1 : x ≤ 4611686018427387904) : ref02_Num x = some (encN x.toNat) := by
  have := ref02_Num_ok 9 x.toNat (by omega) (by omega)
  rw [toNat_cast h0] at this
  exact this

theorem head_Write_loop (l : List Sg) (hl : l.length ≤ 64) (hg : ∀ s ∈ l, goodS s = true) : ∀ (k i : Nat) (b : List UInt8), i + k = l.length → b.length ≤ 1000 + 50 * i →
    head_Write_l0 ((i : Int), b, l, (l.length : Int)) = some (b ++ (l.drop i).flatMap encS) := by
  intro k
  induction k with
  | zero =>
    intro i b hk hb
    rw [head_Write_l0_eq]
    dsimp only
    rw [cF (dF (by omega)), List.drop_eq_nil_iff.2 (by omega)]
    simp
  | succ k ih =>
    intro i b hk hb
    have hi : i < l.length := by omega
    have hW : W64 ((i : Int) + 1) = ((i + 1 : Nat) : Int) := by rw [W64_in (by omega) (by omega)]; omega
    have hgi := hg l[i] (List.getElem_mem hi)
    obtain ⟨h1, h2, h3, h4, h5, h6⟩ := goodS_of hgi
    have e1 := encN_9 (v := (l[i]).2.1.toNat) (by omega)
    have e2 := encN_9 (v := (l[i]).2.2.1.toNat) (by omega)
    rw [head_Write_l0_eq]
    dsimp only
    rw [cT (dT (by omega)), grd (aT (dT (by omega)) (dT (by omega))), idx_nat hi, head_Write_1_ok (by omega) (by omega) (by omega), bS, head_Write_1_ok (by omega) (by omega) (by simp only [List.length_append]; omega), bS,
      grd (dT (by simp only [List.length_append]; omega)), hW, ih (i + 1) _ (by omega) (by simp only [List.length_append]; omega), List.drop_eq_getElem_cons hi]
    simp only [List.flatMap_cons, encS, List.append_assoc]

theorem head_Write_ok (size : Int) (log : List UInt8) (segs : List Sg) : head_Write size log segs = some (if headR size log segs then (0, encH size log segs) else (1, [])) := by
  refine head_Write_of ?_
  unfold head_Write_b
  rw [head_Right_ok, bS]
  cases h : headR size log segs with
  | false => rfl
  | true =>
    obtain ⟨h1, h2, h3, h4, _, h5⟩ := headR_of h
    have e1 := encN_9 (v := size.toNat) (by omega)
    have e2 := encN_9 (v := segs.length) (by omega)
    have hl := head_Write_loop segs h4 h5 segs.length 0 (encN size.toNat ++ log ++ encN segs.length) (by omega) (by simp only [List.length_append]; omega)
    rw [List.drop_zero] at hl
    have e3 : head_Write_1 ((segs.length : Nat) : Int) ([] ++ encN size.toNat ++ log) = some ([] ++ encN size.toNat ++ log ++ encN segs.length) := by
      have := head_Write_1_ok (x := ((segs.length : Nat) : Int)) (b := [] ++ encN size.toNat ++ log) (by omega) (by omega) (by simp only [List.length_append, List.length_nil]; omega)
      rw [Int.toNat_natCast] at this
      exact this
    rw [cF (show (!true) = false from rfl), head_Write_1_ok h1 (by omega) (by simp), bS, grd (dT (by simp only [List.length_append, List.length_nil]; omega)), e3, bS]
    simp only [List.nil_append]
    have hl' : head_Write_l0 (0, encN size.toNat ++ log ++ encN segs.length, segs, (segs.length : Int)) = some (encN size.toNat ++ log ++ encN segs.length ++ segs.flatMap encS) := hl
    rw [hl', bS]
    rfl

theorem ref15_Write_loop (l : List Sg) (x : List UInt8) (hl : l.length ≤ 64) (hg : ∀ s ∈ l, goodS s = true) : ∀ (k i : Nat) (b : List UInt8), i + k = l.length → b.length ≤ 1000 + 50 * i →
    ref15_Write_l0 ((i : Int), x, b, l) = some (b ++ (l.drop i).flatMap encS) := by
  intro k
  induction k with
  | zero =>
    intro i b hk hb
    rw [ref15_Write_l0_eq]
    dsimp only
    rw [cF (dF (by omega)), List.drop_eq_nil_iff.2 (by omega)]
    simp
  | succ k ih =>
    intro i b hk hb
    have hi : i < l.length := by omega
    have hW : W64 ((i : Int) + 1) = ((i + 1 : Nat) : Int) := by rw [W64_in (by omega) (by omega)]; omega
    have hgi := hg l[i] (List.getElem_mem hi)
    obtain ⟨h1, h2, h3, h4, h5, h6⟩ := goodS_of hgi
    have e1 := encN_9 (v := (l[i]).2.1.toNat) (by omega)
    have e2 := encN_9 (v := (l[i]).2.2.1.toNat) (by omega)
    rw [ref15_Write_l0_eq]
    dsimp only
    rw [cT (dT (by omega)), grd (aT (dT (by omega)) (dT (by omega))), idx_nat hi, ref02_Num_ok' (by omega) (by omega), bS, grd (dT (by simp only [List.length_append]; omega)), ref02_Num_ok' (by omega) (by omega), bS,
      grd (dT (by simp only [List.length_append]; omega)), grd (dT (by simp only [List.length_append]; omega)), hW, ih (i + 1) _ (by omega) (by simp only [List.length_append]; omega), List.drop_eq_getElem_cons hi]
    simp only [List.flatMap_cons, encS, List.append_assoc]

theorem ref15_Write_ok {size : Int} {log : List UInt8} {segs : List Sg} (h : headR size log segs = true) : ref15_Write size log segs = some (encH size log segs) := by
  refine ref15_Write_of ?_
  unfold ref15_Write_b
  obtain ⟨h1, h2, h3, h4, _, h5⟩ := headR_of h
  have e1 := encN_9 (v := size.toNat) (by omega)
  have e2 := encN_9 (v := segs.length) (by omega)
  have hl := ref15_Write_loop segs (encN segs.length) h4 h5 segs.length 0 (encN size.toNat ++ log ++ encN segs.length) (by omega) (by simp only [List.length_append]; omega)
  rw [List.drop_zero] at hl
  have e3 : ref02_Num ((segs.length : Nat) : Int) = some (encN segs.length) := by
    have := ref02_Num_ok' (x := ((segs.length : Nat) : Int)) (by omega) (by omega)
    rw [Int.toNat_natCast] at this
    exact this
  rw [ref02_Num_ok' h1 (by omega), bS, grd (dT (by simp only [List.length_append]; omega)), e3, bS, grd (dT (by simp only [List.length_append]; omega))]
  have hl' : ref15_Write_l0 (0, encN segs.length, encN size.toNat ++ log ++ encN segs.length, segs) = some (encN size.toNat ++ log ++ encN segs.length ++ segs.flatMap encS) := hl
  rw [hl', bS]
  rfl

/-! ### As the document's, and alike -/

theorem law15_As_loop (l : List Sg) (z : Int) (g : List UInt8) (hl : l.length ≤ 1000) : ∀ (k i : Nat) (out : List Sg), i + k = l.length → out.length = i →
    law15_As_l0 ((i : Int), out, l, z, g) = some (out ++ l.drop i, z, g) := by
  intro k
  induction k with
  | zero =>
    intro i out hk ho
    rw [law15_As_l0_eq]
    dsimp only
    rw [cF (dF (by omega)), List.drop_eq_nil_iff.2 (by omega), List.append_nil]
  | succ k ih =>
    intro i out hk ho
    have hi : i < l.length := by omega
    have hW : W64 ((i : Int) + 1) = ((i + 1 : Nat) : Int) := by rw [W64_in (by omega) (by omega)]; omega
    rw [law15_As_l0_eq]
    dsimp only
    rw [cT (dT (by omega)), grd (aT (dT (by omega)) (dT (by omega))), idx_nat hi, show law12_AsSign (l[i]).1 (l[i]).2.1 (l[i]).2.2.1 (l[i]).2.2.2 = some _ from law12_AsSign_of rfl, bS,
      grd (dT (by simp only [List.length_append, List.length_cons, List.length_nil]; omega)), hW, ih (i + 1) _ (by omega) (by simp; omega)]
    rw [List.append_assoc]
    congr 2
    exact congrArg (out ++ ·) (List.drop_eq_getElem_cons hi).symm

theorem law15_As_ok {z : Int} {g : List UInt8} {l : List Sg} (hl : l.length ≤ 1000) : law15_As z g l = some (z, g, l) := by
  refine law15_As_of ?_
  unfold law15_As_b
  have h := law15_As_loop l z g hl l.length 0 [] (by omega) rfl
  rw [List.drop_zero, List.nil_append] at h
  have h' : law15_As_l0 (0, [], l, z, g) = some (l, z, g) := h
  rw [h', bS]

theorem law15_Great_loop (l : List Sg) (g : List UInt8) (hm : l.length ≤ 9223372036854775807) : ∀ (k i : Nat), i + k = l.length → ∃ r, law15_Great_l0 ((i : Int), l, g) = some r ∧ (r = false → l.length ≤ 200 ∧ g.length ≤ 200 ∧ ∀ s ∈ l.drop i, s.2.2.2.length ≤ 200) := by
  intro k
  induction k with
  | zero =>
    intro i hk
    refine ⟨(if (decide ((l.length : Int) > 200)) then true else decide ((g.length : Int) > 200)), ?_, fun h => ?_⟩
    · rw [law15_Great_l0_eq]
      dsimp only
      rw [cF (dF (by omega))]
    · rw [List.drop_eq_nil_iff.2 (by omega)]
      simp only [iteO, Bool.or_eq_false_iff, decide_eq_false_iff_not] at h
      exact ⟨by omega, by omega, by simp⟩
  | succ k ih =>
    intro i hk
    have hi : i < l.length := by omega
    have hW : W64 ((i : Int) + 1) = ((i + 1 : Nat) : Int) := by rw [W64_in (by omega) (by omega)]; omega
    by_cases hg : (l[i]).2.2.2.length ≤ 200
    · obtain ⟨r, h1, h2⟩ := ih (i + 1) (by omega)
      refine ⟨r, ?_, fun h => ?_⟩
      · rw [law15_Great_l0_eq]
        dsimp only
        rw [cT (dT (by omega)), grd (aT (dT (by omega)) (dT (by omega))), idx_nat hi, cF (dF (by omega)), hW, h1]
      · obtain ⟨q1, q2, q3⟩ := h2 h
        refine ⟨q1, q2, fun s hs => ?_⟩
        rw [List.drop_eq_getElem_cons hi] at hs
        rcases List.mem_cons.1 hs with hs | hs
        · rw [hs]; exact hg
        · exact q3 s hs
    · refine ⟨true, ?_, fun h => by simp at h⟩
      rw [law15_Great_l0_eq]
      dsimp only
      rw [cT (dT (by omega)), grd (aT (dT (by omega)) (dT (by omega))), idx_nat hi, cT (dT (by omega))]

theorem law15_Great_ok {z : Int} {g : List UInt8} {l : List Sg} (hm : l.length ≤ 9223372036854775807) : ∃ r, law15_Great z g l = some r ∧ (r = false → l.length ≤ 200 ∧ g.length ≤ 200 ∧ ∀ s ∈ l, s.2.2.2.length ≤ 200) := by
  obtain ⟨r, h1, h2⟩ := law15_Great_loop l g hm l.length 0 (by omega)
  refine ⟨r, law15_Great_of ?_, by simpa using h2⟩
  unfold law15_Great_b
  exact h1

theorem eqSg (a b : Sg) : ((a.1 == b.1) && ((a.2.1 == b.2.1) && ((a.2.2.1 == b.2.2.1) && (a.2.2.2 == b.2.2.2)))) = decide (a = b) := by
  obtain ⟨a1, a2, a3, a4⟩ := a
  obtain ⟨b1, b2, b3, b4⟩ := b
  rw [Bool.eq_iff_iff]
  simp

theorem ref15_Same_loop (a b : List Sg) (hl : a.length = b.length) (hm : a.length ≤ 9223372036854775807) : ∀ (k i : Nat), i + k = a.length → ref15_Same_l0 ((i : Int), b, a) = some (decide (a.drop i = b.drop i)) := by
  intro k
  induction k with
  | zero =>
    intro i hk
    rw [ref15_Same_l0_eq]
    dsimp only
    rw [cF (dF (by omega)), List.drop_eq_nil_iff.2 (by omega), List.drop_eq_nil_iff.2 (by omega)]
    simp
  | succ k ih =>
    intro i hk
    rw [ref15_Same_l0_eq]
    dsimp only
    have hi : i < a.length := by omega
    have hi' : i < b.length := by omega
    have hW : W64 ((i : Int) + 1) = ((i + 1 : Nat) : Int) := by rw [W64_in (by omega) (by omega)]; omega
    rw [cT (dT (by omega)), grd (aT (dT (by omega)) (dT (by omega))), grd (aT (dT (by omega)) (dT (by omega))), idx_nat hi, idx_nat hi', hW, ih (i + 1) (by omega), eqSg]
    rw [List.drop_eq_getElem_cons hi, List.drop_eq_getElem_cons hi']
    by_cases he : a[i] = b[i]
    · rw [cF (by simp [he])]
      simp only [List.cons.injEq, he, true_and]
    · rw [cT (by simp [he])]
      simp only [List.cons.injEq, he, false_and, decide_false]

theorem ref15_Same_ok {z z' : Int} {g g' : List UInt8} {a b : List Sg} (hm : a.length ≤ 9223372036854775807) : ref15_Same z g a z' g' b = some (decide (z = z' ∧ g = g' ∧ a = b)) := by
  refine ref15_Same_of ?_
  unfold ref15_Same_b
  simp only [iteO]
  by_cases h1 : z = z'
  · by_cases h2 : g = g'
    · by_cases hl : a.length = b.length
      · have h := ref15_Same_loop a b hl hm a.length 0 (by omega)
        rw [List.drop_zero, List.drop_zero] at h
        have h' : ref15_Same_l0 (0, b, a) = some (decide (a = b)) := h
        rw [cF (by simp [h1, h2, hl]), h']
        simp [h1, h2]
      · rw [cT (by simp; omega)]
        have : a ≠ b := fun e => hl (by rw [e])
        simp [this]
    · rw [cT (by simp [h2])]
      simp [h2]
  · rw [cT (by simp [h1])]
    simp [h1]

/-! ### Links -/

def mayL (a b c : List UInt8) : Bool := decide (a.length ≤ 64) && (decide (b.length ≤ 64) && decide (c.length = 32))
def encK (a b c : List UInt8) : List UInt8 := encT a ++ encT b ++ c

theorem mayL_of {a b c : List UInt8} (h : mayL a b c = true) : a.length ≤ 64 ∧ b.length ≤ 64 ∧ c.length = 32 := by
  simp only [mayL, Bool.and_eq_true, decide_eq_true_eq] at h
  exact h

theorem encK_len {a b c : List UInt8} (h : mayL a b c = true) : (encK a b c).length ≤ 178 := by
  obtain ⟨h1, h2, h3⟩ := mayL_of h
  have e1 := encT_len (s := a) (by omega)
  have e2 := encT_len (s := b) (by omega)
  simp only [encK, List.length_append]
  omega

theorem dict_WriteLink_ok (a b c : List UInt8) : dict_WriteLink a b c = some (if mayL a b c then (0, encK a b c) else (1, [])) := by
  refine dict_WriteLink_of ?_
  unfold dict_WriteLink_b
  simp only [iteO]
  cases h : mayL a b c with
  | true =>
    obtain ⟨h1, h2, h3⟩ := mayL_of h
    have e1 := encT_len (s := a) (by omega)
    have e2 := encT_len (s := b) (by omega)
    rw [cF (by simp; omega), code_Text_ok (by simp) (by omega), bS, code_Text_ok (by simp; omega) (by omega), bS, grd (dT (by simp only [List.length_append, List.length_nil]; omega))]
    simp [encK]
  | false =>
    rw [cT (by
      simp only [mayL, Bool.and_eq_false_iff, decide_eq_false_iff_not] at h
      simp only [Bool.or_eq_true, decide_eq_true_eq, bne_iff_ne, ne_eq]
      omega)]
    rfl

theorem ref10_May_ok (a b c : List UInt8) : ref10_May a b c = some (mayL a b c) := by
  refine ref10_May_of ?_
  unfold ref10_May_b mayL
  congr 1
  simp only [iteA]
  rw [Bool.eq_iff_iff]
  simp only [Bool.and_eq_true, decide_eq_true_eq, beq_iff_eq]
  omega

theorem ref10_WriteLink_ok {a b c : List UInt8} (h : mayL a b c = true) : ref10_WriteLink a b c = some (encK a b c) := by
  refine ref10_WriteLink_of ?_
  unfold ref10_WriteLink_b
  obtain ⟨h1, h2, h3⟩ := mayL_of h
  have e1 := encT_len (s := a) (by omega)
  have e2 := encT_len (s := b) (by omega)
  rw [ref02_Text_ok (by omega), bS, ref02_Text_ok (by omega), bS, grd (dT (by simp only [List.length_append]; omega)), grd (dT (by simp only [List.length_append]; omega))]
  rfl

end Rk
