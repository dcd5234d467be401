/- The plain part: what the functions answer. No condition. -/
import Derived.Test.YtjocdcnodndjjaaPu02
set_option linter.unusedVariables false
set_option linter.unusedSimpArgs false
namespace Rk
open Go

/-! ### The reference -/

theorem ref02_Num_ok : ∀ (n v : Nat), v < 128 ^ (n + 1) → v < 2 ^ 63 → ref02_Num (v : Int) = some (encN v) := by
  intro n
  induction n with
  | zero =>
    intro v hv hm
    simp at hv
    refine ref02_Num_of ?_
    unfold ref02_Num_b
    rw [cT (dT (by omega)), encN_lt hv]
    have : IntKind.wrap .u8 (v : Int) = v := by rw [wrap8]; omega
    rw [this]; rfl
  | succ n ih =>
    intro v hv hm
    refine ref02_Num_of ?_
    unfold ref02_Num_b
    by_cases hlt : v < 128
    · rw [cT (dT (by omega)), encN_lt hlt]
      have : IntKind.wrap .u8 (v : Int) = v := by rw [wrap8]; omega
      rw [this]; rfl
    · have e1 : arI .quo .i64 (v : Int) 128 = ((v / 128 : Nat) : Int) := by rw [quo64 (by omega) (by omega) (by omega)]; omega
      have e2 : arI .rem .i64 (v : Int) 128 = ((v % 128 : Nat) : Int) := by
        show (v : Int).tmod 128 = _
        rw [Int.tmod_eq_emod_of_nonneg (by omega)]
        omega
      have e3 : IntKind.wrap .u8 (W64 (((v % 128 : Nat) : Int) + 128)) = ((v % 128 + 128 : Nat) : Int) := by rw [W64_in (by omega) (by omega), wrap8]; omega
      have := encN_9 (v := v / 128) (by omega)
      rw [cF (dF (by omega)), grd (by rfl), grd (by rfl), e1, ih (v / 128) (by rw [Nat.pow_succ] at hv; omega) (by omega), bS]
      rw [e2, e3]
      rw [grd (dT (by simp only [List.length_append, List.length_cons, List.length_nil]; omega)), encN_ge hlt]
      rfl

theorem ref02_Text_ok {s : List UInt8} (hs : s.length ≤ 10000000) : ref02_Text s = some (encT s) := by
  refine ref02_Text_of ?_
  unfold ref02_Text_b
  have := encN_9 (v := s.length) (by omega)
  rw [ref02_Num_ok 8 s.length (by omega) (by omega), bS, grd (dT (by simp only [List.length_append]; omega))]
  rfl

theorem encT_len {s : List UInt8} (h : s.length ≤ 10000000) : (encT s).length ≤ s.length + 9 := by
  have := encN_9 (v := s.length) (by omega)
  unfold encT
  simp only [List.length_append]; omega

theorem ref02_List_loop (l : List (List UInt8)) (hl : l.length ≤ 1000) (hs : ∀ s ∈ l, s.length ≤ 10000) : ∀ (k i : Nat) (b : List UInt8), i + k = l.length → b.length ≤ 10000000 + 20000 * i →
    ref02_List_l0 ((i : Int), b, l) = some (b ++ (l.drop i).flatMap encT) := by
  intro k
  induction k with
  | zero =>
    intro i b hk hb
    rw [ref02_List_l0_eq]
    dsimp only
    rw [cF (dF (by omega)), List.drop_eq_nil_iff.2 (by omega)]
    simp
  | succ k ih =>
    intro i b hk hb
    rw [ref02_List_l0_eq]
    dsimp only
    have hi : i < l.length := by omega
    have hsi := hs l[i] (List.getElem_mem hi)
    have hen := encT_len (s := l[i]) (by omega)
    have hW : W64 ((i : Int) + 1) = ((i + 1 : Nat) : Int) := by rw [W64_in (by omega) (by omega)]; omega
    rw [cT (dT (by omega)), grd (aT (dT (by omega)) (dT (by omega))), idx_nat hi, ref02_Text_ok (by omega), bS, grd (dT (by simp only [List.length_append]; omega)), hW]
    rw [ih (i + 1) _ (by omega) (by simp only [List.length_append]; omega), List.drop_eq_getElem_cons hi]
    simp only [List.flatMap_cons, List.append_assoc]

theorem ref02_List_ok {l : List (List UInt8)} (hl : l.length ≤ 1000) (hs : ∀ s ∈ l, s.length ≤ 10000) : ref02_List l = some (encL l) := by
  refine ref02_List_of ?_
  unfold ref02_List_b
  have := encN_9 (v := l.length) (by omega)
  have h := ref02_List_loop l hl hs l.length 0 (encN l.length) (by omega) (by omega)
  rw [show ((0 : Nat) : Int) = 0 from rfl] at h
  rw [ref02_Num_ok 8 l.length (by omega) (by omega), bS, h, bS, List.drop_zero]
  rfl

theorem ref02_Same_loop (a b : List (List UInt8)) (hl : a.length = b.length) (hm : a.length ≤ 9223372036854775807) : ∀ (k i : Nat), i + k = a.length → ref02_Same_l0 ((i : Int), b, a) = some (decide (a.drop i = b.drop i)) := by
  intro k
  induction k with
  | zero =>
    intro i hk
    rw [ref02_Same_l0_eq]
    dsimp only
    rw [cF (dF (by omega)), List.drop_eq_nil_iff.2 (by omega), List.drop_eq_nil_iff.2 (by omega)]
    simp
  | succ k ih =>
    intro i hk
    rw [ref02_Same_l0_eq]
    dsimp only
    have hi : i < a.length := by omega
    have hi' : i < b.length := by omega
    have hW : W64 ((i : Int) + 1) = ((i + 1 : Nat) : Int) := by rw [W64_in (by omega) (by omega)]; omega
    rw [cT (dT (by omega)), grd (aT (dT (by omega)) (dT (by omega))), grd (aT (dT (by omega)) (dT (by omega))), idx_nat hi, idx_nat hi', hW, ih (i + 1) (by omega)]
    rw [List.drop_eq_getElem_cons hi, List.drop_eq_getElem_cons hi']
    by_cases he : a[i] = b[i]
    · have : (!(a[i] == b[i])) = false := by simp [he]
      rw [cF this]
      simp only [List.cons.injEq, he, true_and]
    · have : (!(a[i] == b[i])) = true := by simp [he]
      rw [cT this]
      simp only [List.cons.injEq, he, false_and, decide_false]

theorem ref02_Same_ok {a b : List (List UInt8)} (hm : a.length ≤ 9223372036854775807) : ref02_Same a b = some (decide (a = b)) := by
  refine ref02_Same_of ?_
  unfold ref02_Same_b
  by_cases hl : a.length = b.length
  · have : (((a.length : Nat) : Int) != ((b.length : Nat) : Int)) = false := by simp [hl]
    have h := ref02_Same_loop a b hl hm a.length 0 (by omega)
    rw [show ((0 : Nat) : Int) = 0 from rfl] at h
    rw [cF this, h]
    simp
  · have : (((a.length : Nat) : Int) != ((b.length : Nat) : Int)) = true := by simp; omega
    rw [cT this]
    have : a ≠ b := fun e => hl (by rw [e])
    simp [this]

theorem great_loop (l : List (List UInt8)) (hm : l.length ≤ 9223372036854775807) : ∀ (k i : Nat), i + k = l.length → ∃ g, law02_great_l0 ((i : Int), l) = some g ∧ (g = false → l.length ≤ 50 ∧ ∀ s ∈ l.drop i, s.length ≤ 1000) := by
  intro k
  induction k with
  | zero =>
    intro i hk
    refine ⟨decide ((l.length : Int) > 50), ?_, fun h => ?_⟩
    · rw [law02_great_l0_eq]
      dsimp only
      rw [cF (dF (by omega))]
    · rw [List.drop_eq_nil_iff.2 (by omega)]
      have := of_decide_eq_false h
      exact ⟨by omega, by simp⟩
  | succ k ih =>
    intro i hk
    have hi : i < l.length := by omega
    have hW : W64 ((i : Int) + 1) = ((i + 1 : Nat) : Int) := by rw [W64_in (by omega) (by omega)]; omega
    by_cases hg : l[i].length ≤ 1000
    · obtain ⟨g, h1, h2⟩ := ih (i + 1) (by omega)
      refine ⟨g, ?_, fun h => ?_⟩
      · rw [law02_great_l0_eq]
        dsimp only
        rw [cT (dT (by omega)), grd (aT (dT (by omega)) (dT (by omega))), idx_nat hi, cF (dF (by omega)), hW, h1]
      · obtain ⟨q1, q2⟩ := h2 h
        refine ⟨q1, fun s hs => ?_⟩
        rw [List.drop_eq_getElem_cons hi] at hs
        rcases List.mem_cons.1 hs with hs | hs
        · rw [hs]; exact hg
        · exact q2 s hs
    · refine ⟨true, ?_, fun h => by simp at h⟩
      rw [law02_great_l0_eq]
      dsimp only
      rw [cT (dT (by omega)), grd (aT (dT (by omega)) (dT (by omega))), idx_nat hi, cT (dT (by omega))]

theorem law02_great_ok {l : List (List UInt8)} (hm : l.length ≤ 9223372036854775807) : ∃ g, law02_great l = some g ∧ (g = false → l.length ≤ 50 ∧ ∀ s ∈ l, s.length ≤ 1000) := by
  obtain ⟨g, h1, h2⟩ := great_loop l hm l.length 0 (by omega)
  refine ⟨g, law02_great_of ?_, by simpa using h2⟩
  unfold law02_great_b
  exact h1

/-! ### The document's examples -/

theorem encN_300 : encN 300 = [172, 2] := by
  rw [encN_ge (by omega), encN_lt (by omega)]; rfl
theorem encT_hay : encT [104, 97, 121] = [3, 104, 97, 121] := by
  unfold encT
  rw [show ([104, 97, 121] : List UInt8).length = 3 from rfl, encN_lt (by omega)]; rfl

theorem rd_ok {B : List UInt8} {At : Int} (h0 : 0 ≤ At) (h1 : At ≤ (B.length : Int)) (h2 : B.length ≤ 4611686018427387904) : RdOk B At := ⟨h0, h1, h2⟩

theorem knows_ok : law02_knows = some true := by
  refine law02_knows_of ?_
  unfold law02_knows_b
  have e1 : code_Num [] (300 : Int) = some (0, [172, 2]) := by
    have := code_Num_ok (v := 300) (b := []) (by omega) (by simp)
    rw [encN_300] at this
    exact this
  have e2 : code_Text [] [104, 97, 121] = some [3, 104, 97, 121] := by
    rw [code_Text_ok (by simp) (by simp), encT_hay]; rfl
  have e3 : code_ReadNum [172, 2] 0 0 = some ([172, 2], 2, 0, 300) := by
    rw [code_ReadNum_ok (rd_ok (by omega) (by simp) (by simp))]; rfl
  have e4 : code_ReadText [3, 104, 97, 121] 0 0 9 = some ([3, 104, 97, 121], 4, 0, [104, 97, 121]) := by
    rw [code_ReadText_ok (rd_ok (by omega) (by simp) (by simp))]; rfl
  have e5 : code_ReadNum ([128] ++ ([0] ++ [])) 0 0 = some ([128, 0], 0, 2, 0) := by
    have : ([128] ++ ([0] ++ []) : List UInt8) = [128, 0] := rfl
    rw [this, code_ReadNum_ok (rd_ok (by omega) (by simp) (by simp))]; rfl
  have e6 : code_Done [172, 2] 2 0 = some 0 := by
    rw [code_Done_ok (rd_ok (by omega) (by simp) (by simp))]; rfl
  rw [e1, bS, e2, bS]
  dsimp only
  rw [e3, bS, e4, bS, e5, bS]
  dsimp only
  rw [grd (by rfl), e6, bS]
  rfl

/-! ### CodeSizes -/

theorem encN_mono : ∀ (n a b : Nat), b < 128 ^ (n + 1) → a ≤ b → (encN a).length ≤ (encN b).length := by
  intro n
  induction n with
  | zero => intro a b hb hab; rw [encN_lt (by simp at hb; omega), encN_lt (by simpa using hb)]; simp
  | succ n ih =>
    intro a b hb hab
    by_cases ha : a < 128
    · rw [encN_lt ha]
      have := encN_pos b
      simp only [List.length_singleton]
      omega
    · rw [encN_ge ha, encN_ge (v := b) (by omega)]
      have := ih (a / 128) (b / 128) (by rw [Nat.pow_succ] at hb; omega) (by omega)
      simp only [List.length_cons]
      omega

theorem sizes_loop (B C : List UInt8) (e f : Int) : ∀ (n x : Nat) (c : Nat), x < 128 ^ (n + 1) → x < 2 ^ 63 → c + n ≤ 1000 →
    law02_CodeSizes_l0 ((x : Int), (c : Int), B, C, e, f) = some (B, C, ((c + (encN x).length - 1 : Nat) : Int), e, f) := by
  intro n
  induction n with
  | zero =>
    intro x c hx hm hc
    simp at hx
    rw [law02_CodeSizes_l0_eq]
    dsimp only
    rw [cF (dF (by omega)), encN_lt hx]
    rfl
  | succ n ih =>
    intro x c hx hm hc
    rw [law02_CodeSizes_l0_eq]
    dsimp only
    by_cases hlt : x < 128
    · rw [cF (dF (by omega)), encN_lt hlt]; rfl
    · have e1 : arI .quo .i64 (x : Int) 128 = ((x / 128 : Nat) : Int) := by rw [quo64 (by omega) (by omega) (by omega)]; omega
      have e2 : W64 ((c : Int) + 1) = ((c + 1 : Nat) : Int) := by rw [W64_in (by omega) (by omega)]; omega
      rw [cT (dT (by omega)), grd (by rfl), e1, e2, ih (x / 128) (c + 1) (by rw [Nat.pow_succ] at hx; omega) (by omega) (by omega), encN_ge hlt]
      simp only [List.length_cons]
      congr 4
      omega

theorem CodeSizes_ok {v w : Int} : law02_CodeSizes v w = some true := by
  refine law02_CodeSizes_of ?_
  unfold law02_CodeSizes_b
  by_cases hg : v < 0 ∨ v > w ∨ w > 4611686018427387904
  · have : (if (if decide (v < 0) = true then true else decide (v > w)) = true then true else decide (w > 4611686018427387904)) = true := by
      rcases hg with h | h | h <;> simp [h]
    rw [cT this, knows_ok]
    rfl
  · simp only [not_or] at hg
    obtain ⟨h1, h2, h3⟩ := hg
    have : (if (if decide (v < 0) = true then true else decide (v > w)) = true then true else decide (w > 4611686018427387904)) = false := by
      rw [dF h1, dF h2, dF h3]; rfl
    rw [cF this]
    obtain ⟨a, rfl⟩ : ∃ a : Nat, v = a := ⟨v.toNat, by omega⟩
    obtain ⟨b, rfl⟩ : ∃ b : Nat, w = b := ⟨w.toNat, by omega⟩
    have hl := sizes_loop (encN b) (encN a) 0 0 8 a 1 (by omega) (by omega) (by omega)
    rw [show ((1 : Nat) : Int) = 1 from rfl] at hl
    rw [code_Num_ok (by omega) (by simp), bS, code_Num_ok (by omega) (by simp), bS]
    simp only [List.nil_append]
    rw [hl, bS]
    dsimp only
    have hp := encN_pos a
    have hm := encN_mono 8 a b (by omega) (by omega)
    have h9 := encN_9 (v := b) (by omega)
    have e1 : (((encN a).length : Int) == ((1 + (encN a).length - 1 : Nat) : Int)) = true := by simp
    have e2 : decide (((encN b).length : Int) ≥ ((encN a).length : Int)) = true := dT (by omega)
    have e3 : decide (((encN b).length : Int) ≤ 9) = true := dT (by omega)
    rw [e1, e2, e3, knows_ok]
    rfl

theorem L_CodeSizes (x0 x1 : Int) (w0 : WF (.int .i64) x0) (w1 : WF (.int .i64) x1) : law02_CodeSizes x0 x1 = some true := CodeSizes_ok

end Rk
