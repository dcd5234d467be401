/- The plain part: what the functions answer. No condition. -/
import Derived.Test.YtfmdnoljlbfjbaaDoorPu04e
set_option linter.unusedVariables false
set_option linter.unusedSimpArgs false
namespace Rk
open Go

/-! The order of texts; lists that rise. -/
abbrev bl (x y : List UInt8) : Bool := Op.bytesLess x y
theorem bl_irr : ∀ x : List UInt8, bl x x = false
  | [] => by simp [bl, Op.bytesLess]
  | a :: x => by
    have := bl_irr x
    simp [bl, Op.bytesLess] at this ⊢
    exact this
theorem bl_cons (a b : UInt8) (x y : List UInt8) : bl (a :: x) (b :: y) = true ↔ a < b ∨ a = b ∧ bl x y = true := by
  unfold bl
  rw [Op.bytesLess]
  by_cases h1 : a < b <;> by_cases h2 : a = b <;> simp [h1, h2]
theorem bl_nil (x : List UInt8) : bl x [] = false := by cases x <;> simp [bl, Op.bytesLess]
theorem bl_nilc (b : UInt8) (y : List UInt8) : bl [] (b :: y) = true := by simp [bl, Op.bytesLess]
theorem bl_trans : ∀ x y z : List UInt8, bl x y = true → bl y z = true → bl x z = true
  | _, _, [], _, h => by rw [bl_nil] at h; cases h
  | _, [], _ :: _, h, _ => by rw [bl_nil] at h; cases h
  | [], _ :: _, c :: z, _, _ => bl_nilc c z
  | a :: x, b :: y, c :: z, h1, h2 => by
    rw [bl_cons] at *
    rcases h1 with h1 | ⟨rfl, h1⟩
    · rcases h2 with h2 | ⟨rfl, h2⟩
      · exact Or.inl (by rw [UInt8.lt_iff_toNat_lt] at *; omega)
      · exact Or.inl h1
    · rcases h2 with h2 | ⟨rfl, h2⟩
      · exact Or.inl h2
      · exact Or.inr ⟨rfl, bl_trans x y z h1 h2⟩
theorem bl_tri : ∀ x y : List UInt8, bl x y = false → bl y x = false → x = y
  | [], [], _, _ => rfl
  | [], b :: y, h, _ => by rw [bl_nilc] at h; cases h
  | a :: x, [], _, h => by rw [bl_nilc] at h; cases h
  | a :: x, b :: y, h1, h2 => by
    have n1 : ¬ bl (a :: x) (b :: y) = true := by rw [h1]; decide
    have n2 : ¬ bl (b :: y) (a :: x) = true := by rw [h2]; decide
    rw [bl_cons] at n1 n2
    have e : a = b := by
      apply UInt8.toNat_inj.1
      have m1 : ¬ a < b := fun q => n1 (Or.inl q)
      have m2 : ¬ b < a := fun q => n2 (Or.inl q)
      rw [UInt8.lt_iff_toNat_lt] at m1 m2
      omega
    subst e
    rw [bl_tri x y (Bool.eq_false_iff.2 fun q => n1 (Or.inr ⟨rfl, q⟩)) (Bool.eq_false_iff.2 fun q => n2 (Or.inr ⟨rfl, q⟩))]
theorem bl_asym {x y : List UInt8} (h : bl x y = true) : bl y x = false := by
  cases h2 : bl y x with
  | false => rfl
  | true => have := bl_trans _ _ _ h h2; rw [bl_irr] at this; cases this
theorem bl_ne {x y : List UInt8} (h : bl x y = true) : x ≠ y := fun e => by subst e; rw [bl_irr] at h; cases h
/-- Not below, then below: below. -/
theorem bl_ft {x y z : List UInt8} (h1 : bl y x = false) (h2 : bl y z = true) : bl x z = true := by
  cases h : bl x y with
  | true => exact bl_trans _ _ _ h h2
  | false => rw [bl_tri _ _ h h1]; exact h2
theorem bl_tf {x y z : List UInt8} (h1 : bl x y = true) (h2 : bl z y = false) : bl x z = true := by
  cases h : bl y z with
  | true => exact bl_trans _ _ _ h1 h
  | false => rw [← bl_tri _ _ h h2]; exact h1

def Asc (l : List (List UInt8)) : Prop := l.Pairwise fun x y => bl x y = true

theorem asc_ext : ∀ (l m : List (List UInt8)), Asc l → Asc m → (∀ s, s ∈ l ↔ s ∈ m) → l = m
  | [], [], _, _, _ => rfl
  | [], y :: m, _, _, h => absurd ((h y).2 (List.mem_cons_self ..)) List.not_mem_nil
  | x :: l, [], _, _, h => absurd ((h x).1 (List.mem_cons_self ..)) List.not_mem_nil
  | x :: l, y :: m, hl, hm, h => by
    have hl' := List.pairwise_cons.1 hl
    have hm' := List.pairwise_cons.1 hm
    have e : x = y := by
      rcases List.mem_cons.1 ((h x).1 (List.mem_cons_self ..)) with e | e
      · exact e
      · rcases List.mem_cons.1 ((h y).2 (List.mem_cons_self ..)) with e2 | e2
        · exact e2.symm
        · have a1 := hm'.1 x e
          have a2 := hl'.1 y e2
          rw [bl_asym a1] at a2
          cases a2
    subst e
    rw [asc_ext l m hl'.2 hm'.2]
    intro s
    constructor
    · intro hs
      rcases List.mem_cons.1 ((h s).1 (List.mem_cons_of_mem _ hs)) with e | e
      · have := hl'.1 s hs
        rw [e, bl_irr] at this
        cases this
      · exact e
    · intro hs
      rcases List.mem_cons.1 ((h s).2 (List.mem_cons_of_mem _ hs)) with e | e
      · have := hm'.1 s hs
        rw [e, bl_irr] at this
        cases this
      · exact e

theorem asc_app {l : List (List UInt8)} {x : List UInt8} (h : Asc l) (hx : ∀ y ∈ l, bl y x = true) : Asc (l ++ [x]) := by
  unfold Asc
  rw [List.pairwise_append]
  refine ⟨h, List.pairwise_singleton _ _, fun a ha b hb => ?_⟩
  rw [List.mem_singleton.1 hb]
  exact hx a ha

/-! Words. -/
def stepT (st : Bool × List UInt8) (c : Int) : Bool × List UInt8 := if st.1 = true ∨ 64 < st.2.length + (encC (smallC c)).length then (true, st.2) else (false, st.2 ++ encC (smallC c))
def foldW (l : List Int) : Bool × List UInt8 := l.foldl stepT (false, [])
def termS (l : List Int) : List UInt8 := (foldW l).2
def endW (cur : List Int) : List (List UInt8) := if cur = [] then [] else [termS cur]
def termsW (cur : List Int) : List Int → List (List UInt8)
  | [] => endW cur
  | c :: l => if inC c = true then termsW (cur ++ [c]) l else endW cur ++ termsW [] l
noncomputable def termsS (b : List UInt8) : List (List UInt8) := termsW [] (decS b)

theorem foldW_snoc (l : List Int) (c : Int) : foldW (l ++ [c]) = stepT (foldW l) c := by simp [foldW]
theorem stepT_len {st : Bool × List UInt8} (h : st.2.length ≤ 64) (c : Int) : (stepT st c).2.length ≤ 64 := by
  unfold stepT
  split
  · exact h
  · simp; omega
theorem foldl_len (l : List Int) : ∀ st : Bool × List UInt8, st.2.length ≤ 64 → (l.foldl stepT st).2.length ≤ 64 := by
  induction l with
  | nil => intro st h; exact h
  | cons c l ih => intro st h; exact ih _ (stepT_len h c)
theorem foldW_len (l : List Int) : (foldW l).2.length ≤ 64 := foldl_len l _ (by simp)
theorem fold_full (l : List Int) : ∀ s, l.foldl stepT (true, s) = (true, s) := by
  induction l with
  | nil => intro s; rfl
  | cons c l ih => intro s; rw [List.foldl_cons]; unfold stepT; rw [if_pos (Or.inl rfl)]; exact ih s

theorem encC_len (c : Int) : 1 ≤ (encC c).length ∧ (encC c).length ≤ 4 := by
  unfold encC
  repeat' split
  all_goals simp

theorem smallC_rt {c : Int} (h : inC c = true) : 0 ≤ smallC c ∧ smallC c ≤ 1114111 := by
  have := rightC_iff.1 (smallC_right h).1
  omega
theorem inC_bd {c : Int} (h : inC c = true) : 0 ≤ c ∧ c ≤ 1119 := by
  unfold inC letterC btw at h
  simp at h
  omega

theorem take_ok {c : Int} (hc : inC c = true) (o f : Bool) (w : List UInt8) (hw : w.length ≤ 64) :
    token_word_take c o f w = some (true, (stepT (f, w) c).1, (stepT (f, w) c).2) := by
  refine token_word_take_of ?_
  unfold token_word_take_b
  have hb := inC_bd hc
  have el := encC_len (smallC c)
  rw [utf_Small_ok (by omega) (by omega), bS, utf_Encode_ok (smallC_right hc).1, bS]
  dsimp only
  rw [W64_in (by omega) (by omega)]
  unfold stepT
  cases f with
  | true => rfl
  | false =>
    by_cases h : 64 < w.length + (encC (smallC c)).length
    · rw [if_pos (Or.inr h), cT (by simp; omega)]
    · rw [cF (by simp; omega), grd (dT (by simp; omega)), if_neg (by simp; omega)]

theorem end_ok (o f : Bool) (w : List UInt8) (out : List (List UInt8)) (h : out.length ≤ 1000000000000) : token_Terms_1 o f w out = some (false, false, [], if o = true then out ++ [w] else out) := by
  refine token_Terms_1_of ?_
  unfold token_Terms_1_b
  cases o with
  | false => rfl
  | true => rw [cT rfl, grd (dT (by simp; omega))]; rfl

theorem terms_l0 (l : List Int) (hl : l.length ≤ 1000000000000) : ∀ (k i : Nat) (cur : List Int) (out : List (List UInt8)), i + k = l.length → out.length ≤ i →
    ∃ o f w out', token_Terms_l0 ((i : Int), !cur.isEmpty, (foldW cur).1, (foldW cur).2, out, l, (l.length : Int)) = some (o, f, w, out') ∧ out'.length ≤ l.length ∧ (if o = true then out' ++ [w] else out') = out ++ termsW cur (l.drop i) := by
  intro k
  induction k with
  | zero =>
    intro i cur out hi ho
    refine ⟨!cur.isEmpty, (foldW cur).1, (foldW cur).2, out, ?_, by omega, ?_⟩
    · rw [token_Terms_l0_eq, token_Terms_l0_F]
      dsimp only
      rw [cF (dF (by omega))]
    · rw [List.drop_eq_nil_of_le (by omega)]
      unfold termsW endW termS
      cases cur <;> simp
  | succ k ih =>
    intro i cur out hi ho
    rw [List.drop_eq_getElem_cons (l := l) (i := i) (by omega)]
    generalize hx : l[i]'(by omega) = c
    have hfl := foldW_len cur
    have hdig : (if letterC c = true then true else bif !letterC c && true then btw c 48 57 else false) = inC c := orB
    by_cases hc : inC c = true
    · obtain ⟨o, f, w, out', h1, h2, h3⟩ := ih (i + 1) (cur ++ [c]) out (by omega) (by omega)
      refine ⟨o, f, w, out', ?_, h2, ?_⟩
      · rw [token_Terms_l0_eq, token_Terms_l0_F]
        dsimp only
        rw [cT (dT (by omega)), grd (aT (dT (by omega)) (dT (by omega))), idx_nat (by omega), hx, utf_Letter_ok, bS, utf_Digit_ok, bifS, bS, hdig, hc, cT rfl, take_ok hc _ _ _ hfl, bS, bS]
        dsimp only
        rw [W64_in (by omega) (by omega), show (i : Int) + 1 = ((i + 1 : Nat) : Int) by omega, ← h1, foldW_snoc, show (cur ++ [c]).isEmpty = false by cases cur <;> rfl]
        rfl
      · rw [h3]
        conv => rhs; rw [termsW, if_pos hc]
    · obtain ⟨o, f, w, out', h1, h2, h3⟩ := ih (i + 1) [] (out ++ endW cur) (by omega) (by unfold endW; split <;> simp <;> omega)
      rw [Bool.not_eq_true] at hc
      refine ⟨o, f, w, out', ?_, h2, ?_⟩
      · rw [token_Terms_l0_eq, token_Terms_l0_F]
        dsimp only
        rw [cT (dT (by omega)), grd (aT (dT (by omega)) (dT (by omega))), idx_nat (by omega), hx, utf_Letter_ok, bS, utf_Digit_ok, bifS, bS, hdig, hc, cond_false, end_ok _ _ _ _ (by omega), bS, bS]
        dsimp only
        rw [W64_in (by omega) (by omega), show (i : Int) + 1 = ((i + 1 : Nat) : Int) by omega, ← h1]
        unfold endW
        cases cur <;> simp [foldW, termS]
      · rw [h3]
        conv => rhs; rw [termsW, if_neg (by rw [hc]; decide)]
        simp

theorem token_Terms_ok {b : List UInt8} (hb : b.length ≤ 1000000000000) : token_Terms b = some (termsS b) := by
  refine token_Terms_of ?_
  unfold token_Terms_b
  have hl := decS_len b.length b (Nat.le_refl _)
  obtain ⟨o, f, w, out', h1, h2, h3⟩ := terms_l0 (decS b) (by omega) (decS b).length 0 [] [] (by omega) (by simp)
  rw [utf_Decode_ok hb, bS]
  have h1' : token_Terms_l0 (0, false, false, [], [], decS b, ((decS b).length : Int)) = some (o, f, w, out') := h1
  rw [h1', bS]
  dsimp only
  rw [end_ok _ _ _ _ (by omega), bS, h3]
  simp [termsS]
theorem endW_len (cur : List Int) : (endW cur).length ≤ 1 := by unfold endW; split <;> simp
theorem termsW_len : ∀ (l cur : List Int), (termsW cur l).length ≤ l.length + 1
  | [], cur => by have := endW_len cur; simpa [termsW] using this
  | c :: l, cur => by
    unfold termsW
    split
    · have := termsW_len l (cur ++ [c]); simp; omega
    · have := termsW_len l []
      have := endW_len cur
      simp; omega
theorem termsS_len (b : List UInt8) : (termsS b).length ≤ b.length + 1 := by
  have := termsW_len (decS b) []
  have := decS_len b.length b (Nat.le_refl _)
  unfold termsS
  omega
end Rk
