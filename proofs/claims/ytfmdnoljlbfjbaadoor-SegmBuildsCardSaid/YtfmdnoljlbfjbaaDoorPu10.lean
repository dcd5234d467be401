/- The plain part: what the functions answer. No condition. -/
import Derived.Test.YtfmdnoljlbfjbaaDoorPu05e
set_option linter.unusedVariables false
set_option linter.unusedSimpArgs false
namespace Rk
open Go

abbrev Ent := List UInt8 × List Int

/-! Lists of documents. -/
def postF (last : Int) : List Int → Bool
  | [] => true
  | n :: t => (decide (last < n) && decide (n < 1000)) && postF n t
def postR (l : List Int) : Bool := postF (-1) l

theorem post_l0 (l : List Int) (hl : l.length ≤ 1000000000000) : ∀ (n i : Nat) (last : Int), i + n = l.length → post_Right_l0 ((i : Int), last, l, (l.length : Int)) = some (postF last (l.drop i)) := by
  intro n
  induction n with
  | zero =>
    intro i last hi
    rw [post_Right_l0_eq, post_Right_l0_F]
    dsimp only
    rw [cF (dF (by omega)), List.drop_eq_nil_of_le (by omega)]
    rfl
  | succ n ih =>
    intro i last hi
    rw [post_Right_l0_eq, post_Right_l0_F]
    dsimp only
    rw [cT (dT (by omega)), grd (aT (dT (by omega)) (dT (by omega))), idx_nat (by omega), List.drop_eq_getElem_cons (l := l) (i := i) (by omega)]
    generalize l[i]'(by omega) = x
    rw [show postF last (x :: l.drop (i + 1)) = ((decide (last < x) && decide (x < 1000)) && postF x (l.drop (i + 1))) from rfl]
    by_cases h : last < x ∧ x < 1000
    · rw [dF (show ¬ x ≤ last by omega), dF (show ¬ x ≥ 1000 by omega), dT h.1, dT h.2]
      simp only [Bool.false_eq_true, if_false, cond_false, Bool.true_and]
      rw [W64_in (by omega) (by omega), show (i : Int) + 1 = ((i + 1 : Nat) : Int) by omega, ih _ _ (by omega)]
    · have e : (decide (last < x) && decide (x < 1000)) = false := by simp; omega
      rw [e, cT (by simp; omega)]
      rfl
theorem post_Right_ok {l : List Int} (hl : l.length ≤ 1000000000000) : post_Right l = some (postR l) := by
  refine post_Right_of ?_
  unfold post_Right_b
  exact post_l0 l hl l.length 0 (-1) (by omega)
theorem same_l0 (a b : List Int) (hl : a.length ≤ 1000000000000) (he : a.length = b.length) : ∀ (n i : Nat), i + n = a.length → ref09_Same_l0 ((i : Int), b, a) = some (decide (a.drop i = b.drop i)) := by
  intro n
  induction n with
  | zero =>
    intro i hi
    rw [ref09_Same_l0_eq, ref09_Same_l0_F]
    dsimp only
    rw [cF (dF (by omega)), List.drop_eq_nil_of_le (by omega), List.drop_eq_nil_of_le (by omega)]
    rfl
  | succ n ih =>
    intro i hi
    rw [ref09_Same_l0_eq, ref09_Same_l0_F]
    dsimp only
    rw [cT (dT (by omega)), grd (aT (dT (by omega)) (dT (by omega))), grd (aT (dT (by omega)) (dT (by omega))), idx_nat (by omega), idx_nat (by omega), List.drop_eq_getElem_cons (l := a) (i := i) (by omega), List.drop_eq_getElem_cons (l := b) (i := i) (by omega)]
    by_cases h : (a[i]'(by omega)) = (b[i]'(by omega))
    · rw [cF (by simp [h]), W64_in (by omega) (by omega), show (i : Int) + 1 = ((i + 1 : Nat) : Int) by omega, ih _ (by omega)]
      congr 1
      rw [decide_eq_decide, h, List.cons.injEq]
      simp only [true_and]
    · rw [cT (by simp [h])]
      congr 1
      symm
      rw [decide_eq_false_iff_not, List.cons.injEq]
      exact fun q => h q.1
theorem ref09_Same_ok {a b : List Int} (hl : a.length ≤ 1000000000000) : ref09_Same a b = some (decide (a = b)) := by
  refine ref09_Same_of ?_
  unfold ref09_Same_b
  by_cases h : a.length = b.length
  · rw [cF (by simp [h])]
    have := same_l0 a b hl h a.length 0 (by omega)
    simpa using this
  · rw [cT (by simp; omega)]
    congr 1
    symm
    rw [decide_eq_false_iff_not]
    intro e; exact h (by rw [e])

/-! Dictionaries. -/
noncomputable def entR (e : Ent) : Bool := (rightT e.1 && !(e.2.length == 0)) && postR e.2
noncomputable def dictG : List Ent → Bool
  | [] => true
  | [e] => entR e
  | e :: e2 :: t => (entR e && bl e.1 e2.1) && dictG (e2 :: t)
def okE (d : List Ent) : Prop := ∀ e ∈ d, e.1.length ≤ 1000000000 ∧ e.2.length ≤ 1000000000

def prevB (p : Option (List UInt8)) (s : List UInt8) : Bool := match p with | none => true | some p => bl p s
noncomputable def dictF (prev : Option (List UInt8)) : List Ent → Bool
  | [] => true
  | e :: t => (prevB prev e.1 && entR e) && dictF (some e.1) t
theorem dictF_G : ∀ (d : List Ent) (p : List UInt8), dictF (some p) d = ((match d with | [] => true | e :: _ => bl p e.1) && dictG d)
  | [], p => rfl
  | [e], p => by simp [dictF, dictG, prevB]
  | e :: e2 :: t, p => by
    rw [show dictF (some p) (e :: e2 :: t) = ((bl p e.1 && entR e) && dictF (some e.1) (e2 :: t)) from rfl, dictF_G (e2 :: t) e.1, show dictG (e :: e2 :: t) = ((entR e && bl e.1 e2.1) && dictG (e2 :: t)) from rfl]
    dsimp only
    cases bl p e.1 <;> cases entR e <;> cases bl e.1 e2.1 <;> cases dictG (e2 :: t) <;> rfl
theorem dictF_none : ∀ d : List Ent, dictF none d = dictG d
  | [] => rfl
  | [e] => by simp [dictF, dictG, prevB]
  | e :: e2 :: t => by
    rw [show dictF none (e :: e2 :: t) = ((true && entR e) && dictF (some e.1) (e2 :: t)) from rfl, dictF_G (e2 :: t) e.1, show dictG (e :: e2 :: t) = ((entR e && bl e.1 e2.1) && dictG (e2 :: t)) from rfl]
    dsimp only
    cases entR e <;> cases bl e.1 e2.1 <;> cases dictG (e2 :: t) <;> rfl

def dictP (d : List Ent) : Prop := Asc (d.map Prod.fst) ∧ ∀ e ∈ d, entR e = true
theorem dictG_iff : ∀ d : List Ent, dictG d = true ↔ dictP d
  | [] => by simp [dictG, dictP, Asc]
  | [e] => by simp [dictG, dictP, Asc]
  | e :: e2 :: t => by
    rw [show dictG (e :: e2 :: t) = ((entR e && bl e.1 e2.1) && dictG (e2 :: t)) from rfl, Bool.and_eq_true, Bool.and_eq_true, dictG_iff (e2 :: t)]
    unfold dictP
    constructor
    · rintro ⟨⟨h1, h2⟩, h3, h4⟩
      refine ⟨?_, fun x hx => ?_⟩
      · rw [List.map_cons]
        refine List.pairwise_cons.2 ⟨fun y hy => ?_, h3⟩
        rw [List.map_cons] at hy h3
        rcases List.mem_cons.1 hy with rfl | hy
        · exact h2
        · exact bl_trans _ _ _ h2 ((List.pairwise_cons.1 h3).1 y hy)
      · rcases List.mem_cons.1 hx with rfl | hx
        · exact h1
        · exact h4 x hx
    · rintro ⟨h1, h2⟩
      rw [List.map_cons] at h1
      have h1' := List.pairwise_cons.1 h1
      exact ⟨⟨h2 e (by simp), h1'.1 e2.1 (by simp)⟩, h1'.2, fun x hx => h2 x (List.mem_cons_of_mem _ hx)⟩
end Rk
