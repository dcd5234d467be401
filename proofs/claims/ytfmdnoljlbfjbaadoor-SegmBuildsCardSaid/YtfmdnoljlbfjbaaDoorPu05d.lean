/- The plain part: what the functions answer. No condition. -/
import Derived.Test.YtfmdnoljlbfjbaaDoorPu05c
set_option linter.unusedVariables false
set_option linter.unusedSimpArgs false
namespace Rk
open Go

abbrev TAt := List UInt8 × Int
def WAsc (l : List TAt) : Prop := l.Pairwise fun a b => bl b.1 a.1 = false
theorem wasc_get {l : List TAt} (h : WAsc l) {i j : Nat} (hij : i ≤ j) (hj : j < l.length) : bl (l[j]).1 (l[i]'(by omega)).1 = false := by
  rcases Nat.lt_or_eq_of_le hij with h' | h'
  · exact List.pairwise_iff_getElem.1 h i j (by omega) hj h'
  · subst h'; exact bl_irr _

theorem mid_ok {a b : Nat} (h : a ≤ 1000000000000) (h' : b ≤ 1000000000000) : arI .quo .i64 (W64 ((a : Int) + (b : Int))) 2 = (((a + b) / 2 : Nat) : Int) := by
  rw [W64_in (by omega) (by omega), quo64 (by omega) (by omega) (by decide)]
  omega

theorem put_l0 {l : List TAt} {s : List UInt8} {w : Int} (hl : l.length ≤ 1000000000000) (ha : WAsc l) (hw : ∀ x ∈ l, x.2 < w) : ∀ (n lo hi : Nat), hi - lo ≤ n → lo ≤ hi → hi ≤ l.length →
    (∀ q (h : q < l.length), q < lo → bl s (l[q]).1 = false) → (∀ q (h : q < l.length), hi ≤ q → bl s (l[q]).1 = true) →
    ∃ p : Nat, p ≤ l.length ∧ token_put_token_At_l0 (l, s, w, (hi : Int), (lo : Int)) = some (s, w, (p : Int), l) ∧
      (∀ q (h : q < l.length), q < p → bl s (l[q]).1 = false) ∧ (∀ q (h : q < l.length), p ≤ q → bl s (l[q]).1 = true) := by
  intro n
  induction n with
  | zero =>
    intro lo hi h1 h2 h3 h4 h5
    refine ⟨lo, by omega, ?_, h4, fun q hq hp => h5 q hq (by omega)⟩
    rw [token_put_token_At_l0_eq, token_put_token_At_l0_F]
    dsimp only
    rw [cF (dF (by omega))]
  | succ n ih =>
    intro lo hi h1 h2 h3 h4 h5
    by_cases hlt : lo < hi
    · rw [token_put_token_At_l0_eq, token_put_token_At_l0_F]
      dsimp only
      have hm : (lo + hi) / 2 < l.length := by omega
      rw [cT (dT (by omega)), grd (show ((2 : Int) != 0) = true from rfl), mid_ok (by omega) (by omega), grd (aT (dT (by omega)) (dT (by omega))), idx_nat hm]
      have e : token_Positions_1 s w (l[(lo + hi) / 2]).1 (l[(lo + hi) / 2]).2 = some (bl s (l[(lo + hi) / 2]).1) := by
        refine token_Positions_1_of ?_
        unfold token_Positions_1_b
        have hx := hw _ (List.getElem_mem hm)
        rw [dF (show ¬ w < (l[(lo + hi) / 2]).2 by omega)]
        congr 1
        show (if bl s (l[(lo + hi) / 2]).1 = true then true else if (s == (l[(lo + hi) / 2]).1) = true then false else false) = _
        cases bl s (l[(lo + hi) / 2]).1 <;> simp
      rw [e, bS]
      cases hb : bl s (l[(lo + hi) / 2]).1 with
      | true =>
        rw [cT rfl, bS]
        exact ih lo ((lo + hi) / 2) (by omega) (by omega) (by omega) h4 (fun q hq hp => by
          have := wasc_get ha (i := (lo + hi) / 2) (j := q) hp hq
          exact bl_tf hb this)
      | false =>
        rw [cond_false, bS]
        dsimp only
        rw [W64_in (by omega) (by omega), show (((lo + hi) / 2 : Nat) : Int) + 1 = (((lo + hi) / 2 + 1 : Nat) : Int) by omega]
        exact ih ((lo + hi) / 2 + 1) hi (by omega) (by omega) (by omega) (fun q hq hp => by
          have := wasc_get ha (i := q) (j := (lo + hi) / 2) (by omega) hm
          cases h : bl s (l[q]).1 with
          | false => rfl
          | true => rw [bl_tf h this] at hb; cases hb) h5
    · refine ⟨lo, by omega, ?_, h4, fun q hq hp => h5 q hq (by omega)⟩
      rw [token_put_token_At_l0_eq, token_put_token_At_l0_F]
      dsimp only
      rw [cF (dF (by omega))]

theorem put_copy (l : List TAt) (x : TAt) (p : Nat) (hp : p ≤ l.length) :
    ((l ++ [x]).take (p + 1) ++ (((l ++ [x]).drop p).take (l.length - p) ++ [])).set p x = l.take p ++ x :: l.drop p := by
  have e1 : (l ++ [x]).drop p = l.drop p ++ [x] := List.drop_append_of_le_length hp
  have e2 : ((l ++ [x]).drop p).take (l.length - p) = l.drop p := by
    rw [e1, List.take_append_of_le_length (by simp), List.take_of_length_le (by simp)]
  rw [e2, List.append_nil]
  have e3 : (l ++ [x]).take (p + 1) = l.take p ++ [(l ++ [x])[p]'(by simp; omega)] := by
    rw [List.take_succ_eq_append_getElem (by simp; omega), List.take_append_of_le_length hp]
  rw [e3, List.append_assoc, List.set_append_right _ _ (by simp; omega)]
  simp [Nat.min_eq_left hp]

theorem put_ok {l : List TAt} {s : List UInt8} {w : Int} (hl : l.length ≤ 100000000000) (ha : WAsc l) (hw : ∀ x ∈ l, x.2 < w) :
    ∃ p : Nat, p ≤ l.length ∧ token_put_token_At s w l = some (l.take p ++ (s, w) :: l.drop p) ∧
      (∀ q (h : q < l.length), q < p → bl s (l[q]).1 = false) ∧ (∀ q (h : q < l.length), p ≤ q → bl s (l[q]).1 = true) := by
  obtain ⟨p, h1, h2, h3, h4⟩ := put_l0 (s := s) (by omega) ha hw l.length 0 l.length (by omega) (by omega) (Nat.le_refl _) (fun q _ h => by omega) (fun q h h' => by omega)
  refine ⟨p, h1, token_put_token_At_of ?_, h3, h4⟩
  unfold token_put_token_At_b
  have h2' : token_put_token_At_l0 (l, s, w, (l.length : Int), 0) = some (s, w, (p : Int), l) := h2
  rw [h2', bS]
  dsimp only
  have hn : (((l ++ ([(s, w)] ++ [])).length : Nat) : Int) = (l.length : Int) + 1 := by simp
  rw [W64_in (x := (p : Int) + 1) (by omega) (by omega)]
  rw [grd (dT (by omega)), grd (aT (dT (by omega)) (aT (dT (by omega)) (dT (by omega)))), grd (aT (dT (by omega)) (aT (dT (by omega)) (dT (by omega)))), grd (dT (by omega))]
  rw [hn]
  have eB : sub (l ++ ([(s, w)] ++ [])) (p : Int) ((p : Int) + ((l.length : Int) + 1 - (p : Int))) = (l ++ [(s, w)]).drop p := by
    rw [show (p : Int) + ((l.length : Int) + 1 - (p : Int)) = ((l ++ ([(s, w)] ++ [])).length : Int) by omega, sub_len]
    simp
  rw [eB]
  have hn2 : (((l ++ [(s, w)]).drop p).length : Int) = (l.length : Int) + 1 - p := by simp; omega
  rw [hn2, if_pos (by omega)]
  rw [show (l.length : Int) + 1 - ((p : Int) + 1) = ((l.length - p : Nat) : Int) by omega, sub_zero, sub_zero, show (((l.length - p : Nat) : Int)).toNat = l.length - p by omega]
  rw [ show ((p : Int) + 1).toNat = p + 1 by omega]
  have eC : sub (l ++ ([(s, w)] ++ [])) ((p : Int) + 1 + ((l.length - p : Nat) : Int)) ((l.length : Int) + 1) = [] := by
    rw [← hn, sub_len]
    exact List.drop_eq_nil_of_le (by simp; omega)
  rw [eC, show ((p : Int)).toNat = p by omega]
  have := put_copy l (s, w) p h1
  rw [show l ++ ([(s, w)] ++ []) = l ++ [(s, w)] by simp, this]
  rw [grd]
  exact aT (dT (by omega)) (dT (by simp; omega))
end Rk
