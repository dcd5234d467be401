/- The plain part: what the functions answer. No condition. -/
import Derived.Test.YtfmdnoljlbfjbaaDoorPu05d
set_option linter.unusedVariables false
set_option linter.unusedSimpArgs false
namespace Rk
open Go

theorem wasc_ins {l : List TAt} {s : List UInt8} {w : Int} {p : Nat} (hp : p ≤ l.length) (ha : WAsc l)
    (h3 : ∀ q (h : q < l.length), q < p → bl s (l[q]).1 = false) (h4 : ∀ q (h : q < l.length), p ≤ q → bl s (l[q]).1 = true) : WAsc (l.take p ++ (s, w) :: l.drop p) := by
  unfold WAsc at *
  have hsplit := ha
  rw [← List.take_append_drop p l, List.pairwise_append] at hsplit
  rw [List.pairwise_append, List.pairwise_cons]
  have hd : ∀ b ∈ l.drop p, bl s b.1 = true := by
    intro b hb
    obtain ⟨i, hi, rfl⟩ := List.getElem_of_mem hb
    rw [List.getElem_drop]
    exact h4 _ (by simp at hi; omega) (by omega)
  have ht : ∀ b ∈ l.take p, bl s b.1 = false := by
    intro b hb
    obtain ⟨i, hi, rfl⟩ := List.getElem_of_mem hb
    simp at hi
    rw [List.getElem_take]
    exact h3 _ (by omega) (by omega)
  refine ⟨hsplit.1, ⟨fun b hb => bl_asym (hd b hb), hsplit.2.1⟩, fun a ha' b hb => ?_⟩
  rcases List.mem_cons.1 hb with rfl | hb
  · exact ht a ha'
  · exact hsplit.2.2 a ha' b hb

theorem pos_l0 (T : List (List UInt8)) (hT : T.length ≤ 100000000000) : ∀ (n i : Nat) (out : List TAt), i + n = T.length → out.length = i → WAsc out → (∀ x ∈ out, x.2 < (i : Int)) → (∀ s, s ∈ out.map Prod.fst ↔ s ∈ T.take i) →
    ∃ r : List TAt, token_Positions_l0 ((i : Int), out, T, (T.length : Int)) = some r ∧ WAsc r ∧ r.length = T.length ∧ ∀ s, s ∈ r.map Prod.fst ↔ s ∈ T := by
  intro n
  induction n with
  | zero =>
    intro i out hi ho ha hw hm
    refine ⟨out, ?_, ha, by omega, fun s => by rw [hm s, List.take_of_length_le (by omega)]⟩
    rw [token_Positions_l0_eq]
    dsimp only
    rw [cF (dF (by omega))]
  | succ n ih =>
    intro i out hi ho ha hw hm
    rw [token_Positions_l0_eq]
    dsimp only
    obtain ⟨p, h1, h2, h3, h4⟩ := put_ok (l := out) (s := T[i]'(by omega)) (w := (i : Int)) (by omega) ha hw
    rw [cT (dT (by omega)), grd (aT (dT (by omega)) (dT (by omega))), idx_nat (by omega), h2, bS]
    rw [W64_in (by omega) (by omega), show (i : Int) + 1 = ((i + 1 : Nat) : Int) by omega]
    refine ih (i + 1) _ (by omega) (by simp; omega) (wasc_ins h1 ha h3 h4) ?_ ?_
    · intro x hx
      rcases List.mem_append.1 hx with hx | hx
      · have := hw x (List.mem_of_mem_take hx); omega
      · rcases List.mem_cons.1 hx with rfl | hx
        · dsimp only; omega
        · have := hw x (List.mem_of_mem_drop hx); omega
    · intro s
      rw [List.take_succ_eq_append_getElem (by omega), List.mem_append, ← hm s, List.map_append, List.map_cons, List.mem_append, List.mem_cons, List.mem_singleton]
      conv => rhs; rw [← List.take_append_drop p out, List.map_append, List.mem_append]
      constructor
      · rintro (h | h | h)
        · exact Or.inl (Or.inl h)
        · exact Or.inr h
        · exact Or.inl (Or.inr h)
      · rintro ((h | h) | h)
        · exact Or.inl h
        · exact Or.inr (Or.inr h)
        · exact Or.inr (Or.inl h)

theorem set_l0 (P : List TAt) (hP : WAsc P) (hl : P.length ≤ 1000000000000) : ∀ (n i : Nat) (out : List (List UInt8)), i + n = P.length → out.length ≤ i → Asc out → (∀ s, s ∈ out ↔ s ∈ (P.take i).map Prod.fst) → (∀ (h : 0 < i) (h' : i - 1 < P.length), out.getLast? = some (P[i-1]'h').1) →
    ∃ r, token_Set_l0 ((i : Int), P, out, (P.length : Int)) = some r ∧ Asc r ∧ (∀ s, s ∈ r ↔ s ∈ P.map Prod.fst) ∧ r.length ≤ P.length := by
  intro n
  induction n with
  | zero =>
    intro i out hi ho ha hm hq
    refine ⟨out, ?_, ha, fun s => by rw [hm s, List.take_of_length_le (by omega)], by omega⟩
    rw [token_Set_l0_eq]
    dsimp only
    rw [cF (dF (by omega))]
  | succ n ih =>
    intro i out hi ho ha hm hq
    rw [token_Set_l0_eq]
    dsimp only
    rw [cT (dT (by omega)), grd (aT (dT (by omega)) (dT (by omega))), idx_nat (l := P) (by omega)]
    have hnext : ∀ s, s ∈ (P.take (i + 1)).map Prod.fst ↔ s ∈ (P.take i).map Prod.fst ∨ s = (P[i]'(by omega)).1 := by
      intro s
      rw [List.take_succ_eq_append_getElem (by omega), List.map_append, List.mem_append]
      simp
    by_cases hi0 : i = 0
    · subst hi0
      have : out = [] := List.length_eq_zero_iff.1 (by omega)
      subst this
      obtain ⟨r, h1, h2⟩ := ih 1 [(P[0]'(by omega)).1] (by omega) (by simp) (List.pairwise_singleton _ _) (fun s => by rw [hnext s]; simp) (fun _ _ => rfl)
      refine ⟨r, ?_, h2⟩
      rw [← h1]
      rfl
    · have hlast := hq (by omega) (by omega)
      have hmono := wasc_get hP (i := i - 1) (j := i) (by omega) (by omega)
      have hne : out ≠ [] := by intro e; rw [e] at hlast; cases hlast
      have hlen : 0 < out.length := List.length_pos_iff.2 hne
      have hidx : idx ([] : List UInt8) out (W64 ((out.length : Int) - 1)) = (P[i-1]'(by omega)).1 := by
        rw [W64_in (by omega) (by omega), idx_get (by omega) (by omega)]
        rw [List.getLast?_eq_getElem?, List.getElem?_eq_getElem (by omega)] at hlast
        have e : ((out.length : Int) - 1).toNat = out.length - 1 := by omega
        simp only [e]
        exact Option.some.inj hlast
      have hg : (decide ((0 : Int) ≤ W64 ((out.length : Int) - 1)) && decide (W64 ((out.length : Int) - 1) < (out.length : Int))) = true := by
        rw [W64_in (by omega) (by omega)]
        exact aT (dT (by omega)) (dT (by omega))
      have hz : ((out.length : Int) == 0) = false := by simp; omega
      rw [hg, hz, hidx]
      simp only [Bool.or_true, Bool.and_true, cond_true, Bool.false_eq_true, if_false]
      by_cases he : (P[i-1]'(by omega)).1 = (P[i]'(by omega)).1
      · rw [cF (by simp [he]), bS]
        dsimp only
        rw [W64_in (by omega) (by omega), show (i : Int) + 1 = ((i + 1 : Nat) : Int) by omega]
        refine ih (i + 1) out (by omega) (by omega) ha (fun s => ?_) (fun _ _ => by rw [hlast, he]; rfl)
        rw [hnext s, ← hm s]
        constructor
        · exact Or.inl
        · rintro (h | h)
          · exact h
          · rw [h, ← he]
            exact List.mem_of_getLast? hlast
      · rw [cT (by simp [he]), cT (dT (by simp; omega)), bS]
        dsimp only
        rw [W64_in (by omega) (by omega), show (i : Int) + 1 = ((i + 1 : Nat) : Int) by omega]
        have hlt : bl (P[i-1]'(by omega)).1 (P[i]'(by omega)).1 = true := by
          cases h : bl (P[i-1]'(by omega)).1 (P[i]'(by omega)).1 with
          | true => rfl
          | false => exact absurd (bl_tri _ _ h hmono) he
        refine ih (i + 1) _ (by omega) (by simp; omega) (asc_app ha fun y hy => ?_) (fun s => ?_) (fun _ _ => by simp)
        · have hy' := (hm y).1 hy
          obtain ⟨x, hx, rfl⟩ := List.mem_map.1 hy'
          obtain ⟨j, hj, rfl⟩ := List.getElem_of_mem hx
          simp at hj
          rw [List.getElem_take]
          have := wasc_get hP (i := j) (j := i - 1) (by omega) (by omega)
          exact bl_ft this hlt
        · rw [hnext s, ← hm s]
          simp

theorem token_Set_ex {b : List UInt8} (hb : b.length ≤ 10000000000) : ∃ r, token_Set b = some r ∧ Asc r ∧ (∀ s, s ∈ r ↔ s ∈ termsS b) ∧ r.length ≤ b.length + 1 := by
  have hT := termsS_len b
  obtain ⟨P, h1, h2, h3, h4⟩ := pos_l0 (termsS b) (by omega) (termsS b).length 0 [] (by omega) rfl List.Pairwise.nil (by simp) (by simp)
  obtain ⟨r, h5, h6, h7, h8⟩ := set_l0 P h2 (by omega) P.length 0 [] (by omega) (by simp) List.Pairwise.nil (by simp) (fun h _ => by omega)
  refine ⟨r, ?_, h6, fun s => by rw [h7 s, h4 s], by omega⟩
  refine token_Set_of ?_
  unfold token_Set_b
  have hp : token_Positions b = some P := by
    refine token_Positions_of ?_
    unfold token_Positions_b
    rw [token_Terms_ok (by omega), bS]
    have h1' : token_Positions_l0 (0, [], termsS b, ((termsS b).length : Int)) = some P := h1
    rw [h1']
    rfl
  rw [hp, bS]
  have h5' : token_Set_l0 (0, P, [], (P.length : Int)) = some r := h5
  rw [h5']
  rfl

/-! The document's sets. -/
end Rk
