/- The plain part: what the functions answer. No condition. -/
import Derived.Test.YtfmdnoljlbfjbaaDoorPu05d
set_option linter.unusedVariables false
set_option linter.unusedSimpArgs false
namespace Rk
open Go

theorem wasc_ins {l : List TAt} {s : List UInt8} {w : Int} {p : Nat} (hp : p ≤ l.length) (ha : WAsc l)
    (h3 : ∀ q (h : q < l.length), q < p → bl s (l[q]).1 = false) (h4 : ∀ q (h : q < l.length), p ≤ q → bl s (l[q]).1 = true) : WAsc (l.take p ++ (s, w) :: l.drop p) := by
  unfold WAsc at *
  have hsplit := ha
  rw [← List.take_append_drop p l, List.pairwise_append] at hsplit
  rw [List.pairwise_append, List.pairwise_cons]
  have hd : ∀ b ∈ l.drop p, bl s b.1 = true := by
    intro b hb
    obtain ⟨i, hi, rfl⟩ := List.getElem_of_mem hb
    rw [List.getElem_drop]
    exact h4 _ (by simp at hi; omega) (by omega)
  have ht : ∀ b ∈ l.take p, bl s b.1 = false := by
    intro b hb
    obtain ⟨i, hi, rfl⟩ := List.getElem_of_mem hb
    simp at hi
    rw [List.getElem_take]
    exact h3 _ (by omega) (by omega)
  refine ⟨hsplit.1, ⟨fun b hb => bl_asym (hd b hb), hsplit.2.1⟩, fun a ha' b hb => ?_⟩
  rcases List.mem_cons.1 hb with rfl | hb
  · exact ht a ha'
  · exact hsplit.2.2 a ha' b hb

theorem pos_l0 (T : List (List UInt8)) (hT : T.length ≤ 100000000000) : ∀ (n i : Nat) (out : List TAt), i + n = T.length → out.length = i → WAsc out → (∀ x ∈ out, x.2 < (i : Int)) → (∀ s, s ∈ out.map Prod.fst ↔ s ∈ T.take i) →
    ∃ r : List TAt, token_Positions_l0 ((i : Int), out, T, (T.length : Int)) = some r ∧ WAsc r ∧ r.length = T.length ∧ ∀ s, s ∈ r.map Prod.fst ↔ s ∈ T := by
  intro n
  induction n with
  | zero =>
    intro i out hi ho ha hw hm
    refine ⟨out, ?_, ha, by omega, fun s => by rw [hm s, List.take_of_length_le (by omega)]⟩
    rw [token_Positions_l0_eq, token_Positions_l0_F]
    dsimp only
    rw [cF (dF (by omega))]
  | succ n ih =>
    intro i out hi ho ha hw hm
    rw [token_Positions_l0_eq, token_Positions_l0_F]
    dsimp only
    obtain ⟨p, h1, h2, h3, h4⟩ := put_ok (l := out) (s := T[i]'(by omega)) (w := (i : Int)) (by omega) ha hw
    rw [cT (dT (by omega)), grd (aT (dT (by omega)) (dT (by omega))), idx_nat (by omega), h2, bS]
    rw [W64_in (by omega) (by omega), show (i : Int) + 1 = ((i + 1 : Nat) : Int) by omega]
    refine ih (i + 1) _ (by omega) (by simp; omega) (wasc_ins h1 ha h3 h4) ?_ ?_
    · intro x hx
      rcases List.mem_append.1 hx with hx | hx
      · have := hw x (List.mem_of_mem_take hx); omega
      · rcases List.mem_cons.1 hx with rfl | hx
        · dsimp only; omega
        · have := hw x (List.mem_of_mem_drop hx); omega
    · intro s
      rw [List.take_succ_eq_append_getElem (by omega), List.mem_append, ← hm s, List.map_append, List.map_cons, List.mem_append, List.mem_cons, List.mem_singleton]
      conv => rhs; rw [← List.take_append_drop p out, List.map_append, List.mem_append]
      constructor
      · rintro (h | h | h)
        · exact Or.inl (Or.inl h)
        · exact Or.inr h
        · exact Or.inl (Or.inr h)
      · rintro ((h | h) | h)
        · exact Or.inl h
        · exact Or.inr (Or.inr h)
        · exact Or.inr (Or.inl h)

theorem set_l0 (P : List TAt) (hP : WAsc P) (hl : P.length ≤ 1000000000000) : ∀ (n i : Nat) (out : List (List UInt8)), i + n = P.length → out.length ≤ i → Asc out → (∀ s, s ∈ out ↔ s ∈ (P.take i).map Prod.fst) → (∀ (h : 0 < i) (h' : i - 1 < P.length), out.getLast? = some (P[i-1]'h').1) →
    ∃ r, token_Set_l0 ((i : Int), P, out, (P.length : Int)) = some r ∧ Asc r ∧ (∀ s, s ∈ r ↔ s ∈ P.map Prod.fst) ∧ r.length ≤ P.length := by
  intro n
  induction n with
  | zero =>
    intro i out hi ho ha hm hq
    refine ⟨out, ?_, ha, fun s => by rw [hm s, List.take_of_length_le (by omega)], by omega⟩
    rw [token_Set_l0_eq, token_Set_l0_F]
    dsimp only
    rw [cF (dF (by omega))]
  | succ n ih =>
    intro i out hi ho ha hm hq
    rw [token_Set_l0_eq, token_Set_l0_F]
    dsimp only
    rw [cT (dT (by omega)), grd (aT (dT (by omega)) (dT (by omega))), idx_nat (l := P) (by omega)]
    have hnext : ∀ s, s ∈ (P.take (i + 1)).map Prod.fst ↔ s ∈ (P.take i).map Prod.fst ∨ s = (P[i]'(by omega)).1 := by
      intro s
      rw [List.take_succ_eq_append_getElem (by omega), List.map_append, List.mem_append]
      simp
    by_cases hi0 : i = 0
    · subst hi0
      have : out = [] := List.length_eq_zero_iff.1 (by omega)
      subst this
      obtain ⟨r, h1, h2⟩ := ih 1 [(P[0]'(by omega)).1] (by omega) (by simp) (List.pairwise_singleton _ _) (fun s => by rw [hnext s]; simp) (fun _ _ => rfl)
      refine ⟨r, ?_, h2⟩
      rw [← h1]
      rfl
    · have hlast := hq (by omega) (by omega)
      have hmono := wasc_get hP (i := i - 1) (j := i) (by omega) (by omega)
      have hne : out ≠ [] := by intro e; rw [e] at hlast; cases hlast
      have hlen : 0 < out.length := List.length_pos_iff.2 hne
      have hidx : idx ([] : List UInt8) out (W64 ((out.length : Int) - 1)) = (P[i-1]'(by omega)).1 := by
        rw [W64_in (by omega) (by omega), idx_get (by omega) (by omega)]
        rw [List.getLast?_eq_getElem?, List.getElem?_eq_getElem (by omega)] at hlast
        have e : ((out.length : Int) - 1).toNat = out.length - 1 := by omega
        simp only [e]
        exact Option.some.inj hlast
      have hg : (decide ((0 : Int) ≤ W64 ((out.length : Int) - 1)) && decide (W64 ((out.length : Int) - 1) < (out.length : Int))) = true := by
        rw [W64_in (by omega) (by omega)]
        exact aT (dT (by omega)) (dT (by omega))
      have hz : ((out.length : Int) == 0) = false := by simp; omega
      rw [hg, hz, hidx]
      simp only [Bool.or_true, Bool.and_true, cond_true, Bool.false_eq_true, if_false]
      by_cases he : (P[i-1]'(by omega)).1 = (P[i]'(by omega)).1
      · rw [cF (by simp [he]), bS]
        dsimp only
        rw [W64_in (by omega) (by omega), show (i : Int) + 1 = ((i + 1 : Nat) : Int) by omega]
        refine ih (i + 1) out (by omega) (by omega) ha (fun s => ?_) (fun _ _ => by rw [hlast, he]; rfl)
        rw [hnext s, ← hm s]
        constructor
        · exact Or.inl
        · rintro (h | h)
          · exact h
          · rw [h, ← he]
            exact List.mem_of_getLast? hlast
      · rw [cT (by simp [he]), cT (dT (by simp; omega)), bS]
        dsimp only
        rw [W64_in (by omega) (by omega), show (i : Int) + 1 = ((i + 1 : Nat) : Int) by omega]
        have hlt : bl (P[i-1]'(by omega)).1 (P[i]'(by omega)).1 = true := by
          cases h : bl (P[i-1]'(by omega)).1 (P[i]'(by omega)).1 with
          | true => rfl
          | false => exact absurd (bl_tri _ _ h hmono) he
        refine ih (i + 1) _ (by omega) (by simp; omega) (asc_app ha fun y hy => ?_) (fun s => ?_) (fun _ _ => by simp)
        · have hy' := (hm y).1 hy
          obtain ⟨x, hx, rfl⟩ := List.mem_map.1 hy'
          obtain ⟨j, hj, rfl⟩ := List.getElem_of_mem hx
          simp at hj
          rw [List.getElem_take]
          have := wasc_get hP (i := j) (j := i - 1) (by omega) (by omega)
          exact bl_ft this hlt
        · rw [hnext s, ← hm s]
          simp

theorem token_Set_ex {b : List UInt8} (hb : b.length ≤ 10000000000) : ∃ r, token_Set b = some r ∧ Asc r ∧ (∀ s, s ∈ r ↔ s ∈ termsS b) ∧ r.length ≤ b.length + 1 := by
  have hT := termsS_len b
  obtain ⟨P, h1, h2, h3, h4⟩ := pos_l0 (termsS b) (by omega) (termsS b).length 0 [] (by omega) rfl List.Pairwise.nil (by simp) (by simp)
  obtain ⟨r, h5, h6, h7, h8⟩ := set_l0 P h2 (by omega) P.length 0 [] (by omega) (by simp) List.Pairwise.nil (by simp) (fun h _ => by omega)
  refine ⟨r, ?_, h6, fun s => by rw [h7 s, h4 s], by omega⟩
  refine token_Set_of ?_
  unfold token_Set_b
  have hp : token_Positions b = some P := by
    refine token_Positions_of ?_
    unfold token_Positions_b
    rw [token_Terms_ok (by omega), bS]
    have h1' : token_Positions_l0 (0, [], termsS b, ((termsS b).length : Int)) = some P := h1
    rw [h1']
    rfl
  rw [hp, bS]
  have h5' : token_Set_l0 (0, P, [], (P.length : Int)) = some r := h5
  rw [h5']
  rfl

/-! The document's sets. -/
theorem least_l0 (L : List (List UInt8)) (hl : L.length ≤ 1000000000000) : ∀ (n i m : Nat), i + n = L.length → (hm : m < L.length) → (∀ q (h : q < L.length), q < i → bl (L[q]) (L[m]) = false) →
    ∃ (m' : Nat) (h' : m' < L.length), ref05_least_l0 ((i : Int), (m : Int), L) = some (m' : Int) ∧ ∀ q (h : q < L.length), bl (L[q]) (L[m']) = false := by
  intro n
  induction n with
  | zero =>
    intro i m hi hm h
    refine ⟨m, hm, ?_, fun q hq => h q hq (by omega)⟩
    rw [ref05_least_l0_eq, ref05_least_l0_F]
    dsimp only
    rw [cF (dF (by omega))]
  | succ n ih =>
    intro i m hi hm h
    rw [ref05_least_l0_eq, ref05_least_l0_F]
    dsimp only
    rw [cT (dT (by omega)), grd (aT (dT (by omega)) (dT (by omega))), grd (aT (dT (by omega)) (dT (by omega))), idx_nat (by omega), idx_nat hm]
    rw [show cmpS .lss (L[i]'(by omega)) L[m] = bl (L[i]'(by omega)) L[m] from rfl]
    cases hb : bl (L[i]'(by omega)) L[m] with
    | true =>
      rw [cT rfl, bS]
      dsimp only
      rw [W64_in (by omega) (by omega), show (i : Int) + 1 = ((i + 1 : Nat) : Int) by omega]
      refine ih (i + 1) i (by omega) (by omega) (fun q hq hqi => ?_)
      rcases Nat.lt_or_eq_of_le (Nat.le_of_lt_succ hqi) with h' | h'
      · cases h2 : bl L[q] (L[i]'(by omega)) with
        | false => rfl
        | true => have := bl_trans _ _ _ h2 hb; rw [h q hq h'] at this; cases this
      · subst h'; exact bl_irr _
    | false =>
      rw [cond_false, bS]
      dsimp only
      rw [W64_in (by omega) (by omega), show (i : Int) + 1 = ((i + 1 : Nat) : Int) by omega]
      refine ih (i + 1) m (by omega) hm (fun q hq hqi => ?_)
      rcases Nat.lt_or_eq_of_le (Nat.le_of_lt_succ hqi) with h' | h'
      · exact h q hq h'
      · subst h'; exact hb

theorem sorted_l1 (L : List (List UInt8)) (s : List UInt8) (out : List (List UInt8)) (hl : L.length ≤ 1000000000000) : ∀ (n i : Nat) (rest : List (List UInt8)), i + n = L.length → rest.length ≤ i →
    ref05_Sorted_l1 ((i : Int), rest, L, s, out) = some (rest ++ (L.drop i).filter (fun x => !(x == s)), out) := by
  intro n
  induction n with
  | zero =>
    intro i rest hi hr
    rw [ref05_Sorted_l1_eq, ref05_Sorted_l1_F]
    dsimp only
    rw [cF (dF (by omega)), List.drop_eq_nil_of_le (by omega)]
    simp
  | succ n ih =>
    intro i rest hi hr
    rw [ref05_Sorted_l1_eq, ref05_Sorted_l1_F]
    dsimp only
    rw [cT (dT (by omega)), grd (aT (dT (by omega)) (dT (by omega))), idx_nat (by omega), List.drop_eq_getElem_cons (l := L) (i := i) (by omega), List.filter_cons]
    by_cases h : (L[i]'(by omega)) = s
    · rw [cF (by simp [h]), bS, if_neg (by simp [h])]
      dsimp only
      rw [W64_in (by omega) (by omega), show (i : Int) + 1 = ((i + 1 : Nat) : Int) by omega, ih _ _ (by omega) (by omega)]
    · rw [cT (by simp [h]), grd (aT (dT (by omega)) (dT (by omega))), grd (dT (by simp; omega)), bS, if_pos (by simp [h])]
      dsimp only
      rw [W64_in (by omega) (by omega), show (i : Int) + 1 = ((i + 1 : Nat) : Int) by omega, ih _ _ (by omega) (by simp; omega)]
      simp

theorem sorted_l0 : ∀ (n : Nat) (L out : List (List UInt8)), L.length ≤ n → out.length + L.length ≤ 1000000000000 → Asc out → (∀ x ∈ out, ∀ y ∈ L, bl x y = true) →
    ∃ r, ref05_Sorted_l0 (L, out) = some r ∧ Asc r ∧ (∀ s, s ∈ r ↔ s ∈ out ∨ s ∈ L) ∧ r.length ≤ out.length + L.length := by
  intro n
  induction n with
  | zero =>
    intro L out h1 h2 h3 h4
    have : L = [] := List.length_eq_zero_iff.1 (by omega)
    subst this
    refine ⟨out, ?_, h3, by simp, by simp⟩
    rw [ref05_Sorted_l0_eq, ref05_Sorted_l0_F]
    rfl
  | succ n ih =>
    intro L out h1 h2 h3 h4
    by_cases hL : 0 < L.length
    · obtain ⟨m, hm, e1, e2⟩ := least_l0 L (by omega) (L.length - 1) 1 0 (by omega) hL (fun q hq h => by
        have : q = 0 := by omega
        subst this; exact bl_irr _)
      have e1' : ref05_least L = some (m : Int) := by
        refine ref05_least_of ?_
        unfold ref05_least_b
        have e1'' : ref05_least_l0 (1, 0, L) = some (m : Int) := e1
        rw [e1'']; rfl
      rw [ref05_Sorted_l0_eq, ref05_Sorted_l0_F]
      dsimp only
      rw [cT (dT (by omega)), e1', bS, grd (aT (dT (by omega)) (dT (by omega))), grd (dT (by simp; omega)), idx_nat hm]
      have e3 := sorted_l1 L L[m] (out ++ ([L[m]] ++ [])) (by omega) L.length 0 [] (by omega) (by simp)
      rw [show ((0 : Nat) : Int) = 0 from rfl] at e3
      rw [e3, bS, bS]
      dsimp only
      rw [List.drop_zero, List.nil_append]
      have hmem : ∀ y, y ∈ L.filter (fun x => !(x == L[m])) ↔ y ∈ L ∧ y ≠ L[m] := by intro y; simp [List.mem_filter]
      have hlen : (L.filter (fun x => !(x == L[m]))).length < L.length := by
        rcases Nat.lt_or_eq_of_le (List.length_filter_le (fun x => !(x == L[m])) L) with h | h
        · exact h
        · have := List.length_filter_eq_length_iff.1 h L[m] (List.getElem_mem hm)
          simp at this
      have hap : (out ++ ([L[m]] ++ [])).length = out.length + 1 := by simp
      obtain ⟨r, r1, r2, r3, r4⟩ := ih (L.filter (fun x => !(x == L[m]))) (out ++ ([L[m]] ++ [])) (by omega) (by omega) (by
          rw [List.append_nil]
          exact asc_app h3 (fun y hy => h4 y hy _ (List.getElem_mem hm))) (by
          intro x hx y hy
          rw [List.append_nil] at hx
          rcases List.mem_append.1 hx with hx | hx
          · exact h4 x hx y ((hmem y).1 hy).1
          · rw [List.mem_singleton.1 hx]
            obtain ⟨hy1, hy2⟩ := (hmem y).1 hy
            obtain ⟨j, hj, rfl⟩ := List.getElem_of_mem hy1
            cases hb : bl L[m] L[j] with
            | true => rfl
            | false => exact absurd (bl_tri _ _ (e2 j hj) hb) hy2)
      refine ⟨r, r1, r2, fun s => ?_, by omega⟩
      rw [r3 s, hmem s, List.append_nil, List.mem_append, List.mem_singleton]
      constructor
      · rintro ((h | h) | h)
        · exact Or.inl h
        · rw [h]; exact Or.inr (List.getElem_mem hm)
        · exact Or.inr h.1
      · rintro (h | h)
        · exact Or.inl (Or.inl h)
        · by_cases hs : s = L[m]
          · exact Or.inl (Or.inr hs)
          · exact Or.inr ⟨h, hs⟩
    · have : L = [] := List.length_eq_zero_iff.1 (by omega)
      subst this
      refine ⟨out, ?_, h3, by simp, by simp⟩
      rw [ref05_Sorted_l0_eq, ref05_Sorted_l0_F]
      rfl

theorem ref_Sorted_ex {L : List (List UInt8)} (h : L.length ≤ 1000000000000) : ∃ r, ref05_Sorted L = some r ∧ Asc r ∧ (∀ s, s ∈ r ↔ s ∈ L) ∧ r.length ≤ L.length := by
  obtain ⟨r, h1, h2, h3, h4⟩ := sorted_l0 L.length L [] (Nat.le_refl _) (by simpa using h) List.Pairwise.nil (by simp)
  refine ⟨r, ref05_Sorted_of ?_, h2, fun s => by rw [h3 s]; simp, by simpa using h4⟩
  unfold ref05_Sorted_b
  rw [h1]; rfl
theorem ref_Set_ex {b : List UInt8} (hb : b.length ≤ 10000000000) : ∃ r, ref05_Set b = some r ∧ Asc r ∧ (∀ s, s ∈ r ↔ s ∈ termsS b) ∧ r.length ≤ b.length + 1 := by
  have hT := termsS_len b
  obtain ⟨r, h1, h2, h3, h4⟩ := ref_Sorted_ex (L := termsS b) (by omega)
  refine ⟨r, ref05_Set_of ?_, h2, h3, by omega⟩
  unfold ref05_Set_b
  rw [ref_Terms_ok (by omega), bS, h1, bS]
end Rk
