/- The plain part: what the functions answer. No condition. -/
import Derived.Test.YtfmdnoljlbfjbaaDoorPu10b
set_option linter.unusedVariables false
set_option linter.unusedSimpArgs false
namespace Rk
open Go

theorem map_len_ok {m : Int} (M : MapM) (k : List UInt8) (h : 0 < m) : map_len m M k = some ((lookM M k).length : Int) := by
  unfold map_len
  exact Tω_ext (k := 0) Gx (show Gn.ext 1000000 0 = some (fun _ => mapF 1000000) from rfl) (show mapF 1000000 [dI m, dMp M, ⟨.str, k⟩] = some [dI ((lookM M k).length : Nat)] from if_pos h)
theorem map_app_ok (M : MapM) (k : List UInt8) (r : List Int) (h : (lookM M k).length + r.length ≤ 2 ^ 40) : map_app 1 M k k r = some (appM M k r) := by
  unfold map_app
  exact Tω_ext (k := 0) Gx (show Gn.ext 1000001 0 = some (fun _ => mapF 1000001) from rfl) (show mapF 1000001 [dI 1, dMp M, ⟨.str, k⟩, ⟨.str, k⟩, dLi r] = some [dMp (appM M k r)] from (if_neg (by decide)).trans ((if_pos (by decide)).trans (if_pos ⟨rfl, rfl, h⟩)))
theorem map_get_ok {m : Int} (M : MapM) (k : List UInt8) (h : 0 < m) : map_get m M k = some (lookM M k, 2) := by
  unfold map_get
  exact Tω_ext (k := 0) Gx (show Gn.ext 1000002 0 = some (fun _ => mapF 1000002) from rfl) (show mapF 1000002 [dI m, dMp M, ⟨.str, k⟩] = some [dLi (lookM M k), dI 2] from if_pos h)

theorem look_app (k : List UInt8) (r : List Int) (s : List UInt8) : ∀ M : MapM, lookM (appM M k r) s = if s = k then lookM M k ++ r else lookM M s
  | [] => by
    unfold appM lookM
    by_cases h : s = k
    · rw [if_pos h, if_pos h]; rfl
    · rw [if_neg h, if_neg h]; rfl
  | x :: M => by
    unfold appM
    by_cases hk : k = x.1
    · rw [if_pos hk]
      by_cases h : s = k
      · rw [if_pos h]
        unfold lookM
        rw [if_pos (h.trans hk), if_pos hk]
      · rw [if_neg h]
        unfold lookM
        rw [if_neg (fun e => h (e.trans hk.symm)), if_neg (fun e => h (e.trans hk.symm))]
    · rw [if_neg hk]
      have ih := look_app k r s M
      by_cases hx : s = x.1
      · have h : s ≠ k := fun e => hk (e.symm.trans hx)
        rw [if_neg h]
        unfold lookM
        rw [if_pos hx, if_pos hx]
      · rw [show lookM (x :: appM M k r) s = lookM (appM M k r) s from if_neg hx, ih, show lookM (x :: M) k = lookM M k from if_neg hk, show lookM (x :: M) s = lookM M s from if_neg hx]

/-- What holds of the dictionary under way. -/
structure Making (out : List Ent) (M : MapM) (F : List UInt8 → List Int) : Prop where
  asc : Asc (out.map Prod.fst)
  nil : ∀ e ∈ out, e.2 = []
  look : ∀ s, lookM M s = F s
  mem : ∀ s, s ∈ out.map Prod.fst ↔ F s ≠ []

theorem ins_map (out : List Ent) (s : List UInt8) (p : Nat) : (out.take p ++ (s, []) :: out.drop p).map Prod.fst = (out.map Prod.fst).take p ++ s :: (out.map Prod.fst).drop p := by simp
theorem asc_ins {l : List (List UInt8)} {s : List UInt8} {p : Nat} (ha : Asc l) (h3 : ∀ q (h : q < l.length), q < p → bl l[q] s = true) (h4 : ∀ q (h : q < l.length), p ≤ q → bl s l[q] = true) : Asc (l.take p ++ s :: l.drop p) := by
  unfold Asc at *
  have hsplit := ha
  rw [← List.take_append_drop p l, List.pairwise_append] at hsplit
  rw [List.pairwise_append, List.pairwise_cons]
  have hd : ∀ b ∈ l.drop p, bl s b = true := by
    intro b hb
    obtain ⟨i, hi, rfl⟩ := List.getElem_of_mem hb
    rw [List.getElem_drop]
    exact h4 _ (by simp at hi; omega) (by omega)
  have ht : ∀ b ∈ l.take p, bl b s = true := by
    intro b hb
    obtain ⟨i, hi, rfl⟩ := List.getElem_of_mem hb
    simp at hi
    rw [List.getElem_take]
    exact h3 _ (by omega) (by omega)
  refine ⟨hsplit.1, ⟨hd, hsplit.2.1⟩, fun a ha' b hb => ?_⟩
  rcases List.mem_cons.1 hb with rfl | hb
  · exact ht a ha'
  · exact hsplit.2.2 a ha' b hb

theorem make_l2 (docs : List (List UInt8)) (to : Int) (n : Nat) (T : List (List UInt8)) (hT : T.length ≤ 1000000) (hA : Asc T) (F : List UInt8 → List Int) (hF : ∀ s, (F s).length ≤ 1000000000) :
    ∀ (k i : Nat) (M : MapM) (out : List Ent), i + k = T.length → out.length ≤ 100000000000 + i → Making out M (fun s => F s ++ if s ∈ T.take i then [(n : Int)] else []) →
    ∃ M' out', dict_Make_l2 ((i : Int), 1, M, (n : Int), out, T, docs, to, (T.length : Int)) = some (1, M', out', docs, to, (n : Int)) ∧ out'.length ≤ out.length + k ∧ Making out' M' (fun s => F s ++ if s ∈ T then [(n : Int)] else []) := by
  intro k
  induction k with
  | zero =>
    intro i M out hi ho hm
    refine ⟨M, out, ?_, by omega, ?_⟩
    · rw [dict_Make_l2_eq, dict_Make_l2_F]
      dsimp only
      rw [cF (dF (by omega))]
    · rw [List.take_of_length_le (by omega)] at hm
      exact hm
  | succ k ih =>
    intro i M out hi ho hm
    rw [dict_Make_l2_eq, dict_Make_l2_F]
    dsimp only
    have hlt : i < T.length := by omega
    have hFt := hF T[i]
    have hnot : ¬ T[i] ∈ T.take i := by
      intro h
      obtain ⟨j, hj, e⟩ := List.getElem_of_mem h
      rw [List.length_take] at hj
      rw [List.getElem_take] at e
      exact bl_ne (asc_get hA (show j < i by omega) hlt) e
    have hlook : lookM M T[i] = F T[i] := by rw [hm.look, if_neg hnot, List.append_nil]
    have hnext : ∀ s, s ∈ T.take (i + 1) ↔ s ∈ T.take i ∨ s = T[i] := by
      intro s
      rw [List.take_succ_eq_append_getElem (by omega), List.mem_append]
      simp
    have hF2 : ∀ s, (F s ++ if s ∈ T.take (i + 1) then [(n : Int)] else []) = if s = T[i] then lookM M T[i] ++ [(n : Int)] else lookM M s := by
      intro s
      by_cases h : s = T[i]
      · rw [if_pos ((hnext s).2 (Or.inr h)), if_pos h, hlook, h]
      · rw [if_neg h, hm.look s]
        by_cases h2 : s ∈ T.take i
        · rw [if_pos h2, if_pos ((hnext s).2 (Or.inl h2))]
        · rw [if_neg h2, if_neg (fun q => by rcases (hnext s).1 q with q | q; exact h2 q; exact h q)]
    rw [cT (dT (by omega)), grd (aT (dT (by omega)) (dT (by omega))), idx_nat (l := T) hlt, grd (by rfl), map_len_ok _ _ (by decide), bS]
    have hap : (([(n : Int)] ++ ([] : List Int)).length : Int) = 1 := rfl
    by_cases h0 : F T[i] = []
    · obtain ⟨p, p1, p2⟩ := place_ok (d := out) T[i] (by omega) hm.asc
      have hp := p2.1
      have hnm : T[i] ∉ out.map Prod.fst := fun h => (hm.mem T[i]).1 h (by rw [if_neg hnot, h0]; rfl)
      rw [hlook, h0, show ((([] : List Int).length : Int) == 0) = true from rfl, cond_true, p1, bS]
      have es : sub out (p : Int) ((p : Int) + ((out.length : Int) - (p : Int))) = out.drop p := by
        rw [show (p : Int) + ((out.length : Int) - (p : Int)) = (out.length : Int) by omega, sub_len]; rfl
      rw [es, sub_zero, show ((p : Int)).toNat = p by omega]
      rw [grd (aT (dT (by omega)) (aT (dT (by omega)) (dT (by omega)))), grd (dT (by simp; omega)), grd (aT (dT (by omega)) (aT (dT (by omega)) (dT (by omega)))), grd (dT (by simp; omega)), grd (dT (by simp; omega)), bS]
      dsimp only
      rw [grd (by rfl), hap, grd (by rfl), map_app_ok _ _ _ (by rw [hlook, h0]; simp), bS, W64_in (by omega) (by omega), show (i : Int) + 1 = ((i + 1 : Nat) : Int) by omega]
      have eo : out.take p ++ ([(T[i], ([] : List Int))] ++ []) ++ ([] ++ out.drop p) = out.take p ++ (T[i], []) :: out.drop p := by simp
      rw [eo]
      obtain ⟨M', out', q1, q2, q3⟩ := ih (i + 1) (appM M T[i] ([(n : Int)] ++ [])) (out.take p ++ (T[i], []) :: out.drop p) (by omega) (by simp; omega) {
        asc := by
          rw [ins_map]
          refine asc_ins hm.asc (fun q hq hqp => ?_) (fun q hq hqp => ?_)
          · rw [List.length_map] at hq
            rw [List.getElem_map]
            exact p2.2.1 q hq hqp
          · have hq' := hq
            rw [List.length_map] at hq'
            have b := p2.2.2 q hq' hqp
            cases hb : bl T[i] (out.map Prod.fst)[q] with
            | true => rfl
            | false =>
              rw [List.getElem_map] at hb
              exact absurd (by rw [bl_tri _ _ hb b]; exact List.mem_map_of_mem (List.getElem_mem hq')) hnm
        nil := by
          intro e he
          rcases List.mem_append.1 he with he | he
          · exact hm.nil e (List.mem_of_mem_take he)
          · rcases List.mem_cons.1 he with rfl | he
            · rfl
            · exact hm.nil e (List.mem_of_mem_drop he)
        look := by
          intro s
          rw [look_app, hF2 s]
          rfl
        mem := by
          intro s
          rw [ins_map, hF2 s, List.mem_append, List.mem_cons]
          have hsp : s ∈ out.map Prod.fst ↔ s ∈ (out.map Prod.fst).take p ∨ s ∈ (out.map Prod.fst).drop p := by
            conv => lhs; rw [← List.take_append_drop p (out.map Prod.fst), List.mem_append]
          by_cases h : s = T[i]
          · rw [if_pos h]
            simp [h]
          · rw [if_neg h]
            have := hm.mem s
            rw [← hm.look s] at this
            rw [← this, hsp]
            simp [h] }
      refine ⟨M', out', q1, ?_, q3⟩
      simp at q2
      omega
    · have hz : (((F T[i]).length : Int) == 0) = false := by
        have : 0 < (F T[i]).length := List.length_pos_iff.2 h0
        simp
        omega
      rw [hlook, hz, cond_false, bS]
      dsimp only
      rw [grd (by rfl), hap, grd (by rfl), map_app_ok _ _ _ (by rw [hlook]; simp; omega), bS, W64_in (by omega) (by omega), show (i : Int) + 1 = ((i + 1 : Nat) : Int) by omega]
      obtain ⟨M', out', q1, q2, q3⟩ := ih (i + 1) (appM M T[i] ([(n : Int)] ++ [])) out (by omega) (by omega) {
        asc := hm.asc
        nil := hm.nil
        look := by
          intro s
          rw [look_app, hF2 s]
          rfl
        mem := by
          intro s
          rw [hF2 s]
          by_cases h : s = T[i]
          · rw [if_pos h, hm.mem, h, if_neg hnot]
            simp [h0]
          · rw [if_neg h, hm.mem s, ← hm.look s] }
      exact ⟨M', out', q1, by omega, q3⟩

noncomputable def occ (docs : List (List UInt8)) (lo : Nat) (s : List UInt8) : Nat → List Int
  | 0 => []
  | k + 1 => occ docs lo s k ++ if s ∈ termsS (docs.getD (lo + k) []) then [((lo + k : Nat) : Int)] else []
theorem occ_len (docs : List (List UInt8)) (lo : Nat) (s : List UInt8) : ∀ k, (occ docs lo s k).length ≤ k
  | 0 => by simp [occ]
  | k + 1 => by
    have := occ_len docs lo s k
    unfold occ
    rw [List.length_append]
    split <;> simp <;> omega

theorem make_l1 (docs : List (List UInt8)) (hd : docs.length ≤ 1000) (hb : ∀ b ∈ docs, b.length ≤ 2000) (lo hi : Nat) (hhi : hi ≤ docs.length) :
    ∀ (n k : Nat) (M : MapM) (out : List Ent), lo + k + n = hi → out.length ≤ 2001 * k → Making out M (fun s => occ docs lo s k) →
    ∃ M' out', dict_Make_l1 (1, M, ((lo + k : Nat) : Int), out, docs, (hi : Int)) = some (out', 1, M') ∧ out'.length ≤ 2001 * (k + n) ∧ Making out' M' (fun s => occ docs lo s (k + n)) := by
  intro n
  induction n with
  | zero =>
    intro k M out hk ho hm
    refine ⟨M, out, ?_, by omega, hm⟩
    rw [dict_Make_l1_eq, dict_Make_l1_F]
    dsimp only
    rw [cF (dF (by omega))]
  | succ n ih =>
    intro k M out hk ho hm
    rw [dict_Make_l1_eq, dict_Make_l1_F]
    dsimp only
    have hlt : lo + k < docs.length := by omega
    have hbl := hb _ (List.getElem_mem hlt)
    obtain ⟨T, t1, t2, t3, t4⟩ := token_Set_ex (b := docs[lo + k]) (by omega)
    have hg : docs.getD (lo + k) [] = docs[lo + k] := by rw [List.getD_eq_getElem?_getD, List.getElem?_eq_getElem hlt]; rfl
    rw [cT (dT (by omega)), grd (aT (dT (by omega)) (dT (by omega))), idx_nat hlt, t1, bS]
    obtain ⟨M', out', q1, q2, q3⟩ := make_l2 docs (hi : Int) (lo + k) T (by omega) t2 (fun s => occ docs lo s k) (fun s => by have := occ_len docs lo s k; omega) T.length 0 M out (by omega) (by omega) (by simpa using hm)
    have q1' : dict_Make_l2 (0, 1, M, ((lo + k : Nat) : Int), out, T, docs, (hi : Int), (T.length : Int)) = some (1, M', out', docs, (hi : Int), ((lo + k : Nat) : Int)) := q1
    rw [q1', bS, bS]
    dsimp only
    rw [W64_in (by omega) (by omega), show ((lo + k : Nat) : Int) + 1 = ((lo + (k + 1) : Nat) : Int) by omega]
    have e : (fun s => occ docs lo s k ++ if s ∈ T then [((lo + k : Nat) : Int)] else []) = fun s => occ docs lo s (k + 1) := by
      funext s
      show _ = occ docs lo s k ++ if s ∈ termsS (docs.getD (lo + k) []) then [((lo + k : Nat) : Int)] else []
      rw [hg]
      by_cases h : s ∈ T
      · rw [if_pos h, if_pos ((t3 s).1 h)]
      · rw [if_neg h, if_neg (fun q => h ((t3 s).2 q))]
    rw [e] at q3
    obtain ⟨M2, out2, r1, r2, r3⟩ := ih (k + 1) M' out' (by omega) (by omega) q3
    rw [show k + 1 + n = k + (n + 1) by omega] at r2 r3
    exact ⟨M2, out2, r1, r2, r3⟩

theorem make_l3 (M : MapM) (out : List Ent) (hl : out.length ≤ 1000000000) : ∀ (n i : Nat) (m : Int) (cur : List Ent), i + n = out.length → 0 < m → cur = (out.take i).map (fun e => (e.1, lookM M e.1)) ++ out.drop i →
    dict_Make_l3 ((i : Int), cur, m, M, (out.length : Int)) = some (out.map fun e => (e.1, lookM M e.1)) := by
  intro n
  induction n with
  | zero =>
    intro i m cur hi hm hc
    rw [dict_Make_l3_eq, dict_Make_l3_F]
    dsimp only
    rw [cF (dF (by omega)), hc, List.take_of_length_le (by omega), List.drop_eq_nil_of_le (by omega), List.append_nil]
  | succ n ih =>
    intro i m cur hi hm hc
    have hlt : i < out.length := by omega
    have hcl : cur.length = out.length := by rw [hc]; simp; omega
    have hci : cur[i]'(by omega) = out[i] := by
      subst hc
      rw [List.getElem_append_right (by simp; omega)]
      simp [Nat.min_eq_left (Nat.le_of_lt hlt)]
    rw [dict_Make_l3_eq, dict_Make_l3_F]
    dsimp only
    rw [cT (dT (by omega)), grd (aT (dT (by omega)) (dT (by omega))), idx_nat (l := cur) (i := i) (by omega), map_get_ok _ _ hm, bS, cT (by rw [Bool.and_true]; exact aT (dT (by omega)) (dT (by omega))), W64_in (by omega) (by omega), show (i : Int) + 1 = ((i + 1 : Nat) : Int) by omega]
    refine ih (i + 1) 2 _ (by omega) (by decide) ?_
    have hml : ((out.take i).map (fun e => (e.1, lookM M e.1))).length = i := by simp; omega
    rw [hci, show ((i : Int)).toNat = i by omega, hc, List.set_append_right _ _ (by omega), hml, Nat.sub_self, List.drop_eq_getElem_cons (l := out) (i := i) hlt, List.set_cons_zero, List.take_succ_eq_append_getElem hlt, List.map_append, List.append_assoc]
    rfl
theorem part_ok (a b c : Int) : dict_part a b c = some (decide (0 ≤ a ∧ a ≤ b ∧ b ≤ c)) := by
  refine dict_part_of ?_
  unfold dict_part_b
  congr 1
  rw [Bool.eq_iff_iff]
  simp
  omega

/-- May these documents be taken? -/
def fairM (docs : List (List UInt8)) (a b : Int) : Prop := docs.length ≤ 1000 ∧ (∀ x ∈ docs, x.length ≤ 2000) ∧ 0 ≤ a ∧ a ≤ b ∧ b ≤ (docs.length : Int)

theorem make_l0_bad (docs : List (List UInt8)) (a b : Int) (hl : docs.length ≤ 1000) : ∀ (n i : Nat), i + n = docs.length → (∃ x ∈ docs.drop i, 2000 < x.length) → dict_Make_l0 ((i : Int), docs, docs, b, a, (docs.length : Int)) = some (1, []) := by
  intro n
  induction n with
  | zero =>
    intro i hi ⟨x, hx, _⟩
    rw [List.drop_eq_nil_of_le (by omega)] at hx
    cases hx
  | succ n ih =>
    intro i hi ⟨x, hx, h⟩
    rw [dict_Make_l0_eq, dict_Make_l0_F]
    dsimp only
    rw [cT (dT (by omega)), grd (aT (dT (by omega)) (dT (by omega))), idx_nat (l := docs) (i := i) (by omega)]
    by_cases hb : 2000 < (docs[i]'(by omega)).length
    · rw [cT (dT (by omega))]
    · rw [cF (dF (by omega)), W64_in (by omega) (by omega), show (i : Int) + 1 = ((i + 1 : Nat) : Int) by omega]
      refine ih (i + 1) (by omega) ⟨x, ?_, h⟩
      rw [List.drop_eq_getElem_cons (l := docs) (i := i) (by omega)] at hx
      rcases List.mem_cons.1 hx with e | e
      · rw [e] at h; exact absurd h hb
      · exact e
theorem make_l0_go (docs : List (List UInt8)) (a b : Int) (hl : docs.length ≤ 1000) (hb : ∀ x ∈ docs, x.length ≤ 2000) : ∀ (n i : Nat), i + n = docs.length → dict_Make_l0 ((i : Int), docs, docs, b, a, (docs.length : Int)) = dict_Make_l0 ((docs.length : Int), docs, docs, b, a, (docs.length : Int)) := by
  intro n
  induction n with
  | zero => intro i hi; rw [show i = docs.length by omega]
  | succ n ih =>
    intro i hi
    rw [dict_Make_l0_eq, dict_Make_l0_F]
    dsimp only
    have := hb _ (List.getElem_mem (l := docs) (n := i) (by omega))
    rw [cT (dT (by omega)), grd (aT (dT (by omega)) (dT (by omega))), idx_nat (l := docs) (i := i) (by omega), cF (dF (by omega)), W64_in (by omega) (by omega), show (i : Int) + 1 = ((i + 1 : Nat) : Int) by omega, ih _ (by omega)]

theorem make_bad {docs : List (List UInt8)} {a b : Int} (h : ¬ fairM docs a b) (hl : docs.length ≤ 1000000000000) : dict_Make docs a b = some (1, []) := by
  refine dict_Make_of ?_
  unfold dict_Make_b
  rw [part_ok]
  by_cases h1 : docs.length > 1000
  · rw [dT (show (docs.length : Int) > 1000 by omega)]; rfl
  · rw [dF (show ¬ (docs.length : Int) > 1000 by omega)]
    simp only [Bool.not_false, Bool.true_and, cond_true, Option.bind_some, Bool.false_eq_true, if_false, Bool.and_true]
    by_cases h2 : 0 ≤ a ∧ a ≤ b ∧ b ≤ (docs.length : Int)
    · rw [dT h2, Bool.not_true, cond_false]
      refine make_l0_bad docs a b (by omega) docs.length 0 (by omega) ?_
      rw [List.drop_zero]
      apply Classical.byContradiction
      intro hn
      exact h ⟨by omega, fun x hx => Nat.le_of_not_lt fun q => hn ⟨x, hx, q⟩, h2⟩
    · rw [dF h2]; rfl

theorem postF_app (x : Int) : ∀ (l : List Int) (last : Int), postF last l = true → (∀ y ∈ l, y < x) → last < x → x < 1000 → postF last (l ++ [x]) = true
  | [], last, _, _, h1, h2 => by simp [postF, h1, h2]
  | y :: l, last, h, h3, h1, h2 => by
    unfold postF at h
    rw [Bool.and_eq_true] at h
    rw [List.cons_append]
    unfold postF
    rw [Bool.and_eq_true]
    exact ⟨h.1, postF_app x l y h.2 (fun z hz => h3 z (List.mem_cons_of_mem _ hz)) (h3 y (List.mem_cons_self ..)) h2⟩
theorem occ_mem (docs : List (List UInt8)) (lo : Nat) (s : List UInt8) (x : Int) : ∀ k, x ∈ occ docs lo s k ↔ ∃ j, j < k ∧ x = ((lo + j : Nat) : Int) ∧ s ∈ termsS (docs.getD (lo + j) [])
  | 0 => by simp [occ]
  | k + 1 => by
    unfold occ
    rw [List.mem_append, occ_mem docs lo s x k]
    constructor
    · rintro (⟨j, h1, h2, h3⟩ | h)
      · exact ⟨j, by omega, h2, h3⟩
      · by_cases hs : s ∈ termsS (docs.getD (lo + k) [])
        · rw [if_pos hs] at h
          exact ⟨k, by omega, List.mem_singleton.1 h, hs⟩
        · rw [if_neg hs] at h; cases h
    · rintro ⟨j, h1, h2, h3⟩
      rcases Nat.lt_or_eq_of_le (Nat.le_of_lt_succ h1) with h | h
      · exact Or.inl ⟨j, h, h2, h3⟩
      · subst h
        rw [if_pos h3]
        exact Or.inr (List.mem_singleton.2 h2)
theorem occ_post (docs : List (List UInt8)) (lo : Nat) (s : List UInt8) : ∀ k, lo + k ≤ 1000 → postR (occ docs lo s k) = true
  | 0, _ => rfl
  | k + 1, h => by
    unfold occ
    have ih := occ_post docs lo s k (by omega)
    by_cases hs : s ∈ termsS (docs.getD (lo + k) [])
    · rw [if_pos hs]
      refine postF_app _ _ _ ih (fun y hy => ?_) (by omega) (by omega)
      obtain ⟨j, h1, h2, _⟩ := (occ_mem docs lo s y k).1 hy
      omega
    · rw [if_neg hs, List.append_nil]; exact ih

/-- The dictionary of documents. -/
structure IsMade (docs : List (List UInt8)) (lo n : Nat) (D : List Ent) : Prop where
  asc : Asc (D.map Prod.fst)
  mem : ∀ s, s ∈ D.map Prod.fst ↔ occ docs lo s n ≠ []
  val : ∀ e ∈ D, e.2 = occ docs lo e.1 n
theorem IsMade.uniq {docs lo n} {D E : List Ent} (h : IsMade docs lo n D) (h' : IsMade docs lo n E) : D = E := by
  have e := asc_ext _ _ h.asc h'.asc (fun s => by rw [h.mem s, h'.mem s])
  have d : ∀ X : List Ent, (∀ e ∈ X, e.2 = occ docs lo e.1 n) → X = (X.map Prod.fst).map fun s => (s, occ docs lo s n) := by
    intro X hX
    rw [List.map_map]
    conv => lhs; rw [← List.map_id X]
    refine List.map_congr_left fun x hx => ?_
    show x = (x.1, occ docs lo x.1 n)
    rw [← hX x hx]
  rw [d D h.val, d E h'.val, e]
theorem IsMade.good {docs lo n} {D : List Ent} (h : IsMade docs lo n D) (hn : lo + n ≤ 1000) : dictG D = true ∧ okE D := by
  have hin : ∀ e ∈ D, goodT e.1 ∧ e.2 = occ docs lo e.1 n ∧ occ docs lo e.1 n ≠ [] := by
    intro e he
    have h1 := (h.mem e.1).1 (List.mem_map_of_mem he)
    obtain ⟨x, hx⟩ := List.exists_mem_of_ne_nil _ h1
    obtain ⟨j, _, _, h3⟩ := (occ_mem docs lo e.1 x n).1 hx
    exact ⟨termsS_good h3, h.val e he, h1⟩
  refine ⟨(dictG_iff D).2 ⟨h.asc, fun e he => ?_⟩, fun e he => ?_⟩
  · obtain ⟨h1, h2, h3⟩ := hin e he
    unfold entR
    rw [rightT_iff.2 h1, h2, occ_post docs lo e.1 n hn, show ((occ docs lo e.1 n).length == 0) = false by simp [h3]]
    rfl
  · obtain ⟨⟨p, _, _, _, h4⟩, h2, h3⟩ := hin e he
    have := occ_len docs lo e.1 n
    rw [h2]
    omega

theorem make_ok {docs : List (List UInt8)} {a b : Int} (h : fairM docs a b) : ∃ D, dict_Make docs a b = some (0, D) ∧ IsMade docs a.toNat (b.toNat - a.toNat) D ∧ dictG D = true ∧ okE D ∧ D.length ≤ 2001000 := by
  obtain ⟨h1, h2, h3, h4, h5⟩ := h
  obtain ⟨lo, rfl⟩ := Int.eq_ofNat_of_zero_le h3
  obtain ⟨hi, rfl⟩ := Int.eq_ofNat_of_zero_le (show 0 ≤ b by omega)
  simp only [Int.toNat_natCast]
  obtain ⟨M, out, e1, e2, e3⟩ := make_l1 docs h1 h2 lo hi (by omega) (hi - lo) 0 [] [] (by omega) (by simp) ⟨List.Pairwise.nil, by simp, fun _ => rfl, fun s => by simp [occ]⟩
  rw [Nat.zero_add] at e2 e3
  have e4 := make_l3 M out (by omega) out.length 0 1 out (by omega) (by decide) (by simp)
  have hm : IsMade docs lo (hi - lo) (out.map fun e => (e.1, lookM M e.1)) := {
    asc := by
      rw [List.map_map]
      exact e3.asc
    mem := by
      intro s
      rw [List.map_map]
      exact e3.mem s
    val := by
      intro e he
      obtain ⟨x, hx, rfl⟩ := List.mem_map.1 he
      exact e3.look x.1 }
  refine ⟨out.map fun e => (e.1, lookM M e.1), dict_Make_of ?_, hm, (hm.good (by omega)).1, (hm.good (by omega)).2, by rw [List.length_map]; omega⟩
  unfold dict_Make_b
  rw [part_ok, dF (show ¬ (docs.length : Int) > 1000 by omega), dT (show 0 ≤ (lo : Int) ∧ (lo : Int) ≤ (hi : Int) ∧ (hi : Int) ≤ (docs.length : Int) by omega)]
  simp only [Bool.not_false, Bool.true_and, cond_true, Option.bind_some, Bool.false_eq_true, if_false, Bool.and_true, Bool.not_true, cond_false]
  refine (make_l0_go docs lo hi h1 h2 docs.length 0 (by omega)).trans ?_
  rw [dict_Make_l0_eq, dict_Make_l0_F]
  dsimp only
  rw [cF (dF (by omega))]
  have e1' : dict_Make_l1 (1, [], (lo : Int), [], docs, (hi : Int)) = some (out, 1, M) := e1
  have e4' : dict_Make_l3 (0, out, 1, M, (out.length : Int)) = some (out.map fun e => (e.1, lookM M e.1)) := e4
  rw [e1', bS]
  dsimp only
  rw [e4', bS]
end Rk
