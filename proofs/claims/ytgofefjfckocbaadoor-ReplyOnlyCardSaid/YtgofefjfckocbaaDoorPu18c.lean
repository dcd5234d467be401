/- The plain part: what the functions answer. No condition. -/
import Derived.Test.YtgofefjfckocbaaDoorPu18b
set_option linter.unusedVariables false
set_option linter.unusedSimpArgs false
namespace Rk
open Go

/-! ### Answers, pages and steps are read -/

def failE (e E : Int) : Int := if E = 0 then e else E

theorem fail_ok (e : Int) (B : List UInt8) (At E : Int) : reply_reader_fail_s1 e B At E = some (B, At, failE e E) := by
  refine reply_reader_fail_s1_of ?_
  unfold reply_reader_fail_s1_b failE
  by_cases h : E = 0
  · rw [if_pos h, cT (by simpa using h), bS]
  · rw [if_neg h, cF (by simpa using h), bS]

theorem rtext_ex {B : List UInt8} {At E most : Int} (h : E = 0 → RdOk B At) (hm : most ≤ 1000000) : ∃ At' E' s, reply_reader_text most B At E = some (s, B, At', E') ∧ RdX B At E At' E' (encT s) ∧ (E' = 0 → (s.length : Int) ≤ most) ∧ s.length ≤ 1000000 := by
  obtain ⟨At', E', s, h1, h2⟩ := code_ReadText_ex h hm
  exact ⟨At', E', s, reply_reader_text_of (by unfold reply_reader_text_b; rw [h1, bS]), h2⟩

theorem rtext_back {B t s : List UInt8} {At most : Int} (h : RdOk B At) (hs : s.length ≤ 1000000) (hm : (s.length : Int) ≤ most) (hb : B.drop At.toNat = encT s ++ t) :
    reply_reader_text most B At 0 = some (s, B, At + ((encT s).length : Int), 0) :=
  reply_reader_text_of (by unfold reply_reader_text_b; rw [code_ReadText_back h hs hm hb, bS])

theorem rnum_ex {B : List UInt8} {At E : Int} (h : E = 0 → RdOk B At) : ∃ At' E' v, reply_reader_num B At E = some (v, B, At', E') ∧ RdX B At E At' E' (encN v.toNat) ∧ 0 ≤ v ∧ v ≤ 4611686018427387904 ∧ (E' ≠ 0 → v = 0) := by
  obtain ⟨At', E', v, h1, h2⟩ := code_ReadNum_ex h
  exact ⟨At', E', v, reply_reader_num_of (by unfold reply_reader_num_b; rw [h1, bS]), h2⟩

theorem rnum_back {B t : List UInt8} {At : Int} {v : Nat} (h : RdOk B At) (hv : v ≤ 4611686018427387904) (hb : B.drop At.toNat = encN v ++ t) :
    reply_reader_num B At 0 = some ((v : Int), B, At + ((encN v).length : Int), 0) :=
  reply_reader_num_of (by unfold reply_reader_num_b; rw [code_ReadNum_back h hv hb, bS])

theorem rmany_ex {B : List UInt8} {At E most : Int} (h : E = 0 → RdOk B At) (hm : 0 ≤ most) : ∃ At' E' v, reply_reader_many most B At E = some (v, B, At', E') ∧ RdX B At E At' E' (encN v.toNat) ∧ 0 ≤ v ∧ v ≤ most := by
  obtain ⟨At', E', v, h1, h2, h3, h4, h5⟩ := rnum_ex h
  by_cases hv : v > most
  · have hE : failE 2 E' ≠ 0 := by
      unfold failE
      split
      · decide
      · assumption
    refine ⟨At', failE 2 E', 0, reply_reader_many_of ?_, .err h2.le hE, by omega, hm⟩
    unfold reply_reader_many_b
    rw [h1, bS]
    dsimp only
    rw [cT (dT hv), fail_ok, bS]
  · refine ⟨At', E', v, reply_reader_many_of ?_, h2, h3, by omega⟩
    unfold reply_reader_many_b
    rw [h1, bS]
    dsimp only
    rw [cF (dF hv)]

theorem rmany_back {B t : List UInt8} {At most : Int} {v : Nat} (h : RdOk B At) (hv : v ≤ 4611686018427387904) (hm : (v : Int) ≤ most) (hb : B.drop At.toNat = encN v ++ t) :
    reply_reader_many most B At 0 = some ((v : Int), B, At + ((encN v).length : Int), 0) := by
  refine reply_reader_many_of ?_
  unfold reply_reader_many_b
  rw [rnum_back h hv hb, bS]
  dsimp only
  rw [cF (dF (by omega))]

theorem rhead_ex {B : List UInt8} {At E : Int} (h : E = 0 → RdOk B At) : ∃ At' E' z g l, reply_reader_head B At E = some (z, g, l, B, At', E') ∧ RdX B At E At' E' (encT (encH z g l)) ∧ (E' = 0 → headR z g l = true) ∧ (E' ≠ 0 → l = []) := by
  obtain ⟨At', E', s, h1, h2, h3, h4⟩ := rtext_ex (most := 10000) h (by omega)
  by_cases hE : E' = 0
  · subst hE
    obtain ⟨z, g, l, e, p1, p2, p3⟩ := head_Read_ex (B := s) (by omega)
    have run : reply_reader_head B At E = some (z, g, l, B, At', failE e 0) := by
      refine reply_reader_head_of ?_
      unfold reply_reader_head_b
      rw [h1, bS]
      dsimp only
      rw [cF nz0, p1, bS]
      dsimp only
      rw [fail_ok, bS]
    have hf : failE e 0 = e := if_pos rfl
    rw [hf] at run
    by_cases he : e = 0
    · obtain ⟨q1, q2⟩ := p2 he
      subst he
      exact ⟨At', 0, z, g, l, run, by rw [← q2]; exact h2, fun _ => q1, fun hne => absurd rfl hne⟩
    · exact ⟨At', e, z, g, l, run, .err h2.le he, fun q => absurd q he, fun q => (p3 q).2.2⟩
  · refine ⟨At', E', 0, [], [], reply_reader_head_of ?_, .err h2.le hE, fun q => absurd q hE, fun _ => rfl⟩
    unfold reply_reader_head_b
    rw [h1, bS]
    dsimp only
    rw [cT (by simpa using hE)]

theorem rhead_back {B t : List UInt8} {At z : Int} {g : List UInt8} {l : List Sg} (h : RdOk B At) (hr : headR z g l = true) (hb : B.drop At.toNat = encT (encH z g l) ++ t) :
    reply_reader_head B At 0 = some (z, g, l, B, At + ((encT (encH z g l)).length : Int), 0) := by
  have hl := encH_len hr
  refine reply_reader_head_of ?_
  unfold reply_reader_head_b
  rw [rtext_back h (by omega) (by omega) hb, bS]
  dsimp only
  rw [cF nz0, head_Read_back hr, bS]
  dsimp only
  rw [fail_ok, bS]
  rfl

theorem rpath_loop_ex {B : List UInt8} (n : Int) (hn : n ≤ 64) : ∀ (k i : Nat) (l : List (List UInt8)) (At E : Int), ((i + k : Nat) : Int) = n → l.length = i → (∀ d ∈ l, d.length ≤ 32) → (E = 0 → RdOk B At) →
    ∃ At' E' r, reply_reader_path_l0 ((i : Int), l, B, At, E, n) = some (B, At', E', r) ∧ (r.length ≤ 64 ∧ ∀ d ∈ r, d.length ≤ 32) ∧ ((E' ≠ 0 ∧ At ≤ At') ∨ ∃ new, r = l ++ new ∧ RdX B At E At' E' new.flatten ∧ new.length = k ∧ (E' = 0 → ∀ d ∈ new, d.length = 32)) := by
  intro k
  induction k with
  | zero =>
    intro i l At E hk hl hd h
    refine ⟨At, E, l, ?_, ⟨by omega, hd⟩, .inr ⟨[], by simp, ⟨h, Int.le_refl _, fun he => ⟨he, rfl⟩⟩, rfl, fun _ => by simp⟩⟩
    rw [reply_reader_path_l0_eq]
    dsimp only
    rw [cF (dF (by omega))]
  | succ k ih =>
    intro i l At E hk hl hd h
    have hW : W64 ((i : Int) + 1) = ((i + 1 : Nat) : Int) := by rw [W64_in (by omega) (by omega)]; omega
    obtain ⟨A1, E1, d, p1, q1, q2, q3⟩ := code_ReadDigest_ex (E := E) h
    by_cases hE : E1 = 0
    · subst hE
      obtain ⟨A2, E2, r, p2, p3, p4⟩ := ih (i + 1) (l ++ ([d] ++ [])) A1 0 (by omega) (by simp; omega) (by
        intro x hx
        simp only [List.append_nil, List.mem_append, List.mem_singleton] at hx
        rcases hx with hx | hx
        · exact hd x hx
        · rw [hx]; exact q3) q1.ok
      refine ⟨A2, E2, r, ?_, p3, ?_⟩
      · rw [reply_reader_path_l0_eq]
        dsimp only
        rw [cT (dT (by omega)), p1, bS]
        dsimp only
        rw [cF nz0, grd (dT (by simp only [List.length_append, List.length_cons, List.length_nil]; omega)), hW, p2]
      · rcases p4 with p4 | ⟨new, n1, n2, n3, n4⟩
        · exact .inl ⟨p4.1, Int.le_trans q1.le p4.2⟩
        · refine .inr ⟨d :: new, by rw [n1]; simp, ?_, by simp [n3], fun he x hx => ?_⟩
          · rw [List.flatten_cons]
            exact q1.trans n2
          · rcases List.mem_cons.1 hx with hx | hx
            · rw [hx]; exact q2 rfl
            · exact n4 he x hx
    · refine ⟨A1, E1, [], ?_, ⟨by simp, by simp⟩, .inl ⟨hE, q1.le⟩⟩
      rw [reply_reader_path_l0_eq]
      dsimp only
      rw [cT (dT (by omega)), p1, bS]
      dsimp only
      rw [cT (by simpa using hE)]

theorem rpath_ex {B : List UInt8} {At E : Int} (h : E = 0 → RdOk B At) : ∃ At' E' l, reply_reader_path B At E = some (B, At', E', l) ∧ RdX B At E At' E' (encP l) ∧ (E' = 0 → pathOk l = true) ∧ l.length ≤ 64 ∧ ∀ d ∈ l, d.length ≤ 32 := by
  obtain ⟨A1, E1, v, p1, q1, q2, q3⟩ := rmany_ex (most := 64) h (by omega)
  obtain ⟨A2, E2, r, p2, p3, p4⟩ := rpath_loop_ex v q3 v.toNat 0 [] A1 E1 (by omega) rfl (by simp) q1.ok
  refine ⟨A2, E2, r, reply_reader_path_of ?_, ?_, fun he => ?_, p3.1, p3.2⟩
  · unfold reply_reader_path_b
    rw [p1, bS]
    dsimp only
    exact p2
  · rcases p4 with p4 | ⟨new, n1, n2, n3, n4⟩
    · exact .err (Int.le_trans q1.le p4.2) p4.1
    · rw [List.nil_append] at n1
      rw [n1, encP, n3]
      exact q1.trans n2
  · rcases p4 with p4 | ⟨new, n1, n2, n3, n4⟩
    · exact absurd he p4.1
    · rw [List.nil_append] at n1
      rw [n1]
      simp only [pathOk, Bool.and_eq_true, decide_eq_true_eq, List.all_eq_true]
      exact ⟨by omega, fun d hd => n4 he d hd⟩

theorem rpath_loop_back {B t : List UInt8} (n : Int) (hn : n ≤ 64) : ∀ (l out : List (List UInt8)) (i : Nat) (At : Int), ((i + l.length : Nat) : Int) = n → out.length = i → RdOk B At → (∀ d ∈ l, d.length = 32) → B.drop At.toNat = l.flatten ++ t →
    reply_reader_path_l0 ((i : Int), out, B, At, 0, n) = some (B, At + (l.flatten.length : Int), 0, out ++ l)
  | [], out, i, At, hk, ho, h, hd, hb => by
    rw [reply_reader_path_l0_eq]
    dsimp only
    rw [cF (dF (by simp at hk; omega)), List.append_nil]
    simp
  | d :: l, out, i, At, hk, ho, h, hd, hb => by
    have hk' : (i : Int) + (l.length : Int) + 1 = n := by simp at hk; omega
    have hW : W64 ((i : Int) + 1) = ((i + 1 : Nat) : Int) := by rw [W64_in (by omega) (by omega)]; omega
    have hd32 := hd d (by simp)
    rw [List.flatten_cons, List.append_assoc] at hb
    have p1 := code_ReadDigest_back h hd32 hb
    obtain ⟨h1, b1⟩ := rd_next h hb
    rw [hd32] at h1 b1
    have ih := rpath_loop_back n hn l (out ++ ([d] ++ [])) (i + 1) _ (by simp at hk ⊢; omega) (by simp; omega) h1 (fun x hx => hd x (by simp [hx])) b1
    rw [reply_reader_path_l0_eq]
    dsimp only
    rw [cT (dT (by omega)), p1, bS]
    dsimp only
    have e32 : (((32 : Nat) : Int)) = 32 := rfl
    rw [e32] at ih
    rw [cF nz0, grd (dT (by simp only [List.length_append, List.length_cons, List.length_nil]; omega)), hW, ih]
    simp only [List.append_nil, List.append_assoc, List.singleton_append, List.flatten_cons, List.length_append, hd32]
    congr 3
    omega

theorem pathOk_of {l : List (List UInt8)} (h : pathOk l = true) : l.length ≤ 64 ∧ ∀ d ∈ l, d.length = 32 := by
  simp only [pathOk, Bool.and_eq_true, decide_eq_true_eq, List.all_eq_true] at h
  exact h

theorem rpath_back {B t : List UInt8} {At : Int} {l : List (List UInt8)} (h : RdOk B At) (hl : pathOk l = true) (hb : B.drop At.toNat = encP l ++ t) :
    reply_reader_path B At 0 = some (B, At + ((encP l).length : Int), 0, l) := by
  obtain ⟨h1, h2⟩ := pathOk_of hl
  rw [encP, List.append_assoc] at hb
  have p1 := rmany_back (most := 64) h (by omega) (by omega) hb
  obtain ⟨k1, b1⟩ := rd_next h hb
  have p2 := rpath_loop_back (l.length : Int) (by omega) l [] 0 _ (by simp) rfl k1 h2 b1
  refine reply_reader_path_of ?_
  unfold reply_reader_path_b
  rw [p1, bS]
  dsimp only
  refine Eq.trans p2 ?_
  simp only [encP, List.length_append, List.nil_append]
  congr 3
  omega

theorem rproof_ex {B : List UInt8} {At E : Int} (h : E = 0 → RdOk B At) : ∃ At' E' p1 p2 p3 p4 p5 p6, reply_reader_proof B At E = some (p1, p2, p3, p4, B, At', E', p5, p6) ∧ RdX B At E At' E' (encF (p1, p2, p3, p4, p5, p6)) ∧ (E' = 0 → pfOk (p1, p2, p3, p4, p5, p6) = true) := by
  obtain ⟨A1, E1, v, h1, x1, v0, v1, _⟩ := rnum_ex h
  obtain ⟨A2, E2, s, h2, x2, s1, s2⟩ := rtext_ex (most := 200) x1.ok (by omega)
  -- the link
  obtain ⟨a, b, c, E3, h3, x3⟩ : ∃ a b c E3, (((bif (E2 == (0 : Int)) then ((dict_ReadLink s).bind fun r2 => ((reply_reader_fail_s1 r2.2.2.2 B A2 E2).bind fun r3 => (some (v, r2.1, r2.2.1, r2.2.2.1, r3.1, r3.2.1, r3.2.2)))) else (some (v, ([] : List UInt8), ([] : List UInt8), ([] : List UInt8), B, A2, E2))) : Option (Int × List UInt8 × List UInt8 × List UInt8 × List UInt8 × Int × Int))) = some (v, a, b, c, B, A2, E3) ∧ (E3 = 0 → E2 = 0 ∧ s = encK a b c ∧ mayL a b c = true) := by
    by_cases hE : E2 = 0
    · subst hE
      obtain ⟨a, b, c, e, p1, p2, p3⟩ := dict_ReadLink_ex (B := s) (by omega)
      refine ⟨a, b, c, e, ?_, fun he => ⟨rfl, (p2 he).2, (p2 he).1⟩⟩
      rw [cT (show ((0 : Int) == 0) = true from rfl), p1, bS]
      dsimp only
      rw [fail_ok, bS]
      rfl
    · exact ⟨[], [], [], E2, by rw [cF (by simpa using hE)], fun he => absurd he hE⟩
  obtain ⟨A4, E4, l, h4, x4, l1, l2, l3⟩ := rpath_ex (B := B) (At := A2) (E := E3) (fun he => x2.ok (x3 he).1)
  obtain ⟨A5, E5, d, h5, x5, d1, d2⟩ := rtext_ex (most := 4000) x4.ok (by omega)
  refine ⟨A5, E5, v, a, b, c, l, d, reply_reader_proof_of ?_, ?_, fun he => ?_⟩
  · unfold reply_reader_proof_b
    rw [h1, bS]
    dsimp only
    rw [h2, bS]
    dsimp only
    rw [h3, bS]
    dsimp only
    rw [h4, bS]
    dsimp only
    rw [h5, bS]
  · by_cases he : E5 = 0
    · obtain ⟨e4, _⟩ := x5.by_ he
      obtain ⟨e3, _⟩ := x4.by_ e4
      obtain ⟨e2, q1, q2⟩ := x3 e3
      subst e2 e3
      rw [q1] at x2
      exact x1.trans (x2.trans (x4.trans x5))
    · exact .err (Int.le_trans x1.le (Int.le_trans x2.le (Int.le_trans x4.le x5.le))) he
  · obtain ⟨e4, _⟩ := x5.by_ he
    obtain ⟨e3, _⟩ := x4.by_ e4
    obtain ⟨e2, q1, q2⟩ := x3 e3
    have := d1 he
    simp only [pfOk, q2, l1 e4, numOk, dT v0, dT v1, Bool.and_true, Bool.true_and, decide_eq_true_eq]
    omega

theorem pfOk_of {p : Pf} (h : pfOk p = true) : mayL p.2.1 p.2.2.1 p.2.2.2.1 = true ∧ (0 ≤ p.1 ∧ p.1 ≤ 4611686018427387904) ∧ pathOk p.2.2.2.2.1 = true ∧ p.2.2.2.2.2.length ≤ 4000 := by
  simp only [pfOk, numOk, Bool.and_eq_true, decide_eq_true_eq] at h
  exact ⟨h.1, h.2.1, h.2.2.1, h.2.2.2⟩

theorem pfOk_s {p : Pf} (h : pfOk p = true) : PfS p := by
  obtain ⟨_, _, h3, h4⟩ := pfOk_of h
  obtain ⟨h5, h6⟩ := pathOk_of h3
  exact ⟨by omega, fun d hd => by have := h6 d hd; omega, by omega⟩

theorem rproof_back {B t : List UInt8} {At : Int} {p : Pf} (h : RdOk B At) (hp : pfOk p = true) (hb : B.drop At.toNat = encF p ++ t) :
    reply_reader_proof B At 0 = some (p.1, p.2.1, p.2.2.1, p.2.2.2.1, B, At + ((encF p).length : Int), 0, p.2.2.2.2.1, p.2.2.2.2.2) := by
  obtain ⟨g1, g2, g3, g4⟩ := pfOk_of hp
  have hk := encK_len g1
  rw [encF, List.append_assoc, List.append_assoc, List.append_assoc] at hb
  have p1 := rnum_back h (by omega) hb
  obtain ⟨k1, b1⟩ := rd_next h hb
  have p2 := rtext_back (most := 200) k1 (by omega) (by omega) b1
  obtain ⟨k2, b2⟩ := rd_next k1 b1
  have p3 := rpath_back k2 g3 b2
  obtain ⟨k3, b3⟩ := rd_next k2 b2
  have p4 := rtext_back (most := 4000) k3 (by omega) (by omega) b3
  rw [toNat_cast g2.1] at p1
  refine reply_reader_proof_of ?_
  unfold reply_reader_proof_b
  rw [p1, bS]
  dsimp only
  rw [p2, bS]
  dsimp only
  rw [cT (show ((0 : Int) == 0) = true from rfl), dict_ReadLink_back g1, bS]
  dsimp only
  rw [fail_ok, bS, bS]
  dsimp only
  rw [show failE 0 0 = 0 from rfl, p3, bS]
  dsimp only
  rw [p4, bS]
  simp only [encF, List.length_append]
  congr 7
  omega

theorem rend_ex {B : List UInt8} {At E : Int} (h : E = 0 → RdOk B At) : ∃ e A' E', reply_reader_end B At E = some (e, B, A', E') ∧ (e = 0 → E = 0 ∧ B.drop At.toNat = []) := by
  by_cases hE : E = 0
  · obtain ⟨e, h1, h2⟩ := code_Done_ex h
    refine ⟨e, At, E, reply_reader_end_of ?_, h2⟩
    unfold reply_reader_end_b
    rw [hE] at h1 ⊢
    rw [cF nz0, h1, bS]
  · refine ⟨E, At, E, reply_reader_end_of ?_, fun he => absurd he hE⟩
    unfold reply_reader_end_b
    rw [cT (by simpa using hE)]

theorem rend_back {B : List UInt8} {At : Int} (h : RdOk B At) (hb : B.drop At.toNat = []) : reply_reader_end B At 0 = some (0, B, At, 0) := by
  refine reply_reader_end_of ?_
  unfold reply_reader_end_b
  rw [cF nz0, code_Done_back h hb, bS]

theorem ropen_ex {B : List UInt8} (k : UInt8) (hB : B.length ≤ 9223372036854775807) : ∃ E, reply_open B k = some (B, 1, E) ∧ (E = 0 → RdOk B 1 ∧ B.length ≤ 1048576 ∧ B = [k] ++ B.drop 1) := by
  by_cases h1 : B.length > 1048576
  · refine ⟨3, reply_open_of ?_, fun he => by simp at he⟩
    unfold reply_open_b
    rw [cT (dT (by omega)), bS]
  · by_cases h2 : B.length = 0
    · refine ⟨4, reply_open_of ?_, fun he => by simp at he⟩
      unfold reply_open_b
      rw [cF (dF (by omega)), cT (by rw [h2]; rfl), bS, bS]
    · have h3 : 0 < B.length := by omega
      have ei : idx (0 : UInt8) B 0 = B[0] := idx_nat (i := 0) h3
      have en : ((B.length : Int) == 0) = false := by rw [Bool.eq_false_iff]; simp only [ne_eq, beq_iff_eq]; omega
      have e1 : (((1 : Int).toNat)) = 1 := rfl
      by_cases hk : B[0] = k
      · refine ⟨0, reply_open_of ?_, fun _ => ⟨⟨by omega, by omega, by omega⟩, by omega, ?_⟩⟩
        · unfold reply_open_b
          rw [cF (dF (by omega)), cF en, grd (aT (dT (by omega)) (dT (by omega))), ei, cF (by rw [hk]; simp), bS, bS, bS]
        · match B, h3, hk with
          | x :: r, _, hk => simp at hk; rw [hk]; rfl
      · refine ⟨2, reply_open_of ?_, fun he => by simp at he⟩
        unfold reply_open_b
        have : (i8 B[0] != i8 k) = true := by
          simp only [bne_iff_ne, ne_eq]
          exact fun q => hk (i8_inj q)
        rw [cF (dF (by omega)), cF en, grd (aT (dT (by omega)) (dT (by omega))), ei, cT this, bS, bS, bS]

theorem ropen_back {B t : List UInt8} {k : UInt8} (hB : B = [k] ++ t) (hl : B.length ≤ 1048576) : reply_open B k = some (B, 1, 0) ∧ RdOk B 1 ∧ B.drop (1 : Int).toNat = t := by
  have h3 : 0 < B.length := by rw [hB]; simp
  have hk : B[0] = k := by subst hB; rfl
  refine ⟨reply_open_of ?_, ⟨by omega, by omega, by omega⟩, by subst hB; rfl⟩
  have ei : idx (0 : UInt8) B 0 = B[0] := idx_nat (i := 0) h3
  have en : ((B.length : Int) == 0) = false := by rw [Bool.eq_false_iff]; simp only [ne_eq, beq_iff_eq]; omega
  unfold reply_open_b
  rw [cF (dF (by omega)), cF en, grd (aT (dT (by omega)) (dT (by omega))), ei, cF (by rw [hk]; simp), bS, bS, bS]

theorem ReadPage_ex {B : List UInt8} (hB : B.length ≤ 9223372036854775807) : ∃ z g l at_ doc path e, reply_ReadPage B = some (z, g, l, at_, doc, path, e) ∧
    (e = 0 → B = encG z g l at_ doc path ∧ pageOk z g l at_ doc path = true ∧ B.length ≤ 1048576) := by
  obtain ⟨E0, h0, x0⟩ := ropen_ex 2 hB
  obtain ⟨A1, E1, z, g, l, h1, x1, r1, _⟩ := rhead_ex (B := B) (At := 1) (E := E0) (fun he => (x0 he).1)
  obtain ⟨A2, E2, v, h2, x2, v0, v1, _⟩ := rnum_ex x1.ok
  obtain ⟨A3, E3, d, h3, x3, d1, _⟩ := rtext_ex (most := 2000) x2.ok (by omega)
  obtain ⟨A4, E4, q, h4, x4, q1, _⟩ := rpath_ex x3.ok
  obtain ⟨e, A5, E5, h5, x5⟩ := rend_ex x4.ok
  have run : ∀ y, (bif (e != (0 : Int)) then (some ((0 : Int), ([] : List UInt8), ([] : List (Int × (Int × (Int × List UInt8)))), (0 : Int), ([] : List UInt8), ([] : List (List UInt8)), e)) else (some (z, g, l, v, d, q, (0 : Int)))) = some y → reply_ReadPage B = some y := by
    intro y hy
    refine reply_ReadPage_of ?_
    unfold reply_ReadPage_b
    rw [h0, bS]
    dsimp only
    rw [h1, bS]
    dsimp only
    rw [h2, bS]
    dsimp only
    rw [h3, bS]
    dsimp only
    rw [h4, bS]
    dsimp only
    rw [h5, bS]
    exact hy
  by_cases he : e = 0
  · subst he
    refine ⟨z, g, l, v, d, q, 0, run _ (by rw [cF nz0]), fun _ => ?_⟩
    obtain ⟨e4, t4⟩ := x5 rfl
    obtain ⟨e3, _⟩ := x4.by_ e4
    obtain ⟨e2, _⟩ := x3.by_ e3
    obtain ⟨e1, _⟩ := x2.by_ e2
    obtain ⟨e0, t0⟩ := (x1.trans (x2.trans (x3.trans x4))).by_ e4
    obtain ⟨_, y1, y2⟩ := x0 e0
    rw [t4, List.append_nil, show ((1 : Int).toNat) = 1 from rfl] at t0
    have := d1 e3
    refine ⟨by rw [t0] at y2; exact y2, ?_, y1⟩
    simp only [pageOk, r1 e1, q1 e4, numOk, dT v0, dT v1, Bool.and_true, Bool.true_and, decide_eq_true_eq]
    omega
  · exact ⟨_, _, _, _, _, _, e, run _ (by rw [cT (by simpa using he)]), fun h => absurd h he⟩

theorem ReadPage_back {z : Int} {g : List UInt8} {l : List Sg} {at_ : Int} {doc : List UInt8} {path : List (List UInt8)} (h : pageOk z g l at_ doc path = true) (hl : (encG z g l at_ doc path).length ≤ 1048576) :
    reply_ReadPage (encG z g l at_ doc path) = some (z, g, l, at_, doc, path, 0) := by
  simp only [pageOk, numOk, Bool.and_eq_true, decide_eq_true_eq] at h
  obtain ⟨g1, ⟨g2, g3⟩, g4, g5⟩ := h
  obtain ⟨p0, k0, b0⟩ := ropen_back (B := encG z g l at_ doc path) (k := 2) rfl hl
  have b0' : (encG z g l at_ doc path).drop (1 : Int).toNat = encT (encH z g l) ++ (encN at_.toNat ++ (encT doc ++ (encP path ++ []))) := by rw [b0, List.append_nil]
  have p1 := rhead_back k0 g1 b0'
  obtain ⟨k1, b1⟩ := rd_next k0 b0'
  have p2 := rnum_back k1 (by omega) b1
  obtain ⟨k2, b2⟩ := rd_next k1 b1
  have p3 := rtext_back (most := 2000) k2 (by omega) (by omega) b2
  obtain ⟨k3, b3⟩ := rd_next k2 b2
  have p4 := rpath_back k3 g5 b3
  obtain ⟨k4, b4⟩ := rd_next k3 b3
  have p5 := rend_back k4 b4
  rw [toNat_cast g2] at p2
  refine reply_ReadPage_of ?_
  unfold reply_ReadPage_b
  rw [p0, bS]
  dsimp only
  rw [p1, bS]
  dsimp only
  rw [p2, bS]
  dsimp only
  rw [p3, bS]
  dsimp only
  rw [p4, bS]
  dsimp only
  rw [p5, bS]
  dsimp only
  rw [cF nz0]

theorem ReadStep_ex {B : List UInt8} (hB : B.length ≤ 9223372036854775807) : ∃ z g l z' g' l' path e, reply_ReadStep B = some (z, g, l, z', g', l', path, e) ∧
    (e = 0 → B = encE z g l z' g' l' path ∧ stepOk z g l z' g' l' path = true ∧ B.length ≤ 1048576) := by
  obtain ⟨E0, h0, x0⟩ := ropen_ex 3 hB
  obtain ⟨A1, E1, z, g, l, h1, x1, r1, _⟩ := rhead_ex (B := B) (At := 1) (E := E0) (fun he => (x0 he).1)
  obtain ⟨A2, E2, z', g', l', h2, x2, r2, _⟩ := rhead_ex x1.ok
  obtain ⟨A4, E4, q, h4, x4, q1, _⟩ := rpath_ex x2.ok
  obtain ⟨e, A5, E5, h5, x5⟩ := rend_ex x4.ok
  have run : ∀ y, (bif (e != (0 : Int)) then (some ((0 : Int), ([] : List UInt8), ([] : List (Int × (Int × (Int × List UInt8)))), (0 : Int), ([] : List UInt8), ([] : List (Int × (Int × (Int × List UInt8)))), ([] : List (List UInt8)), e)) else (some (z, g, l, z', g', l', q, (0 : Int)))) = some y → reply_ReadStep B = some y := by
    intro y hy
    refine reply_ReadStep_of ?_
    unfold reply_ReadStep_b
    rw [h0, bS]
    dsimp only
    rw [h1, bS]
    dsimp only
    rw [h2, bS]
    dsimp only
    rw [h4, bS]
    dsimp only
    rw [h5, bS]
    exact hy
  by_cases he : e = 0
  · subst he
    refine ⟨z, g, l, z', g', l', q, 0, run _ (by rw [cF nz0]), fun _ => ?_⟩
    obtain ⟨e4, t4⟩ := x5 rfl
    obtain ⟨e2, _⟩ := x4.by_ e4
    obtain ⟨e1, _⟩ := x2.by_ e2
    obtain ⟨e0, t0⟩ := (x1.trans (x2.trans x4)).by_ e4
    obtain ⟨_, y1, y2⟩ := x0 e0
    rw [t4, List.append_nil, show ((1 : Int).toNat) = 1 from rfl] at t0
    refine ⟨by rw [t0] at y2; exact y2, ?_, y1⟩
    simp only [stepOk, r1 e1, r2 e2, q1 e4, Bool.and_true]
  · exact ⟨_, _, _, _, _, _, _, e, run _ (by rw [cT (by simpa using he)]), fun h => absurd h he⟩

theorem ReadStep_back {z : Int} {g : List UInt8} {l : List Sg} {z' : Int} {g' : List UInt8} {l' : List Sg} {path : List (List UInt8)} (h : stepOk z g l z' g' l' path = true) (hl : (encE z g l z' g' l' path).length ≤ 1048576) :
    reply_ReadStep (encE z g l z' g' l' path) = some (z, g, l, z', g', l', path, 0) := by
  simp only [stepOk, Bool.and_eq_true] at h
  obtain ⟨g1, g2, g5⟩ := h
  obtain ⟨p0, k0, b0⟩ := ropen_back (B := encE z g l z' g' l' path) (k := 3) rfl hl
  have b0' : (encE z g l z' g' l' path).drop (1 : Int).toNat = encT (encH z g l) ++ (encT (encH z' g' l') ++ (encP path ++ [])) := by rw [b0, List.append_nil]
  have p1 := rhead_back k0 g1 b0'
  obtain ⟨k1, b1⟩ := rd_next k0 b0'
  have p2 := rhead_back k1 g2 b1
  obtain ⟨k2, b2⟩ := rd_next k1 b1
  have p4 := rpath_back k2 g5 b2
  obtain ⟨k4, b4⟩ := rd_next k2 b2
  have p5 := rend_back k4 b4
  refine reply_ReadStep_of ?_
  unfold reply_ReadStep_b
  rw [p0, bS]
  dsimp only
  rw [p1, bS]
  dsimp only
  rw [p2, bS]
  dsimp only
  rw [p4, bS]
  dsimp only
  rw [p5, bS]
  dsimp only
  rw [cF nz0]

end Rk
