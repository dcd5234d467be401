/- The plain part: what the functions answer. No condition. -/
import Derived.Test.YtgofefjfckocbaaDoorPu18c
set_option linter.unusedVariables false
set_option linter.unusedSimpArgs false
namespace Rk
open Go

/-! ### Answers are read -/

abbrev Ans := Int × List UInt8 × List Sg × List (List Pf) × Int
abbrev AnsS := Int × List (List Pf) × List UInt8 × Int × Int × Int × List UInt8 × List Sg × Int

theorem rq_loop_ex (self2 : AnsS → Option Ans) {B : List UInt8} (ps : List (List Pf)) (z : Int) (g : List UInt8) (segs : List Sg) (n i m : Int) (hps : ps.length ≤ 1000) (hm : m ≤ 16) : ∀ (k' k : Nat) (l : List Pf) (At E : Int),
    ((k + k' : Nat) : Int) = m → l.length = k → (E = 0 → RdOk B At) →
    (∃ e, e ≠ 0 ∧ reply_ReadAnswer_l1 self2 ((k : Int), ps, l, B, At, E, z, g, segs, n, i, m) = some (0, [], [], [], e)) ∨
    ∃ At' E' new, reply_ReadAnswer_l1 self2 ((k : Int), ps, l, B, At, E, z, g, segs, n, i, m) = self2 (W64 (i + 1), ps ++ [l ++ new], B, At', E', z, g, segs, n) ∧ RdX B At E At' E' (new.flatMap encF) ∧ new.length = k' ∧ (E' = 0 → ∀ p ∈ new, pfOk p = true) := by
  intro k'
  induction k' with
  | zero =>
    intro k l At E hk hl h
    refine .inr ⟨At, E, [], ?_, ⟨h, Int.le_refl _, fun he => ⟨he, rfl⟩⟩, rfl, fun _ => by simp⟩
    rw [reply_ReadAnswer_l1_eq]
    dsimp only
    rw [cF (dF (by omega)), grd (dT (by simp only [List.length_append, List.length_cons, List.length_nil]; omega))]
    simp
  | succ k' ih =>
    intro k l At E hk hl h
    have hW : W64 ((k : Int) + 1) = ((k + 1 : Nat) : Int) := by rw [W64_in (by omega) (by omega)]; omega
    obtain ⟨A1, E1, p1, p2, p3, p4, p5, p6, h1, x1, o1⟩ := rproof_ex h
    by_cases hE : E1 = 0
    · subst hE
      have run : ∀ y, reply_ReadAnswer_l1 self2 (((k + 1 : Nat) : Int), ps, l ++ ([(p1, (p2, (p3, (p4, (p5, p6)))))] ++ []), B, A1, 0, z, g, segs, n, i, m) = y → reply_ReadAnswer_l1 self2 ((k : Int), ps, l, B, At, E, z, g, segs, n, i, m) = y := by
        intro y hy
        rw [reply_ReadAnswer_l1_eq]
        dsimp only
        rw [cT (dT (by omega)), h1, bS]
        dsimp only
        rw [cF nz0, grd (dT (by simp only [List.length_append, List.length_cons, List.length_nil]; omega)), hW]
        exact hy
      rcases ih (k + 1) (l ++ ([(p1, (p2, (p3, (p4, (p5, p6)))))] ++ [])) A1 0 (by omega) (by simp; omega) x1.ok with ⟨e, he, h2⟩ | ⟨A2, E2, new, h2, x2, l2, o2⟩
      · exact .inl ⟨e, he, run _ h2⟩
      · refine .inr ⟨A2, E2, (p1, p2, p3, p4, p5, p6) :: new, run _ (by rw [h2]; simp), ?_, by simp [l2], fun he p hp => ?_⟩
        · rw [List.flatMap_cons]
          exact x1.trans x2
        · rcases List.mem_cons.1 hp with hp | hp
          · rw [hp]; exact o1 rfl
          · exact o2 he p hp
    · refine .inl ⟨E1, hE, ?_⟩
      rw [reply_ReadAnswer_l1_eq]
      dsimp only
      rw [cT (dT (by omega)), h1, bS]
      dsimp only
      rw [cT (by simpa using hE)]

theorem ra_loop_ex {B : List UInt8} (z : Int) (g : List UInt8) (segs : List Sg) (n : Int) (hn : n ≤ 64) : ∀ (k i : Nat) (ps : List (List Pf)) (At E : Int), ((i + k : Nat) : Int) = n → ps.length = i → (E = 0 → RdOk B At) →
    ∃ z' g' s' ps' e, reply_ReadAnswer_l0 ((i : Int), ps, B, At, E, z, g, segs, n) = some (z', g', s', ps', e) ∧
      (e = 0 → E = 0 ∧ z' = z ∧ g' = g ∧ s' = segs ∧ ∃ new, ps' = ps ++ new ∧ new.length = k ∧ B.drop At.toNat = new.flatMap encQ ∧ ∀ q ∈ new, qOk q = true) := by
  intro k
  induction k with
  | zero =>
    intro i ps At E hk hl h
    obtain ⟨e, A5, E5, h5, x5⟩ := rend_ex h
    by_cases he : e = 0
    · subst he
      refine ⟨z, g, segs, ps, 0, ?_, fun _ => ?_⟩
      · rw [reply_ReadAnswer_l0_eq]
        dsimp only
        rw [cF (dF (by omega)), h5, bS]
        dsimp only
        rw [cF nz0]
      · obtain ⟨q1, q2⟩ := x5 rfl
        exact ⟨q1, rfl, rfl, rfl, [], by simp, rfl, by rw [q2]; rfl, by simp⟩
    · refine ⟨0, [], [], [], e, ?_, fun h => absurd h he⟩
      rw [reply_ReadAnswer_l0_eq]
      dsimp only
      rw [cF (dF (by omega)), h5, bS]
      dsimp only
      rw [cT (by simpa using he)]
  | succ k ih =>
    intro i ps At E hk hl h
    have hW : W64 ((i : Int) + 1) = ((i + 1 : Nat) : Int) := by rw [W64_in (by omega) (by omega)]; omega
    obtain ⟨A1, E1, m, h1, x1, m0, m1⟩ := rmany_ex (most := 16) h (by omega)
    have run : ∀ y, reply_ReadAnswer_l1 reply_ReadAnswer_l0 (0, ps, [], B, A1, E1, z, g, segs, n, (i : Int), m) = y → reply_ReadAnswer_l0 ((i : Int), ps, B, At, E, z, g, segs, n) = y := by
      intro y hy
      rw [reply_ReadAnswer_l0_eq]
      dsimp only
      rw [cT (dT (by omega)), h1, bS]
      exact hy
    rcases rq_loop_ex reply_ReadAnswer_l0 ps z g segs n (i : Int) m (by omega) m1 m.toNat 0 [] A1 E1 (by omega) rfl x1.ok with ⟨e, he, h2⟩ | ⟨A2, E2, new, h2, x2, l2, o2⟩
    · exact ⟨0, [], [], [], e, run _ h2, fun h => absurd h he⟩
    · obtain ⟨z', g', s', ps', e, h3, x3⟩ := ih (i + 1) (ps ++ [[] ++ new]) A2 E2 (by omega) (by simp; omega) x2.ok
      refine ⟨z', g', s', ps', e, run _ ?_, fun he => ?_⟩
      · refine Eq.trans h2 ?_
        rw [hW]
        exact h3
      · obtain ⟨q1, q2, q3, q4, nw, q5, q6, q7, q8⟩ := x3 he
        obtain ⟨q9, q10⟩ := (x1.trans x2).by_ q1
        refine ⟨q9, q2, q3, q4, new :: nw, by rw [q5]; simp, by simp [q6], ?_, fun q hq => ?_⟩
        · rw [q10, q7, List.flatMap_cons, encQ, l2]
        · rcases List.mem_cons.1 hq with hq | hq
          · rw [hq]
            simp only [qOk, Bool.and_eq_true, decide_eq_true_eq, List.all_eq_true]
            exact ⟨by omega, o2 q1⟩
          · exact q8 q hq

theorem ReadAnswer_ex {B : List UInt8} (hB : B.length ≤ 9223372036854775807) : ∃ z g l ps e, reply_ReadAnswer B = some (z, g, l, ps, e) ∧ (e = 0 → B = encA z g l ps ∧ ansOk z g l ps = true ∧ B.length ≤ 1048576) := by
  obtain ⟨E0, h0, x0⟩ := ropen_ex 1 hB
  obtain ⟨A1, E1, z, g, l, h1, x1, r1, r2⟩ := rhead_ex (B := B) (At := 1) (E := E0) (fun he => (x0 he).1)
  have hl : l.length ≤ 64 := by
    by_cases he : E1 = 0
    · exact (headR_of (r1 he)).2.2.2.1
    · rw [r2 he]; simp
  obtain ⟨z', g', s', ps', e, h2, x2⟩ := ra_loop_ex z g l (l.length : Int) (by omega) l.length 0 [] A1 E1 (by omega) rfl x1.ok
  refine ⟨z', g', s', ps', e, reply_ReadAnswer_of ?_, fun he => ?_⟩
  · unfold reply_ReadAnswer_b
    rw [h0, bS]
    dsimp only
    rw [h1, bS]
    exact h2
  · obtain ⟨q1, rfl, rfl, rfl, new, q5, q6, q7, q8⟩ := x2 he
    rw [List.nil_append] at q5
    subst q5
    obtain ⟨e0, t0⟩ := x1.by_ q1
    obtain ⟨_, y1, y2⟩ := x0 e0
    rw [q7, show ((1 : Int).toNat) = 1 from rfl] at t0
    refine ⟨by rw [t0] at y2; exact y2, ?_, y1⟩
    simp only [ansOk, r1 q1, q6, Bool.true_and, decide_true, List.all_eq_true]
    exact q8

theorem qOk_of {l : List Pf} (h : qOk l = true) : l.length ≤ 16 ∧ ∀ p ∈ l, pfOk p = true := by
  simp only [qOk, Bool.and_eq_true, decide_eq_true_eq, List.all_eq_true] at h
  exact h

theorem rq_loop_back (self2 : AnsS → Option Ans) {B t : List UInt8} (ps : List (List Pf)) (z : Int) (g : List UInt8) (segs : List Sg) (n i m : Int) (hps : ps.length ≤ 1000) (hm : m ≤ 16) : ∀ (l out : List Pf) (k : Nat) (At : Int),
    ((k + l.length : Nat) : Int) = m → out.length = k → RdOk B At → (∀ p ∈ l, pfOk p = true) → B.drop At.toNat = l.flatMap encF ++ t →
    reply_ReadAnswer_l1 self2 ((k : Int), ps, out, B, At, 0, z, g, segs, n, i, m) = self2 (W64 (i + 1), ps ++ [out ++ l], B, At + ((l.flatMap encF).length : Int), 0, z, g, segs, n)
  | [], out, k, At, hk, hl, h, hp, hb => by
    rw [reply_ReadAnswer_l1_eq]
    dsimp only
    rw [cF (dF (by simp at hk; omega)), grd (dT (by simp only [List.length_append, List.length_cons, List.length_nil]; omega))]
    simp
  | p :: l, out, k, At, hk, hl, h, hp, hb => by
    have hk' : (k : Int) + (l.length : Int) + 1 = m := by simp at hk; omega
    have hW : W64 ((k : Int) + 1) = ((k + 1 : Nat) : Int) := by rw [W64_in (by omega) (by omega)]; omega
    rw [List.flatMap_cons, List.append_assoc] at hb
    have h1 := rproof_back h (hp p (by simp)) hb
    obtain ⟨k1, b1⟩ := rd_next h hb
    have ih := rq_loop_back self2 ps z g segs n i m hps hm l (out ++ ([p] ++ [])) (k + 1) _ (by simp at hk ⊢; omega) (by simp; omega) k1 (fun q hq => hp q (by simp [hq])) b1
    rw [reply_ReadAnswer_l1_eq]
    dsimp only
    rw [cT (dT (by omega)), h1, bS]
    dsimp only
    rw [cF nz0, grd (dT (by simp only [List.length_append, List.length_cons, List.length_nil]; omega)), hW]
    refine Eq.trans ih ?_
    simp only [List.append_nil, List.append_assoc, List.singleton_append, List.flatMap_cons, List.length_append]
    congr 5
    omega

theorem ra_loop_back {B : List UInt8} (z : Int) (g : List UInt8) (segs : List Sg) (n : Int) (hn : n ≤ 64) : ∀ (qs ps : List (List Pf)) (i : Nat) (At : Int), ((i + qs.length : Nat) : Int) = n → ps.length = i → RdOk B At → (∀ q ∈ qs, qOk q = true) → B.drop At.toNat = qs.flatMap encQ ++ [] →
    reply_ReadAnswer_l0 ((i : Int), ps, B, At, 0, z, g, segs, n) = some (z, g, segs, ps ++ qs, 0)
  | [], ps, i, At, hk, hl, h, hq, hb => by
    have p5 := rend_back h (by simpa using hb)
    rw [reply_ReadAnswer_l0_eq]
    dsimp only
    rw [cF (dF (by simp at hk; omega)), p5, bS]
    dsimp only
    rw [cF nz0, List.append_nil]
  | q :: qs, ps, i, At, hk, hl, h, hq, hb => by
    have hk' : (i : Int) + (qs.length : Int) + 1 = n := by simp at hk; omega
    have hW : W64 ((i : Int) + 1) = ((i + 1 : Nat) : Int) := by rw [W64_in (by omega) (by omega)]; omega
    obtain ⟨g1, g2⟩ := qOk_of (hq q (by simp))
    rw [List.flatMap_cons, encQ, List.append_assoc, List.append_assoc] at hb
    have h1 := rmany_back (most := 16) h (by omega) (by omega) hb
    obtain ⟨k1, b1⟩ := rd_next h hb
    have h2 := rq_loop_back reply_ReadAnswer_l0 ps z g segs n (i : Int) (q.length : Int) (by omega) (by omega) q [] 0 _ (by simp) rfl k1 g2 b1
    obtain ⟨k2, b2⟩ := rd_next k1 b1
    have ih := ra_loop_back z g segs n hn qs (ps ++ [[] ++ q]) (i + 1) _ (by simp at hk ⊢; omega) (by simp; omega) k2 (fun x hx => hq x (by simp [hx])) b2
    rw [reply_ReadAnswer_l0_eq]
    dsimp only
    rw [cT (dT (by omega)), h1, bS]
    dsimp only
    refine Eq.trans h2 ?_
    rw [hW]
    refine Eq.trans ih ?_
    simp

theorem ReadAnswer_back {z : Int} {g : List UInt8} {l : List Sg} {ps : List (List Pf)} (h : ansOk z g l ps = true) (hl : (encA z g l ps).length ≤ 1048576) :
    reply_ReadAnswer (encA z g l ps) = some (z, g, l, ps, 0) := by
  simp only [ansOk, Bool.and_eq_true, decide_eq_true_eq, List.all_eq_true] at h
  obtain ⟨g1, g2, g3⟩ := h
  obtain ⟨p0, k0, b0⟩ := ropen_back (B := encA z g l ps) (k := 1) rfl hl
  have b0' : (encA z g l ps).drop (1 : Int).toNat = encT (encH z g l) ++ (ps.flatMap encQ ++ []) := by rw [b0, List.append_nil]
  have p1 := rhead_back k0 g1 b0'
  obtain ⟨k1, b1⟩ := rd_next k0 b0'
  have h64 := (headR_of g1).2.2.2.1
  have p2 := ra_loop_back z g l (l.length : Int) (by omega) ps [] 0 _ (by omega) rfl k1 g3 b1
  refine reply_ReadAnswer_of ?_
  unfold reply_ReadAnswer_b
  rw [p0, bS]
  dsimp only
  rw [p1, bS]
  exact p2

end Rk
