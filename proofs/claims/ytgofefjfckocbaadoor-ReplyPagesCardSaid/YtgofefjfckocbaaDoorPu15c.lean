/- The plain part: what the functions answer. No condition. -/
import Derived.Test.YtgofefjfckocbaaDoorPu15b
set_option linter.unusedVariables false
set_option linter.unusedSimpArgs false
namespace Rk
open Go

/-! ### Reading: from a place to a place, just such bytes -/

theorem nz0 : ((0 : Int) != 0) = false := rfl

/-- From a state to a state: if all went well, just these bytes lie between. -/
structure RdX (B : List UInt8) (At E At' E' : Int) (x : List UInt8) : Prop where
  ok : E' = 0 → RdOk B At'
  le : At ≤ At'
  by_ : E' = 0 → E = 0 ∧ B.drop At.toNat = x ++ B.drop At'.toNat

theorem RdX.trans {B : List UInt8} {a e b f c g : Int} {x y : List UInt8} (h : RdX B a e b f x) (h' : RdX B b f c g y) : RdX B a e c g (x ++ y) :=
  ⟨h'.ok, Int.le_trans h.le h'.le, fun he => by
    obtain ⟨h1, h2⟩ := h'.by_ he
    obtain ⟨h3, h4⟩ := h.by_ h1
    exact ⟨h3, by rw [h4, h2, List.append_assoc]⟩⟩

theorem RdX.err {B : List UInt8} {a e b f : Int} {x : List UInt8} (hl : a ≤ b) (hf : f ≠ 0) : RdX B a e b f x := ⟨fun he => absurd he hf, hl, fun he => absurd he hf⟩

theorem code_open_bad {B : List UInt8} {At E : Int} (h : E ≠ 0) : code_open B At E = some (B, At, E, false) := by
  refine code_open_of ?_
  unfold code_open_b
  have e : (E == (0 : Int)) = false := by simpa using h
  rw [cF (by rw [e]; rfl), bS]
  dsimp only
  rw [e]

theorem code_ReadNum_ex {B : List UInt8} {At E : Int} (hh0 : E = 0 → RdOk B At) : ∃ At' E' v, code_ReadNum B At E = some (B, At', E', v) ∧ RdX B At E At' E' (encN v.toNat) ∧ 0 ≤ v ∧ v ≤ 4611686018427387904 ∧ (E' ≠ 0 → v = 0) := by
  by_cases hE : E = 0
  · subst hE
    have h := hh0 rfl
    rw [code_ReadNum_ok h]
    rcases rdN_err (B.drop At.toNat) 0 0 with h0 | h0 | h0
    · obtain ⟨g1, g2, g3⟩ := rdN_le _ _ _ h0
      obtain ⟨w, g4, g5, _⟩ := rdN_only _ _ _ h0
      simp only [Nat.zero_add, Nat.pow_zero, Nat.mul_one, Nat.sub_zero] at g4 g5
      have hl := h.lo
      have hh := h.hi
      have hln := h.len
      rw [List.length_drop] at g2
      refine ⟨At + ((rdN 0 0 (B.drop At.toNat)).2.2 : Int), 0, ((rdN 0 0 (B.drop At.toNat)).2.1 : Int), by rw [resN, if_pos h0], ⟨fun _ => ⟨by omega, by omega, hln⟩, by omega, fun _ => ⟨rfl, ?_⟩⟩, by omega, by omega, fun hne => absurd rfl hne⟩
      rw [Int.toNat_natCast, g4, ← g5]
      have : (At + ((rdN 0 0 (B.drop At.toNat)).2.2 : Int)).toNat = At.toNat + (rdN 0 0 (B.drop At.toNat)).2.2 := by omega
      rw [this, ← List.drop_drop, List.take_append_drop]
    · exact ⟨At, 2, 0, by rw [h0]; rfl, .err (Int.le_refl _) (by decide), by decide, by decide, fun _ => rfl⟩
    · exact ⟨At, 4, 0, by rw [h0]; rfl, .err (Int.le_refl _) (by decide), by decide, by decide, fun _ => rfl⟩
  · refine ⟨At, E, 0, code_ReadNum_of ?_, .err (Int.le_refl _) hE, by decide, by decide, fun _ => rfl⟩
    unfold code_ReadNum_b
    rw [code_open_bad hE, bS]
    rfl

theorem code_ReadNum_back {B t : List UInt8} {At : Int} {v : Nat} (h : RdOk B At) (hv : v ≤ 4611686018427387904) (hb : B.drop At.toNat = encN v ++ t) :
    code_ReadNum B At 0 = some (B, At + ((encN v).length : Int), 0, (v : Int)) := by
  rw [code_ReadNum_ok h, hb, rdN_back hv]
  rfl

theorem code_ReadText_ex {B : List UInt8} {At E most : Int} (hh0 : E = 0 → RdOk B At) (hm : most ≤ 1000000) : ∃ At' E' s, code_ReadText B At E most = some (B, At', E', s) ∧ RdX B At E At' E' (encT s) ∧ (E' = 0 → (s.length : Int) ≤ most) ∧ s.length ≤ 1000000 := by
  by_cases hE : E = 0
  · subst hE
    have h := hh0 rfl
    rw [code_ReadText_ok h]
    have hl := h.lo
    have hh := h.hi
    have hln := h.len
    by_cases h0 : (rdT most (B.drop At.toNat)).1 = 0
    · obtain ⟨g1, g2, g3⟩ := rdT_le h0
      obtain ⟨g4, g5⟩ := rdT_only (most := most) (l := B.drop At.toNat) (s := (rdT most (B.drop At.toNat)).2.1) (c := (rdT most (B.drop At.toNat)).2.2) (by rw [← h0])
      rw [List.length_drop] at g2
      refine ⟨At + ((rdT most (B.drop At.toNat)).2.2 : Int), 0, (rdT most (B.drop At.toNat)).2.1, by rw [resT, if_pos h0], ⟨fun _ => ⟨by omega, by omega, hln⟩, by omega, fun _ => ⟨rfl, ?_⟩⟩, fun _ => g3, by omega⟩
      have : (At + ((rdT most (B.drop At.toNat)).2.2 : Int)).toNat = At.toNat + (rdT most (B.drop At.toNat)).2.2 := by omega
      rw [this, ← g4, ← List.drop_drop, List.take_append_drop]
    · exact ⟨At, ((rdT most (B.drop At.toNat)).1 : Int), [], by rw [resT, if_neg h0], .err (Int.le_refl _) (by omega), fun he => by omega, by simp⟩
  · refine ⟨At, E, [], code_ReadText_of ?_, .err (Int.le_refl _) hE, fun he => absurd he hE, by simp⟩
    unfold code_ReadText_b
    have hn : code_ReadNum B At E = some (B, At, E, 0) := by
      refine code_ReadNum_of ?_
      unfold code_ReadNum_b
      rw [code_open_bad hE, bS]
      rfl
    have e : (E == (0 : Int)) = false := by simpa using hE
    have hc : code_count B At E most = some (B, At, E, 0) := by
      refine code_count_of ?_
      unfold code_count_b
      rw [hn, bS]
      dsimp only
      rw [cF (by rw [e]; rfl)]
    rw [hc, bS]
    dsimp only
    have e2 : (E != (0 : Int)) = true := by simpa using hE
    rw [cT e2]

theorem code_ReadText_back {B t s : List UInt8} {At most : Int} (h : RdOk B At) (hs : s.length ≤ 1000000) (hm : (s.length : Int) ≤ most) (hb : B.drop At.toNat = encT s ++ t) :
    code_ReadText B At 0 most = some (B, At + ((encT s).length : Int), 0, s) := by
  rw [code_ReadText_ok h, hb, rdT_back (by omega) hm]
  rfl

theorem code_ReadDigest_ex {B : List UInt8} {At E : Int} (hh0 : E = 0 → RdOk B At) : ∃ At' E' d, code_ReadDigest B At E = some (B, At', E', d) ∧ RdX B At E At' E' d ∧ (E' = 0 → d.length = 32) ∧ d.length ≤ 32 := by
  by_cases hE : E = 0
  · subst hE
    have h := hh0 rfl
    have hl := h.lo
    have hh := h.hi
    have hln := h.len
    have hW : W64 ((B.length : Int) - At) = (B.length : Int) - At := W64_in (by omega) (by omega)
    by_cases hs : (32 : Int) > (B.length : Int) - At
    · refine ⟨At, 4, [], code_ReadDigest_of ?_, .err (Int.le_refl _) (by decide), fun he => by simp at he, by simp⟩
      unfold code_ReadDigest_b
      rw [code_open_ok h, bS]
      dsimp only
      rw [cF (by rfl), show code_some B At 0 32 = some (B, At, 4, []) from code_some_of (by unfold code_some_b; rw [hW, cT (dT hs), code_bad_ok, bS]), bS]
    · have hW2 : W64 (At + 32) = At + 32 := W64_in (by omega) (by omega)
      refine ⟨At + 32, 0, sub B At (At + 32), code_ReadDigest_of ?_, ⟨fun _ => ⟨by omega, by omega, hln⟩, by omega, fun _ => ⟨rfl, ?_⟩⟩, fun _ => ?_, ?_⟩
      · unfold code_ReadDigest_b
        rw [code_open_ok h, bS]
        dsimp only
        rw [cF (by rfl), show code_some B At 0 32 = some (B, At + 32, 0, sub B At (At + 32)) from code_some_of (by unfold code_some_b; rw [hW, cF (dF hs), hW2, grd (aT (dT (by omega)) (aT (dT (by omega)) (dT (by omega))))]), bS]
      · have e1 : (At + 32).toNat = At.toNat + 32 := by omega
        simp only [sub, e1, List.drop_take]
        rw [Nat.add_sub_cancel_left, ← List.drop_drop, List.take_append_drop]
      · have e1 : (At + 32).toNat = At.toNat + 32 := by omega
        simp only [sub, e1, List.length_drop, List.length_take]
        omega
      · have e1 : (At + 32).toNat = At.toNat + 32 := by omega
        simp only [sub, e1, List.length_drop, List.length_take]
        omega
  · refine ⟨At, E, [], code_ReadDigest_of ?_, .err (Int.le_refl _) hE, fun he => absurd he hE, by simp⟩
    unfold code_ReadDigest_b
    rw [code_open_bad hE, bS]
    rfl

theorem code_ReadDigest_back {B t d : List UInt8} {At : Int} (h : RdOk B At) (hd : d.length = 32) (hb : B.drop At.toNat = d ++ t) : code_ReadDigest B At 0 = some (B, At + 32, 0, d) := by
  have hl := h.lo
  have hh := h.hi
  have hln := h.len
  have hlen : B.length - At.toNat = 32 + t.length := by rw [← List.length_drop, hb, List.length_append, hd]
  have hW : W64 ((B.length : Int) - At) = (B.length : Int) - At := W64_in (by omega) (by omega)
  have hW2 : W64 (At + 32) = At + 32 := W64_in (by omega) (by omega)
  refine code_ReadDigest_of ?_
  unfold code_ReadDigest_b
  rw [code_open_ok h, bS]
  dsimp only
  rw [cF (by rfl), show code_some B At 0 32 = some (B, At + 32, 0, sub B At (At + 32)) from code_some_of (by unfold code_some_b; rw [hW, cF (dF (by omega)), hW2, grd (aT (dT (by omega)) (aT (dT (by omega)) (dT (by omega))))]), bS]
  dsimp only
  have e1 : (At + 32).toNat = At.toNat + 32 := by omega
  simp only [sub, e1, List.drop_take]
  rw [Nat.add_sub_cancel_left, hb, List.take_left' hd]

theorem code_Done_ex {B : List UInt8} {At E : Int} (hh0 : E = 0 → RdOk B At) : ∃ e, code_Done B At E = some e ∧ (e = 0 → E = 0 ∧ B.drop At.toNat = []) := by
  by_cases hE : E = 0
  · subst hE
    have h := hh0 rfl
    have hl := h.lo
    have hh := h.hi
    rw [code_Done_ok h]
    by_cases hc : At < (B.length : Int)
    · exact ⟨2, by rw [if_pos hc], fun he => by simp at he⟩
    · exact ⟨0, by rw [if_neg hc], fun _ => ⟨rfl, List.drop_eq_nil_iff.2 (by omega)⟩⟩
  · refine ⟨E, code_Done_of ?_, fun he => absurd he hE⟩
    unfold code_Done_b
    rw [code_open_bad hE, bS]
    rfl

theorem code_Done_back {B : List UInt8} {At : Int} (h : RdOk B At) (hb : B.drop At.toNat = []) : code_Done B At 0 = some 0 := by
  have := List.drop_eq_nil_iff.1 hb
  have hl := h.lo
  rw [code_Done_ok h, if_neg (by omega)]

/-! ### Heads are read -/

theorem head_Read_1_ex {B : List UInt8} {At E : Int} (hh0 : E = 0 → RdOk B At) : ∃ At' E' v, head_Read_1 B At E = some (v, B, At', E') ∧ RdX B At E At' E' (encN v.toNat) ∧ 0 ≤ v ∧ v ≤ 4611686018427387904 ∧ (E' ≠ 0 → v = 0) := by
  obtain ⟨At', E', v, h1, h2⟩ := code_ReadNum_ex (E := E) hh0
  exact ⟨At', E', v, head_Read_1_of (by unfold head_Read_1_b; rw [h1, bS]), h2⟩

theorem head_Read_2_ex {B : List UInt8} {At E : Int} (hh0 : E = 0 → RdOk B At) : ∃ At' E' d, head_Read_2 B At E = some (d, B, At', E') ∧ RdX B At E At' E' d ∧ (E' = 0 → d.length = 32) ∧ d.length ≤ 32 := by
  obtain ⟨At', E', v, h1, h2⟩ := code_ReadDigest_ex (E := E) hh0
  exact ⟨At', E', v, head_Read_2_of (by unfold head_Read_2_b; rw [h1, bS]), h2⟩

theorem head_Read_1_back {B t : List UInt8} {At : Int} {v : Nat} (h : RdOk B At) (hv : v ≤ 4611686018427387904) (hb : B.drop At.toNat = encN v ++ t) :
    head_Read_1 B At 0 = some ((v : Int), B, At + ((encN v).length : Int), 0) :=
  head_Read_1_of (by unfold head_Read_1_b; rw [code_ReadNum_back h hv hb, bS])

theorem head_Read_2_back {B t d : List UInt8} {At : Int} (h : RdOk B At) (hd : d.length = 32) (hb : B.drop At.toNat = d ++ t) : head_Read_2 B At 0 = some (d, B, At + 32, 0) :=
  head_Read_2_of (by unfold head_Read_2_b; rw [code_ReadDigest_back h hd hb, bS])

/-- Where reading goes on. -/
theorem rd_next {B x t : List UInt8} {At : Int} (h : RdOk B At) (hb : B.drop At.toNat = x ++ t) : RdOk B (At + (x.length : Int)) ∧ B.drop (At + (x.length : Int)).toNat = t := by
  have hl := h.lo
  have hh := h.hi
  have hlen : B.length - At.toNat = x.length + t.length := by rw [← List.length_drop, hb, List.length_append]
  refine ⟨⟨by omega, by omega, h.len⟩, ?_⟩
  have e1 : (At + (x.length : Int)).toNat = At.toNat + x.length := by omega
  rw [e1, ← List.drop_drop, hb, List.drop_left' rfl]

theorem head_Read_loop_ex {B : List UInt8} (z : Int) (g : List UInt8) (n : Int) (hn : n ≤ 64) : ∀ (k i : Nat) (segs : List Sg) (At E fr : Int), ((i + k : Nat) : Int) = n → segs.length = i → (E = 0 → RdOk B At) →
    ∃ At' E' new, head_Read_l0 ((i : Int), segs, B, At, E, fr, z, g, n) = some (segs ++ new, z, g, B, At', E') ∧ RdX B At E At' E' (new.flatMap encS) ∧ new.length = k := by
  intro k
  induction k with
  | zero =>
    intro i segs At E fr hk hs h
    refine ⟨At, E, [], ?_, ⟨h, Int.le_refl _, fun he => ⟨he, rfl⟩⟩, rfl⟩
    rw [head_Read_l0_eq]
    dsimp only
    rw [cF (dF (by omega)), List.append_nil]
  | succ k ih =>
    intro i segs At E fr hk hs h
    have hW : W64 ((i : Int) + 1) = ((i + 1 : Nat) : Int) := by rw [W64_in (by omega) (by omega)]; omega
    obtain ⟨A1, E1, v1, p1, q1, _⟩ := head_Read_1_ex (E := E) h
    obtain ⟨A2, E2, v2, p2, q2, _⟩ := head_Read_1_ex (E := E1) q1.ok
    obtain ⟨A3, E3, d, p3, q3, _⟩ := head_Read_2_ex (E := E2) q2.ok
    obtain ⟨A4, E4, new, p4, q4, l4⟩ := ih (i + 1) (segs ++ ([(fr, (v1, (v2, d)))] ++ [])) A3 E3 v1 (by omega) (by simp; omega) q3.ok
    refine ⟨A4, E4, (fr, v1, v2, d) :: new, ?_, ?_, by simp [l4]⟩
    · rw [head_Read_l0_eq]
      dsimp only
      rw [cT (dT (by omega)), p1, bS]
      dsimp only
      rw [p2, bS]
      dsimp only
      rw [p3, bS]
      dsimp only
      rw [grd (dT (by simp only [List.length_append, List.length_cons, List.length_nil]; omega)), hW, p4]
      simp
    · have := ((q1.trans q2).trans q3).trans q4
      rw [List.flatMap_cons]
      exact this

theorem head_Read_ex {B : List UInt8} (hB : B.length ≤ 4611686018427387904) : ∃ z g l e, head_Read B = some (z, g, l, e) ∧ (e = 0 → headR z g l = true ∧ B = encH z g l) ∧ (e ≠ 0 → z = 0 ∧ g = [] ∧ l = []) := by
  have h0 : RdOk B 0 := ⟨by omega, by omega, hB⟩
  obtain ⟨A1, E1, v1, p1, q1, r1, _⟩ := head_Read_1_ex (E := 0) (fun _ => h0)
  obtain ⟨A2, E2, d, p2, q2, _⟩ := head_Read_2_ex (E := E1) q1.ok
  obtain ⟨A3, E3, v3, p3, q3, r3, r4, r5⟩ := head_Read_1_ex (E := E2) q2.ok
  by_cases hc : (if (E3 == (0 : Int)) then (decide (v3 > (64 : Int))) else false) = true
  · refine ⟨0, [], [], 2, head_Read_of ?_, fun he => by simp at he, fun _ => ⟨rfl, rfl, rfl⟩⟩
    unfold head_Read_b
    rw [p1, bS]
    dsimp only
    rw [p2, bS]
    dsimp only
    rw [p3, bS]
    dsimp only
    rw [cT hc]
  · have hc' : (if (E3 == (0 : Int)) then (decide (v3 > (64 : Int))) else false) = false := by simpa using hc
    have hv3 : v3 ≤ 64 := by
      by_cases he : E3 = 0
      · subst he
        simp only [beq_self_eq_true, if_true, decide_eq_false_iff_not] at hc'
        omega
      · rw [r5 he]; omega
    obtain ⟨A4, E4, new, p4, q4, l4⟩ := head_Read_loop_ex v1 d v3 hv3 v3.toNat 0 [] A3 E3 0 (by omega) rfl q3.ok
    have p4' : head_Read_l0 (0, [], B, A3, E3, 0, v1, d, v3) = some (new, v1, d, B, A4, E4) := p4
    obtain ⟨e, p5, q5⟩ := code_Done_ex (E := E4) q4.ok
    have run : ∀ y, (bif (e != (0 : Int)) then (some ((0 : Int), ([] : List UInt8), ([] : List (Int × (Int × (Int × List UInt8)))), e)) else ((head_Right v1 d new).bind fun r10 => (bif (!r10) then (some ((0 : Int), ([] : List UInt8), ([] : List (Int × (Int × (Int × List UInt8)))), (2 : Int))) else (some (v1, d, new, (0 : Int)))))) = some y → head_Read B = some y := by
      intro y hy
      refine head_Read_of ?_
      unfold head_Read_b
      rw [p1, bS]
      dsimp only
      rw [p2, bS]
      dsimp only
      rw [p3, bS]
      dsimp only
      rw [cF hc', p4', bS]
      dsimp only
      rw [p5, bS]
      exact hy
    by_cases he : e = 0
    · subst he
      cases hr : headR v1 d new with
      | false =>
        refine ⟨0, [], [], 2, run _ ?_, fun he => by simp at he, fun _ => ⟨rfl, rfl, rfl⟩⟩
        rw [cF nz0, head_Right_ok, bS, hr]
        rfl
      | true =>
        refine ⟨v1, d, new, 0, run _ ?_, fun _ => ⟨hr, ?_⟩, fun hne => absurd rfl hne⟩
        · rw [cF nz0, head_Right_ok, bS, hr]
          rfl
        · obtain ⟨g1, g2⟩ := q5 rfl
          have := (((q1.trans q2).trans q3).trans q4).by_ g1
          rw [g2, List.append_nil] at this
          have h2 := this.2
          simp only [Int.toNat_zero, List.drop_zero] at h2
          rw [h2, encH, l4]
    · refine ⟨0, [], [], e, run _ ?_, fun h => absurd h he, fun _ => ⟨rfl, rfl, rfl⟩⟩
      rw [cT (by simpa using he)]

theorem head_Read_loop_back {B t : List UInt8} (z size : Int) (g : List UInt8) (n : Int) (hn : n ≤ 64) : ∀ (l segs : List Sg) (i : Nat) (At fr : Int), ((i + l.length : Nat) : Int) = n → segs.length = i → RdOk B At → rowS fr l size = true → B.drop At.toNat = l.flatMap encS ++ t →
    head_Read_l0 ((i : Int), segs, B, At, 0, fr, z, g, n) = some (segs ++ l, z, g, B, At + ((l.flatMap encS).length : Int), 0)
  | [], segs, i, At, fr, hk, hs, h, hr, hb => by
    rw [head_Read_l0_eq]
    dsimp only
    rw [cF (dF (by simp at hk; omega)), List.append_nil]
    simp
  | s :: l, segs, i, At, fr, hk, hs, h, hr, hb => by
    have hW : W64 ((i : Int) + 1) = ((i + 1 : Nat) : Int) := by simp at hk; rw [W64_in (by omega) (by omega)]; omega
    simp only [rowS, Bool.and_eq_true, beq_iff_eq] at hr
    obtain ⟨hg, hfr, hr⟩ := hr
    obtain ⟨g1, g2, g3, g4, g5, g6⟩ := goodS_of hg
    rw [List.flatMap_cons, encS, List.append_assoc, List.append_assoc, List.append_assoc] at hb
    have p1 := head_Read_1_back h (by omega) hb
    obtain ⟨h1, b1⟩ := rd_next h hb
    have p2 := head_Read_1_back h1 (by omega) b1
    obtain ⟨h2, b2⟩ := rd_next h1 b1
    have p3 := head_Read_2_back h2 g6 b2
    obtain ⟨h3, b3⟩ := rd_next h2 b2
    rw [g6] at h3 b3
    rw [toNat_cast (by omega)] at p1 p2
    have ih := head_Read_loop_back z size g n hn l (segs ++ ([(fr, (s.2.1, (s.2.2.1, s.2.2.2)))] ++ [])) (i + 1) _ s.2.1 (by simp at hk ⊢; omega) (by simp; omega) h3 hr b3
    have hk' : (i : Int) + (l.length : Int) + 1 = n := by simp at hk; omega
    rw [head_Read_l0_eq]
    dsimp only
    rw [cT (dT (by omega)), p1, bS]
    dsimp only
    rw [p2, bS]
    dsimp only
    rw [p3, bS]
    dsimp only
    rw [grd (dT (by simp only [List.length_append, List.length_cons, List.length_nil]; omega)), hW]
    have e32 : (((32 : Nat) : Int)) = 32 := rfl
    rw [e32] at ih
    rw [ih]
    have es : (fr, s.2.1, s.2.2.1, s.2.2.2) = s := by rw [← hfr]
    simp only [List.append_nil, List.append_assoc, es, List.singleton_append, List.flatMap_cons, encS, List.length_append, g6]
    congr 6
    omega

theorem head_Read_back {z : Int} {g : List UInt8} {l : List Sg} (h : headR z g l = true) : head_Read (encH z g l) = some (z, g, l, 0) := by
  obtain ⟨h1, h2, h3, h4, h5, h6⟩ := headR_of h
  have hlen := encH_len h
  have h0 : RdOk (encH z g l) 0 := ⟨by omega, by omega, by omega⟩
  have b0 : (encH z g l).drop (0 : Int).toNat = encN z.toNat ++ (g ++ (encN l.length ++ (l.flatMap encS ++ []))) := by simp [encH]
  have p1 := head_Read_1_back h0 (by omega) b0
  obtain ⟨k1, b1⟩ := rd_next h0 b0
  have p2 := head_Read_2_back k1 h3 b1
  obtain ⟨k2, b2⟩ := rd_next k1 b1
  rw [h3] at k2 b2
  have p3 := head_Read_1_back k2 (by omega) b2
  obtain ⟨k3, b3⟩ := rd_next k2 b2
  have p4 := head_Read_loop_back z z g (l.length : Int) (by omega) l [] 0 _ 0 (by simp) rfl k3 h5 b3
  obtain ⟨k4, b4⟩ := rd_next k3 b3
  have p5 := code_Done_back k4 b4
  rw [toNat_cast h1] at p1
  refine head_Read_of ?_
  unfold head_Read_b
  rw [p1, bS]
  dsimp only
  rw [p2, bS]
  dsimp only
  have e32 : (((32 : Nat) : Int)) = 32 := rfl
  rw [e32] at p3 p4 p5
  rw [p3, bS]
  dsimp only
  rw [cF (by simp; omega)]
  have p4' : head_Read_l0 (0, [], encH z g l, 0 + ((encN z.toNat).length : Int) + 32 + ((encN l.length).length : Int), 0, 0, z, g, (l.length : Int)) = some (l, z, g, encH z g l, 0 + ((encN z.toNat).length : Int) + 32 + ((encN l.length).length : Int) + ((l.flatMap encS).length : Int), 0) := p4
  rw [p4', bS]
  dsimp only
  rw [p5, bS, cF nz0, head_Right_ok, bS, h]
  rfl

/-! ### Links are read -/

theorem dict_ReadLink_ex {B : List UInt8} (hB : B.length ≤ 4611686018427387904) : ∃ a b c e, dict_ReadLink B = some (a, b, c, e) ∧ (e = 0 → mayL a b c = true ∧ B = encK a b c) ∧ (e ≠ 0 → a = [] ∧ b = [] ∧ c = []) := by
  have h0 : RdOk B 0 := ⟨by omega, by omega, hB⟩
  obtain ⟨A1, E1, a, p1, q1, r1, _⟩ := code_ReadText_ex (E := 0) (most := 64) (fun _ => h0) (by omega)
  obtain ⟨A2, E2, b, p2, q2, r2, _⟩ := code_ReadText_ex (E := E1) (most := 64) q1.ok (by omega)
  obtain ⟨A3, E3, c, p3, q3, r3, _⟩ := code_ReadDigest_ex (E := E2) q2.ok
  obtain ⟨e, p4, q4⟩ := code_Done_ex (E := E3) q3.ok
  have run : ∀ y, (bif (e != (0 : Int)) then (some (([] : List UInt8), ([] : List UInt8), ([] : List UInt8), e)) else (some (a, b, c, (0 : Int)))) = some y → dict_ReadLink B = some y := by
    intro y hy
    refine dict_ReadLink_of ?_
    unfold dict_ReadLink_b
    rw [p1, bS]
    dsimp only
    rw [p2, bS]
    dsimp only
    rw [p3, bS]
    dsimp only
    rw [p4, bS]
    exact hy
  by_cases he : e = 0
  · subst he
    refine ⟨a, b, c, 0, run _ (by rw [cF nz0]), fun _ => ?_, fun hne => absurd rfl hne⟩
    obtain ⟨g1, g2⟩ := q4 rfl
    obtain ⟨g3, g4⟩ := q3.by_ g1
    obtain ⟨g5, _⟩ := q2.by_ g3
    have h := ((q1.trans q2).trans q3).by_ g1
    rw [g2, List.append_nil] at h
    have h2 := h.2
    simp only [Int.toNat_zero, List.drop_zero] at h2
    refine ⟨?_, h2⟩
    simp only [mayL, Bool.and_eq_true, decide_eq_true_eq]
    have := r1 g5
    have := r2 g3
    exact ⟨by omega, by omega, r3 g1⟩
  · exact ⟨[], [], [], e, run _ (by rw [cT (by simpa using he)]), fun h => absurd h he, fun _ => ⟨rfl, rfl, rfl⟩⟩

theorem dict_ReadLink_back {a b c : List UInt8} (h : mayL a b c = true) : dict_ReadLink (encK a b c) = some (a, b, c, 0) := by
  obtain ⟨h1, h2, h3⟩ := mayL_of h
  have hlen := encK_len h
  have h0 : RdOk (encK a b c) 0 := ⟨by omega, by omega, by omega⟩
  have b0 : (encK a b c).drop (0 : Int).toNat = encT a ++ (encT b ++ (c ++ [])) := by simp [encK]
  have p1 := code_ReadText_back (most := 64) h0 (by omega) (by omega) b0
  obtain ⟨k1, b1⟩ := rd_next h0 b0
  have p2 := code_ReadText_back (most := 64) k1 (by omega) (by omega) b1
  obtain ⟨k2, b2⟩ := rd_next k1 b1
  have p3 := code_ReadDigest_back k2 h3 b2
  obtain ⟨k3, b3⟩ := rd_next k2 b2
  rw [h3] at k3 b3
  have p4 := code_Done_back k3 b3
  refine dict_ReadLink_of ?_
  unfold dict_ReadLink_b
  rw [p1, bS]
  dsimp only
  rw [p2, bS]
  dsimp only
  rw [p3, bS]
  dsimp only
  have e32 : (((32 : Nat) : Int)) = 32 := rfl
  rw [e32] at p4
  rw [p4, bS]
  rfl

end Rk
