/- The plain part: what the functions answer. No condition. -/
import Derived.Test.YtfmdnoljlbfjbaaDoorPu15b
set_option linter.unusedVariables false
set_option linter.unusedSimpArgs false
namespace Rk
open Go

/-! ### Reading: from a place to a place, just such bytes -/

theorem nz0 : ((0 : Int) != 0) = false := rfl

/-- From a state to a state: if all went well, just these bytes lie between. -/
structure RdX (B : List UInt8) (At E At' E' : Int) (x : List UInt8) : Prop where
  ok : E' = 0 → RdOk B At'
  le : At ≤ At'
  by_ : E' = 0 → E = 0 ∧ B.drop At.toNat = x ++ B.drop At'.toNat

theorem RdX.trans {B : List UInt8} {a e b f c g : Int} {x y : List UInt8} (h : RdX B a e b f x) (h' : RdX B b f c g y) : RdX B a e c g (x ++ y) :=
  ⟨h'.ok, Int.le_trans h.le h'.le, fun he => by
    obtain ⟨h1, h2⟩ := h'.by_ he
    obtain ⟨h3, h4⟩ := h.by_ h1
    exact ⟨h3, by rw [h4, h2, List.append_assoc]⟩⟩

theorem RdX.err {B : List UInt8} {a e b f : Int} {x : List UInt8} (hl : a ≤ b) (hf : f ≠ 0) : RdX B a e b f x := ⟨fun he => absurd he hf, hl, fun he => absurd he hf⟩

theorem code_open_bad {B : List UInt8} {At E : Int} (h : E ≠ 0) : code_open B At E = some (B, At, E, false) := by
  refine code_open_of ?_
  unfold code_open_b
  have e : (E == (0 : Int)) = false := by simpa using h
  rw [cF (by rw [e]; rfl), bS]
  dsimp only
  rw [e]

theorem code_ReadText_ex {B : List UInt8} {At E most : Int} (hh0 : E = 0 → RdOk B At) (hm : most ≤ 1000000) : ∃ At' E' s, code_ReadText B At E most = some (B, At', E', s) ∧ RdX B At E At' E' (encT s) ∧ (E' = 0 → (s.length : Int) ≤ most) ∧ s.length ≤ 1000000 := by
  by_cases hE : E = 0
  · subst hE
    have h := hh0 rfl
    rw [code_ReadText_ok h]
    have hl := h.lo
    have hh := h.hi
    have hln := h.len
    by_cases h0 : (rdT most (B.drop At.toNat)).1 = 0
    · obtain ⟨g1, g2, g3⟩ := rdT_le h0
      obtain ⟨g4, g5⟩ := rdT_only (most := most) (l := B.drop At.toNat) (s := (rdT most (B.drop At.toNat)).2.1) (c := (rdT most (B.drop At.toNat)).2.2) (by rw [← h0])
      rw [List.length_drop] at g2
      refine ⟨At + ((rdT most (B.drop At.toNat)).2.2 : Int), 0, (rdT most (B.drop At.toNat)).2.1, by rw [resT, if_pos h0], ⟨fun _ => ⟨by omega, by omega, hln⟩, by omega, fun _ => ⟨rfl, ?_⟩⟩, fun _ => g3, by omega⟩
      have : (At + ((rdT most (B.drop At.toNat)).2.2 : Int)).toNat = At.toNat + (rdT most (B.drop At.toNat)).2.2 := by omega
      rw [this, ← g4, ← List.drop_drop, List.take_append_drop]
    · exact ⟨At, ((rdT most (B.drop At.toNat)).1 : Int), [], by rw [resT, if_neg h0], .err (Int.le_refl _) (by omega), fun he => by omega, by simp⟩
  · refine ⟨At, E, [], code_ReadText_of ?_, .err (Int.le_refl _) hE, fun he => absurd he hE, by simp⟩
    unfold code_ReadText_b
    have hn : code_ReadNum B At E = some (B, At, E, 0) := by
      refine code_ReadNum_of ?_
      unfold code_ReadNum_b
      rw [code_open_bad hE, bS]
      rfl
    have e : (E == (0 : Int)) = false := by simpa using hE
    have hc : code_count B At E most = some (B, At, E, 0) := by
      refine code_count_of ?_
      unfold code_count_b
      rw [hn, bS]
      dsimp only
      rw [cF (by rw [e]; rfl)]
    rw [hc, bS]
    dsimp only
    have e2 : (E != (0 : Int)) = true := by simpa using hE
    rw [cT e2]

theorem code_ReadText_back {B t s : List UInt8} {At most : Int} (h : RdOk B At) (hs : s.length ≤ 1000000) (hm : (s.length : Int) ≤ most) (hb : B.drop At.toNat = encT s ++ t) :
    code_ReadText B At 0 most = some (B, At + ((encT s).length : Int), 0, s) := by
  rw [code_ReadText_ok h, hb, rdT_back (by omega) hm]
  rfl

theorem code_ReadDigest_ex {B : List UInt8} {At E : Int} (hh0 : E = 0 → RdOk B At) : ∃ At' E' d, code_ReadDigest B At E = some (B, At', E', d) ∧ RdX B At E At' E' d ∧ (E' = 0 → d.length = 32) ∧ d.length ≤ 32 := by
  by_cases hE : E = 0
  · subst hE
    have h := hh0 rfl
    have hl := h.lo
    have hh := h.hi
    have hln := h.len
    have hW : W64 ((B.length : Int) - At) = (B.length : Int) - At := W64_in (by omega) (by omega)
    by_cases hs : (32 : Int) > (B.length : Int) - At
    · refine ⟨At, 4, [], code_ReadDigest_of ?_, .err (Int.le_refl _) (by decide), fun he => by simp at he, by simp⟩
      unfold code_ReadDigest_b
      rw [code_open_ok h, bS]
      dsimp only
      rw [cF (by rfl), show code_some B At 0 32 = some (B, At, 4, []) from code_some_of (by unfold code_some_b; rw [hW, cT (dT hs), code_bad_ok, bS]), bS]
    · have hW2 : W64 (At + 32) = At + 32 := W64_in (by omega) (by omega)
      refine ⟨At + 32, 0, sub B At (At + 32), code_ReadDigest_of ?_, ⟨fun _ => ⟨by omega, by omega, hln⟩, by omega, fun _ => ⟨rfl, ?_⟩⟩, fun _ => ?_, ?_⟩
      · unfold code_ReadDigest_b
        rw [code_open_ok h, bS]
        dsimp only
        rw [cF (by rfl), show code_some B At 0 32 = some (B, At + 32, 0, sub B At (At + 32)) from code_some_of (by unfold code_some_b; rw [hW, cF (dF hs), hW2, grd (aT (dT (by omega)) (aT (dT (by omega)) (dT (by omega))))]), bS]
      · have e1 : (At + 32).toNat = At.toNat + 32 := by omega
        simp only [sub, e1, List.drop_take]
        rw [Nat.add_sub_cancel_left, ← List.drop_drop, List.take_append_drop]
      · have e1 : (At + 32).toNat = At.toNat + 32 := by omega
        simp only [sub, e1, List.length_drop, List.length_take]
        omega
      · have e1 : (At + 32).toNat = At.toNat + 32 := by omega
        simp only [sub, e1, List.length_drop, List.length_take]
        omega
  · refine ⟨At, E, [], code_ReadDigest_of ?_, .err (Int.le_refl _) hE, fun he => absurd he hE, by simp⟩
    unfold code_ReadDigest_b
    rw [code_open_bad hE, bS]
    rfl

theorem code_ReadDigest_back {B t d : List UInt8} {At : Int} (h : RdOk B At) (hd : d.length = 32) (hb : B.drop At.toNat = d ++ t) : code_ReadDigest B At 0 = some (B, At + 32, 0, d) := by
  have hl := h.lo
  have hh := h.hi
  have hln := h.len
  have hlen : B.length - At.toNat = 32 + t.length := by rw [← List.length_drop, hb, List.length_append, hd]
  have hW : W64 ((B.length : Int) - At) = (B.length : Int) - At := W64_in (by omega) (by omega)
  have hW2 : W64 (At + 32) = At + 32 := W64_in (by omega) (by omega)
  refine code_ReadDigest_of ?_
  unfold code_ReadDigest_b
  rw [code_open_ok h, bS]
  dsimp only
  rw [cF (by rfl), show code_some B At 0 32 = some (B, At + 32, 0, sub B At (At + 32)) from code_some_of (by unfold code_some_b; rw [hW, cF (dF (by omega)), hW2, grd (aT (dT (by omega)) (aT (dT (by omega)) (dT (by omega))))]), bS]
  dsimp only
  have e1 : (At + 32).toNat = At.toNat + 32 := by omega
  simp only [sub, e1, List.drop_take]
  rw [Nat.add_sub_cancel_left, hb, List.take_left' hd]

theorem code_Done_ex {B : List UInt8} {At E : Int} (hh0 : E = 0 → RdOk B At) : ∃ e, code_Done B At E = some e ∧ (e = 0 → E = 0 ∧ B.drop At.toNat = []) := by
  by_cases hE : E = 0
  · subst hE
    have h := hh0 rfl
    have hl := h.lo
    have hh := h.hi
    rw [code_Done_ok h]
    by_cases hc : At < (B.length : Int)
    · exact ⟨2, by rw [if_pos hc], fun he => by simp at he⟩
    · exact ⟨0, by rw [if_neg hc], fun _ => ⟨rfl, List.drop_eq_nil_iff.2 (by omega)⟩⟩
  · refine ⟨E, code_Done_of ?_, fun he => absurd he hE⟩
    unfold code_Done_b
    rw [code_open_bad hE, bS]
    rfl

theorem code_Done_back {B : List UInt8} {At : Int} (h : RdOk B At) (hb : B.drop At.toNat = []) : code_Done B At 0 = some 0 := by
  have := List.drop_eq_nil_iff.1 hb
  have hl := h.lo
  rw [code_Done_ok h, if_neg (by omega)]

/-! ### Heads are read -/

/-- Where reading goes on. -/
theorem rd_next {B x t : List UInt8} {At : Int} (h : RdOk B At) (hb : B.drop At.toNat = x ++ t) : RdOk B (At + (x.length : Int)) ∧ B.drop (At + (x.length : Int)).toNat = t := by
  have hl := h.lo
  have hh := h.hi
  have hlen : B.length - At.toNat = x.length + t.length := by rw [← List.length_drop, hb, List.length_append]
  refine ⟨⟨by omega, by omega, h.len⟩, ?_⟩
  have e1 : (At + (x.length : Int)).toNat = At.toNat + x.length := by omega
  rw [e1, ← List.drop_drop, hb, List.drop_left' rfl]

/-! ### Links are read -/

theorem dict_ReadLink_ex {B : List UInt8} (hB : B.length ≤ 4611686018427387904) : ∃ a b c e, dict_ReadLink B = some (a, b, c, e) ∧ (e = 0 → mayL a b c = true ∧ B = encK a b c) ∧ (e ≠ 0 → a = [] ∧ b = [] ∧ c = []) := by
  have h0 : RdOk B 0 := ⟨by omega, by omega, hB⟩
  obtain ⟨A1, E1, a, p1, q1, r1, _⟩ := code_ReadText_ex (E := 0) (most := 64) (fun _ => h0) (by omega)
  obtain ⟨A2, E2, b, p2, q2, r2, _⟩ := code_ReadText_ex (E := E1) (most := 64) q1.ok (by omega)
  obtain ⟨A3, E3, c, p3, q3, r3, _⟩ := code_ReadDigest_ex (E := E2) q2.ok
  obtain ⟨e, p4, q4⟩ := code_Done_ex (E := E3) q3.ok
  have run : ∀ y, (bif (e != (0 : Int)) then (some (([] : List UInt8), ([] : List UInt8), ([] : List UInt8), e)) else (some (a, b, c, (0 : Int)))) = some y → dict_ReadLink B = some y := by
    intro y hy
    refine dict_ReadLink_of ?_
    unfold dict_ReadLink_b
    rw [p1, bS]
    dsimp only
    rw [p2, bS]
    dsimp only
    rw [p3, bS]
    dsimp only
    rw [p4, bS]
    exact hy
  by_cases he : e = 0
  · subst he
    refine ⟨a, b, c, 0, run _ (by rw [cF nz0]), fun _ => ?_, fun hne => absurd rfl hne⟩
    obtain ⟨g1, g2⟩ := q4 rfl
    obtain ⟨g3, g4⟩ := q3.by_ g1
    obtain ⟨g5, _⟩ := q2.by_ g3
    have h := ((q1.trans q2).trans q3).by_ g1
    rw [g2, List.append_nil] at h
    have h2 := h.2
    simp only [Int.toNat_zero, List.drop_zero] at h2
    refine ⟨?_, h2⟩
    simp only [mayL, Bool.and_eq_true, decide_eq_true_eq]
    have := r1 g5
    have := r2 g3
    exact ⟨by omega, by omega, r3 g1⟩
  · exact ⟨[], [], [], e, run _ (by rw [cT (by simpa using he)]), fun h => absurd h he, fun _ => ⟨rfl, rfl, rfl⟩⟩

theorem dict_ReadLink_back {a b c : List UInt8} (h : mayL a b c = true) : dict_ReadLink (encK a b c) = some (a, b, c, 0) := by
  obtain ⟨h1, h2, h3⟩ := mayL_of h
  have hlen := encK_len h
  have h0 : RdOk (encK a b c) 0 := ⟨by omega, by omega, by omega⟩
  have b0 : (encK a b c).drop (0 : Int).toNat = encT a ++ (encT b ++ (c ++ [])) := by simp [encK]
  have p1 := code_ReadText_back (most := 64) h0 (by omega) (by omega) b0
  obtain ⟨k1, b1⟩ := rd_next h0 b0
  have p2 := code_ReadText_back (most := 64) k1 (by omega) (by omega) b1
  obtain ⟨k2, b2⟩ := rd_next k1 b1
  have p3 := code_ReadDigest_back k2 h3 b2
  obtain ⟨k3, b3⟩ := rd_next k2 b2
  rw [h3] at k3 b3
  have p4 := code_Done_back k3 b3
  refine dict_ReadLink_of ?_
  unfold dict_ReadLink_b
  rw [p1, bS]
  dsimp only
  rw [p2, bS]
  dsimp only
  rw [p3, bS]
  dsimp only
  have e32 : (((32 : Nat) : Int)) = 32 := rfl
  rw [e32] at p4
  rw [p4, bS]
  rfl

end Rk
