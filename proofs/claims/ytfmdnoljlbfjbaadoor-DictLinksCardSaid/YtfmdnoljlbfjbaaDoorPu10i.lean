/- The plain part: what the functions answer. No condition. -/
import Derived.Test.YtfmdnoljlbfjbaaDoorPu10h
set_option linter.unusedVariables false
set_option linter.unusedSimpArgs false
namespace Rk
open Go

def firT (t : Nat × List UInt8 × Nat) : List UInt8 × Int × Int := (t.2.1, (t.2.2 : Int), (t.1 : Int))
theorem ref02_FirstText_ok {b : List UInt8} (hb : b.length ≤ 1000000000000) : ref02_FirstText b 64 = some (firT (rdT 64 b)) := by
  refine ref02_FirstText_of ?_
  unfold ref02_FirstText_b
  refine (bindE (ref02_First_ok hb)).trans ?_
  have hle := rdN_le b 0 0
  have herr := rdN_err b 0 0
  have hC : rdC 64 b = if (rdN 0 0 b).1 = 0 ∧ ((rdN 0 0 b).2.1 : Int) > 64 then (2, 0, 0) else rdN 0 0 b := rfl
  have hT : rdT 64 b = if (rdC 64 b).1 = 0 then (if b.length < (rdC 64 b).2.2 + (rdC 64 b).2.1 then (4, [], 0) else (0, (b.drop (rdC 64 b).2.2).take (rdC 64 b).2.1, (rdC 64 b).2.2 + (rdC 64 b).2.1)) else ((rdC 64 b).1, [], 0) := rfl
  unfold firS
  generalize rdN 0 0 b = t at *
  obtain ⟨e, v, n⟩ := t
  dsimp only at *
  by_cases he : e = 0
  · subst he
    obtain ⟨g1, g2, g3⟩ := hle rfl
    refine (cF rfl).trans ?_
    by_cases hm : (v : Int) > 64
    · rw [if_pos ⟨rfl, hm⟩] at hC
      rw [hC, if_neg (show ¬ ((2, 0, 0) : Nat × Nat × Nat).1 = 0 by decide)] at hT
      rw [hT]
      exact (cT (dT hm)).trans rfl
    · rw [if_neg (show ¬ (0 = 0 ∧ (v : Int) > 64) from fun q => hm q.2)] at hC
      rw [hC, if_pos (show ((0, v, n) : Nat × Nat × Nat).1 = 0 from rfl)] at hT
      dsimp only at hT
      rw [hT, W64_in (x := (b.length : Int) - n) (by omega) (by omega), W64_in (x := (n : Int) + v) (by omega) (by omega)]
      refine (cF (dF hm)).trans ?_
      by_cases hs : b.length < n + v
      · rw [if_pos hs]
        exact (cT (dT (by omega))).trans rfl
      · rw [if_neg hs]
        refine (cF (dF (by omega))).trans ((grd (aT (dT (by omega)) (aT (dT (by omega)) (dT (by omega))))).trans ?_)
        rw [show (n : Int) + (v : Int) = ((n + v : Nat) : Int) by omega, sub_nat, List.drop_take, show n + v - n = v by omega]
        rfl
  · rw [if_neg (show ¬ (e = 0 ∧ (v : Int) > 64) from fun q => he q.1)] at hC
    rw [hC, if_neg (show ¬ ((e, v, n) : Nat × Nat × Nat).1 = 0 from he)] at hT
    rw [hT]
    refine (cT (by simp; omega)).trans ?_
    rfl

def rlS (B : List UInt8) : List UInt8 × List UInt8 × List UInt8 × Int :=
  if (rdT 64 B).1 ≠ 0 then ([], [], [], ((rdT 64 B).1 : Int)) else
  if (rdT 64 (B.drop (rdT 64 B).2.2)).1 ≠ 0 then ([], [], [], ((rdT 64 (B.drop (rdT 64 B).2.2)).1 : Int)) else
  if (B.drop ((rdT 64 B).2.2 + (rdT 64 (B.drop (rdT 64 B).2.2)).2.2)).length < 32 then ([], [], [], 4) else
  if 32 < (B.drop ((rdT 64 B).2.2 + (rdT 64 (B.drop (rdT 64 B).2.2)).2.2)).length then ([], [], [], 2) else
  ((rdT 64 B).2.1, (rdT 64 (B.drop (rdT 64 B).2.2)).2.1, B.drop ((rdT 64 B).2.2 + (rdT 64 (B.drop (rdT 64 B).2.2)).2.2), 0)

theorem ref10_ReadLink_ok {B : List UInt8} (hb : B.length ≤ 1000000000000) : ref10_ReadLink B = some (rlS B) := by
  refine ref10_ReadLink_of ?_
  unfold ref10_ReadLink_b rlS
  refine (bindE (ref02_FirstText_ok hb)).trans ?_
  have hle := rdT_le (most := 64) (l := B)
  generalize ht : rdT 64 B = t at *
  obtain ⟨e, s, n⟩ := t
  dsimp only [firT] at *
  by_cases he : e = 0
  · subst he
    obtain ⟨g1, g2, g3⟩ := hle rfl
    rw [if_neg (fun q => q rfl)]
    refine (cF rfl).trans ((grd (aT (dT (by omega)) (aT (dT (by omega)) (dT (by omega))))).trans ?_)
    rw [sub_len, show ((n : Int)).toNat = n by omega]
    have hle2 := rdT_le (most := 64) (l := B.drop n)
    refine (bindE (ref02_FirstText_ok (b := B.drop n) (by rw [List.length_drop]; omega))).trans ?_
    generalize hu : rdT 64 (B.drop n) = u at *
    obtain ⟨e', s', m⟩ := u
    dsimp only [firT] at *
    by_cases he' : e' = 0
    · subst he'
      obtain ⟨k1, k2, k3⟩ := hle2 rfl
      rw [List.length_drop] at k2
      have hW : W64 ((n : Int) + (m : Int)) = ((n + m : Nat) : Int) := by rw [W64_in (by omega) (by omega)]; omega
      rw [if_neg (fun q => q rfl)]
      refine (cF rfl).trans ?_
      simp only [hW, sub_len, Int.toNat_natCast]
      refine (grd (aT (dT (by omega)) (aT (dT (by omega)) (dT (by omega))))).trans ?_
      by_cases c1 : (B.drop (n + m)).length < 32
      · rw [if_pos c1]
        exact cT (dT (by omega))
      · rw [if_neg c1]
        refine (cF (dF (by omega))).trans ?_
        by_cases c2 : 32 < (B.drop (n + m)).length
        · rw [if_pos c2]
          exact cT (dT (by omega))
        · rw [if_neg c2]
          exact cF (dF (by omega))
    · rw [if_pos he']
      exact cT (by simp; omega)
  · rw [if_pos he]
    exact cT (by simp; omega)

theorem text_err {B : List UInt8} {At E most : Int} (hE : E ≠ 0) : code_ReadText B At E most = some (B, At, E, []) := by
  refine code_ReadText_of ?_
  unfold code_ReadText_b
  have hn : code_ReadNum B At E = some (B, At, E, 0) := by
    refine code_ReadNum_of ?_
    unfold code_ReadNum_b
    rw [code_open_bad hE, bS]
    rfl
  have e : (E == (0 : Int)) = false := by simpa using hE
  have hc : code_count B At E most = some (B, At, E, 0) := by
    refine code_count_of ?_
    unfold code_count_b
    rw [hn, bS]
    dsimp only
    rw [cF (by rw [e]; rfl)]
  rw [hc, bS]
  dsimp only
  have e2 : (E != (0 : Int)) = true := by simpa using hE
  rw [cT e2]
theorem digest_err {B : List UInt8} {At E : Int} (hE : E ≠ 0) : code_ReadDigest B At E = some (B, At, E, []) := by
  refine code_ReadDigest_of ?_
  unfold code_ReadDigest_b
  rw [code_open_bad hE, bS]
  rfl
theorem done_err {B : List UInt8} {At E : Int} (hE : E ≠ 0) : code_Done B At E = some E := by
  refine code_Done_of ?_
  unfold code_Done_b
  rw [code_open_bad hE, bS]
  rfl
theorem digest_less {B : List UInt8} {At : Int} (h : RdOk B At) (hs : (32 : Int) > (B.length : Int) - At) : code_ReadDigest B At 0 = some (B, At, 4, []) := by
  have hl := h.lo
  have hh := h.hi
  have hln := h.len
  have hW : W64 ((B.length : Int) - At) = (B.length : Int) - At := W64_in (by omega) (by omega)
  refine code_ReadDigest_of ?_
  unfold code_ReadDigest_b
  rw [code_open_ok h, bS]
  dsimp only
  rw [cF (by rfl), show code_some B At 0 32 = some (B, At, 4, []) from code_some_of (by unfold code_some_b; rw [hW, cT (dT hs), code_bad_ok, bS]), bS]
theorem link_run {B : List UInt8} {A1 E1 A2 E2 A3 E3 e : Int} {a b c : List UInt8} (p1 : code_ReadText B 0 0 64 = some (B, A1, E1, a)) (p2 : code_ReadText B A1 E1 64 = some (B, A2, E2, b)) (p3 : code_ReadDigest B A2 E2 = some (B, A3, E3, c)) (p4 : code_Done B A3 E3 = some e) :
    dict_ReadLink B = some (if e ≠ 0 then ([], [], [], e) else (a, b, c, 0)) := by
  refine dict_ReadLink_of ?_
  unfold dict_ReadLink_b
  refine (bindE p1).trans ((bindE p2).trans ((bindE p3).trans ((bindE p4).trans ?_)))
  by_cases he : e = 0
  · rw [if_neg (fun q => q he)]; exact cF (by simp [he])
  · rw [if_pos he]; exact cT (by simpa using he)

theorem dict_ReadLink_ok {B : List UInt8} (hB : B.length ≤ 1000000000000) : dict_ReadLink B = some (rlS B) := by
  have h0 : RdOk B 0 := ⟨by omega, by omega, by omega⟩
  have p1 := code_ReadText_ok (most := 64) h0
  rw [show (0 : Int).toNat = 0 from rfl, List.drop_zero] at p1
  unfold rlS
  have hle := rdT_le (most := 64) (l := B)
  generalize ht : rdT 64 B = t at *
  obtain ⟨e, s, n⟩ := t
  dsimp only at *
  by_cases he : e = 0
  · subst he
    obtain ⟨g1, g2, g3⟩ := hle rfl
    rw [resT, if_pos rfl] at p1
    dsimp only at p1
    rw [if_neg (fun q => q rfl)]
    have h1 : RdOk B (0 + (n : Int)) := ⟨by omega, by omega, by omega⟩
    have p2 := code_ReadText_ok (most := 64) h1
    rw [show (0 + (n : Int)).toNat = n by omega] at p2
    have hle2 := rdT_le (most := 64) (l := B.drop n)
    generalize hu : rdT 64 (B.drop n) = u at *
    obtain ⟨e', s', m⟩ := u
    dsimp only at *
    by_cases he' : e' = 0
    · subst he'
      obtain ⟨k1, k2, k3⟩ := hle2 rfl
      rw [List.length_drop] at k2
      rw [resT, if_pos rfl] at p2
      dsimp only at p2
      rw [if_neg (fun q => q rfl)]
      have h2 : RdOk B (0 + (n : Int) + (m : Int)) := ⟨by omega, by omega, by omega⟩
      have hlen : (B.drop (n + m)).length = B.length - (n + m) := List.length_drop
      by_cases c1 : (B.drop (n + m)).length < 32
      · rw [if_pos c1]
        exact link_run p1 p2 (digest_less h2 (by omega)) (done_err (by decide))
      · rw [if_neg c1]
        have hsp : B.drop (0 + (n : Int) + (m : Int)).toNat = (B.drop (n + m)).take 32 ++ (B.drop (n + m)).drop 32 := by
          rw [List.take_append_drop, show (0 + (n : Int) + (m : Int)).toNat = n + m by omega]
        have p3 := code_ReadDigest_back h2 (by rw [List.length_take]; omega) hsp
        have h3 : RdOk B (0 + (n : Int) + (m : Int) + 32) := ⟨by omega, by omega, by omega⟩
        have p4 := code_Done_ok h3
        have := link_run p1 p2 p3 p4
        rw [this]
        by_cases c2 : 32 < (B.drop (n + m)).length
        · rw [if_pos c2, if_pos (show (0 + (n : Int) + (m : Int) + 32) < (B.length : Int) by omega), if_pos (by decide)]
        · rw [if_neg c2, if_neg (show ¬ (0 + (n : Int) + (m : Int) + 32) < (B.length : Int) by omega), if_neg (fun q => q rfl), List.take_of_length_le (by omega)]
    · rw [resT, if_neg he'] at p2
      dsimp only at p2
      rw [if_pos he']
      have hne : (e' : Int) ≠ 0 := by omega
      have := link_run p1 p2 (digest_err hne) (done_err hne)
      rw [if_pos hne] at this
      exact this
  · rw [resT, if_neg he] at p1
    dsimp only at p1
    rw [if_pos he]
    have hne : (e : Int) ≠ 0 := by omega
    have := link_run p1 (text_err hne) (digest_err hne) (done_err hne)
    rw [if_pos hne] at this
    exact this

theorem L_DictLinks (x0 x1 x2 x3 : List UInt8) (w0 : WF .str x0) (w1 : WF .str x1) (w2 : WF .str x2) (w3 : WF (.lst (.int .u8)) x3) : law10_DictLinks x0 x1 x2 x3 = some true := by
  refine law10_DictLinks_of ?_
  unfold law10_DictLinks_b
  by_cases hg : (if (if (if decide ((x0.length : Int) > 200) = true then true else decide ((x1.length : Int) > 200)) = true then true else decide ((x2.length : Int) > 200)) = true then true else decide ((x3.length : Int) > 500)) = true
  · exact (cT hg).trans (bindE law10_knows_ok)
  · refine (cF (by simpa using hg)).trans ?_
    have h500 : x3.length ≤ 500 := by
      apply Classical.byContradiction
      intro h
      apply hg
      rw [dT (show (x3.length : Int) > 500 by omega), orI, Bool.or_true]
    refine (bindE (dict_WriteLink_ok x0 x1 x2)).trans ((grd (dT (by simp; omega))).trans ((bindE (dict_ReadLink_ok (B := [] ++ x3) (by simp; omega))).trans ((bindE (ref10_ReadLink_ok (B := x3) (by omega))).trans ?_)))
    rw [List.nil_append]
    refine (cF (by simp)).trans ((bindE (ref10_May_ok x0 x1 x2)).trans ?_)
    cases hm : mayL x0 x1 x2 with
    | true =>
      rw [if_pos rfl]
      have hc : (if (encK x0 x1 x2 == encK x0 x1 x2) = true then ((0 : Int) == 0) else false) = true := by simp
      refine (cF rfl).trans ((bindE (ref10_WriteLink_ok hm)).trans ?_)
      dsimp only
      rw [hc]
      exact (bindE ((cT rfl).trans law10_knows_ok)).trans rfl
    | false =>
      exact (cT rfl).trans ((bindE ((cT rfl).trans law10_knows_ok)).trans rfl)
end Rk
