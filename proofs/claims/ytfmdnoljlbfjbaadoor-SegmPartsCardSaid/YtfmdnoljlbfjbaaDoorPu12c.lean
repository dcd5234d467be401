/- The plain part: what the functions answer. No condition. -/
import Derived.Test.YtfmdnoljlbfjbaaDoorPu12b
set_option linter.unusedVariables false
set_option linter.unusedSimpArgs false
namespace Rk
open Go

theorem occ_split (docs : List (List UInt8)) (lo : Nat) (s : List UInt8) (m : Nat) : ∀ k, occ docs lo s (m + k) = occ docs lo s m ++ occ docs (lo + m) s k
  | 0 => by rw [Nat.add_zero, show occ docs (lo + m) s 0 = [] from rfl, List.append_nil]
  | k + 1 => by
    rw [← Nat.add_assoc]
    unfold occ
    rw [occ_split docs lo s m k, List.append_assoc, show lo + (m + k) = lo + m + k by omega]
    cases m <;> rfl

theorem parts_l0 (docs : List (List UInt8)) (x y : UInt8) (s : List UInt8) (hl : docs.length ≤ 40) (hf : fairM docs 0 (docs.length : Int)) : ∀ (k i at_ : Nat) (signs : List Sg), i + k = docs.length + 1 → 1 ≤ i → at_ ≤ i - 1 → (i = docs.length + 1 → at_ = docs.length) → signs.length ≤ i - 1 →
    (∀ rest, rowS 0 (signs ++ rest) (docs.length : Int) = rowS (at_ : Int) rest (docs.length : Int)) →
    law12_SegmParts_l0 ((i : Int), signs, occ docs 0 s at_, s, (at_ : Int), docs, x, y, (docs.length : Int)) = some true := by
  intro k
  induction k with
  | zero =>
    intro i at_ signs hi h1 h2 h3 h4 h5
    have hat := h3 (by omega)
    subst hat
    rw [law12_SegmParts_l0_eq]
    dsimp only
    obtain ⟨D, m1, m2, m3, m4, m5⟩ := make_ok hf
    have hd := dict_Docs_ok (d := D) s (by omega) m4
    rw [m3, if_pos rfl, made_docs m2] at hd
    rw [show (0 : Int).toNat = 0 from rfl, show ((docs.length : Nat) : Int).toNat - 0 = docs.length by omega] at hd
    have hol := occ_len docs 0 s docs.length
    have hs := ref09_Same_ok (a := occ docs 0 s docs.length) (b := occ docs 0 s docs.length) (by omega)
    rw [dT rfl] at hs
    have hr := segm_Row_ok signs (docs.length : Int)
    have hrow : rowL signs (docs.length : Int) = true := by
      unfold rowL
      have := h5 []
      rw [List.append_nil] at this
      rw [this, dT (show signs.length ≤ 64 by omega)]
      unfold rowS
      simp
    rw [hrow] at hr
    refine (cF (dF (by omega))).trans ((bindE m1).trans ((bindE ((cT rfl).trans hd)).trans ((bindE ((cT rfl).trans hs)).trans ((bindE ((cT rfl).trans hr)).trans ((bindE ((cT rfl).trans law12_knows_ok)).trans rfl)))))
  | succ k ih =>
    intro i at_ signs hi h1 h2 h3 h4 h5
    rw [law12_SegmParts_l0_eq]
    dsimp only
    refine (cT (dT (by omega))).trans ?_
    generalize hc : (if (if decide ((i : Int) < (docs.length : Int)) = true then ((i : Int) != W64 (i8 y)) else false) = true then ((i : Int) != W64 (i8 x)) else false) = c
    cases c with
    | true =>
      have hin : i < docs.length := by
        rw [andI, andI] at hc
        simp only [Bool.and_eq_true, decide_eq_true_eq] at hc
        omega
      refine (bindE (v := Sum.inl (signs, occ docs 0 s at_, s, (at_ : Int), docs, x, y, (docs.length : Int), (i : Int))) (cT rfl)).trans ?_
      show law12_SegmParts_l0 ((W64 ((i : Int) + 1)), signs, occ docs 0 s at_, s, (at_ : Int), docs, x, y, (docs.length : Int)) = some true
      rw [W64_in (by omega) (by omega), show (i : Int) + 1 = ((i + 1 : Nat) : Int) by omega]
      exact ih (i + 1) at_ signs (by omega) (by omega) (by omega) (by omega) (by omega) h5
    | false =>
      obtain ⟨f1, f2, f3, f4, f5⟩ := hf
      obtain ⟨D, d1, _, d2, d3, d4, d5, d6⟩ := segm_Build_ok (docs := docs) (a := (at_ : Int)) (b := (i : Int)) ⟨f1, f2, by omega, by omega, by omega⟩ (by omega)
      have hO := segm_Of_ok (d := D) (at_ : Int) (i : Int) (by omega) d4
      rw [d6, if_pos rfl] at hO
      have hd := dict_Docs_ok (d := D) s (by omega) d4
      rw [d3, if_pos rfl, made_docs d2, show ((at_ : Nat) : Int).toNat = at_ by omega, show ((i : Nat) : Int).toNat = i by omega] at hd
      have h32 := (dict_Root_ok (d := D) (by omega) d4).2 d3
      have hgood : goodS ((at_ : Int), (i : Int), (D.length : Int) + 1, droot D) = true := dT ⟨by dsimp only; omega, by dsimp only; omega, by dsimp only; omega, by dsimp only; omega, by dsimp only; omega, h32⟩
      have ho1 := occ_len docs 0 s at_
      have ho2 := occ_len docs at_ s (i - at_)
      have esp : occ docs 0 s at_ ++ occ docs at_ s (i - at_) = occ docs 0 s i := by
        have := occ_split docs 0 s at_ (i - at_)
        rw [Nat.zero_add, show at_ + (i - at_) = i by omega] at this
        exact this.symm
      refine (bindE (v := Sum.inl (signs ++ [((at_ : Int), (i : Int), (D.length : Int) + 1, droot D)], occ docs 0 s i, s, (i : Int), docs, x, y, (docs.length : Int), (i : Int))) ?_).trans ?_
      · refine (cF rfl).trans ((bindE d1).trans ((bindE hO).trans ((cF rfl).trans ((bindE hd).trans ?_))))
        rw [esp]
        have := occ_len docs 0 s i
        refine (grd (dT (by omega))).trans ((grd (dT (by simp; omega))).trans rfl)
      · show law12_SegmParts_l0 ((W64 ((i : Int) + 1)), signs ++ [((at_ : Int), (i : Int), (D.length : Int) + 1, droot D)], occ docs 0 s i, s, (i : Int), docs, x, y, (docs.length : Int)) = some true
        rw [W64_in (by omega) (by omega), show (i : Int) + 1 = ((i + 1 : Nat) : Int) by omega]
        refine ih (i + 1) i _ (by omega) (by omega) (by omega) (by omega) (by simp; omega) (fun rest => ?_)
        rw [List.append_assoc, h5, List.singleton_append]
        show (goodS ((at_ : Int), (i : Int), (D.length : Int) + 1, droot D) && ((at_ : Int) == (at_ : Int) && rowS (i : Int) rest (docs.length : Int))) = _
        rw [hgood]
        simp

theorem L_SegmParts (x0 : List (List UInt8)) (x1 x2 : UInt8) (x3 : List UInt8) (w0 : WF (.lst (.lst (.int .u8))) x0) (w1 : WF (.int .u8) x1) (w2 : WF (.int .u8) x2) (w3 : WF .str x3) : law12_SegmParts x0 x1 x2 x3 = some true := by
  obtain ⟨g, h1, h2⟩ := law10_GreatDocs_ok (d := x0) w0.1
  refine law12_SegmParts_of ?_
  unfold law12_SegmParts_b
  refine (bindE h1).trans ?_
  cases hg : (if g = true then true else decide ((x3.length : Int) > 200)) with
  | true => exact (bindE (v := false) rfl).trans ((cT rfl).trans (bindE law12_knows_ok))
  | false =>
    rw [orI, Bool.or_eq_false_iff] at hg
    obtain ⟨l1, l2⟩ := h2 hg.1
    obtain ⟨f, f1, f2⟩ := ref10_Fair_ok (docs := x0) (a := 0) (b := (x0.length : Int)) (by omega)
    refine (bindE ((cT rfl).trans f1)).trans ?_
    cases f with
    | false => exact (cT rfl).trans (bindE law12_knows_ok)
    | true =>
      refine (cF rfl).trans ?_
      have := parts_l0 x0 x2 x1 x3 (by omega) (f2.1 rfl) x0.length 1 0 [] (by omega) (Nat.le_refl _) (by omega) (by omega) (by simp) (fun rest => rfl)
      exact this
end Rk
