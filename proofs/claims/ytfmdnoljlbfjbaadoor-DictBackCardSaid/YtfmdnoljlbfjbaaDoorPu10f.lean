/- The plain part: what the functions answer. No condition. -/
import Derived.Test.YtfmdnoljlbfjbaaDoorPu10e
set_option linter.unusedVariables false
set_option linter.unusedSimpArgs false
namespace Rk
open Go

theorem L_DictBack (x0 x1 x2 x3 : List UInt8) (w0 : WF .str x0) (w1 : WF .str x1) (w2 : WF .str x2) (w3 : WF (.lst (.int .u8)) x3) : law10_DictBack x0 x1 x2 x3 = some true := by
  refine law10_DictBack_of ?_
  unfold law10_DictBack_b
  by_cases hg : (if (if (if decide ((x0.length : Int) > 200) = true then true else decide ((x1.length : Int) > 200)) = true then true else decide ((x2.length : Int) > 200)) = true then true else decide ((x3.length : Int) > 500)) = true
  · exact (cT hg).trans (bindE law10_knows_ok)
  · refine (cF (by simpa using hg)).trans ?_
    have h500 : x3.length ≤ 500 := by
      apply Classical.byContradiction
      intro h
      apply hg
      rw [dT (show (x3.length : Int) > 500 by omega), orI, Bool.or_true]
    refine (bindE (dict_WriteLink_ok x0 x1 x2)).trans ?_
    have tail : (bif (decide ((([] ++ x3).length : Int) ≤ 70368744177664) && true) then ((dict_ReadLink (([] : List UInt8) ++ x3)).bind fun r4 => (bif (r4.2.2.2 != (0 : Int)) then ((bif (((r4.1 == ([] : List UInt8)) && ((r4.2.1 == ([] : List UInt8)) && (r4.2.2.1 == ([] : List UInt8)))) && true) then (law10_knows) else some false).bind fun r5 => (some (if ((r4.1 == ([] : List UInt8)) && ((r4.2.1 == ([] : List UInt8)) && (r4.2.2.1 == ([] : List UInt8)))) then r5 else false))) else ((dict_WriteLink r4.1 r4.2.1 r4.2.2.1).bind fun r6 => ((bif ((if (r6.2 == x3) then (r6.1 == (0 : Int)) else false) && true) then (law10_knows) else some false).bind fun r7 => (some (if (if (r6.2 == x3) then (r6.1 == (0 : Int)) else false) then r7 else false)))))) else none) = some true := by
      refine (grd (dT (by simp; omega))).trans ?_
      obtain ⟨a, b, c, e, r1, r2, r3⟩ := dict_ReadLink_ex (B := x3) (by omega)
      refine (bindE r1).trans ?_
      by_cases he : e = 0
      · subst he
        obtain ⟨q1, q2⟩ := r2 rfl
        refine (cF rfl).trans ((bindE (dict_WriteLink_ok a b c)).trans ?_)
        rw [q1, if_pos rfl]
        have hq : (if ((encK a b c) == x3) = true then ((0 : Int) == 0) else false) = true := by rw [q2]; simp
        exact (bindE ((cT (by rw [hq]; rfl)).trans law10_knows_ok)).trans (by rw [hq]; rfl)
      · obtain ⟨rfl, rfl, rfl⟩ := r3 he
        refine (cT (by simpa using he)).trans ?_
        exact (bindE ((cT rfl).trans law10_knows_ok)).trans rfl
    cases hm : mayL x0 x1 x2 with
    | true =>
      rw [if_pos rfl]
      have hr := dict_ReadLink_back hm
      refine (bindE (v := Sum.inl x3) ((cT rfl).trans ((bindE hr).trans (cF (by simp))))).trans ?_
      exact tail
    | false =>
      exact (bindE (v := Sum.inl x3) (cF rfl)).trans tail

end Rk
