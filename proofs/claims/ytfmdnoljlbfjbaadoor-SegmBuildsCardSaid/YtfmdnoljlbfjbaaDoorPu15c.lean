/- The plain part: what the functions answer. No condition. -/
import Derived.Test.YtfmdnoljlbfjbaaDoorPu15b
set_option linter.unusedVariables false
set_option linter.unusedSimpArgs false
namespace Rk
open Go

/-! ### Reading: from a place to a place, just such bytes -/

theorem nz0 : ((0 : Int) != 0) = false := rfl

/-- From a state to a state: if all went well, just these bytes lie between. -/
structure RdX (B : List UInt8) (At E At' E' : Int) (x : List UInt8) : Prop where
  ok : E' = 0 → RdOk B At'
  le : At ≤ At'
  by_ : E' = 0 → E = 0 ∧ B.drop At.toNat = x ++ B.drop At'.toNat

theorem RdX.trans {B : List UInt8} {a e b f c g : Int} {x y : List UInt8} (h : RdX B a e b f x) (h' : RdX B b f c g y) : RdX B a e c g (x ++ y) :=
  ⟨h'.ok, Int.le_trans h.le h'.le, fun he => by
    obtain ⟨h1, h2⟩ := h'.by_ he
    obtain ⟨h3, h4⟩ := h.by_ h1
    exact ⟨h3, by rw [h4, h2, List.append_assoc]⟩⟩

theorem RdX.err {B : List UInt8} {a e b f : Int} {x : List UInt8} (hl : a ≤ b) (hf : f ≠ 0) : RdX B a e b f x := ⟨fun he => absurd he hf, hl, fun he => absurd he hf⟩

/-! ### Heads are read -/

/-! ### Links are read -/

end Rk
