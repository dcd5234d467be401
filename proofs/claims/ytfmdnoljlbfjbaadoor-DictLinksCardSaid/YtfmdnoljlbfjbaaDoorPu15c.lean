/- The plain part: what the functions answer. No condition. -/
import Derived.Test.YtfmdnoljlbfjbaaDoorPu15b
set_option linter.unusedVariables false
set_option linter.unusedSimpArgs false
namespace Rk
open Go

/-! ### Reading: from a place to a place, just such bytes -/

theorem nz0 : ((0 : Int) != 0) = false := rfl

/-- From a state to a state: if all went well, just these bytes lie between. -/
structure RdX (B : List UInt8) (At E At' E' : Int) (x : List UInt8) : Prop where
  ok : E' = 0 → RdOk B At'
  le : At ≤ At'
  by_ : E' = 0 → E = 0 ∧ B.drop At.toNat = x ++ B.drop At'.toNat

theorem RdX.trans {B : List UInt8} {a e b f c g : Int} {x y : List UInt8} (h : RdX B a e b f x) (h' : RdX B b f c g y) : RdX B a e c g (x ++ y) :=
  ⟨h'.ok, Int.le_trans h.le h'.le, fun he => by
    obtain ⟨h1, h2⟩ := h'.by_ he
    obtain ⟨h3, h4⟩ := h.by_ h1
    exact ⟨h3, by rw [h4, h2, List.append_assoc]⟩⟩

theorem RdX.err {B : List UInt8} {a e b f : Int} {x : List UInt8} (hl : a ≤ b) (hf : f ≠ 0) : RdX B a e b f x := ⟨fun he => absurd he hf, hl, fun he => absurd he hf⟩

theorem code_open_bad {B : List UInt8} {At E : Int} (h : E ≠ 0) : code_open B At E = some (B, At, E, false) := by
  refine code_open_of ?_
  unfold code_open_b
  have e : (E == (0 : Int)) = false := by simpa using h
  rw [cF (by rw [e]; rfl), bS]
  dsimp only
  rw [e]

theorem code_ReadText_back {B t s : List UInt8} {At most : Int} (h : RdOk B At) (hs : s.length ≤ 1000000) (hm : (s.length : Int) ≤ most) (hb : B.drop At.toNat = encT s ++ t) :
    code_ReadText B At 0 most = some (B, At + ((encT s).length : Int), 0, s) := by
  rw [code_ReadText_ok h, hb, rdT_back (by omega) hm]
  rfl

theorem code_ReadDigest_back {B t d : List UInt8} {At : Int} (h : RdOk B At) (hd : d.length = 32) (hb : B.drop At.toNat = d ++ t) : code_ReadDigest B At 0 = some (B, At + 32, 0, d) := by
  have hl := h.lo
  have hh := h.hi
  have hln := h.len
  have hlen : B.length - At.toNat = 32 + t.length := by rw [← List.length_drop, hb, List.length_append, hd]
  have hW : W64 ((B.length : Int) - At) = (B.length : Int) - At := W64_in (by omega) (by omega)
  have hW2 : W64 (At + 32) = At + 32 := W64_in (by omega) (by omega)
  refine code_ReadDigest_of ?_
  unfold code_ReadDigest_b
  rw [code_open_ok h, bS]
  dsimp only
  rw [cF (by rfl), show code_some B At 0 32 = some (B, At + 32, 0, sub B At (At + 32)) from code_some_of (by unfold code_some_b; rw [hW, cF (dF (by omega)), hW2, grd (aT (dT (by omega)) (aT (dT (by omega)) (dT (by omega))))]), bS]
  dsimp only
  have e1 : (At + 32).toNat = At.toNat + 32 := by omega
  simp only [sub, e1, List.drop_take]
  rw [Nat.add_sub_cancel_left, hb, List.take_left' hd]

theorem code_Done_back {B : List UInt8} {At : Int} (h : RdOk B At) (hb : B.drop At.toNat = []) : code_Done B At 0 = some 0 := by
  have := List.drop_eq_nil_iff.1 hb
  have hl := h.lo
  rw [code_Done_ok h, if_neg (by omega)]

/-! ### Heads are read -/

/-- Where reading goes on. -/
theorem rd_next {B x t : List UInt8} {At : Int} (h : RdOk B At) (hb : B.drop At.toNat = x ++ t) : RdOk B (At + (x.length : Int)) ∧ B.drop (At + (x.length : Int)).toNat = t := by
  have hl := h.lo
  have hh := h.hi
  have hlen : B.length - At.toNat = x.length + t.length := by rw [← List.length_drop, hb, List.length_append]
  refine ⟨⟨by omega, by omega, h.len⟩, ?_⟩
  have e1 : (At + (x.length : Int)).toNat = At.toNat + x.length := by omega
  rw [e1, ← List.drop_drop, hb, List.drop_left' rfl]

/-! ### Links are read -/

theorem dict_ReadLink_back {a b c : List UInt8} (h : mayL a b c = true) : dict_ReadLink (encK a b c) = some (a, b, c, 0) := by
  obtain ⟨h1, h2, h3⟩ := mayL_of h
  have hlen := encK_len h
  have h0 : RdOk (encK a b c) 0 := ⟨by omega, by omega, by omega⟩
  have b0 : (encK a b c).drop (0 : Int).toNat = encT a ++ (encT b ++ (c ++ [])) := by simp [encK]
  have p1 := code_ReadText_back (most := 64) h0 (by omega) (by omega) b0
  obtain ⟨k1, b1⟩ := rd_next h0 b0
  have p2 := code_ReadText_back (most := 64) k1 (by omega) (by omega) b1
  obtain ⟨k2, b2⟩ := rd_next k1 b1
  have p3 := code_ReadDigest_back k2 h3 b2
  obtain ⟨k3, b3⟩ := rd_next k2 b2
  rw [h3] at k3 b3
  have p4 := code_Done_back k3 b3
  refine dict_ReadLink_of ?_
  unfold dict_ReadLink_b
  rw [p1, bS]
  dsimp only
  rw [p2, bS]
  dsimp only
  rw [p3, bS]
  dsimp only
  have e32 : (((32 : Nat) : Int)) = 32 := rfl
  rw [e32] at p4
  rw [p4, bS]
  rfl

end Rk
