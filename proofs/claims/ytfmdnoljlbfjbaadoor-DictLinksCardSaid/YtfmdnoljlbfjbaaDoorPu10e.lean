/- The plain part: what the functions answer. No condition. -/
import Derived.Test.YtfmdnoljlbfjbaaDoorPu10d
set_option linter.unusedVariables false
set_option linter.unusedSimpArgs false
namespace Rk
open Go

abbrev hayB : List UInt8 := [104, 97, 121]
abbrev wainB : List UInt8 := [119, 97, 105, 110]
abbrev whB : List UInt8 := [119, 97, 105, 110, 32, 104, 97, 121]
theorem terms_of (p : List Int) (h : ∀ c ∈ p, rightC c = true) : termsS (p.flatMap encC) = termsW [] p := by unfold termsS; rw [decS_enc p h]
theorem terms_hay : termsS hayB = [hayB] := terms_of [104, 97, 121] (by decide)
theorem terms_wh : termsS whB = [wainB, hayB] := terms_of [119, 97, 105, 110, 32, 104, 97, 121] (by decide)
abbrev D2 : List Ent := [(hayB, [0, 1]), (wainB, [1])]
theorem occ_2 (s : List UInt8) : occ [hayB, whB] 0 s 2 = (if s = hayB then [0] else []) ++ if s = wainB ∨ s = hayB then [1] else [] := by
  have e0 : ([hayB, whB] : List (List UInt8)).getD (0 + 0) [] = hayB := rfl
  have e1 : ([hayB, whB] : List (List UInt8)).getD (0 + 1) [] = whB := rfl
  unfold occ occ occ
  rw [e0, e1, terms_hay, terms_wh]
  simp
theorem made_2 : IsMade [hayB, whB] 0 2 D2 where
  asc := by
    unfold Asc
    simp [bl, Op.bytesLess]
  mem := by
    intro s
    rw [occ_2 s]
    by_cases h : s = hayB
    · rw [if_pos h, if_pos (Or.inr h)]; simp [h]
    · rw [if_neg h]
      by_cases h2 : s = wainB
      · rw [if_pos (Or.inl h2)]; simp [h2]
      · rw [if_neg (fun q => by rcases q with q | q; exact h2 q; exact h q)]; simp [h, h2]
  val := by
    intro e he
    rw [occ_2]
    rcases List.mem_cons.1 he with rfl | he
    · rfl
    · rw [List.mem_singleton.1 he]; rfl
theorem make_2 : dict_Make [hayB, whB] 0 2 = some (0, D2) := by
  obtain ⟨D, h1, h2, _⟩ := make_ok (docs := [hayB, whB]) (a := 0) (b := 2) ⟨by decide, by decide, by decide, by decide, by decide⟩
  rw [h1, h2.uniq made_2]
theorem good_2 : dictG D2 = true := (made_2.good (by decide)).1
theorem okE_2 : okE D2 := (made_2.good (by decide)).2

theorem bindE {α β : Type} {x : Option α} {v : α} {f : α → Option β} (h : x = some v) : x.bind f = f v := by rw [h]; rfl
theorem law10_knows_ok : law10_knows = some true := by
  refine law10_knows_of ?_
  unfold law10_knows_b
  have hl := dict_Links_ok (d := D2) (by decide) okE_2
  rw [good_2, if_pos rfl] at hl
  have hlen : ((linksS D2).length : Int) = 3 := by rw [linksS_len]; rfl
  obtain ⟨a, b, c, k1, k2, _, k4, k5, _⟩ := linksS_get good_2 1 (by decide)
  have ka : a = hayB := k4 (by decide) (by decide)
  have kb : b = wainB := k5 (by decide)
  have hd := dict_Docs_ok (d := D2) wainB (by decide) okE_2
  rw [good_2, if_pos rfl, show docsD D2 wainB = [1] from rfl] at hd
  have hr := dict_Right_ok (d := D2) (by decide) okE_2
  rw [good_2] at hr
  have s1 := ref09_Same_ok (a := [0, 1]) (b := [0, 1]) (by decide)
  have s2 := ref09_Same_ok (a := [1]) (b := [1]) (by decide)
  rw [dT rfl] at s1 s2
  refine (grd rfl).trans ((grd rfl).trans ((bindE make_2).trans ((bindE hl).trans ?_)))
  dsimp only
  rw [hlen]
  refine (cF rfl).trans ((grd rfl).trans ?_)
  have hx : dict_ReadLink (idx ([] : List UInt8) (linksS D2) 1) = some (a, b, c, 0) := by
    rw [show (1 : Int) = ((1 : Nat) : Int) from rfl, idx_nat (l := linksS D2) (i := 1) (by rw [linksS_len]; decide), k1, dict_ReadLink_back k2]
  subst ka kb
  refine (bindE hx).trans ((grd rfl).trans ((grd rfl).trans ((bindE ((cT rfl).trans s1)).trans ((bindE ((cT rfl).trans hd)).trans ((bindE ((cT rfl).trans s2)).trans ((bindE ((cT rfl).trans hr)).trans ?_))))))
  rfl
end Rk
