/- The plain part: what the functions answer. No condition. -/
import Derived.Test.YtfmdnoljlbfjbaaDoorPu02c
set_option linter.unusedVariables false
set_option linter.unusedSimpArgs false
namespace Rk
open Go

/-! ### The sum: it is there, of 32 bytes -/

theorem sha_turn_is (x : Int) {n : Int} (h0 : 0 ≤ n) (h1 : n ≤ 32) : ∃ r, sha_turn x n = some r := by
  refine ⟨arI .or .u32 (arI .shr .u32 x n) (arI .shl .u32 x (W64 (32 - n))), sha_turn_of ?_⟩
  unfold sha_turn_b
  have e : W64 (32 - n) = 32 - n := W64_in (by omega) (by omega)
  rw [grd (dT (by omega)), grd (dT (by omega))]

theorem sha_mix_0 (b : List UInt8) (h : List Int) (hb : 64 ≤ b.length) (hb2 : b.length ≤ 4611686018427387904) : ∀ (k i : Nat) (w : List Int), i + k = 16 → w.length = 64 → ∃ w', sha_mix_l0 ((i : Int), w, b, h) = some (w', h) ∧ w'.length = 64 := by
  intro k
  induction k with
  | zero =>
    intro i w hk hw
    refine ⟨w, ?_, hw⟩
    rw [sha_mix_l0_eq, sha_mix_l0_F]
    dsimp only
    rw [cF (dF (by omega))]
  | succ k ih =>
    intro i w hk hw
    have e0 : W64 (4 * (i : Int)) = ((4 * i : Nat) : Int) := by rw [W64_in (by omega) (by omega)]; omega
    have e1 : W64 (((4 * i : Nat) : Int) + 1) = ((4 * i + 1 : Nat) : Int) := by rw [W64_in (by omega) (by omega)]; omega
    have e2 : W64 (((4 * i : Nat) : Int) + 2) = ((4 * i + 2 : Nat) : Int) := by rw [W64_in (by omega) (by omega)]; omega
    have e3 : W64 (((4 * i : Nat) : Int) + 3) = ((4 * i + 3 : Nat) : Int) := by rw [W64_in (by omega) (by omega)]; omega
    have e4 : W64 ((i : Int) + 1) = ((i + 1 : Nat) : Int) := by rw [W64_in (by omega) (by omega)]; omega
    rw [sha_mix_l0_eq, sha_mix_l0_F]
    dsimp only
    rw [e0, e1, e2, e3, e4, cT (dT (by omega)), grd (aT (dT (by omega)) (dT (by omega))), grd (dT (by decide)), grd (aT (dT (by omega)) (dT (by omega))), grd (dT (by decide)), grd (aT (dT (by omega)) (dT (by omega))), grd (dT (by decide)),
      grd (aT (dT (by omega)) (dT (by omega))), grd (aT (dT (by omega)) (dT (by omega)))]
    exact ih (i + 1) _ (by omega) (by rw [List.length_set]; exact hw)

theorem sha_mix_1 (h : List Int) : ∀ (k i : Nat) (w : List Int), 16 ≤ i → i + k = 64 → w.length = 64 → ∃ w', sha_mix_l1 ((i : Int), w, h) = some (w', h) ∧ w'.length = 64 := by
  intro k
  induction k with
  | zero =>
    intro i w hi hk hw
    refine ⟨w, ?_, hw⟩
    rw [sha_mix_l1_eq, sha_mix_l1_F]
    dsimp only
    rw [cF (dF (by omega))]
  | succ k ih =>
    intro i w hi hk hw
    have e0 : W64 ((i : Int) - 15) = (i : Int) - 15 := W64_in (by omega) (by omega)
    have e1 : W64 ((i : Int) - 2) = (i : Int) - 2 := W64_in (by omega) (by omega)
    have e2 : W64 ((i : Int) - 16) = (i : Int) - 16 := W64_in (by omega) (by omega)
    have e3 : W64 ((i : Int) - 7) = (i : Int) - 7 := W64_in (by omega) (by omega)
    have e4 : W64 ((i : Int) + 1) = ((i + 1 : Nat) : Int) := by rw [W64_in (by omega) (by omega)]; omega
    rw [sha_mix_l1_eq, sha_mix_l1_F]
    dsimp only
    simp only [e0, e1, e2, e3, e4]
    obtain ⟨r1, h1⟩ := sha_turn_is (idx 0 w ((i : Int) - 15)) (n := 7) (by omega) (by omega)
    obtain ⟨r2, h2⟩ := sha_turn_is (idx 0 w ((i : Int) - 15)) (n := 18) (by omega) (by omega)
    obtain ⟨r3, h3⟩ := sha_turn_is (idx 0 w ((i : Int) - 2)) (n := 17) (by omega) (by omega)
    obtain ⟨r4, h4⟩ := sha_turn_is (idx 0 w ((i : Int) - 2)) (n := 19) (by omega) (by omega)
    rw [cT (dT (by omega)), grd (aT (dT (by omega)) (dT (by omega))), grd (aT (dT (by omega)) (dT (by omega))), grd (aT (dT (by omega)) (dT (by omega))), h1, bS, h2, bS, grd (dT (by decide)), grd (aT (dT (by omega)) (dT (by omega))),
      h3, bS, h4, bS, grd (dT (by decide)), grd (aT (dT (by omega)) (dT (by omega)))]
    exact ih (i + 1) _ (by omega) (by omega) (by rw [List.length_set]; exact hw)

theorem sha_mix_2 (w h : List Int) : ∀ (k i : Nat) (v : List Int), i + k = 64 → v.length = 8 → ∃ v', sha_mix_l2 ((i : Int), v, w, h) = some (h, v') ∧ v'.length = 8 := by
  intro k
  induction k with
  | zero =>
    intro i v hk hv
    refine ⟨v, ?_, hv⟩
    rw [sha_mix_l2_eq, sha_mix_l2_F]
    dsimp only
    rw [cF (dF (by omega))]
  | succ k ih =>
    intro i v hk hv
    have e4 : W64 ((i : Int) + 1) = ((i + 1 : Nat) : Int) := by rw [W64_in (by omega) (by omega)]; omega
    obtain ⟨r1, h1⟩ := sha_turn_is (idx 0 v (4 : Int)) (n := 6) (by omega) (by omega)
    obtain ⟨r2, h2⟩ := sha_turn_is (idx 0 v (4 : Int)) (n := 11) (by omega) (by omega)
    obtain ⟨r3, h3⟩ := sha_turn_is (idx 0 v (4 : Int)) (n := 25) (by omega) (by omega)
    obtain ⟨r4, h4⟩ := sha_turn_is (idx 0 v (0 : Int)) (n := 2) (by omega) (by omega)
    obtain ⟨r5, h5⟩ := sha_turn_is (idx 0 v (0 : Int)) (n := 13) (by omega) (by omega)
    obtain ⟨r6, h6⟩ := sha_turn_is (idx 0 v (0 : Int)) (n := 22) (by omega) (by omega)
    rw [sha_mix_l2_eq, sha_mix_l2_F]
    dsimp only
    have g : ∀ {c : Int} {α : Type} {x y : α}, 0 ≤ c → c < 8 → (bif (((decide ((0 : Int) ≤ c)) && (decide (c < (8 : Int)))) && true) then x else y) = x := fun h h' => grd (aT (dT h) (dT h'))
    rw [e4, cT (dT (by omega)), g (by decide) (by decide), g (by decide) (by decide), g (by decide) (by decide), h1, bS, h2, bS, h3, bS, g (by decide) (by decide), g (by decide) (by decide),
      grd (aT (dT (by omega)) (dT (by omega))), grd (aT (dT (by omega)) (dT (by omega))), h4, bS, h5, bS, h6, bS, g (by decide) (by decide), g (by decide) (by decide), g (by decide) (by decide), g (by decide) (by decide),
      g (by decide) (by decide), g (by decide) (by decide), g (by decide) (by decide), g (by decide) (by decide), g (by decide) (by decide), g (by decide) (by decide), g (by decide) (by decide)]
    exact ih (i + 1) _ (by omega) rfl

theorem sha_mix_3 (v : List Int) : ∀ (k i : Nat) (h : List Int), i + k = 8 → h.length = 8 → ∃ h', sha_mix_l3 ((i : Int), h, v) = some h' := by
  intro k
  induction k with
  | zero =>
    intro i h hk hh
    refine ⟨h, ?_⟩
    rw [sha_mix_l3_eq, sha_mix_l3_F]
    dsimp only
    rw [cF (dF (by omega))]
  | succ k ih =>
    intro i h hk hh
    have e4 : W64 ((i : Int) + 1) = ((i + 1 : Nat) : Int) := by rw [W64_in (by omega) (by omega)]; omega
    rw [sha_mix_l3_eq, sha_mix_l3_F]
    dsimp only
    rw [e4, cT (dT (by omega)), grd (aT (dT (by omega)) (dT (by omega))), grd (aT (dT (by omega)) (dT (by omega))), grd (aT (dT (by omega)) (dT (by omega)))]
    exact ih (i + 1) _ (by omega) (by rw [List.length_set]; exact hh)

theorem sha_mix_is (a0 a1 a2 a3 a4 a5 a6 a7 : Int) {b : List UInt8} (hb : 64 ≤ b.length) (hb2 : b.length ≤ 4611686018427387904) : ∃ r, sha_mix a0 a1 a2 a3 a4 a5 a6 a7 b = some r := by
  obtain ⟨w0, h0, l0⟩ := sha_mix_0 b [a0, a1, a2, a3, a4, a5, a6, a7] hb hb2 16 0 (List.replicate 64 0) (by omega) (by simp)
  obtain ⟨w1, h1, l1⟩ := sha_mix_1 [a0, a1, a2, a3, a4, a5, a6, a7] 48 16 w0 (by omega) (by omega) l0
  obtain ⟨v, h2, l2⟩ := sha_mix_2 w1 [a0, a1, a2, a3, a4, a5, a6, a7] 64 0 [a0, a1, a2, a3, a4, a5, a6, a7] (by omega) rfl
  obtain ⟨h', h3⟩ := sha_mix_3 v 8 0 [a0, a1, a2, a3, a4, a5, a6, a7] (by omega) rfl
  suffices hs : ∃ r, sha_mix_b a0 a1 a2 a3 a4 a5 a6 a7 b = some r by
    obtain ⟨r, hr⟩ := hs
    exact ⟨r, sha_mix_of hr⟩
  unfold sha_mix_b
  have e0 : sha_mix_l0 ((0 : Int), (List.replicate ((64 : Int)).toNat (0 : Int)), b, ([a0] ++ ([a1] ++ ([a2] ++ ([a3] ++ ([a4] ++ ([a5] ++ ([a6] ++ ([a7] ++ ([] : List Int))))))))))  = some (w0, [a0, a1, a2, a3, a4, a5, a6, a7]) := h0
  rw [e0, bS]
  dsimp only
  have e1 : sha_mix_l1 ((16 : Int), w0, [a0, a1, a2, a3, a4, a5, a6, a7]) = some (w1, [a0, a1, a2, a3, a4, a5, a6, a7]) := h1
  rw [e1, bS]
  dsimp only
  have e2 : sha_mix_l2 ((0 : Int), ([(idx (0 : Int) [a0, a1, a2, a3, a4, a5, a6, a7] (0 : Int))] ++ ([(idx (0 : Int) [a0, a1, a2, a3, a4, a5, a6, a7] (1 : Int))] ++ ([(idx (0 : Int) [a0, a1, a2, a3, a4, a5, a6, a7] (2 : Int))] ++ ([(idx (0 : Int) [a0, a1, a2, a3, a4, a5, a6, a7] (3 : Int))] ++ ([(idx (0 : Int) [a0, a1, a2, a3, a4, a5, a6, a7] (4 : Int))] ++ ([(idx (0 : Int) [a0, a1, a2, a3, a4, a5, a6, a7] (5 : Int))] ++ ([(idx (0 : Int) [a0, a1, a2, a3, a4, a5, a6, a7] (6 : Int))] ++ ([(idx (0 : Int) [a0, a1, a2, a3, a4, a5, a6, a7] (7 : Int))] ++ ([] : List Int))))))))), w1, [a0, a1, a2, a3, a4, a5, a6, a7]) = some ([a0, a1, a2, a3, a4, a5, a6, a7], v) := h2
  rw [e2, bS]
  dsimp only
  have e3 : sha_mix_l3 ((0 : Int), [a0, a1, a2, a3, a4, a5, a6, a7], v) = some h' := h3
  rw [e3, bS]
  exact ⟨_, rfl⟩

theorem sha_right_is (a0 a1 a2 a3 a4 a5 a6 a7 : Int) (b : List UInt8) (n : Int) : ∃ r, sha_right a0 a1 a2 a3 a4 a5 a6 a7 b n = some r ∧ (r = true → 0 ≤ n ∧ n ≤ 1099511627776 ∧ (b.length : Int) = n % 64) := by
  refine ⟨(if (if (decide (n ≥ (0 : Int))) then (decide (n ≤ (1099511627776 : Int))) else false) then (((b).length : Int) == (arI .rem .i64 n (64 : Int))) else false), sha_right_of ?_, ?_⟩
  · unfold sha_right_b
    rw [grd (by rw [show ((64 : Int) != 0) = true from rfl, Bool.or_true])]
  · intro h
    by_cases h1 : n ≥ 0
    · by_cases h2 : n ≤ 1099511627776
      · rw [dT h1, dT h2] at h
        simp only [if_true] at h
        have h3 : (b.length : Int) = arI .rem .i64 n 64 := by simpa using h
        refine ⟨h1, h2, ?_⟩
        rw [h3]
        show n.tmod 64 = n % 64
        rw [Int.tmod_eq_emod_of_nonneg h1]
      · rw [dT h1, dF h2] at h
        simp at h
    · rw [dF h1] at h
      simp at h

theorem sha_Add_0 (n : Int) : ∀ (k : Nat) (all : List UInt8) (a0 a1 a2 a3 a4 a5 a6 a7 : Int), all.length ≤ 64 * k + 63 → all.length ≤ 4611686018427387904 →
    ∃ b0 b1 b2 b3 b4 b5 b6 b7 r, sha_Add_l0 (all, a0, a1, a2, a3, a4, a5, a6, a7, n) = some (b0, b1, b2, b3, b4, b5, b6, b7, n, r) ∧ r.length < 64 := by
  intro k
  induction k with
  | zero =>
    intro all a0 a1 a2 a3 a4 a5 a6 a7 hk hm
    refine ⟨a0, a1, a2, a3, a4, a5, a6, a7, all, ?_, by omega⟩
    rw [sha_Add_l0_eq, sha_Add_l0_F]
    dsimp only
    rw [cF (dF (by omega))]
  | succ k ih =>
    intro all a0 a1 a2 a3 a4 a5 a6 a7 hk hm
    by_cases hl : all.length < 64
    · refine ⟨a0, a1, a2, a3, a4, a5, a6, a7, all, ?_, by omega⟩
      rw [sha_Add_l0_eq, sha_Add_l0_F]
      dsimp only
      rw [cF (dF (by omega))]
    · obtain ⟨⟨c0, c1, c2, c3, c4, c5, c6, c7⟩, hr⟩ := sha_mix_is a0 a1 a2 a3 a4 a5 a6 a7 (b := sub all 0 64) (by rw [sub_zero]; simp; omega) (by rw [sub_zero]; simp; omega)
      obtain ⟨b0, b1, b2, b3, b4, b5, b6, b7, r, h1, h2⟩ := ih (sub all 64 (all.length : Int)) c0 c1 c2 c3 c4 c5 c6 c7 (by rw [sub_len]; simp; omega) (by rw [sub_len]; simp; omega)
      refine ⟨b0, b1, b2, b3, b4, b5, b6, b7, r, ?_, h2⟩
      rw [sha_Add_l0_eq, sha_Add_l0_F]
      dsimp only
      rw [cT (dT (by omega)), grd (aT (dT (by decide)) (aT (dT (by decide)) (dT (by omega)))), hr, bS]
      dsimp only
      rw [grd (aT (dT (by decide)) (aT (dT (by omega)) (dT (by omega))))]
      exact h1

theorem sha_Add_is (a0 a1 a2 a3 a4 a5 a6 a7 : Int) {b : List UInt8} (n : Int) {x : List UInt8} (hb : b.length ≤ 1000000) (hx : x.length ≤ 100000000) :
    ∃ b0 b1 b2 b3 b4 b5 b6 b7 m r, sha_Add a0 a1 a2 a3 a4 a5 a6 a7 b n x = some (b0, b1, b2, b3, b4, b5, b6, b7, m, r) ∧ r.length < 64 := by
  obtain ⟨q, hq, _⟩ := sha_right_is a0 a1 a2 a3 a4 a5 a6 a7 b n
  have hnew : sha_New = some ((1779033703 : Int), (3144134277 : Int), (1013904242 : Int), (2773480762 : Int), (1359893119 : Int), (2600822924 : Int), (528734635 : Int), (1541459225 : Int), (0 : Int), ([] : List UInt8)) := sha_New_of rfl
  have key : ∀ (c0 c1 c2 c3 c4 c5 c6 c7 m : Int) (y : List UInt8), y.length ≤ 1000000 → ∃ b0 b1 b2 b3 b4 b5 b6 b7 r, ((bif ((decide ((((([] : List UInt8) ++ y)).length : Int) ≤ (70368744177664 : Int))) && true) then (bif ((decide (((((([] : List UInt8) ++ y) ++ x)).length : Int) ≤ (70368744177664 : Int))) && true) then (((sha_Add_l0 (((([] : List UInt8) ++ y) ++ x), c0, c1, c2, c3, c4, c5, c6, c7, m)) : Option (Int × Int × Int × Int × Int × Int × Int × Int × Int × List UInt8)).bind fun s6 => (bif ((decide ((((([] : List UInt8) ++ s6.2.2.2.2.2.2.2.2.2)).length : Int) ≤ (70368744177664 : Int))) && true) then (some (s6.1, s6.2.1, s6.2.2.1, s6.2.2.2.1, s6.2.2.2.2.1, s6.2.2.2.2.2.1, s6.2.2.2.2.2.2.1, s6.2.2.2.2.2.2.2.1, s6.2.2.2.2.2.2.2.2.1, (([] : List UInt8) ++ s6.2.2.2.2.2.2.2.2.2))) else none)) else none) else none) : Option (Int × Int × Int × Int × Int × Int × Int × Int × Int × List UInt8)) = some (b0, b1, b2, b3, b4, b5, b6, b7, m, r) ∧ r.length < 64 := by
    intro c0 c1 c2 c3 c4 c5 c6 c7 m y hy
    obtain ⟨b0, b1, b2, b3, b4, b5, b6, b7, r, h1, h2⟩ := sha_Add_0 m 10000000 (([] ++ y) ++ x) c0 c1 c2 c3 c4 c5 c6 c7 (by simp; omega) (by simp; omega)
    refine ⟨b0, b1, b2, b3, b4, b5, b6, b7, [] ++ r, ?_, by simpa using h2⟩
    rw [grd (dT (by simp only [List.nil_append]; omega)), grd (dT (by simp only [List.nil_append, List.length_append]; omega)), h1, bS]
    dsimp only
    rw [grd (dT (by simp only [List.nil_append]; omega))]
  by_cases hc : (if (!q) then true else (decide ((W64 (n + ((x).length : Int))) > (1099511627776 : Int)))) = true
  · obtain ⟨b0, b1, b2, b3, b4, b5, b6, b7, r, h1, h2⟩ := key 1779033703 3144134277 1013904242 2773480762 1359893119 2600822924 528734635 1541459225 (W64 (0 + (x.length : Int))) [] (by simp)
    refine ⟨b0, b1, b2, b3, b4, b5, b6, b7, W64 (0 + (x.length : Int)), r, sha_Add_of ?_, h2⟩
    unfold sha_Add_b
    rw [hq, bS, cT hc, hnew, bS]
    dsimp only
    rw [bS]
    dsimp only
    exact h1
  · obtain ⟨b0, b1, b2, b3, b4, b5, b6, b7, r, h1, h2⟩ := key a0 a1 a2 a3 a4 a5 a6 a7 (W64 (n + (x.length : Int))) b hb
    refine ⟨b0, b1, b2, b3, b4, b5, b6, b7, W64 (n + (x.length : Int)), r, sha_Add_of ?_, h2⟩
    unfold sha_Add_b
    rw [hq, bS, cF (by simpa using hc), bS]
    dsimp only
    exact h1

theorem rem64 {x : Int} (h : 0 ≤ x) : arI .rem .i64 x 64 = x % 64 := by
  show x.tmod 64 = x % 64
  rw [Int.tmod_eq_emod_of_nonneg h]

theorem sha_End_0 (n : Int) (hn0 : 0 ≤ n) (hn : n ≤ 1099511627776) (c a0 a1 a2 a3 a4 a5 a6 a7 : Int) (b : List UInt8) : ∀ (k : Nat) (tail : List UInt8), 0 < tail.length → tail.length + k ≤ 1000 → (n + ((tail.length + k : Nat) : Int) + 8) % 64 = 0 →
    ∃ t, sha_End_l0 (tail, c, a0, a1, a2, a3, a4, a5, a6, a7, b, n) = some (t, c, a0, a1, a2, a3, a4, a5, a6, a7, b) ∧ t.length ≤ 1000 ∧ (n + (t.length : Int) + 8) % 64 = 0 ∧ 0 < t.length := by
  intro k
  induction k with
  | zero =>
    intro tail h0 h1 h2
    refine ⟨tail, ?_, by omega, by simpa using h2, h0⟩
    rw [sha_End_l0_eq, sha_End_l0_F]
    dsimp only
    have e : W64 (W64 (n + (tail.length : Int)) + 8) = n + (tail.length : Int) + 8 := by rw [W64_in (x := n + (tail.length : Int)) (by omega) (by omega), W64_in (by omega) (by omega)]
    rw [e, rem64 (by omega)]
    have hz : ((n + (tail.length : Int) + 8) % 64 != 0) = false := by simp only [bne_eq_false_iff_eq]; simpa using h2
    rw [grd (by decide), cF hz]
  | succ k ih =>
    intro tail h0 h1 h2
    have e : W64 (W64 (n + (tail.length : Int)) + 8) = n + (tail.length : Int) + 8 := by rw [W64_in (x := n + (tail.length : Int)) (by omega) (by omega), W64_in (by omega) (by omega)]
    by_cases hz : ((n + (tail.length : Int) + 8) % 64 != 0) = true
    · obtain ⟨t, g1, g2⟩ := ih (tail ++ ([(0 : UInt8)] ++ ([] : List UInt8))) (by simp) (by simp; omega) (by
        have : (tail ++ ([(0 : UInt8)] ++ ([] : List UInt8))).length + k = tail.length + (k + 1) := by simp; omega
        rw [this]; exact h2)
      refine ⟨t, ?_, g2⟩
      rw [sha_End_l0_eq, sha_End_l0_F]
      dsimp only
      rw [e, rem64 (by omega), grd (by decide), cT hz, grd (dT (by simp only [List.length_append, List.length_cons, List.length_nil]; omega))]
      exact g1
    · have hz' : ((n + (tail.length : Int) + 8) % 64 != 0) = false := by simpa using hz
      refine ⟨tail, ?_, by omega, by simpa using hz', h0⟩
      rw [sha_End_l0_eq, sha_End_l0_F]
      dsimp only
      rw [e, rem64 (by omega), grd (by decide), cF hz']

theorem sha_End_1 (c a0 a1 a2 a3 a4 a5 a6 a7 : Int) (b : List UInt8) : ∀ (k : Nat) (t : List UInt8), k ≤ 8 → t.length + k ≤ 3000 → ∃ t', sha_End_l1 ((k : Int) * 8 - 8, t, c, a0, a1, a2, a3, a4, a5, a6, a7, b) = some (a0, a1, a2, a3, a4, a5, a6, a7, t', b) ∧ t'.length = t.length + k := by
  intro k
  induction k with
  | zero =>
    intro t _ ht
    refine ⟨t, ?_, rfl⟩
    rw [sha_End_l1_eq, sha_End_l1_F]
    dsimp only
    rw [cF (dF (by omega))]
  | succ k ih =>
    intro t hk ht
    obtain ⟨t', h1, h2⟩ := ih (t ++ ([(o8 (IntKind.wrap .u8 (arI .shr .u64 c (((k + 1 : Nat) : Int) * 8 - 8))))] ++ ([] : List UInt8))) (by omega) (by simp; omega)
    refine ⟨t', ?_, by rw [h2]; simp; omega⟩
    rw [sha_End_l1_eq, sha_End_l1_F]
    dsimp only
    have e : W64 (((k + 1 : Nat) : Int) * 8 - 8 - 8) = (k : Int) * 8 - 8 := by rw [W64_in (by omega) (by omega)]; omega
    rw [cT (dT (by omega)), grd (dT (by omega)), grd (dT (by simp only [List.length_append, List.length_cons, List.length_nil]; omega)), e]
    exact h1

theorem sha_End_2 : ∀ (k : Nat) (all : List UInt8) (a0 a1 a2 a3 a4 a5 a6 a7 : Int), all.length = 64 * k → all.length ≤ 4611686018427387904 → ∃ r, sha_End_l2 (all, a0, a1, a2, a3, a4, a5, a6, a7) = some r := by
  intro k
  induction k with
  | zero =>
    intro all a0 a1 a2 a3 a4 a5 a6 a7 hk hm
    refine ⟨(a0, a1, a2, a3, a4, a5, a6, a7), ?_⟩
    rw [sha_End_l2_eq, sha_End_l2_F]
    dsimp only
    rw [cF (dF (by omega))]
  | succ k ih =>
    intro all a0 a1 a2 a3 a4 a5 a6 a7 hk hm
    obtain ⟨⟨c0, c1, c2, c3, c4, c5, c6, c7⟩, hr⟩ := sha_mix_is a0 a1 a2 a3 a4 a5 a6 a7 (b := sub all 0 64) (by rw [sub_zero]; simp; omega) (by rw [sub_zero]; simp; omega)
    obtain ⟨r, h1⟩ := ih (sub all 64 (all.length : Int)) c0 c1 c2 c3 c4 c5 c6 c7 (by rw [sub_len]; simp; omega) (by rw [sub_len]; simp; omega)
    refine ⟨r, ?_⟩
    rw [sha_End_l2_eq, sha_End_l2_F]
    dsimp only
    rw [cT (dT (by omega)), grd (aT (dT (by decide)) (aT (dT (by decide)) (dT (by omega)))), hr, bS]
    dsimp only
    rw [grd (aT (dT (by decide)) (aT (dT (by omega)) (dT (by omega))))]
    exact h1

theorem sha_End_3 (a0 a1 a2 a3 a4 a5 a6 a7 : Int) : ∀ (k i : Nat) (out : List UInt8), i + k = 8 → out.length = 4 * i → ∃ r, sha_End_l3 ((i : Int), out, a0, a1, a2, a3, a4, a5, a6, a7) = some r ∧ r.length = 32 := by
  intro k
  induction k with
  | zero =>
    intro i out hk ho
    refine ⟨out, ?_, by omega⟩
    rw [sha_End_l3_eq, sha_End_l3_F]
    dsimp only
    rw [cF (dF (by omega))]
  | succ k ih =>
    intro i out hk ho
    have e4 : W64 ((i : Int) + 1) = ((i + 1 : Nat) : Int) := by rw [W64_in (by omega) (by omega)]; omega
    rw [sha_End_l3_eq, sha_End_l3_F]
    dsimp only
    rw [e4, cT (dT (by omega)), grd (aT (dT (by omega)) (dT (by omega))), grd (dT (by decide)), grd (dT (by decide)), grd (dT (by decide)), grd (dT (by simp only [List.length_append, List.length_cons, List.length_nil]; omega))]
    exact ih (i + 1) _ (by omega) (by simp; omega)

theorem sha_End_is (a0 a1 a2 a3 a4 a5 a6 a7 : Int) (b : List UInt8) (n : Int) (hb : b.length ≤ 1000000) : ∃ r, sha_End a0 a1 a2 a3 a4 a5 a6 a7 b n = some r ∧ r.length = 32 := by
  obtain ⟨q, hq, hr⟩ := sha_right_is a0 a1 a2 a3 a4 a5 a6 a7 b n
  have hnew : sha_New = some ((1779033703 : Int), (3144134277 : Int), (1013904242 : Int), (2773480762 : Int), (1359893119 : Int), (2600822924 : Int), (528734635 : Int), (1541459225 : Int), (0 : Int), ([] : List UInt8)) := sha_New_of rfl
  obtain ⟨c0, c1, c2, c3, c4, c5, c6, c7, y, m, hs, hm0, hm1, hy⟩ : ∃ c0 c1 c2 c3 c4 c5 c6 c7 y m, (((sha_right a0 a1 a2 a3 a4 a5 a6 a7 b n).bind fun r0 => (bif (!r0) then ((sha_New).bind fun r1 => (some (r1.1, r1.2.1, r1.2.2.1, r1.2.2.2.1, r1.2.2.2.2.1, r1.2.2.2.2.2.1, r1.2.2.2.2.2.2.1, r1.2.2.2.2.2.2.2.1, r1.2.2.2.2.2.2.2.2.2, r1.2.2.2.2.2.2.2.2.1))) else (some (a0, a1, a2, a3, a4, a5, a6, a7, b, n)))) : Option (Int × Int × Int × Int × Int × Int × Int × Int × List UInt8 × Int)) = some (c0, c1, c2, c3, c4, c5, c6, c7, y, m) ∧ 0 ≤ m ∧ m ≤ 1099511627776 ∧ (y.length : Int) = m % 64 := by
    cases q with
    | true =>
      obtain ⟨h1, h2, h3⟩ := hr rfl
      exact ⟨a0, a1, a2, a3, a4, a5, a6, a7, b, n, by rw [hq, bS]; rfl, h1, h2, h3⟩
    | false => exact ⟨_, _, _, _, _, _, _, _, [], 0, by rw [hq, bS, hnew]; rfl, by omega, by omega, rfl⟩
  have hyl : y.length < 64 := by omega
  -- how many zeros
  obtain ⟨k, hk1, hk2⟩ : ∃ k : Nat, k < 64 ∧ (m + ((1 + k : Nat) : Int) + 8) % 64 = 0 := ⟨((64 - (m + 9) % 64) % 64).toNat, by omega, by omega⟩
  obtain ⟨t, g1, g2, g3, g4⟩ := sha_End_0 m hm0 hm1 (arI .mul .u64 (IntKind.wrap .u64 m) 8) c0 c1 c2 c3 c4 c5 c6 c7 y k ([128] ++ []) (by simp) (by simp; omega) (by simpa using hk2)
  obtain ⟨t', g5, g6⟩ := sha_End_1 (arI .mul .u64 (IntKind.wrap .u64 m) 8) c0 c1 c2 c3 c4 c5 c6 c7 y 8 t (by omega) (by omega)
  obtain ⟨⟨d0, d1, d2, d3, d4, d5, d6, d7⟩, g7⟩ := sha_End_2 ((y.length + t'.length) / 64) (([] ++ y) ++ t') c0 c1 c2 c3 c4 c5 c6 c7 (by simp only [List.nil_append, List.length_append]; omega) (by simp; omega)
  obtain ⟨r, g8, g9⟩ := sha_End_3 d0 d1 d2 d3 d4 d5 d6 d7 8 0 [] (by omega) rfl
  refine ⟨r, sha_End_of ?_, g9⟩
  unfold sha_End_b
  rw [hs, bS]
  dsimp only
  rw [g1, bS]
  dsimp only
  have g5' : sha_End_l1 (56, t, (arI .mul .u64 (IntKind.wrap .u64 m) 8), c0, c1, c2, c3, c4, c5, c6, c7, y) = some (c0, c1, c2, c3, c4, c5, c6, c7, t', y) := g5
  rw [g5', bS]
  dsimp only
  rw [grd (dT (by simp only [List.nil_append]; omega)), grd (dT (by simp only [List.nil_append, List.length_append]; omega)), g7, bS]
  dsimp only
  have g8' : sha_End_l3 (0, [], d0, d1, d2, d3, d4, d5, d6, d7) = some r := g8
  rw [g8', bS]

/-- The sum. -/
noncomputable def shaOf (b : List UInt8) : List UInt8 := (sha_Sum b).getD []

theorem sha_Sum_ok {b : List UInt8} (hb : b.length ≤ 100000000) : sha_Sum b = some (shaOf b) ∧ (shaOf b).length = 32 := by
  have : ∃ r, sha_Sum b = some r ∧ r.length = 32 := by
    obtain ⟨b0, b1, b2, b3, b4, b5, b6, b7, m, y, h1, h2⟩ := sha_Add_is 1779033703 3144134277 1013904242 2773480762 1359893119 2600822924 528734635 1541459225 (b := []) 0 (x := b) (by simp) hb
    obtain ⟨r, h3, h4⟩ := sha_End_is b0 b1 b2 b3 b4 b5 b6 b7 y m (by omega)
    have hnew : sha_New = some ((1779033703 : Int), (3144134277 : Int), (1013904242 : Int), (2773480762 : Int), (1359893119 : Int), (2600822924 : Int), (528734635 : Int), (1541459225 : Int), (0 : Int), ([] : List UInt8)) := sha_New_of rfl
    refine ⟨r, sha_Sum_of ?_, h4⟩
    unfold sha_Sum_b
    rw [hnew, bS]
    dsimp only
    rw [h1, bS]
    dsimp only
    rw [h3, bS]
  obtain ⟨r, h1, h2⟩ := this
  unfold shaOf
  rw [h1]
  exact ⟨rfl, h2⟩

end Rk
