/- The plain part: what the functions answer. No condition. -/
import Derived.Test.YtgofefjfckocbaaDoorPu18d
set_option linter.unusedVariables false
set_option linter.unusedSimpArgs false
namespace Rk
open Go

/-! ### What went wrong, stays so -/

theorem num_bad {B : List UInt8} {At E : Int} (h : E ≠ 0) : code_ReadNum B At E = some (B, At, E, 0) := by
  refine code_ReadNum_of ?_
  unfold code_ReadNum_b
  rw [code_open_bad h, bS]
  rfl

theorem text_bad {B : List UInt8} {At E most : Int} (h : E ≠ 0) : code_ReadText B At E most = some (B, At, E, []) := by
  refine code_ReadText_of ?_
  unfold code_ReadText_b
  have e : (E == (0 : Int)) = false := by simpa using h
  have hc : code_count B At E most = some (B, At, E, 0) := by
    refine code_count_of ?_
    unfold code_count_b
    rw [num_bad h, bS]
    dsimp only
    rw [cF (by rw [e]; rfl)]
  rw [hc, bS]
  dsimp only
  have e2 : (E != (0 : Int)) = true := by simpa using h
  rw [cT e2]

theorem rhead_bad {B : List UInt8} {At E : Int} (h : E ≠ 0) : reply_reader_head B At E = some (0, [], [], B, At, E) := by
  refine reply_reader_head_of ?_
  unfold reply_reader_head_b
  rw [show reply_reader_text 10000 B At E = some ([], B, At, E) from reply_reader_text_of (by unfold reply_reader_text_b; rw [text_bad h, bS]), bS]
  dsimp only
  rw [cT (by simpa using h)]

theorem rnum_bad {B : List UInt8} {At E : Int} (h : E ≠ 0) : reply_reader_num B At E = some (0, B, At, E) :=
  reply_reader_num_of (by unfold reply_reader_num_b; rw [num_bad h, bS])

theorem rtext_bad {B : List UInt8} {At E most : Int} (h : E ≠ 0) : reply_reader_text most B At E = some ([], B, At, E) :=
  reply_reader_text_of (by unfold reply_reader_text_b; rw [text_bad h, bS])

theorem rpath_bad {B : List UInt8} {At E : Int} (h : E ≠ 0) : reply_reader_path B At E = some (B, At, E, []) := by
  refine reply_reader_path_of ?_
  unfold reply_reader_path_b
  rw [show reply_reader_many 64 B At E = some (0, B, At, E) from reply_reader_many_of (by
    unfold reply_reader_many_b
    rw [rnum_bad h, bS]
    dsimp only
    rw [cF (dF (by omega))]), bS]
  dsimp only
  rw [reply_reader_path_l0_eq]
  dsimp only
  rw [cF (dF (by omega))]

theorem rend_bad {B : List UInt8} {At E : Int} (h : E ≠ 0) : reply_reader_end B At E = some (E, B, At, E) := by
  refine reply_reader_end_of ?_
  unfold reply_reader_end_b
  rw [cT (by simpa using h)]

/-! ### The examples -/

theorem iteA3 {c a : Bool} : (bif c && true then some a else some false) = some (c && a) := by cases c <;> rfl

theorem knows18_ok : law18_knows = some true := by
  obtain ⟨h1, h2⟩ := sha_Sum_ok (b := []) (by simp)
  generalize shaOf [] = d at h1 h2
  have hr : headR 0 d [] = true := by simp [headR, rowL, rowS, h2]
  have hok : ansOk 0 d [] [] = true := by simp [ansOk, hr]
  have hE : encH 0 d [] = 0 :: (d ++ [0]) := by
    simp only [encH, Int.toNat_zero, List.length_nil, List.flatMap_nil, List.append_nil]
    rw [encN_lt (by omega)]
    rfl
  have hA : encA 0 d [] [] = 1 :: 34 :: 0 :: (d ++ [0]) := by
    simp only [encA, List.flatMap_nil, List.append_nil, encT, hE]
    have : (0 :: (d ++ [0]) : List UInt8).length = 34 := by simp [h2]
    rw [this, encN_lt (by omega)]
    rfl
  have hlen : (encA 0 d [] []).length = 36 := by rw [hA]; simp [h2]
  have hw := WriteAnswer_ok 0 d [] [] (by simp) (by simp) (by simp)
  have ho : outW (ansOk 0 d [] []) (encA 0 d [] []) = (encA 0 d [] [], 0) := by
    rw [hok, outW, if_pos rfl, if_neg (by omega)]
  rw [ho] at hw
  have hread := ReadAnswer_back hok (by omega)
  obtain ⟨E0, p0, _⟩ := ropen_ex (B := encA 0 d [] []) 2 (by omega)
  have hE2 : E0 = 2 := by
    have : reply_open (encA 0 d [] []) 2 = some (encA 0 d [] [], 1, 2) := by
      refine reply_open_of ?_
      rw [hA]
      unfold reply_open_b
      rw [cF (dF (by simp [h2])), cF (by simp; omega), grd (aT (dT (by omega)) (dT (by simp; omega))), cT (by rfl), bS, bS, bS]
    rw [this] at p0
    simp only [Option.some.injEq, Prod.mk.injEq, true_and] at p0
    exact p0.symm
  subst hE2
  have hpage : reply_ReadPage (encA 0 d [] []) = some (0, [], [], 0, [], [], 2) := by
    refine reply_ReadPage_of ?_
    unfold reply_ReadPage_b
    rw [p0, bS]
    dsimp only
    rw [rhead_bad (by decide), bS]
    dsimp only
    rw [rnum_bad (by decide), bS]
    dsimp only
    rw [rtext_bad (by decide), bS]
    dsimp only
    rw [rpath_bad (by decide), bS]
    dsimp only
    rw [rend_bad (by decide), bS]
    rfl
  refine law18_knows_of ?_
  unfold law18_knows_b
  rw [h1, bS, hw, bS]
  dsimp only
  rw [hread, bS, hpage, bS]
  dsimp only
  have e36 : (((encA 0 d [] []).length : Int) == 36) = true := by rw [hlen]; rfl
  have i0 : idx (0 : UInt8) (encA 0 d [] []) 0 = 1 := by rw [hA]; rfl
  have i1 : idx (0 : UInt8) (encA 0 d [] []) 1 = 34 := by rw [hA]; rfl
  rw [e36, i0, i1, hlen]
  rw [grd (by rfl), grd (by rfl)]
  simp
  exact ⟨rfl, rfl⟩

/-! ### What is too great, and the document's checks -/

theorem law06_Great_loop (l : List (List UInt8)) (hm : l.length ≤ 9223372036854775807) : ∀ (k i : Nat), i + k = l.length → ∃ g, law06_Great_l0 ((i : Int), l) = some g ∧ (g = false → l.length ≤ 100 ∧ ∀ s ∈ l.drop i, s.length ≤ 100) := by
  intro k
  induction k with
  | zero =>
    intro i hk
    refine ⟨decide ((l.length : Int) > 100), ?_, fun h => ?_⟩
    · rw [law06_Great_l0_eq]
      dsimp only
      rw [cF (dF (by omega))]
    · rw [List.drop_eq_nil_iff.2 (by omega)]
      have := of_decide_eq_false h
      exact ⟨by omega, by simp⟩
  | succ k ih =>
    intro i hk
    have hi : i < l.length := by omega
    have hW : W64 ((i : Int) + 1) = ((i + 1 : Nat) : Int) := by rw [W64_in (by omega) (by omega)]; omega
    by_cases hg : (l[i]).length ≤ 100
    · obtain ⟨g, h1, h2⟩ := ih (i + 1) (by omega)
      refine ⟨g, ?_, fun h => ?_⟩
      · rw [law06_Great_l0_eq]
        dsimp only
        rw [cT (dT (by omega)), grd (aT (dT (by omega)) (dT (by omega))), idx_nat hi, cF (dF (by omega)), hW, h1]
      · obtain ⟨q1, q2⟩ := h2 h
        refine ⟨q1, fun s hs => ?_⟩
        rw [List.drop_eq_getElem_cons hi] at hs
        rcases List.mem_cons.1 hs with hs | hs
        · rw [hs]; exact hg
        · exact q2 s hs
    · refine ⟨true, ?_, fun h => by simp at h⟩
      rw [law06_Great_l0_eq]
      dsimp only
      rw [cT (dT (by omega)), grd (aT (dT (by omega)) (dT (by omega))), idx_nat hi, cT (dT (by omega))]

theorem law06_Great_ok {l : List (List UInt8)} (hm : l.length ≤ 9223372036854775807) : ∃ g, law06_Great l = some g ∧ (g = false → l.length ≤ 100 ∧ ∀ s ∈ l, s.length ≤ 100) := by
  obtain ⟨g, h1, h2⟩ := law06_Great_loop l hm l.length 0 (by omega)
  refine ⟨g, law06_Great_of ?_, by simpa using h2⟩
  unfold law06_Great_b
  exact h1

theorem ref06_Right_loop (l : List (List UInt8)) (hm : l.length ≤ 9223372036854775807) : ∀ (k i : Nat), i + k = l.length → ref06_Right_l0 ((i : Int), l) = some ((l.drop i).all fun d => decide (d.length = 32)) := by
  intro k
  induction k with
  | zero =>
    intro i hk
    rw [ref06_Right_l0_eq]
    dsimp only
    rw [cF (dF (by omega)), List.drop_eq_nil_iff.2 (by omega)]
    rfl
  | succ k ih =>
    intro i hk
    have hi : i < l.length := by omega
    have hW : W64 ((i : Int) + 1) = ((i + 1 : Nat) : Int) := by rw [W64_in (by omega) (by omega)]; omega
    rw [ref06_Right_l0_eq]
    dsimp only
    rw [cT (dT (by omega)), grd (aT (dT (by omega)) (dT (by omega))), idx_nat hi, hW, ih (i + 1) (by omega), List.drop_eq_getElem_cons hi, List.all_cons]
    by_cases h32 : (l[i]).length = 32
    · rw [cF (by rw [h32]; rfl), dT h32, Bool.true_and]
    · rw [cT (by simp only [bne_iff_ne, ne_eq]; omega), dF h32, Bool.false_and]

theorem ref18_paths_ok {l : List (List UInt8)} (hm : l.length ≤ 9223372036854775807) : ref18_paths l = some (pathOk l) := by
  refine ref18_paths_of ?_
  unfold ref18_paths_b
  have h := ref06_Right_loop l hm l.length 0 (by omega)
  rw [List.drop_zero] at h
  have h' : ref06_Right l = some (l.all fun d => decide (d.length = 32)) := ref06_Right_of h
  have e : decide ((l.length : Int) ≤ 64) = decide (l.length ≤ 64) := by rw [Bool.eq_iff_iff]; simp only [decide_eq_true_eq]; omega
  rw [h', iteA3, bS, e]
  simp only [iteA, pathOk]
  cases decide (l.length ≤ 64) <;> simp

theorem ref18_path_loop (l : List (List UInt8)) (hl : l.length ≤ 64) (hs : ∀ d ∈ l, d.length = 32) : ∀ (k i : Nat) (b : List UInt8), i + k = l.length → b.length ≤ 100 + 32 * i → ref18_path_l0 ((i : Int), b, l) = some (b ++ (l.drop i).flatten) := by
  intro k
  induction k with
  | zero =>
    intro i b hk hb
    rw [ref18_path_l0_eq]
    dsimp only
    rw [cF (dF (by omega)), List.drop_eq_nil_iff.2 (by omega)]
    simp
  | succ k ih =>
    intro i b hk hb
    have hi : i < l.length := by omega
    have hW : W64 ((i : Int) + 1) = ((i + 1 : Nat) : Int) := by rw [W64_in (by omega) (by omega)]; omega
    have h32 := hs _ (List.getElem_mem hi)
    rw [ref18_path_l0_eq]
    dsimp only
    rw [cT (dT (by omega)), grd (aT (dT (by omega)) (dT (by omega))), idx_nat hi, grd (dT (by simp only [List.length_append]; omega)), hW, ih (i + 1) _ (by omega) (by simp; omega), List.drop_eq_getElem_cons hi, List.flatten_cons, List.append_assoc]

theorem ref18_path_ok {l : List (List UInt8)} (h : pathOk l = true) : ref18_path l = some (encP l) := by
  obtain ⟨h1, h2⟩ := pathOk_of h
  have e2 := encN_9 (v := l.length) (by omega)
  refine ref18_path_of ?_
  unfold ref18_path_b
  have e3 : ref02_Num ((l.length : Nat) : Int) = some (encN l.length) := by
    have := ref02_Num_ok' (x := ((l.length : Nat) : Int)) (by omega) (by omega)
    rw [Int.toNat_natCast] at this
    exact this
  have h3 := ref18_path_loop l h1 h2 l.length 0 (encN l.length) (by omega) (by omega)
  rw [List.drop_zero] at h3
  have h3' : ref18_path_l0 (0, encN l.length, l) = some (encN l.length ++ l.flatten) := h3
  rw [e3, bS, h3', bS]
  rfl

theorem ref18_head_ok {z : Int} {g : List UInt8} {l : List Sg} (h : headR z g l = true) : ref18_head z g l = some (encT (encH z g l)) := by
  have hl := encH_len h
  refine ref18_head_of ?_
  unfold ref18_head_b
  rw [ref15_Write_ok h, bS, ref02_Text_ok (by omega), bS]

theorem flat32 : ∀ (l : List (List UInt8)), (∀ d ∈ l, d.length = 32) → l.flatten.length = 32 * l.length
  | [], _ => rfl
  | d :: l, h => by
    have h1 := h d (by simp)
    have h2 := flat32 l (fun x hx => h x (by simp [hx]))
    simp only [List.flatten_cons, List.length_append, List.length_cons]
    omega

theorem encP_len {l : List (List UInt8)} (h : pathOk l = true) : (encP l).length ≤ 2057 := by
  obtain ⟨h1, h2⟩ := pathOk_of h
  have e2 := encN_9 (v := l.length) (by omega)
  have := flat32 l h2
  simp only [encP, List.length_append]
  omega

/-! ### Pages and steps -/

theorem L_ReplyPages (x0 : Int) (x1 : List UInt8) (x2 : List Sg) (x3 : Int) (x4 : List UInt8) (x5 : List (List UInt8)) (w0 : WF (.int .i64) x0) (w1 : WF .str x1) (w2 : WF (.lst (.pair (.int .i64) (.pair (.int .i64) (.pair (.int .i64) .str)))) x2) (w3 : WF (.int .i64) x3) (w4 : WF (.lst (.int .u8)) x4) (w5 : WF (.lst .str) x5) :
    law18_ReplyPages x0 x1 x2 x3 x4 x5 = some true := by
  have m2 : x2.length ≤ 9223372036854775807 := by have : x2.length ≤ maxLen := w2.1; unfold maxLen at this; omega
  have m5 : x5.length ≤ 9223372036854775807 := by have : x5.length ≤ maxLen := w5.1; unfold maxLen at this; omega
  obtain ⟨r0, h0, g0⟩ := law15_Great_ok (z := x0) (g := x1) m2
  obtain ⟨r1, h1, g1⟩ := law06_Great_ok m5
  refine law18_ReplyPages_of ?_
  unfold law18_ReplyPages_b
  rw [h0, bS, h1, iteA3, bS]
  simp only [iteO, iteA]
  by_cases hg : ((r0 || decide ((x4.length : Int) > 3000)) || (!(r0 || decide ((x4.length : Int) > 3000)) && r1)) = true
  · rw [cT hg, knows18_ok, bS]
  · rw [cF (by simpa using hg)]
    simp only [Bool.or_eq_true, Bool.and_eq_true, Bool.not_eq_true', decide_eq_true_eq, not_or, not_and, Bool.not_eq_true] at hg
    obtain ⟨⟨hr0, hdoc⟩, hr1⟩ := hg
    have hr1' : r1 = false := hr1 (by simp [hr0]; omega)
    obtain ⟨l1, l2, l3⟩ := g0 hr0
    obtain ⟨p1, p2⟩ := g1 hr1'
    have hw := WritePage_ok x0 x1 x2 x3 x4 x5 (by omega) (by omega) (fun d hd => by have := p2 d hd; omega)
    have hAs : law18_AsPage x0 x1 x2 x3 x4 x5 = some (x0, x1, x2, x3, x4, x5) := law18_AsPage_of (by unfold law18_AsPage_b; rw [law15_As_ok (by omega), bS])
    have hF : ref18_FairPage x0 x1 x2 x3 x4 x5 = some (pageOk x0 x1 x2 x3 x4 x5) := by
      refine ref18_FairPage_of ?_
      unfold ref18_FairPage_b
      have e : decide ((x4.length : Int) ≤ 2000) = decide (x4.length ≤ 2000) := by rw [Bool.eq_iff_iff]; simp only [decide_eq_true_eq]; omega
      rw [ref15_Right_ok _ _ _ m2, bS, ref18_paths_ok m5, iteA3, bS, e]
      simp only [iteA, pageOk, numOk, ge_iff_le]
      cases headR x0 x1 x2 <;> cases decide (0 ≤ x3) <;> cases decide (x3 ≤ 4611686018427387904) <;> cases decide (x4.length ≤ 2000) <;> cases pathOk x5 <;> rfl
    rw [hw, bS, hAs, bS]
    dsimp only
    rw [hF, bS]
    cases hok : pageOk x0 x1 x2 x3 x4 x5 with
    | false =>
      rw [cT (by rfl), show outW false (encG x0 x1 x2 x3 x4 x5) = ([], 1) from rfl]
      rw [knows18_ok]
      rfl
    | true =>
      have hok' := hok
      simp only [pageOk, numOk, Bool.and_eq_true, decide_eq_true_eq] at hok'
      obtain ⟨q1, ⟨q2, q3⟩, q4, q5⟩ := hok'
      have e1 := encH_len q1
      have e2 := encT_len (s := encH x0 x1 x2) (by omega)
      have e3 := encN_9 (v := x3.toNat) (by omega)
      have e4 := encT_len (s := x4) (by omega)
      have e5 := encP_len q5
      have hlen : (encG x0 x1 x2 x3 x4 x5).length ≤ 10000 := by
        simp only [encG, List.length_append, List.length_cons, List.length_nil]
        omega
      have ho : outW true (encG x0 x1 x2 x3 x4 x5) = (encG x0 x1 x2 x3 x4 x5, 0) := by rw [outW, if_pos rfl, if_neg (by omega)]
      have hW : ref18_WritePage x0 x1 x2 x3 x4 x5 = some (encG x0 x1 x2 x3 x4 x5) := by
        refine ref18_WritePage_of ?_
        unfold ref18_WritePage_b
        rw [ref18_head_ok q1, bS, grd (dT (by simp only [List.length_append, List.length_cons, List.length_nil]; omega)), ref02_Num_ok' q2 q3, bS, grd (dT (by simp only [List.length_append, List.length_cons, List.length_nil]; omega)), ref02_Text_ok (by omega), bS,
          grd (dT (by simp only [List.length_append, List.length_cons, List.length_nil]; omega)), ref18_path_ok q5, bS, grd (dT (by simp only [List.length_append, List.length_cons, List.length_nil]; omega))]
        simp [encG]
      have hS : ref18_SamePage x0 x1 x2 x3 x4 x5 x0 x1 x2 x3 x4 x5 = some true := by
        refine ref18_SamePage_of ?_
        unfold ref18_SamePage_b
        rw [ref15_Same_ok m2, bS, ref02_Same_ok m5, iteA3, bS]
        simp
      rw [cF (by rfl), ho]
      dsimp only
      rw [ReadPage_back hok (by omega), bS, bS]
      dsimp only
      rw [hW, bS]
      simp only [beq_self_eq_true, Bool.and_self, cond_true]
      rw [hAs, bS, bS]
      dsimp only
      rw [hS, bS]
      simp only [Bool.and_self, cond_true]
      rw [knows18_ok, bS]
      rfl

theorem L_ReplySteps (x0 : Int) (x1 : List UInt8) (x2 : List Sg) (x3 : Int) (x4 : List UInt8) (x5 : List Sg) (x6 : List (List UInt8)) (w0 : WF (.int .i64) x0) (w1 : WF .str x1) (w2 : WF (.lst (.pair (.int .i64) (.pair (.int .i64) (.pair (.int .i64) .str)))) x2) (w3 : WF (.int .i64) x3) (w4 : WF .str x4) (w5 : WF (.lst (.pair (.int .i64) (.pair (.int .i64) (.pair (.int .i64) .str)))) x5) (w6 : WF (.lst .str) x6) :
    law18_ReplySteps x0 x1 x2 x3 x4 x5 x6 = some true := by
  have m2 : x2.length ≤ 9223372036854775807 := by have : x2.length ≤ maxLen := w2.1; unfold maxLen at this; omega
  have m5 : x5.length ≤ 9223372036854775807 := by have : x5.length ≤ maxLen := w5.1; unfold maxLen at this; omega
  have m6 : x6.length ≤ 9223372036854775807 := by have : x6.length ≤ maxLen := w6.1; unfold maxLen at this; omega
  obtain ⟨r0, h0, g0⟩ := law15_Great_ok (z := x0) (g := x1) m2
  obtain ⟨r1, h1, g1⟩ := law15_Great_ok (z := x3) (g := x4) m5
  obtain ⟨r2, h2, g2⟩ := law06_Great_ok m6
  refine law18_ReplySteps_of ?_
  unfold law18_ReplySteps_b
  rw [h0, bS, h1, iteA3, bS, h2, iteA3, bS]
  simp only [iteO, iteA]
  by_cases hg : ((r0 || (!r0 && r1)) || (!(r0 || (!r0 && r1)) && r2)) = true
  · rw [cT hg, knows18_ok, bS]
  · rw [cF (by simpa using hg)]
    have hg' : ((r0 || (!r0 && r1)) || (!(r0 || (!r0 && r1)) && r2)) = false := by simpa using hg
    have hr0 : r0 = false := by cases r0 <;> simp_all
    have hr1 : r1 = false := by cases r1 <;> simp_all
    have hr2 : r2 = false := by cases r2 <;> simp_all
    obtain ⟨l1, l2, l3⟩ := g0 hr0
    obtain ⟨k1, k2, k3⟩ := g1 hr1
    obtain ⟨p1, p2⟩ := g2 hr2
    have hw := WriteStep_ok x0 x1 x2 x3 x4 x5 x6 (by omega) (fun d hd => by have := p2 d hd; omega)
    have hAs : law18_AsStep x0 x1 x2 x3 x4 x5 x6 = some (x0, x1, x2, x3, x4, x5, x6) := law18_AsStep_of (by unfold law18_AsStep_b; rw [law15_As_ok (by omega), bS, law15_As_ok (by omega), bS])
    have hF : ref18_FairStep x0 x1 x2 x3 x4 x5 x6 = some (stepOk x0 x1 x2 x3 x4 x5 x6) := by
      refine ref18_FairStep_of ?_
      unfold ref18_FairStep_b
      rw [ref15_Right_ok _ _ _ m2, bS, ref15_Right_ok _ _ _ m5, iteA3, bS, ref18_paths_ok m6, iteA3, bS]
      simp only [iteA, stepOk]
      cases headR x0 x1 x2 <;> cases headR x3 x4 x5 <;> cases pathOk x6 <;> rfl
    rw [hw, bS, hAs, bS]
    dsimp only
    rw [hF, bS]
    cases hok : stepOk x0 x1 x2 x3 x4 x5 x6 with
    | false =>
      rw [cT (by rfl), show outW false (encE x0 x1 x2 x3 x4 x5 x6) = ([], 1) from rfl]
      rw [knows18_ok]
      rfl
    | true =>
      have hok' := hok
      simp only [stepOk, Bool.and_eq_true] at hok'
      obtain ⟨q1, q2, q5⟩ := hok'
      have e1 := encH_len q1
      have e2 := encT_len (s := encH x0 x1 x2) (by omega)
      have e3 := encH_len q2
      have e4 := encT_len (s := encH x3 x4 x5) (by omega)
      have e5 := encP_len q5
      have hlen : (encE x0 x1 x2 x3 x4 x5 x6).length ≤ 10000 := by
        simp only [encE, List.length_append, List.length_cons, List.length_nil]
        omega
      have ho : outW true (encE x0 x1 x2 x3 x4 x5 x6) = (encE x0 x1 x2 x3 x4 x5 x6, 0) := by rw [outW, if_pos rfl, if_neg (by omega)]
      have hW : ref18_WriteStep x0 x1 x2 x3 x4 x5 x6 = some (encE x0 x1 x2 x3 x4 x5 x6) := by
        refine ref18_WriteStep_of ?_
        unfold ref18_WriteStep_b
        rw [ref18_head_ok q1, bS, grd (dT (by simp only [List.length_append, List.length_cons, List.length_nil]; omega)), ref18_head_ok q2, bS, grd (dT (by simp only [List.length_append, List.length_cons, List.length_nil]; omega)),
          ref18_path_ok q5, bS, grd (dT (by simp only [List.length_append, List.length_cons, List.length_nil]; omega))]
        simp [encE]
      have hS : ref18_SameStep x0 x1 x2 x3 x4 x5 x6 x0 x1 x2 x3 x4 x5 x6 = some true := by
        refine ref18_SameStep_of ?_
        unfold ref18_SameStep_b
        rw [ref15_Same_ok m2, bS, ref15_Same_ok m5, iteA3, bS, ref02_Same_ok m6, iteA3, bS]
        simp
      rw [cF (by rfl), ho]
      dsimp only
      rw [ReadStep_back hok (by omega), bS, bS]
      dsimp only
      rw [hW, bS]
      simp only [beq_self_eq_true, Bool.and_self, cond_true]
      rw [hAs, bS, bS]
      dsimp only
      rw [hS, bS]
      simp only [Bool.and_self, cond_true]
      rw [knows18_ok, bS]
      rfl

/-! ### What was read has just the bytes -/

theorem encA_1 (z : Int) (g : List UInt8) (l : List Sg) (ps : List (List Pf)) : (encA z g l ps)[0]? = some 1 := rfl
theorem encG_1 (z : Int) (g : List UInt8) (l : List Sg) (a : Int) (d : List UInt8) (p : List (List UInt8)) : (encG z g l a d p)[0]? = some 2 := rfl
theorem encE_1 (z : Int) (g : List UInt8) (l : List Sg) (z' : Int) (g' : List UInt8) (l' : List Sg) (p : List (List UInt8)) : (encE z g l z' g' l' p)[0]? = some 3 := rfl

theorem L_ReplyOnly (x0 : List UInt8) (w0 : WF (.lst (.int .u8)) x0) : law18_ReplyOnly x0 = some true := by
  refine law18_ReplyOnly_of ?_
  unfold law18_ReplyOnly_b
  by_cases hl : x0.length ≤ 20000
  · obtain ⟨z, g, l, ps, e, h1, y1⟩ := ReadAnswer_ex (B := x0) (by omega)
    obtain ⟨pz, pg, pl, pa, pd, pp, f, h2, y2⟩ := ReadPage_ex (B := x0) (by omega)
    obtain ⟨sz, sg, sl, sz', sg', sl', sp, k, h3, y3⟩ := ReadStep_ex (B := x0) (by omega)
    rw [cF (dF (by omega))]
    simp only [List.nil_append]
    rw [grd (dT (by omega)), h1, bS, grd (dT (by omega)), h2, bS, grd (dT (by omega)), h3, bS]
    dsimp only
    by_cases he : e = 0
    · obtain ⟨q1, q2, q3⟩ := y1 he
      have hf : f ≠ 0 := fun q => by
        have a1 := encA_1 z g l ps
        rw [← q1, (y2 q).1, encG_1] at a1
        simp at a1
      have hk : k ≠ 0 := fun q => by
        have a1 := encA_1 z g l ps
        rw [← q1, (y3 q).1, encE_1] at a1
        simp at a1
      have q2' := q2
      simp only [ansOk, Bool.and_eq_true, decide_eq_true_eq, List.all_eq_true] at q2'
      obtain ⟨r1, r2, r3⟩ := q2'
      have h64 := (headR_of r1).2.2.2.1
      have hw := WriteAnswer_ok z g l ps (by omega) (fun q hq => by have := (qOk_of (r3 q hq)).1; omega) (fun q hq p hp => pfOk_s ((qOk_of (r3 q hq)).2 p hp))
      rw [q2, outW, if_pos rfl, if_neg (by rw [← q1]; omega)] at hw
      have n1 : (f != 0) = true := by simpa using hf
      have n2 : (k != 0) = true := by simpa using hk
      rw [cT (by rw [he]; rfl), hw, bS]
      dsimp only
      rw [← q1, n1, n2]
      simp only [beq_self_eq_true, iteA, Bool.and_self, cond_true]
      rw [knows18_ok]
      rfl
    · rw [cF (by simpa using he)]
      by_cases hf : f = 0
      · obtain ⟨q1, q2, q3⟩ := y2 hf
        have hk : k ≠ 0 := fun q => by
          have a1 := encG_1 pz pg pl pa pd pp
          rw [← q1, (y3 q).1, encE_1] at a1
          simp at a1
        have q2' := q2
        simp only [pageOk, Bool.and_eq_true, decide_eq_true_eq] at q2'
        obtain ⟨r1, r2, r3, r4⟩ := q2'
        obtain ⟨r5, r6⟩ := pathOk_of r4
        have hw := WritePage_ok pz pg pl pa pd pp (by omega) (by omega) (fun d hd => by have := r6 d hd; omega)
        rw [q2, outW, if_pos rfl, if_neg (by rw [← q1]; omega)] at hw
        have n2 : (k != 0) = true := by simpa using hk
        rw [cT (by rw [hf]; rfl), hw, bS]
        dsimp only
        rw [← q1, n2]
        simp only [beq_self_eq_true, iteA, Bool.and_self, cond_true]
        rw [knows18_ok]
        rfl
      · rw [cF (by simpa using hf)]
        by_cases hk : k = 0
        · obtain ⟨q1, q2, q3⟩ := y3 hk
          have q2' := q2
          simp only [stepOk, Bool.and_eq_true] at q2'
          obtain ⟨r1, r2, r4⟩ := q2'
          obtain ⟨r5, r6⟩ := pathOk_of r4
          have hw := WriteStep_ok sz sg sl sz' sg' sl' sp (by omega) (fun d hd => by have := r6 d hd; omega)
          rw [q2, outW, if_pos rfl, if_neg (by rw [← q1]; omega)] at hw
          rw [cT (by rw [hk]; rfl), hw, bS]
          dsimp only
          rw [← q1]
          simp only [beq_self_eq_true, iteA, Bool.and_self, cond_true]
          rw [knows18_ok]
          rfl
        · rw [cF (by simpa using hk), knows18_ok, bS]
  · rw [cT (dT (by omega)), knows18_ok, bS]

end Rk
