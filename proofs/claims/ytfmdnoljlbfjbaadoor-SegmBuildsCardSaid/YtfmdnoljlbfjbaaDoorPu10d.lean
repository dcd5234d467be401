/- The plain part: what the functions answer. No condition. -/
import Derived.Test.YtfmdnoljlbfjbaaDoorPu10c
set_option linter.unusedVariables false
set_option linter.unusedSimpArgs false
namespace Rk
open Go

def gapB (last : Int) : List Int → List UInt8
  | [] => []
  | x :: t => encN (x - last - 1).toNat ++ gapB x t
def encP (l : List Int) : List UInt8 := encN l.length ++ gapB (-1) l
theorem postF_len : ∀ (l : List Int) (last : Int), -1 ≤ last → last < 1000 → postF last l = true → (l.length : Int) ≤ 999 - last
  | [], last, _, _, _ => by simp; omega
  | x :: t, last, h1, h2, h => by
    unfold postF at h
    simp only [Bool.and_eq_true, decide_eq_true_eq] at h
    have := postF_len t x (by omega) h.1.2 h.2
    simp
    omega
theorem postR_len {l : List Int} (h : postR l = true) : l.length ≤ 1000 := by
  have := postF_len l (-1) (by omega) (by omega) h
  omega
theorem gapB_len : ∀ (l : List Int) (last : Int), -1 ≤ last → last < 1000 → postF last l = true → (gapB last l).length ≤ 9 * l.length
  | [], last, _, _, _ => by simp [gapB]
  | x :: t, last, h1, h2, h => by
    unfold postF at h
    simp only [Bool.and_eq_true, decide_eq_true_eq] at h
    have := gapB_len t x (by omega) h.1.2 h.2
    have := encN_9 (v := (x - last - 1).toNat) (by omega)
    unfold gapB
    rw [List.length_append, List.length_cons]
    omega
theorem encP_len {l : List Int} (h : postR l = true) : (encP l).length ≤ 9009 := by
  have h1 := postR_len h
  have h2 := gapB_len l (-1) (by omega) (by omega) h
  have h3 := encN_9 (v := l.length) (by omega)
  unfold encP
  rw [List.length_append]
  omega

theorem post_write_l0 (l : List Int) (hl : l.length ≤ 1000) : ∀ (n i : Nat) (last : Int) (b : List UInt8), i + n = l.length → -1 ≤ last → last < 1000 → postF last (l.drop i) = true → b.length ≤ 9 * (i + 1) →
    post_Write_l0 ((i : Int), last, b, l, (l.length : Int)) = some (b ++ gapB last (l.drop i)) := by
  intro n
  induction n with
  | zero =>
    intro i last b hi h1 h2 h3 h4
    rw [post_Write_l0_eq, post_Write_l0_F]
    dsimp only
    rw [cF (dF (by omega)), List.drop_eq_nil_of_le (by omega)]
    simp [gapB]
  | succ n ih =>
    intro i last b hi h1 h2 h3 h4
    rw [List.drop_eq_getElem_cons (l := l) (i := i) (by omega)] at h3 ⊢
    rw [post_Write_l0_eq, post_Write_l0_F]
    dsimp only
    rw [cT (dT (by omega)), grd (aT (dT (by omega)) (dT (by omega))), idx_nat (l := l) (i := i) (by omega)]
    generalize l[i]'(by omega) = x at *
    unfold postF at h3
    simp only [Bool.and_eq_true, decide_eq_true_eq] at h3
    have hx := encN_9 (v := (x - last - 1).toNat) (by omega)
    rw [W64_in (x := x - last) (by omega) (by omega), W64_in (x := x - last - 1) (by omega) (by omega), show x - last - 1 = (((x - last - 1).toNat : Nat) : Int) by omega, code_Num_ok (by omega) (by omega), bS]
    dsimp only
    rw [W64_in (by omega) (by omega), show (i : Int) + 1 = ((i + 1 : Nat) : Int) by omega, ih (i + 1) x _ (by omega) (by omega) h3.1.2 h3.2 (by rw [List.length_append]; omega)]
    rw [show gapB last (x :: l.drop (i + 1)) = encN (x - last - 1).toNat ++ gapB x (l.drop (i + 1)) from rfl]
    simp

theorem post_Write_ok {l : List Int} (hl : l.length ≤ 1000000000000) : post_Write l = some (if postR l = true then (encP l, 0) else ([], 1)) := by
  refine post_Write_of ?_
  unfold post_Write_b
  rw [post_Right_ok hl, bS]
  cases h : postR l with
  | false => rfl
  | true =>
    have h1 := postR_len h
    have h3 := encN_9 (v := l.length) (by omega)
    rw [Bool.not_true, cond_false, code_Num_ok (by omega) (by simp), bS, if_pos rfl]
    dsimp only
    rw [List.nil_append]
    have := post_write_l0 l h1 l.length 0 (-1) (encN l.length) (by omega) (by omega) (by omega) (by rw [List.drop_zero]; exact h) (by omega)
    rw [show ((0 : Nat) : Int) = 0 from rfl, List.drop_zero] at this
    rw [this]
    rfl

theorem seal_put_go (p : List (List UInt8)) (hp : p.length ≤ 100) (hb : ∀ x ∈ p, x.length ≤ 10000000) : ∀ (n i : Nat) (out : List UInt8), i + n = p.length → out.length ≤ 1 + 10000000 * i → seal_put_l0 ((i : Int), out, p, (p.length : Int)) = some (out ++ (p.drop i).flatten) := by
  intro n
  induction n with
  | zero =>
    intro i out hi ho
    rw [seal_put_l0_eq, seal_put_l0_F]
    dsimp only
    rw [cF (dF (by omega)), List.drop_eq_nil_of_le (by omega)]
    simp
  | succ n ih =>
    intro i out hi ho
    have hx := hb _ (List.getElem_mem (l := p) (n := i) (by omega))
    rw [seal_put_l0_eq, seal_put_l0_F]
    dsimp only
    rw [cT (dT (by omega)), grd (aT (dT (by omega)) (dT (by omega))), idx_nat (l := p) (i := i) (by omega), grd (dT (by rw [List.length_append]; omega)), W64_in (by omega) (by omega), show (i : Int) + 1 = ((i + 1 : Nat) : Int) by omega, ih (i + 1) _ (by omega) (by rw [List.length_append]; omega), List.drop_eq_getElem_cons (l := p) (i := i) (by omega), List.flatten_cons, List.append_assoc]
theorem seal_put_ok (k : UInt8) (p : List (List UInt8)) (hp : p.length ≤ 100) (hb : ∀ x ∈ p, x.length ≤ 10000000) : seal_put k p = some (k :: p.flatten) := by
  refine seal_put_of ?_
  unfold seal_put_b
  have := seal_put_go p hp hb p.length 0 [k] (by omega) (by simp)
  rw [show ((0 : Nat) : Int) = 0 from rfl, List.drop_zero] at this
  rw [List.append_nil, this]
  rfl

noncomputable def digP (l : List Int) : List UInt8 := shaOf (2 :: encP l)
theorem seal_Posts_ok {b : List UInt8} (hb : b.length ≤ 10000000) : seal_Posts b = some (shaOf (2 :: b)) := by
  refine seal_Posts_of ?_
  unfold seal_Posts_b
  have : seal_PostsBytes b = some (2 :: b) := by
    refine seal_PostsBytes_of ?_
    unfold seal_PostsBytes_b
    rw [seal_put_ok _ _ (by simp) (by simpa using hb), bS]
    simp
  rw [this, bS, (sha_Sum_ok (by simp; omega)).1, bS]
theorem post_Digest_ok {l : List Int} (hl : l.length ≤ 1000000000000) : post_Digest l = some (if postR l = true then (digP l, 0) else ([], 1)) := by
  refine post_Digest_of ?_
  unfold post_Digest_b
  rw [post_Write_ok hl, bS]
  cases h : postR l with
  | false => rfl
  | true =>
    have := encP_len h
    rw [if_pos rfl, if_pos rfl]
    dsimp only
    rw [nz0, cond_false, seal_Posts_ok (by omega), bS]
    rfl
theorem digP_len {l : List Int} (h : postR l = true) : (digP l).length = 32 := by
  have := encP_len h
  exact (sha_Sum_ok (by simp; omega)).2

/-! Links. -/
noncomputable def linkF (t p : List UInt8) : List Ent → List (List UInt8)
  | [] => []
  | e :: r => encK t e.1 p :: linkF e.1 (digP e.2) r
noncomputable def linksS (d : List Ent) : List (List UInt8) := linkF [] (digP []) (d ++ [([], [])])
theorem linkF_len : ∀ (l : List Ent) (t p : List UInt8), (linkF t p l).length = l.length
  | [], _, _ => rfl
  | e :: r, t, p => by simp [linkF, linkF_len r]
theorem linksS_len (d : List Ent) : (linksS d).length = d.length + 1 := by simp [linksS, linkF_len]

theorem links_l0 (L : List Ent) (X : List Ent) (hL : L.length ≤ 1000000000) (hb : ∀ e ∈ L, e.1.length ≤ 64 ∧ postR e.2 = true) : ∀ (n i : Nat) (out : List (List UInt8)) (t p : List UInt8), i + n = L.length → out.length ≤ i → t.length ≤ 64 → p.length = 32 →
    dict_Links_l0 ((i : Int), X, L, out, t, p, (L.length : Int)) = some (out ++ linkF t p (L.drop i)) := by
  intro n
  induction n with
  | zero =>
    intro i out t p hi ho ht hp
    rw [dict_Links_l0_eq, dict_Links_l0_F]
    dsimp only
    rw [cF (dF (by omega)), List.drop_eq_nil_of_le (by omega)]
    simp [linkF]
  | succ n ih =>
    intro i out t p hi ho ht hp
    have he := hb _ (List.getElem_mem (l := L) (n := i) (by omega))
    rw [dict_Links_l0_eq, dict_Links_l0_F]
    dsimp only
    rw [cT (dT (by omega)), grd (aT (dT (by omega)) (dT (by omega))), idx_nat (l := L) (i := i) (by omega), List.drop_eq_getElem_cons (l := L) (i := i) (by omega)]
    generalize L[i]'(by omega) = e at *
    have hm : mayL t e.1 p = true := by
      unfold mayL
      exact aT (dT ht) (aT (dT he.1) (dT hp))
    have hl := postR_len he.2
    rw [dict_WriteLink_ok, hm, bS, if_pos rfl, grd (dT (by simp; omega)), post_Digest_ok (by omega), bS, he.2, if_pos rfl, W64_in (by omega) (by omega), show (i : Int) + 1 = ((i + 1 : Nat) : Int) by omega]
    dsimp only
    rw [ih (i + 1) _ _ _ (by omega) (by simp; omega) he.1 (digP_len he.2)]
    rw [show linkF t p (e :: L.drop (i + 1)) = encK t e.1 p :: linkF e.1 (digP e.2) (L.drop (i + 1)) from rfl]
    simp

theorem goodT_len {s : List UInt8} (h : goodT s) : 1 ≤ s.length ∧ s.length ≤ 64 := by
  obtain ⟨p, h1, h2, h3, h4⟩ := h
  refine ⟨?_, h4⟩
  cases p with
  | nil => exact absurd rfl h1
  | cons c p =>
    have := encC_len c
    rw [h3, List.flatMap_cons, List.length_append]
    omega
theorem dictG_ent {d : List Ent} (h : dictG d = true) {e : Ent} (he : e ∈ d) : goodT e.1 ∧ e.2 ≠ [] ∧ postR e.2 = true := by
  have := ((dictG_iff d).1 h).2 e he
  unfold entR at this
  simp only [Bool.and_eq_true, Bool.not_eq_true', beq_eq_false_iff_ne] at this
  refine ⟨rightT_iff.1 this.1.1, ?_, this.2⟩
  intro e0
  rw [e0] at this
  exact this.1.2 rfl
theorem dict_Links_ok {d : List Ent} (hl : d.length ≤ 100000000) (ho : okE d) : dict_Links d = some (if dictG d = true then (0, linksS d) else (1, [])) := by
  refine dict_Links_of ?_
  unfold dict_Links_b
  rw [dict_Right_ok (by omega) ho, bS]
  cases h : dictG d with
  | false => rfl
  | true =>
    rw [Bool.not_true, cond_false, post_Digest_ok (by simp), bS, show postR [] = true from rfl, if_pos rfl, if_pos rfl]
    dsimp only
    rw [List.nil_append, List.append_nil, grd (dT (by omega)), grd (dT (by simp; omega))]
    have := links_l0 (d ++ [([], [])]) [([], [])] (by simp; omega) (fun e he => by
      rcases List.mem_append.1 he with he | he
      · obtain ⟨h1, h2, h3⟩ := dictG_ent h he
        exact ⟨(goodT_len h1).2, h3⟩
      · rw [List.mem_singleton.1 he]
        exact ⟨by simp, rfl⟩) (d ++ [([], [])]).length 0 [] [] (digP []) (by omega) (by simp) (by simp) (digP_len rfl)
    rw [show ((0 : Nat) : Int) = 0 from rfl, List.drop_zero, List.nil_append] at this
    rw [this]
    rfl

/-- The terms before and after, with the documents' digest, of a link. -/
theorem linkF_get : ∀ (l : List Ent) (t p : List UInt8) (i : Nat) (h : i < (linkF t p l).length), ∃ a b c, (linkF t p l)[i] = encK a b c ∧ (i = 0 → a = t ∧ c = p) ∧ (∀ (h0 : 0 < i) (h1 : i - 1 < l.length), a = (l[i-1]).1 ∧ c = digP (l[i-1]).2) ∧ (∀ h2 : i < l.length, b = (l[i]).1)
  | [], t, p, i, h => by simp [linkF] at h
  | e :: r, t, p, 0, h => ⟨t, e.1, p, rfl, fun _ => ⟨rfl, rfl⟩, fun h0 => absurd h0 (by omega), fun _ => rfl⟩
  | e :: r, t, p, i + 1, h => by
    rw [linkF_len] at h
    obtain ⟨a, b, c, h1, h2, h3, h4⟩ := linkF_get r e.1 (digP e.2) i (by rw [linkF_len]; simpa using h)
    refine ⟨a, b, c, ?_, fun h => absurd h (by omega), fun _ h5 => ?_, fun h5 => ?_⟩
    · rw [← h1]; rfl
    · rcases Nat.eq_zero_or_pos i with rfl | hi
      · exact h2 rfl
      · obtain ⟨i, rfl⟩ : ∃ j, i = j + 1 := ⟨i - 1, by omega⟩
        exact h3 (by omega) (by simp at h ⊢; omega)
    · have := h4 (by simpa using h5)
      rw [this]; rfl

theorem linksS_get {d : List Ent} (hg : dictG d = true) (i : Nat) (h : i < d.length + 1) : ∃ a b c, (linksS d)[i]'(by rw [linksS_len]; exact h) = encK a b c ∧ mayL a b c = true ∧ (i = 0 → a = []) ∧ (∀ (h0 : 0 < i) (h1 : i - 1 < d.length), a = (d[i-1]).1) ∧ (∀ h2 : i < d.length, b = (d[i]).1) ∧ (i = d.length → b = []) := by
  obtain ⟨a, b, c, h1, h2, h3, h4⟩ := linkF_get (d ++ [([], [])]) [] (digP []) i (by rw [linkF_len]; simpa using h)
  have hb := h4 (by simpa using h)
  have hB : (∀ h2 : i < d.length, b = (d[i]).1) ∧ (i = d.length → b = []) := by
    constructor
    · intro h5; rw [hb, List.getElem_append_left h5]
    · intro h5; subst h5; rw [hb, List.getElem_append_right (Nat.le_refl _)]; simp
  have hA : ∀ (h0 : 0 < i) (h1 : i - 1 < d.length), a = (d[i-1]).1 ∧ c = digP (d[i-1]).2 := by
    intro h0 h5
    have := h3 h0 (by simp; omega)
    rw [List.getElem_append_left h5] at this
    exact this
  refine ⟨a, b, c, h1, ?_, fun h => (h2 h).1, fun h0 h1 => (hA h0 h1).1, hB.1, hB.2⟩
  unfold mayL
  refine aT (dT ?_) (aT (dT ?_) (dT ?_))
  · rcases Nat.eq_zero_or_pos i with hi | hi
    · rw [(h2 hi).1]; simp
    · rw [(hA hi (by omega)).1]
      exact (goodT_len (dictG_ent hg (List.getElem_mem _)).1).2
  · by_cases hi : i < d.length
    · rw [hB.1 hi]
      exact (goodT_len (dictG_ent hg (List.getElem_mem _)).1).2
    · rw [hB.2 (by omega)]; simp
  · rcases Nat.eq_zero_or_pos i with hi | hi
    · rw [(h2 hi).2]; exact digP_len rfl
    · rw [(hA hi (by omega)).2]
      exact digP_len (dictG_ent hg (List.getElem_mem _)).2.2
end Rk
