/- The plain part: what the functions answer. No condition. -/
import Derived.Test.YtgofefjfckocbaaDoorPu15c
set_option linter.unusedVariables false
set_option linter.unusedSimpArgs false
namespace Rk
open Go

/-! ### Answers, pages and steps are written -/

theorem code_Text_ok' {b s : List UInt8} (hb : b.length ≤ 1000000000000) (hs : s.length ≤ 10000000) : code_Text b s = some (b ++ encT s) := by
  have h9 := encN_9 (v := s.length) (by omega)
  refine code_Text_of ?_
  unfold code_Text_b
  rw [List.nil_append, grd (dT (by omega)), code_num_ok (by omega) (by omega), bS, grd (dT (by simp only [List.length_append]; omega)), List.append_assoc]
  rfl

/-- From a state of a writer to another one: whether it may be, what is written, at most so many bytes. -/
structure WrX (e : Int) (b : List UInt8) (e' : Int) (b' : List UInt8) (ok : Bool) (x : List UInt8) (m : Nat) : Prop where
  e01 : (e = 0 ∨ e = 1) → (e' = 0 ∨ e' = 1)
  iff_ : e' = 0 ↔ (e = 0 ∧ ok = true)
  by_ : ok = true → b' = b ++ x
  len : b'.length ≤ b.length + m

theorem WrX.trans {e f g : Int} {b c d x y : List UInt8} {ok ok' : Bool} {m n : Nat} (h : WrX e b f c ok x m) (h' : WrX f c g d ok' y n) : WrX e b g d (ok && ok') (x ++ y) (m + n) := by
  refine ⟨fun q => h'.e01 (h.e01 q), ?_, fun q => ?_, by have := h.len; have := h'.len; omega⟩
  · rw [h'.iff_, h.iff_, Bool.and_eq_true, and_assoc]
  · rw [Bool.and_eq_true] at q
    rw [h'.by_ q.2, h.by_ q.1, List.append_assoc]

theorem WrX.cast {e e' : Int} {b b' x y : List UInt8} {ok ok' : Bool} {m n : Nat} (h : WrX e b e' b' ok x m) (ho : ok = ok') (hx : ok = true → x = y) (hm : m ≤ n) : WrX e b e' b' ok' y n := by
  subst ho
  exact ⟨h.e01, h.iff_, fun q => by rw [h.by_ q, hx q], by have := h.len; omega⟩

def needE (ok : Bool) (e : Int) : Int := if !ok && e == 0 then 1 else e

theorem need_x (ok : Bool) (e : Int) (b : List UInt8) : WrX e b (needE ok e) b ok [] 0 := by
  refine ⟨fun q => ?_, ?_, fun _ => by simp, by simp⟩
  · unfold needE
    split
    · exact .inr rfl
    · exact q
  · unfold needE
    cases ok with
    | true => simp
    | false =>
      by_cases he : e = 0
      · subst he; simp
      · have : (e == (0 : Int)) = false := by simpa using he
        simp [this, he]

theorem need_ok (ok : Bool) (e : Int) (b : List UInt8) : reply_writer_need ok e b = some (needE ok e, b) := by
  refine reply_writer_need_of ?_
  unfold reply_writer_need_b needE
  simp only [iteA]
  cases (!ok && e == 0) <;> rfl

theorem need_ok' (ok : Bool) (e : Int) (b : List UInt8) : reply_writer_need_s1 ok b e = some (b, needE ok e) := by
  refine reply_writer_need_s1_of ?_
  unfold reply_writer_need_s1_b needE
  simp only [iteA]
  cases (!ok && e == 0) <;> rfl

def numOk (v : Int) : Bool := decide (0 ≤ v) && decide (v ≤ 4611686018427387904)

theorem num_ok (v : Int) (e : Int) {b : List UInt8} (hb : b.length ≤ 1000000000000) : ∃ e' b', reply_writer_num v e b = some (e', b') ∧ WrX e b e' b' (numOk v) (encN v.toNat) 9 := by
  by_cases h : 0 ≤ v ∧ v ≤ 4611686018427387904
  · have h1 := code_Num_ok (v := v.toNat) (b := b) (by omega) (by omega)
    rw [toNat_cast h.1] at h1
    have h9 := encN_9 (v := v.toNat) (by omega)
    refine ⟨needE true e, b ++ encN v.toNat, reply_writer_num_of ?_, ?_⟩
    · unfold reply_writer_num_b
      rw [h1, bS]
      dsimp only
      rw [show ((0 : Int) == 0) = true from rfl, need_ok', bS]
    · have hn := need_x true e b
      refine ⟨hn.e01, ?_, fun _ => rfl, by simp; omega⟩
      rw [hn.iff_]
      simp [numOk, h.1, h.2]
  · have h1 := code_Num_bad (v := v) (b := b) (by omega)
    refine ⟨needE false e, [], reply_writer_num_of ?_, ?_⟩
    · unfold reply_writer_num_b
      rw [h1, bS]
      dsimp only
      rw [show ((1 : Int) == 0) = false from rfl, need_ok', bS]
    · have hn := need_x false e b
      have hf : numOk v = false := by
        simp only [numOk, Bool.and_eq_false_iff, decide_eq_false_iff_not]
        omega
      refine ⟨hn.e01, ?_, fun q => ?_, by simp⟩
      · rw [hn.iff_, hf]
      · rw [hf] at q; simp at q

theorem text_ok (s : List UInt8) (most e : Int) {b : List UInt8} (hb : b.length ≤ 1000000000000) (hs : s.length ≤ 10000000) :
    ∃ e' b', reply_writer_text s most e b = some (e', b') ∧ WrX e b e' b' (decide ((s.length : Int) ≤ most)) (encT s) (s.length + 9) := by
  refine ⟨needE (decide ((s.length : Int) ≤ most)) e, b ++ encT s, reply_writer_text_of ?_, ?_⟩
  · unfold reply_writer_text_b
    rw [need_ok, bS]
    dsimp only
    rw [code_Text_ok' hb hs, bS]
  · have hn := need_x (decide ((s.length : Int) ≤ most)) e b
    have he := encT_len (s := s) hs
    exact ⟨hn.e01, hn.iff_, fun _ => rfl, by simp; omega⟩

theorem whead_ok (z : Int) (g : List UInt8) (l : List Sg) (e : Int) {b : List UInt8} (hb : b.length ≤ 100000000000) :
    ∃ e' b', reply_writer_head z g l e b = some (e', b') ∧ WrX e b e' b' (headR z g l) (encT (encH z g l)) 4000 := by
  have hw := head_Write_ok z g l
  cases h : headR z g l with
  | true =>
    rw [h] at hw
    have hl := encH_len h
    obtain ⟨e', b', h1, h2⟩ := text_ok (encH z g l) 10000 (needE true e) (b := b) (by omega) (by omega)
    refine ⟨e', b', reply_writer_head_of ?_, ?_⟩
    · unfold reply_writer_head_b
      rw [hw, bS]
      rw [show ((if true = true then ((0 : Int), encH z g l) else (1, [])).1 == 0) = true from rfl, need_ok, bS]
      rw [if_pos rfl, h1, bS]
    · exact ((need_x true e b).trans h2).cast (by simp; omega) (fun _ => rfl) (by omega)
  | false =>
    rw [h] at hw
    obtain ⟨e', b', h1, h2⟩ := text_ok [] 10000 (needE false e) (b := b) (by omega) (by simp)
    refine ⟨e', b', reply_writer_head_of ?_, ?_⟩
    · unfold reply_writer_head_b
      rw [hw, bS]
      rw [show ((if false = true then ((0 : Int), encH z g l) else (1, [])).1 == 0) = false from rfl, need_ok, bS]
      rw [if_neg (by simp), h1, bS]
    · exact ((need_x false e b).trans h2).cast (by simp) (fun q => by simp at q) (by simp)

/-- Paths. -/
def pathOk (l : List (List UInt8)) : Bool := decide (l.length ≤ 64) && l.all fun d => decide (d.length = 32)
def encP (l : List (List UInt8)) : List UInt8 := encN l.length ++ l.flatten

theorem path_loop (l : List (List UInt8)) (hl : l.length ≤ 1000) (hs : ∀ d ∈ l, d.length ≤ 1000) : ∀ (k i : Nat) (e : Int) (b : List UInt8), i + k = l.length → b.length ≤ 200000000000 + 1000 * i →
    ∃ e' b', reply_writer_path_l0 ((i : Int), e, b, l, (l.length : Int)) = some (e', b') ∧ WrX e b e' b' ((l.drop i).all fun d => decide (d.length = 32)) (l.drop i).flatten (1000 * k) := by
  intro k
  induction k with
  | zero =>
    intro i e b hk hb
    refine ⟨e, b, ?_, ?_⟩
    · rw [reply_writer_path_l0_eq]
      dsimp only
      rw [cF (dF (by omega))]
    · rw [List.drop_eq_nil_iff.2 (by omega)]
      exact ⟨id, by simp, fun _ => by simp, by simp⟩
  | succ k ih =>
    intro i e b hk hb
    have hi : i < l.length := by omega
    have hW : W64 ((i : Int) + 1) = ((i + 1 : Nat) : Int) := by rw [W64_in (by omega) (by omega)]; omega
    have hd := hs l[i] (List.getElem_mem hi)
    have e32 : (((l[i]).length : Int) == (32 : Int)) = decide ((l[i]).length = 32) := by rw [show ((32 : Int)) = ((32 : Nat) : Int) from rfl, beqI]
    obtain ⟨e', b', h1, h2⟩ := ih (i + 1) (needE (decide ((l[i]).length = 32)) e) (b ++ l[i]) (by omega) (by simp; omega)
    refine ⟨e', b', ?_, ?_⟩
    · rw [reply_writer_path_l0_eq]
      dsimp only
      rw [cT (dT (by omega)), grd (aT (dT (by omega)) (dT (by omega))), idx_nat hi, e32, need_ok, bS]
      dsimp only
      rw [grd (dT (by simp only [List.length_append]; omega)), hW, h1]
    · have hx : WrX e b (needE (decide ((l[i]).length = 32)) e) (b ++ l[i]) (decide ((l[i]).length = 32)) l[i] 1000 := by
        have := need_x (decide ((l[i]).length = 32)) e b
        exact ⟨this.e01, this.iff_, fun _ => rfl, by simp; omega⟩
      refine (hx.trans h2).cast ?_ (fun _ => ?_) (by omega)
      · rw [List.drop_eq_getElem_cons hi, List.all_cons]
      · rw [List.drop_eq_getElem_cons hi, List.flatten_cons]

theorem wpath_ok (l : List (List UInt8)) (e : Int) {b : List UInt8} (hb : b.length ≤ 100000000000) (hl : l.length ≤ 1000) (hs : ∀ d ∈ l, d.length ≤ 1000) :
    ∃ e' b', reply_writer_path l e b = some (e', b') ∧ WrX e b e' b' (pathOk l) (encP l) (9 + 1000 * l.length) := by
  obtain ⟨e1, b1, h1, x1⟩ := num_ok (l.length : Int) (needE (decide (l.length ≤ 64)) e) (b := b) (by omega)
  have hb1 := x1.len
  obtain ⟨e2, b2, h2, x2⟩ := path_loop l hl hs l.length 0 e1 b1 (by omega) (by omega)
  refine ⟨e2, b2, reply_writer_path_of ?_, ?_⟩
  · unfold reply_writer_path_b
    have e64 : decide ((l.length : Int) ≤ (64 : Int)) = decide (l.length ≤ 64) := by rw [Bool.eq_iff_iff]; simp only [decide_eq_true_eq]; omega
    rw [e64, need_ok, bS]
    dsimp only
    rw [h1, bS]
    dsimp only
    have h2' : reply_writer_path_l0 (0, e1, b1, l, (l.length : Int)) = some (e2, b2) := h2
    rw [h2', bS]
  · refine (((need_x (decide (l.length ≤ 64)) e b).trans x1).trans x2).cast ?_ (fun _ => ?_) (by omega)
    · have : numOk (l.length : Int) = true := by simp only [numOk, Bool.and_eq_true, decide_eq_true_eq]; omega
      rw [this, Bool.and_true, List.drop_zero]
      rfl
    · rw [List.nil_append, List.drop_zero, Int.toNat_natCast]
      rfl

abbrev Pf := Int × (List UInt8 × (List UInt8 × (List UInt8 × (List (List UInt8) × List UInt8))))

def pfOk (p : Pf) : Bool := mayL p.2.1 p.2.2.1 p.2.2.2.1 && (numOk p.1 && (pathOk p.2.2.2.2.1 && decide (p.2.2.2.2.2.length ≤ 4000)))
def encF (p : Pf) : List UInt8 := encN p.1.toNat ++ (encT (encK p.2.1 p.2.2.1 p.2.2.2.1) ++ (encP p.2.2.2.2.1 ++ encT p.2.2.2.2.2))

/-- Not too great. -/
structure PfS (p : Pf) : Prop where
  n : p.2.2.2.2.1.length ≤ 1000
  d : ∀ d ∈ p.2.2.2.2.1, d.length ≤ 1000
  s : p.2.2.2.2.2.length ≤ 100000

theorem wproof_ok (p : Pf) (hp : PfS p) (e : Int) {b : List UInt8} (hb : b.length ≤ 10000000000) :
    ∃ e' b', reply_writer_proof p.1 p.2.1 p.2.2.1 p.2.2.2.1 p.2.2.2.2.1 p.2.2.2.2.2 e b = some (e', b') ∧ WrX e b e' b' (pfOk p) (encF p) 1200000 := by
  have hw := dict_WriteLink_ok p.2.1 p.2.2.1 p.2.2.2.1
  obtain ⟨k, hk, hk1, hk2⟩ : ∃ k : List UInt8, dict_WriteLink p.2.1 p.2.2.1 p.2.2.2.1 = some ((if mayL p.2.1 p.2.2.1 p.2.2.2.1 then 0 else 1), k) ∧ (mayL p.2.1 p.2.2.1 p.2.2.2.1 = true → k = encK p.2.1 p.2.2.1 p.2.2.2.1) ∧ k.length ≤ 178 := by
    cases h : mayL p.2.1 p.2.2.1 p.2.2.2.1 with
    | true => rw [h] at hw; exact ⟨_, hw, fun _ => rfl, encK_len h⟩
    | false => rw [h] at hw; exact ⟨[], hw, fun q => by simp at q, by simp⟩
  have ek : ((if mayL p.2.1 p.2.2.1 p.2.2.2.1 then (0 : Int) else 1) == 0) = mayL p.2.1 p.2.2.1 p.2.2.2.1 := by cases mayL p.2.1 p.2.2.1 p.2.2.2.1 <;> rfl
  obtain ⟨e1, b1, h1, x1⟩ := num_ok p.1 (needE (mayL p.2.1 p.2.2.1 p.2.2.2.1) e) (b := b) (by omega)
  have l1 := x1.len
  obtain ⟨e2, b2, h2, x2⟩ := text_ok k 200 e1 (b := b1) (by omega) (by omega)
  have l2 := x2.len
  obtain ⟨e3, b3, h3, x3⟩ := wpath_ok p.2.2.2.2.1 e2 (b := b2) (by omega) hp.n hp.d
  have l3 := x3.len
  have hn := hp.n
  have hs := hp.s
  obtain ⟨e4, b4, h4, x4⟩ := text_ok p.2.2.2.2.2 4000 e3 (b := b3) (by omega) (by omega)
  refine ⟨e4, b4, reply_writer_proof_of ?_, ?_⟩
  · unfold reply_writer_proof_b
    rw [hk, bS]
    dsimp only
    rw [ek, need_ok, bS]
    dsimp only
    rw [h1, bS]
    dsimp only
    rw [h2, bS]
    dsimp only
    rw [h3, bS]
    dsimp only
    rw [h4, bS]
  · refine (((((need_x (mayL p.2.1 p.2.2.1 p.2.2.2.1) e b).trans x1).trans x2).trans x3).trans x4).cast ?_ (fun q => ?_) (by omega)
    · have e200 : decide ((k.length : Int) ≤ 200) = true := dT (by omega)
      have e4000 : decide ((p.2.2.2.2.2.length : Int) ≤ 4000) = decide (p.2.2.2.2.2.length ≤ 4000) := by rw [Bool.eq_iff_iff]; simp only [decide_eq_true_eq]; omega
      rw [e200, e4000, Bool.and_true, pfOk, Bool.and_assoc, Bool.and_assoc]
    · simp only [Bool.and_eq_true] at q
      rw [List.nil_append, hk1 q.1.1.1.1, encF, List.append_assoc, List.append_assoc]

end Rk
