/- The plain part: what the functions answer. No condition. -/
import Derived.Test.YtgofefjfckocbaaDoorPu18a
set_option linter.unusedVariables false
set_option linter.unusedSimpArgs false
namespace Rk
open Go

theorem wproofs_loop (l : List Pf) (ps : List (List Pf)) (n0 i0 : Int) (hl : l.length ≤ 1000) (hp : ∀ p ∈ l, PfS p) : ∀ (k i : Nat) (e : Int) (b : List UInt8), i + k = l.length → b.length + 1200000 * k ≤ 10000000000 →
    ∃ e' b', reply_WriteAnswer_l1 ((i : Int), e, b, l, ps, n0, i0, (l.length : Int)) = some (e', b', ps, n0, i0) ∧ WrX e b e' b' ((l.drop i).all pfOk) ((l.drop i).flatMap encF) (1200000 * k) := by
  intro k
  induction k with
  | zero =>
    intro i e b hk hb
    refine ⟨e, b, ?_, ?_⟩
    · rw [reply_WriteAnswer_l1_eq]
      dsimp only
      rw [cF (dF (by omega))]
    · rw [List.drop_eq_nil_iff.2 (by omega)]
      exact ⟨id, by simp, fun _ => by simp, by simp⟩
  | succ k ih =>
    intro i e b hk hb
    have hi : i < l.length := by omega
    have hW : W64 ((i : Int) + 1) = ((i + 1 : Nat) : Int) := by rw [W64_in (by omega) (by omega)]; omega
    obtain ⟨e1, b1, h1, x1⟩ := wproof_ok l[i] (hp _ (List.getElem_mem hi)) e (b := b) (by omega)
    have l1 := x1.len
    obtain ⟨e2, b2, h2, x2⟩ := ih (i + 1) e1 b1 (by omega) (by omega)
    refine ⟨e2, b2, ?_, ?_⟩
    · rw [reply_WriteAnswer_l1_eq]
      dsimp only
      rw [cT (dT (by omega)), grd (aT (dT (by omega)) (dT (by omega))), idx_nat hi, h1, bS]
      dsimp only
      rw [hW, h2]
    · refine (x1.trans x2).cast ?_ (fun _ => ?_) (by omega)
      · rw [List.drop_eq_getElem_cons hi, List.all_cons]
      · rw [List.drop_eq_getElem_cons hi, List.flatMap_cons]

def qOk (l : List Pf) : Bool := decide (l.length ≤ 16) && l.all pfOk
def encQ (l : List Pf) : List UInt8 := encN l.length ++ l.flatMap encF

theorem wqs_loop (ps : List (List Pf)) (hn : ps.length ≤ 1000) (hl : ∀ l ∈ ps, l.length ≤ 30) (hp : ∀ l ∈ ps, ∀ p ∈ l, PfS p) : ∀ (k i : Nat) (e : Int) (b : List UInt8), i + k = ps.length → b.length + 40000000 * k ≤ 8000000000 →
    ∃ e' b', reply_WriteAnswer_l0 ((i : Int), e, b, ps, (ps.length : Int)) = some (b', e') ∧ WrX e b e' b' ((ps.drop i).all qOk) ((ps.drop i).flatMap encQ) (40000000 * k) := by
  intro k
  induction k with
  | zero =>
    intro i e b hk hb
    refine ⟨e, b, ?_, ?_⟩
    · rw [reply_WriteAnswer_l0_eq]
      dsimp only
      rw [cF (dF (by omega))]
    · rw [List.drop_eq_nil_iff.2 (by omega)]
      exact ⟨id, by simp, fun _ => by simp, by simp⟩
  | succ k ih =>
    intro i e b hk hb
    have hi : i < ps.length := by omega
    have hW : W64 ((i : Int) + 1) = ((i + 1 : Nat) : Int) := by rw [W64_in (by omega) (by omega)]; omega
    have hli := hl _ (List.getElem_mem hi)
    obtain ⟨e1, b1, h1, x1⟩ := num_ok ((ps[i]).length : Int) (needE (decide ((ps[i]).length ≤ 16)) e) (b := b) (by omega)
    have l1 := x1.len
    obtain ⟨e2, b2, h2, x2⟩ := wproofs_loop ps[i] ps (ps.length : Int) (i : Int) (by omega) (hp _ (List.getElem_mem hi)) (ps[i]).length 0 e1 b1 (by omega) (by omega)
    have l2 := x2.len
    obtain ⟨e3, b3, h3, x3⟩ := ih (i + 1) e2 b2 (by omega) (by omega)
    refine ⟨e3, b3, ?_, ?_⟩
    · have e16 : decide (((ps[i]).length : Int) ≤ (16 : Int)) = decide ((ps[i]).length ≤ 16) := by rw [Bool.eq_iff_iff]; simp only [decide_eq_true_eq]; omega
      rw [reply_WriteAnswer_l0_eq]
      dsimp only
      rw [cT (dT (by omega)), grd (aT (dT (by omega)) (dT (by omega))), idx_nat hi, e16, need_ok, bS]
      dsimp only
      rw [h1, bS]
      dsimp only
      have h2' : reply_WriteAnswer_l1 (0, e1, b1, ps[i], ps, (ps.length : Int), (i : Int), ((ps[i]).length : Int)) = some (e2, b2, ps, (ps.length : Int), (i : Int)) := h2
      rw [h2', bS, bS]
      dsimp only
      rw [hW, h3]
    · refine ((((need_x (decide ((ps[i]).length ≤ 16)) e b).trans x1).trans x2).trans x3).cast ?_ (fun _ => ?_) (by omega)
      · have : numOk ((ps[i]).length : Int) = true := by simp only [numOk, Bool.and_eq_true, decide_eq_true_eq]; omega
        rw [this, Bool.and_true, List.drop_zero, List.drop_eq_getElem_cons hi, List.all_cons]
        rfl
      · rw [List.nil_append, List.drop_zero, Int.toNat_natCast, List.drop_eq_getElem_cons hi, List.flatMap_cons]
        rfl

theorem done_ok (b : List UInt8) (e : Int) : ∃ b' e', reply_writer_done b e = some ((if e = 0 then (if b.length > 1048576 then ([], 3) else (b, 0)) else ([], e) : List UInt8 × Int).1, (if e = 0 then (if b.length > 1048576 then ([], 3) else (b, 0)) else ([], e) : List UInt8 × Int).2, b', e') := by
  by_cases he : e = 0
  · subst he
    by_cases hb : b.length > 1048576
    · refine ⟨b, 3, reply_writer_done_of ?_⟩
      unfold reply_writer_done_b
      rw [cT (by simp; omega), bS, cT (by rfl)]
      simp [hb]
    · refine ⟨b, 0, reply_writer_done_of ?_⟩
      unfold reply_writer_done_b
      rw [cF (by simp; omega), bS, cF (by rfl)]
      simp [hb]
  · refine ⟨b, e, reply_writer_done_of ?_⟩
    unfold reply_writer_done_b
    have h1 : (e == (0 : Int)) = false := by simpa using he
    have h2 : (e != (0 : Int)) = true := by simpa using he
    rw [cF (by rw [h1]; rfl), bS, cT h2]
    simp [he]

/-- What a writer answers. -/
def outW (ok : Bool) (x : List UInt8) : List UInt8 × Int := if ok then (if x.length > 1048576 then ([], 3) else (x, 0)) else ([], 1)

theorem done_x {x0 x : List UInt8} {e : Int} {b : List UInt8} {ok : Bool} {m : Nat} (h : WrX 0 x0 e b ok x m) : ∃ b' e', reply_writer_done b e = some ((outW ok (x0 ++ x)).1, (outW ok (x0 ++ x)).2, b', e') := by
  obtain ⟨b', e', h1⟩ := done_ok b e
  refine ⟨b', e', ?_⟩
  rw [h1]
  have hi := h.iff_
  cases ok with
  | true =>
    have he : e = 0 := hi.2 ⟨rfl, rfl⟩
    rw [if_pos he, h.by_ rfl]
    simp only [outW, if_true]
  | false =>
    have he : e ≠ 0 := fun q => by have := hi.1 q; simp at this
    have h1 : e = 1 := by
      rcases h.e01 (.inl rfl) with q | q
      · exact absurd q he
      · exact q
    rw [if_neg he, h1]
    rfl

def ansOk (z : Int) (g : List UInt8) (l : List Sg) (ps : List (List Pf)) : Bool := headR z g l && (decide (ps.length = l.length) && ps.all qOk)
def encA (z : Int) (g : List UInt8) (l : List Sg) (ps : List (List Pf)) : List UInt8 := [1] ++ (encT (encH z g l) ++ ps.flatMap encQ)

theorem WriteAnswer_ok (z : Int) (g : List UInt8) (l : List Sg) (ps : List (List Pf)) (hn : ps.length ≤ 100) (hl : ∀ q ∈ ps, q.length ≤ 30) (hp : ∀ q ∈ ps, ∀ p ∈ q, PfS p) :
    reply_WriteAnswer z g l ps = some (outW (ansOk z g l ps) (encA z g l ps)) := by
  obtain ⟨e1, b1, h1, x1⟩ := whead_ok z g l 0 (b := [1] ++ []) (by simp)
  have l1 := x1.len
  obtain ⟨e2, b2, h2, x2⟩ := wqs_loop ps (by omega) hl hp ps.length 0 (needE (decide (ps.length = l.length)) e1) b1 (by omega) (by simp at l1; omega)
  have hx := (x1.trans (need_x (decide (ps.length = l.length)) e1 b1)).trans x2
  have hx' := hx.cast (ok' := ansOk z g l ps) (y := encT (encH z g l) ++ ps.flatMap encQ) (by rw [List.drop_zero, Bool.and_assoc]; rfl) (fun _ => by rw [List.append_nil, List.drop_zero]) (Nat.le_refl _)
  obtain ⟨b3, e3, h3⟩ := done_x hx'
  refine reply_WriteAnswer_of ?_
  unfold reply_WriteAnswer_b
  rw [h1, bS]
  dsimp only
  rw [beqI, need_ok, bS]
  dsimp only
  have h2' : reply_WriteAnswer_l0 (0, needE (decide (ps.length = l.length)) e1, b1, ps, (ps.length : Int)) = some (b2, e2) := h2
  rw [h2', bS]
  dsimp only
  rw [h3, bS]
  rfl

def pageOk (z : Int) (g : List UInt8) (l : List Sg) (at_ : Int) (doc : List UInt8) (path : List (List UInt8)) : Bool := headR z g l && (numOk at_ && (decide (doc.length ≤ 2000) && pathOk path))
def encG (z : Int) (g : List UInt8) (l : List Sg) (at_ : Int) (doc : List UInt8) (path : List (List UInt8)) : List UInt8 := [2] ++ (encT (encH z g l) ++ (encN at_.toNat ++ (encT doc ++ encP path)))

theorem WritePage_ok (z : Int) (g : List UInt8) (l : List Sg) (at_ : Int) (doc : List UInt8) (path : List (List UInt8)) (hd : doc.length ≤ 100000) (hl : path.length ≤ 1000) (hs : ∀ d ∈ path, d.length ≤ 1000) :
    reply_WritePage z g l at_ doc path = some (outW (pageOk z g l at_ doc path) (encG z g l at_ doc path)) := by
  obtain ⟨e1, b1, h1, x1⟩ := whead_ok z g l 0 (b := [2] ++ []) (by simp)
  have l1 := x1.len
  simp only [List.length_append, List.length_cons, List.length_nil] at l1
  obtain ⟨e2, b2, h2, x2⟩ := num_ok at_ e1 (b := b1) (by omega)
  have l2 := x2.len
  obtain ⟨e3, b3, h3, x3⟩ := text_ok doc 2000 e2 (b := b2) (by omega) (by omega)
  have l3 := x3.len
  obtain ⟨e4, b4, h4, x4⟩ := wpath_ok path e3 (b := b3) (by omega) hl hs
  have e2000 : decide ((doc.length : Int) ≤ 2000) = decide (doc.length ≤ 2000) := by rw [Bool.eq_iff_iff]; simp only [decide_eq_true_eq]; omega
  have hx := ((x1.trans x2).trans x3).trans x4
  have hx' := hx.cast (ok' := pageOk z g l at_ doc path) (y := encT (encH z g l) ++ (encN at_.toNat ++ (encT doc ++ encP path))) (by rw [e2000, pageOk, Bool.and_assoc, Bool.and_assoc]) (fun _ => by rw [List.append_assoc, List.append_assoc]) (Nat.le_refl _)
  obtain ⟨b5, e5, h5⟩ := done_x hx'
  refine reply_WritePage_of ?_
  unfold reply_WritePage_b
  rw [h1, bS]
  dsimp only
  rw [h2, bS]
  dsimp only
  rw [h3, bS]
  dsimp only
  rw [h4, bS]
  dsimp only
  rw [h5, bS]
  rfl

def stepOk (z : Int) (g : List UInt8) (l : List Sg) (z' : Int) (g' : List UInt8) (l' : List Sg) (path : List (List UInt8)) : Bool := headR z g l && (headR z' g' l' && pathOk path)
def encE (z : Int) (g : List UInt8) (l : List Sg) (z' : Int) (g' : List UInt8) (l' : List Sg) (path : List (List UInt8)) : List UInt8 := [3] ++ (encT (encH z g l) ++ (encT (encH z' g' l') ++ encP path))

theorem WriteStep_ok (z : Int) (g : List UInt8) (l : List Sg) (z' : Int) (g' : List UInt8) (l' : List Sg) (path : List (List UInt8)) (hl : path.length ≤ 1000) (hs : ∀ d ∈ path, d.length ≤ 1000) :
    reply_WriteStep z g l z' g' l' path = some (outW (stepOk z g l z' g' l' path) (encE z g l z' g' l' path)) := by
  obtain ⟨e1, b1, h1, x1⟩ := whead_ok z g l 0 (b := [3] ++ []) (by simp)
  have l1 := x1.len
  simp only [List.length_append, List.length_cons, List.length_nil] at l1
  obtain ⟨e2, b2, h2, x2⟩ := whead_ok z' g' l' e1 (b := b1) (by omega)
  have l2 := x2.len
  obtain ⟨e4, b4, h4, x4⟩ := wpath_ok path e2 (b := b2) (by omega) hl hs
  have hx := (x1.trans x2).trans x4
  have hx' := hx.cast (ok' := stepOk z g l z' g' l' path) (y := encT (encH z g l) ++ (encT (encH z' g' l') ++ encP path)) (by rw [stepOk, Bool.and_assoc]) (fun _ => by rw [List.append_assoc]) (Nat.le_refl _)
  obtain ⟨b5, e5, h5⟩ := done_x hx'
  refine reply_WriteStep_of ?_
  unfold reply_WriteStep_b
  rw [h1, bS]
  dsimp only
  rw [h2, bS]
  dsimp only
  rw [h4, bS]
  dsimp only
  rw [h5, bS]
  rfl

end Rk
