/- The framework: a translation of the program that is verified in Lean, part 3. No condition. -/
import Derived.Orders
import Derived.LoopN
import Derived.Scope
import Derived.ProofKit
import Derived.OpenShut
import Derived.ShutString
import Derived.IntWalk
import Derived.Laws.BitsAllLaws
import Derived.Test.YtgofefjfckocbaaDoorF1
set_option linter.unusedVariables false
set_option linter.unusedSimpArgs false
/-! Regions that draw their order. -/
set_option linter.unusedVariables false
set_option linter.unusedSimpArgs false
namespace Rk
open Go

/-! ### Writes of some out of a row, in the row's order -/
section
variable {α β W : Type}

def ov (put : (α → β) → W → α → β) (X : Nat → Bool) : Nat → List W → (α → β) → (α → β)
  | _, [], f => f
  | k, w :: r, f => ov put X (k + 1) r (if X k then put f w else f)

structure PutOk (put : (α → β) → W → α → β) (wr : W → α → Prop) : Prop where
  not : ∀ f w x, ¬ wr w x → put f w x = f x
  same : ∀ f g w x, wr w x → put f w x = put g w x

variable {put : (α → β) → W → α → β} {wr : W → α → Prop}

theorem ov_congr (hp : PutOk put wr) (x : α) {X Y : Nat → Bool} : ∀ (l : List W) (k : Nat) (f g : α → β), f x = g x → (∀ i w, l[i]? = some w → wr w x → X (k + i) = Y (k + i)) → ov put X k l f x = ov put Y k l g x
  | [], k, f, g, hf, h => hf
  | w :: r, k, f, g, hf, h => by
    simp only [ov]
    refine ov_congr hp x r (k + 1) _ _ ?_ (fun i w' hi hw => by have := h (i + 1) w' (by simpa using hi) hw; rw [show k + 1 + i = k + (i + 1) by omega]; exact this)
    by_cases hw : wr w x
    · have := h 0 w (by simp) hw
      simp only [Nat.add_zero] at this
      rw [this]
      split
      · exact hp.same _ _ _ _ hw
      · exact hf
    · have e1 : (if X k then put f w else f) x = f x := by split; exact hp.not _ _ _ hw; rfl
      have e2 : (if Y k then put g w else g) x = g x := by split; exact hp.not _ _ _ hw; rfl
      rw [e1, e2, hf]

theorem ov_not (hp : PutOk put wr) (x : α) {X : Nat → Bool} : ∀ (l : List W) (k : Nat) (f : α → β), (∀ i w, l[i]? = some w → X (k + i) = true → ¬ wr w x) → ov put X k l f x = f x
  | [], k, f, h => rfl
  | w :: r, k, f, h => by
    simp only [ov]
    rw [ov_not hp x r (k + 1) _ (fun i w' hi hX => h (i + 1) w' (by simpa using hi) (by rw [show k + (i + 1) = k + 1 + i by omega]; exact hX))]
    split
    · rename_i hX
      exact hp.not _ _ _ (h 0 w (by simp) hX)
    · rfl

/-- One more of the row. -/
theorem ov_add (hp : PutOk put wr) {X Y : Nat → Bool} (x : α) (i : Nat) (w : W) : ∀ (l : List W) (k : Nat) (f : α → β), l[i]? = some w → X (k + i) = false → Y (k + i) = true →
    (∀ j, j ≠ k + i → Y j = X j) → (∀ j w', l[j]? = some w' → i < j → X (k + j) = true → wr w' x → ¬ wr w x) → ov put Y k l f x = put (ov put X k l f) w x := by
  intro l k f hi hX hY hXY h
  by_cases hw : wr w x
  · -- split at i
    have key : ∀ (m : List W) (k i : Nat) (f g : α → β), m[i]? = some w → Y (k + i) = true → (∀ j w', m[j]? = some w' → i < j → Y (k + j) = true → ¬ wr w' x) → ov put Y k m f x = put g w x := by
      clear hi hX hY hXY h
      intro m
      induction m with
      | nil => intro k i f g hi; simp at hi
      | cons w0 r ih =>
        intro k i f g hi hY hh
        simp only [ov]
        cases i with
        | zero =>
          simp only [List.getElem?_cons_zero, Option.some.injEq] at hi
          subst hi
          simp only [Nat.add_zero] at hY
          rw [hY, if_pos rfl]
          rw [ov_not hp x r (k + 1) _ (fun j w' hj hX => hh (j + 1) w' (by simpa using hj) (by omega) (by rw [show k + (j + 1) = k + 1 + j by omega]; exact hX))]
          exact hp.same _ _ _ _ hw
        | succ i =>
          exact ih (k + 1) i _ g (by simpa using hi) (by rw [show k + 1 + i = k + (i + 1) by omega]; exact hY) (fun j w' hj hij hX => hh (j + 1) w' (by simpa using hj) (by omega) (by rw [show k + (j + 1) = k + 1 + j by omega]; exact hX))
    exact key l k i f _ hi hY (fun j w' hj hij hYj hwj => h j w' hj hij (by rw [← hXY (k + j) (by omega)]; exact hYj) hwj hw)
  · rw [hp.not _ _ _ hw]
    refine ov_congr hp x l k f f rfl (fun j w' hj hwj => hXY _ (fun e => ?_))
    have : j = i := by omega
    subst this
    rw [hi] at hj
    simp only [Option.some.injEq] at hj
    subst hj
    exact hw hwj

theorem ov_all (hp : PutOk put wr) {X : Nat → Bool} (l : List W) (k : Nat) (f : α → β) (h : ∀ i, i < l.length → X (k + i) = true) : ov put X k l f = ov put (fun _ => true) k l f := by
  funext x
  refine ov_congr hp x l k f f rfl (fun i w hi _ => ?_)
  exact h i (List.getElem?_eq_some_iff.1 hi).1

end

theorem putSl_ok : PutOk (fun f (w : List (Nat × Slot)) => putSl f w) (fun w x => ∃ y ∈ w, y.1 = x) := by
  constructor
  · intro f w x
    induction w generalizing f with
    | nil => intro _; rfl
    | cons y r ih =>
      intro h
      obtain ⟨i, s⟩ := y
      simp only [putSl]
      rw [ih _ (fun ⟨z, hz, e⟩ => h ⟨z, by simp [hz], e⟩)]
      exact if_neg (fun e => h ⟨(i, s), by simp, e.symm⟩)
  · intro f g w x
    induction w generalizing f g with
    | nil => rintro ⟨y, hy, _⟩; simp at hy
    | cons y r ih =>
      rintro ⟨z, hz, e⟩
      obtain ⟨i, s⟩ := y
      simp only [putSl]
      by_cases hr : ∃ y ∈ r, y.1 = x
      · exact ih _ _ hr
      · have hnot : ∀ (f : Nat → Slot), putSl f r x = f x := by
          intro f
          clear ih
          induction r generalizing f with
          | nil => rfl
          | cons y r ih =>
            obtain ⟨j, s'⟩ := y
            simp only [putSl]
            rw [ih (by rcases List.mem_cons.1 hz with hz | hz; exact List.mem_cons.2 (.inl hz); rcases List.mem_cons.1 hz with hz | hz; exact absurd ⟨z, by simp [hz], e⟩ hr; exact List.mem_cons.2 (.inr hz)) (fun ⟨q, hq, e⟩ => hr ⟨q, by simp [hq], e⟩)]
            exact if_neg (fun e => hr ⟨(j, s'), by simp, e.symm⟩)
        rw [hnot, hnot]
        rcases List.mem_cons.1 hz with hz | hz
        · subst hz; simp only at e; simp [e]
        · exact absurd ⟨z, hz, e⟩ hr

theorem putKs_ok : PutOk (fun f (w : List (Nat × KSh)) => putKs f w) (fun w x => ∃ y ∈ w, y.1 = x) := by
  have hnot : ∀ (w : List (Nat × KSh)) (f : Nat → Option KSh) (x : Nat), (¬ ∃ y ∈ w, y.1 = x) → putKs f w x = f x := by
    intro w f x h
    exact putKs_not w f x (fun y hy e => h ⟨y, hy, e⟩)
  refine ⟨fun f w x h => hnot w f x h, ?_⟩
  intro f g w x
  induction w generalizing f g with
  | nil => rintro ⟨y, hy, _⟩; simp at hy
  | cons y r ih =>
    rintro ⟨z, hz, e⟩
    obtain ⟨i, s⟩ := y
    simp only [putKs]
    by_cases hr : ∃ y ∈ r, y.1 = x
    · exact ih _ _ hr
    · simp only [hnot r _ x hr]
      rcases List.mem_cons.1 hz with hz | hz
      · subst hz; simp only at e; simp [e]
      · exact absurd ⟨z, hz, e⟩ hr

theorem updS_ok : PutOk (fun f (w : List (Loc × Dyn)) => updS f w) (fun w x => ∃ y ∈ w, y.1 = x) := by
  refine ⟨fun f w x h => updS_not w (fun y hy e => h ⟨y, hy, e⟩), ?_⟩
  intro f g w x
  induction w with
  | nil => rintro ⟨y, hy, _⟩; simp at hy
  | cons y r ih =>
    rintro ⟨z, hz, e⟩
    obtain ⟨i, s⟩ := y
    simp only [updS]
    by_cases hx : x = i
    · simp [hx]
    · rw [if_neg hx, if_neg hx]
      rcases List.mem_cons.1 hz with hz | hz
      · subst hz; exact absurd e.symm hx
      · exact ih ⟨z, hz, e⟩

/-! ### What expressions look at -/

theorem ev_agree {ρ ρ' : Rho} : ∀ (e : PE), (∀ l ∈ e.locs, ρ l = ρ' l) → ∀ t, e.ev ρ t = e.ev ρ' t := by
  intro e
  induction e <;> intro h t <;> simp only [PE.locs, List.mem_append, List.mem_singleton] at h <;> simp only [PE.ev]
  case loc l => rw [h l rfl]
  case ar op k k2 a b iha ihb => simp only [iha (fun l hl => h l (.inl hl)), ihb (fun l hl => h l (.inr hl))]
  case cmpI op k a b iha ihb => simp only [iha (fun l hl => h l (.inl hl)), ihb (fun l hl => h l (.inr hl))]
  case cmpS op a b iha ihb => simp only [iha (fun l hl => h l (.inl hl)), ihb (fun l hl => h l (.inr hl))]
  case cmpB op a b iha ihb => simp only [iha (fun l hl => h l (.inl hl)), ihb (fun l hl => h l (.inr hl))]
  case neg k a ih => simp only [ih h]
  case com k a ih => simp only [ih h]
  case not a ih => simp only [ih h]
  case conv k a ih => simp only [ih h]
  case cat a b iha ihb => simp only [iha (fun l hl => h l (.inl hl)), ihb (fun l hl => h l (.inr hl))]
  case slen a ih => simp only [ih h]
  case sidx a b iha ihb => simp only [iha (fun l hl => h l (.inl hl)), ihb (fun l hl => h l (.inr hl))]
  case ssub a b c iha ihb ihc => simp only [iha (fun l hl => h l (.inl (.inl hl))), ihb (fun l hl => h l (.inl (.inr hl))), ihc (fun l hl => h l (.inr hl))]
  case llen t' a ih => simp only [ih h]
  case lidx a b iha ihb => simp only [iha (fun l hl => h l (.inl hl)), ihb (fun l hl => h l (.inr hl))]
  case lsub a b c iha ihb ihc => simp only [iha (fun l hl => h l (.inl (.inl hl))), ihb (fun l hl => h l (.inl (.inr hl))), ihc (fun l hl => h l (.inr hl))]
  case lapp a b iha ihb => simp only [iha (fun l hl => h l (.inl hl)), ihb (fun l hl => h l (.inr hl))]
  case lset a b c iha ihb ihc => simp only [iha (fun l hl => h l (.inl (.inl hl))), ihb (fun l hl => h l (.inl (.inr hl))), ihc (fun l hl => h l (.inr hl))]
  case one a ih => simp only [ih h]
  case lrep a b iha ihb => simp only [iha (fun l hl => h l (.inl hl)), ihb (fun l hl => h l (.inr hl))]
  case b2s a ih => simp only [ih h]
  case s2b a ih => simp only [ih h]
  case fst u a ih => simp only [ih h]
  case snd u a ih => simp only [ih h]
  case pair a b iha ihb => simp only [iha (fun l hl => h l (.inl hl)), ihb (fun l hl => h l (.inr hl))]
  case ite a b c iha ihb ihc => simp only [iha (fun l hl => h l (.inl (.inl hl))), ihb (fun l hl => h l (.inl (.inr hl))), ihc (fun l hl => h l (.inr hl))]
  case and a b iha ihb => simp only [iha (fun l hl => h l (.inl hl)), ihb (fun l hl => h l (.inr hl))]
  case imp a b iha ihb => simp only [iha (fun l hl => h l (.inl hl)), ihb (fun l hl => h l (.inr hl))]
  case plus a b iha ihb => simp only [iha (fun l hl => h l (.inl hl)), ihb (fun l hl => h l (.inr hl))]
  case minus a b iha ihb => simp only [iha (fun l hl => h l (.inl hl)), ihb (fun l hl => h l (.inr hl))]
  case minI k a b iha ihb => simp only [iha (fun l hl => h l (.inl hl)), ihb (fun l hl => h l (.inr hl))]
  case maxI k a b iha ihb => simp only [iha (fun l hl => h l (.inl hl)), ihb (fun l hl => h l (.inr hl))]

theorem allB_agree {ρ ρ' : Rho} : ∀ (l : List PE), (∀ x ∈ l.flatMap PE.locs, ρ x = ρ' x) → allB ρ l = allB ρ' l
  | [], _ => rfl
  | e :: r, h => by
    simp only [List.flatMap_cons, List.mem_append] at h
    simp only [allB, PE.evB, ev_agree e (fun l hl => h l (.inl hl)), allB_agree r (fun x hx => h x (.inr hx))]

theorem evs_agree {ρ ρ' : Rho} : ∀ (l : List (Loc × Ty × PE)), (∀ x ∈ l.flatMap (fun x => x.2.2.locs), ρ x = ρ' x) → evs ρ l = evs ρ' l
  | [], _ => rfl
  | e :: r, h => by
    simp only [List.flatMap_cons, List.mem_append] at h
    have := evs_agree r (fun x hx => h x (.inr hx))
    simp only [evs] at this ⊢
    simp only [List.map_cons, this, ev_agree e.2.2 (fun l hl => h l (.inl hl))]

theorem dyns_agree {ρ ρ' : Rho} : ∀ (l : List (Ty × PE)), (∀ x ∈ l.flatMap (fun x => x.2.locs), ρ x = ρ' x) → dyns ρ l = dyns ρ' l
  | [], _ => rfl
  | e :: r, h => by
    simp only [List.flatMap_cons, List.mem_append] at h
    have := dyns_agree r (fun x hx => h x (.inr hx))
    simp only [dyns] at this ⊢
    simp only [List.map_cons, this, ev_agree e.2 (fun l hl => h l (.inl hl))]

def effLocs (e : Eff) : List Loc := e.chk.flatMap PE.locs ++ e.sets.flatMap (fun x => x.2.2.locs) ++ callLocs e.call

/-- What an effect does is a row of writes; it hangs on what it looks at alone. -/
theorem runE_writes {call : CallF} {e : Eff} {ρ ρ1 : Rho} (h : runE call e ρ = some ρ1) :
    ∃ U : List (Loc × Dyn), ρ1 = updS ρ U ∧ (∀ y ∈ U, y.1 ∈ e.sets.map (·.1) ++ callOuts e.call) ∧ ∀ ρ2, (∀ l ∈ effLocs e, ρ2 l = ρ l) → runE call e ρ2 = some (updS ρ2 U) := by
  unfold runE at h
  cases hb : allB ρ e.chk with
  | false => simp [hb] at h
  | true =>
    simp only [hb, cond_true] at h
    have hag : ∀ ρ2, (∀ l ∈ effLocs e, ρ2 l = ρ l) → allB ρ2 e.chk = true := by
      intro ρ2 h2
      rw [← hb]
      exact allB_agree _ (fun x hx => h2 x (by simp only [effLocs, List.mem_append]; exact .inl (.inl hx)))
    cases hc : e.call with
    | none =>
      simp only [hc, Option.some.injEq] at h
      refine ⟨evs ρ e.sets, h.symm, fun y hy => ?_, fun ρ2 h2 => ?_⟩
      · obtain ⟨x, hx, hxy⟩ := mem_evs hy
        simp only [List.mem_append, List.mem_map]
        exact .inl ⟨x, hx, hxy.symm⟩
      · simp only [runE, hag ρ2 h2, cond_true, hc, Option.some.injEq]
        rw [evs_agree e.sets (fun x hx => h2 x (by simp only [effLocs, List.mem_append]; exact .inl (.inr hx)))]
    | some c =>
      simp only [hc] at h
      have hcond : ∀ ρ2, (∀ l ∈ effLocs e, ρ2 l = ρ l) → allB ρ2 c.cond = allB ρ c.cond ∧ dyns ρ2 c.args = dyns ρ c.args := by
        intro ρ2 h2
        have key : ∀ x ∈ c.cond.flatMap PE.locs ++ c.args.flatMap (fun x => x.2.locs), ρ2 x = ρ x := by
          intro x hx
          refine h2 x ?_
          simp only [effLocs, hc, callLocs, List.mem_append] at hx ⊢
          exact .inr hx
        simp only [List.mem_append] at key
        exact ⟨allB_agree _ (fun x hx => key x (.inl hx)), dyns_agree _ (fun x hx => key x (.inr hx))⟩
      cases hcb : allB ρ c.cond with
      | false =>
        simp only [hcb, cond_false, Option.some.injEq] at h
        refine ⟨_, h.symm, fun y hy => ?_, fun ρ2 h2 => ?_⟩
        · obtain ⟨x, hx, rfl⟩ := List.mem_map.1 hy
          simp only [callOuts, List.mem_append, List.mem_map]
          exact .inr ⟨x, hx, rfl⟩
        · simp only [runE, hag ρ2 h2, cond_true, hc, (hcond ρ2 h2).1, hcb, cond_false]
      | true =>
        simp only [hcb, cond_true, Option.bind_eq_some_iff, Option.some.injEq] at h
        obtain ⟨o, ho, rfl⟩ := h
        refine ⟨_, rfl, fun y hy => ?_, fun ρ2 h2 => ?_⟩
        · have := mem_zipP _ _ _ hy
          simp only [callOuts, List.mem_append]
          exact .inr this
        · simp only [runE, hag ρ2 h2, cond_true, hc, (hcond ρ2 h2).1, hcb, (hcond ρ2 h2).2, ho, Option.bind_some]

end Rk

/-! Regions that draw their order: whatever it is, the end is that of the row's own order. -/
set_option linter.unusedVariables false
set_option linter.unusedSimpArgs false
namespace Rk
open Go

section
variable {E : Env} {C : Ctx} {sl : Nat → Slot} {ks : Nat → Option KSh} {ρ : Rho} {β : Nat → Option Nat} {a : Act} {w : World}

theorem Rel.drawn (h : Rel C sl ks ρ β a w) (n : Nat) : Rel C sl ks ρ β a { w with drawn := n } := by
  refine Rel.upd h (fun _ => False) (fun _ => False) (fun κ _ => ⟨rfl, rfl, fun _ => rfl⟩) (fun i _ => ⟨rfl, fun _ => rfl, rfl⟩) (fun _ _ _ _ h => h) (fun _ h => h.elim) (fun _ _ _ => rfl) (Nat.le_refl _) rfl rfl rfl
    (fun _ _ h => h.elim) (fun _ _ _ h => h.elim) (fun _ _ h => h.elim) (fun _ h => h.elim) rfl rfl (fun _ => rfl) (fun _ _ h => h.elim)

theorem InReg.mono {seen seen' : List Nat} (h : InReg sl ρ a seen) (hs : ∀ x ∈ seen, x ∈ seen') : InReg sl ρ a seen' := ⟨fun i y hy => hs _ (h.seen i y hy), h.undef⟩

/-- One operation of a region. -/
theorem oper_ok {call : CallF} (hS : StepSound E C call) {ops : Array Oper} {o : Oper} {ρ1 : Rho} {seen : List Nat} {c : Cond} {e : Eff} (h : Rel C sl ks ρ β a w) (hI : InReg sl ρ a seen)
    (hc : guardC ⟨sl, ks⟩ ops o = some c) (he : stat E ⟨sl, ks⟩ c o = some e) (hok : okEff C.nt seen ⟨sl, ks⟩ c o e = true) (hr1 : runE call e ρ = some ρ1)
    {Q : Exit → Act → World → Prop} {K : Act → World → Prop}
    (hK : ∀ β' a' w', Rel C (putSl sl e.sl) (putKs ks e.ks) ρ1 β' a' w' → InReg (putSl sl e.sl) ρ1 a' (o.dst.toList ++ seen) → K a' w') :
    if Region.wanted o (yielded ops a.tmps) then o.wp C.P a w K Q ∨ (o.asks C.P a w ∧ LetsOut Q) else K (a.put o.dst undef) w := by
  obtain ⟨k1, k2, k3, k4, k5, k6, k7, k8⟩ := okEff_spec hok
  have hd : DstOk C sl o.dst := fun d hd => ⟨(k1 d hd).1.1, fun j y hy e => (k1 d hd).1.2 (by rw [← e]; exact hI.seen j y hy)⟩
  obtain ⟨gw1, gw2⟩ := guard_ok h hI (ops := ops) (o := o) (c := c) hc
  have hcond : ∀ cc : Cond, (∀ y ∈ cc, y.1 ∈ seen) → (condOk ρ1 cc ↔ condOk ρ cc) := by
    intro cc hcc
    have key : ∀ y ∈ cc, ρ1 (.s y.1 0) = ρ (.s y.1 0) := fun y hy => runE_other hr1 k5 k6 (fun hdd => (k1 _ hdd).1.2 (hcc y hy)) 0
    constructor <;> intro hcc' y hy
    · rw [← key y hy]; exact hcc' y hy
    · rw [key y hy]; exact hcc' y hy
  have goes : ∀ (v : Value) (w1 : World), (∃ β', Rel C (putSl sl e.sl) (putKs ks e.ks) ρ1 β' (a.put o.dst v) w1) → (condOk ρ c ∨ v = undef) → K (a.put o.dst v) w1 := by
    rintro v w1 ⟨β', hrel⟩ hv
    refine hK β' (a.put o.dst v) w1 hrel ?_
    have hslots : ∀ i, (o.dst ≠ some i ∧ putSl sl e.sl i = sl i) ∨ (o.dst = some i ∧ (putSl sl e.sl i).cond = c) := by
      intro i
      have gen : ∀ (l : List (Nat × Slot)) (sl : Nat → Slot), (∀ x ∈ l, x.2.cond = c ∧ o.dst = some x.1) → (((∀ x ∈ l, x.1 ≠ i) ∧ putSl sl l i = sl i) ∨ (o.dst = some i ∧ (putSl sl l i).cond = c)) := by
        intro l
        induction l with
        | nil => intro sl _; exact .inl ⟨by simp, rfl⟩
        | cons x r ih =>
          intro sl hx
          obtain ⟨j, s⟩ := x
          simp only [putSl]
          rcases ih (fun x => if x = j then s else sl x) (fun y hy => hx y (by simp [hy])) with ⟨q0, q⟩ | q
          · by_cases hij : i = j
            · right
              obtain ⟨g1, g2⟩ := hx (j, s) (by simp)
              refine ⟨by rw [hij]; exact g2, ?_⟩
              have g1' : s.cond = c := g1
              rw [q, if_pos hij]; exact g1'
            · left
              refine ⟨fun x hx => ?_, by rw [q]; simp [hij]⟩
              rcases List.mem_cons.1 hx with hx | hx
              · rw [hx]; exact fun e => hij e.symm
              · exact q0 x hx
          · exact .inr q
      rcases gen e.sl _ (fun x hx => ⟨(k3 x hx).1, (k3 x hx).2.1⟩) with ⟨q0, q⟩ | q
      · refine .inl ⟨fun hdi => ?_, q⟩
        obtain ⟨x, hx, hxi⟩ := (k1 i hdi).2
        exact q0 x hx hxi
      · exact .inr q
    refine ⟨fun i y hy => ?_, fun i hno => ?_⟩
    · rcases hslots i with ⟨_, q⟩ | ⟨q1, q2⟩
      · rw [q] at hy
        simp [hI.seen i y hy]
      · rw [q2] at hy
        simp [k2 y hy]
    · rcases hslots i with ⟨hdi, q⟩ | ⟨q1, q2⟩
      · rw [q] at hno
        have hno' : ¬ condOk ρ (sl i).cond := fun hh => hno ((hcond _ (hI.seen i)).2 hh)
        have hu := hI.undef i hno'
        cases hod : o.dst with
        | none => exact hu
        | some d =>
          rw [put_other a d v i (fun e => hdi (by rw [hod, e]))]
          exact hu
      · rw [q2] at hno
        have hno' : ¬ condOk ρ c := fun hh => hno ((hcond _ k2).2 hh)
        rcases hv with hv | hv
        · exact absurd hv hno'
        · rw [q1, hv]
          by_cases hlt : i < a.tmps.size
          · exact put_same a i _ hlt
          · simp only [Act.put, Array.getD_eq_getD_getElem?, Array.getElem?_setIfInBounds]
            simp [hlt]
  by_cases hcc : condOk ρ c
  · have hgood := hS (e := e) h hd hcc he hr1 k8
    rw [if_pos (gw1 hcc)]
    left
    refine (Good.form hgood (fun a' w' ⟨β', hrel⟩ => hrel.dfr)) _ _ (fun a' w' => ?_)
    rintro ⟨⟨v, rfl⟩, hrel⟩
    exact goes v w' hrel (.inl hcc)
  · rw [if_neg (by rw [gw2 hcc]; simp)]
    refine goes undef w ?_ (.inr rfl)
    rcases k7 with k7 | k7
    · exact absurd (fun x hx => by rw [k7] at hx; simp at hx) hcc
    · exact skip_ok h hd hcc k7 (fun x hx => ⟨(k3 x hx).1, (k3 x hx).2.1⟩) hr1

end

abbrev pS := fun (f : Nat → Slot) (w : List (Nat × Slot)) => putSl f w
abbrev pK := fun (f : Nat → Option KSh) (w : List (Nat × KSh)) => putKs f w
abbrev pU := fun (f : Rho) (w : List (Loc × Dyn)) => updS f w

theorem ov_shift {α β W : Type} (put : (α → β) → W → α → β) (X : Nat → Bool) : ∀ (l : List W) (k : Nat) (f : α → β), ov put X (k + 1) l f = ov put (fun j => X (j + 1)) k l f
  | [], _, _ => rfl
  | w :: r, k, f => by simp only [ov]; rw [ov_shift put X r (k + 1)]

theorem ov_never {α β W : Type} (put : (α → β) → W → α → β) : ∀ (l : List W) (k : Nat) (f : α → β), ov put (fun _ => false) k l f = f
  | [], _, _ => rfl
  | w :: r, k, f => by simp only [ov]; exact ov_never put r _ _

/-- What is ahead of one in the row's order. -/
def pre (i : Nat) : Nat → Bool := fun j => decide (j < i)

theorem ov_pre_zero {α β W : Type} (put : (α → β) → W → α → β) (l : List W) (f : α → β) : ov put (pre 0) 0 l f = f := by
  have : pre 0 = fun _ => false := by funext j; simp [pre]
  rw [this, ov_never]

theorem ov_pre_succ {α β W : Type} (put : (α → β) → W → α → β) (w : W) (l : List W) (i : Nat) (f : α → β) : ov put (pre (i + 1)) 0 (w :: l) f = ov put (pre i) 0 l (put f w) := by
  simp only [ov]
  rw [ov_shift]
  have h0 : pre (i + 1) 0 = true := by simp [pre]
  rw [h0, if_pos rfl]
  congr 1
  funext j
  simp [pre]

theorem ov_true_cons {α β W : Type} (put : (α → β) → W → α → β) (w : W) (l : List W) (f : α → β) : ov put (fun _ => true) 0 (w :: l) f = ov put (fun _ => true) 0 l (put f w) := by
  simp only [ov]
  rw [ov_shift]
  rfl

structure RecOk (E : Env) (nt : Nat) (ops : Array Oper) (sl0 : Nat → Slot) (ks0 : Nat → Option KSh) (seen : List Nat) (rs : List Rec) (i : Nat) (r : Rec) : Prop where
  at_ : ∃ A : Acc, A.sl = ov pS (pre i) 0 (rs.map (·.e.sl)) sl0 ∧ A.ks = ov pK (pre i) 0 (rs.map (·.e.ks)) ks0 ∧ guardC A ops r.o = some r.c ∧ stat E A r.c r.o = some r.e ∧ r.f = footprint A r.o r.c r.e ∧
    (isCallV r.o = true → closedB A r.f.rk = true) ∧ ∃ sn : List Nat, (∀ d, d ∈ sn ↔ d ∈ seen ∨ ∃ k, k < i ∧ ∃ r', rs[k]? = some r' ∧ r'.o.dst = some d) ∧ okEff nt sn A r.c r.o r.e = true

theorem recs_spec {E : Env} {nt : Nat} {ops : Array Oper} : ∀ (l : List Oper) (seen : List Nat) (S S' : St) (es : List Eff) (rs : List Rec), trOps E nt ops l seen S = some (S', es) → recs E ops l S = some rs →
    rs.map (·.e) = es ∧ rs.map (·.o) = l ∧ (∀ i r, rs[i]? = some r → RecOk E nt ops S.acc.sl S.acc.ks seen rs i r) ∧
    (∀ i, S'.acc.sl i = ov pS (fun _ => true) 0 (rs.map (·.e.sl)) S.acc.sl i ∨ S'.acc.sl i = ⟨[], .dead⟩) ∧ S'.acc.ks = ov pK (fun _ => true) 0 (rs.map (·.e.ks)) S.acc.ks
  | [], seen, S, S', es, rs, ht, hr => by
    simp only [trOps, Option.some.injEq, Prod.mk.injEq] at ht
    simp only [recs, Option.some.injEq] at hr
    obtain ⟨rfl, rfl⟩ := ht
    subst hr
    exact ⟨rfl, rfl, fun i r h => by simp at h, fun i => .inl rfl, rfl⟩
  | o :: l, seen, S, S', es, rs, ht, hr => by
    simp only [trOps, Option.bind_eq_bind, Option.bind_eq_some_iff] at ht
    obtain ⟨c, hc, e, he, ht⟩ := ht
    split at ht
    · simp at ht
    rename_i hok
    simp only [Bool.not_eq_true', Bool.not_eq_false] at hok
    simp only [Option.bind_eq_some_iff, Option.some.injEq, Prod.mk.injEq] at ht
    obtain ⟨⟨S1, es1⟩, ht1, rfl, rfl⟩ := ht
    simp only [recs, hc, he, Option.bind_eq_bind, Option.bind_some] at hr
    split at hr
    · simp at hr
    rename_i hcl
    simp only [Option.bind_eq_some_iff, Option.some.injEq] at hr
    obtain ⟨rs1, hr1, rfl⟩ := hr
    obtain ⟨k1, k2, k3, k4, k5, k6, k7, k8⟩ := okEff_spec hok
    have hacc := put_acc (S := S) (e := e) (fun x hx => (k3 x hx).2.2) k4
    obtain ⟨g1, g2, g3, g4, g5⟩ := recs_spec l (o.dst.toList ++ seen) (S.put e) S1 es1 rs1 ht1 hr1
    rw [hacc] at g3 g4 g5
    refine ⟨by simp [g1], by simp [g2], ?_, ?_, ?_⟩
    · intro i r hi
      cases i with
      | zero =>
        simp only [List.getElem?_cons_zero, Option.some.injEq] at hi
        subst hi
        refine ⟨S.acc, ?_, ?_, hc, he, rfl, ?_, seen, fun d => ⟨.inl, fun h => h.elim id (fun ⟨k, hk, _⟩ => by omega)⟩, hok⟩
        · rw [ov_pre_zero]
        · rw [ov_pre_zero]
        · intro hv
          simp only [hv, Bool.true_and, Bool.not_eq_true', Bool.not_eq_false] at hcl
          exact hcl
      | succ i =>
        obtain ⟨A, q1, q2, q3, q4, q5, q6, sn, q7, q8⟩ := (g3 i r (by simpa using hi)).at_
        refine ⟨A, ?_, ?_, q3, q4, q5, q6, sn, fun d => ?_, q8⟩
        · rw [q1, List.map_cons, ov_pre_succ]
        · rw [q2, List.map_cons, ov_pre_succ]
        · rw [q7 d]
          constructor
          · rintro (h | ⟨k, hk, r', hr', hd⟩)
            · rcases List.mem_append.1 h with h | h
              · exact .inr ⟨0, by omega, _, rfl, by simpa using h⟩
              · exact .inl h
            · exact .inr ⟨k + 1, by omega, r', by simpa using hr', hd⟩
          · rintro (h | ⟨k, hk, r', hr', hd⟩)
            · exact .inl (List.mem_append.2 (.inr h))
            · cases k with
              | zero =>
                simp only [List.getElem?_cons_zero, Option.some.injEq] at hr'
                subst hr'
                exact .inl (List.mem_append.2 (.inl (by simpa using hd)))
              | succ k => exact .inr ⟨k, by omega, r', by simpa using hr', hd⟩
    · intro i
      obtain ⟨m1, m2⟩ := killCond_acc e.sl S1 (fun x hx => (k3 x hx).2.2)
      rw [List.map_cons, ov_true_cons]
      rcases m2 i with q | q
      · rw [q]; exact g4 i
      · exact .inr q
    · obtain ⟨m1, m2⟩ := killCond_acc e.sl S1 (fun x hx => (k3 x hx).2.2)
      have hk : (killCond S1 e.sl).acc.ks = S1.acc.ks := by simp only [St.acc]; rw [m1]
      rw [hk, g5, List.map_cons, ov_true_cons]

theorem runEs_spec {call : CallF} : ∀ (es : List Eff) (ρ ρ' : Rho), runEs call es ρ = some ρ' →
    ∃ Us : List (List (Loc × Dyn)), Us.length = es.length ∧ ρ' = ov pU (fun _ => true) 0 Us ρ ∧ ∀ i e, es[i]? = some e → ∃ U, Us[i]? = some U ∧ (∀ y ∈ U, y.1 ∈ e.sets.map (·.1) ++ callOuts e.call) ∧
      ∀ ρ2, (∀ l ∈ effLocs e, ρ2 l = ov pU (pre i) 0 Us ρ l) → runE call e ρ2 = some (updS ρ2 U)
  | [], ρ, ρ', h => by
    simp only [runEs, Option.some.injEq] at h
    subst h
    exact ⟨[], rfl, rfl, fun i e h => by simp at h⟩
  | e :: r, ρ, ρ', h => by
    simp only [runEs, Option.bind_eq_some_iff] at h
    obtain ⟨ρ1, h1, h2⟩ := h
    obtain ⟨U, rfl, u1, u2⟩ := runE_writes h1
    obtain ⟨Us, g1, g2, g3⟩ := runEs_spec r _ ρ' h2
    refine ⟨U :: Us, by simp [g1], by rw [g2, ov_true_cons], ?_⟩
    intro i e' hi
    cases i with
    | zero =>
      simp only [List.getElem?_cons_zero, Option.some.injEq] at hi
      subst hi
      exact ⟨U, rfl, u1, fun ρ2 h => u2 ρ2 (fun l hl => by rw [h l hl, ov_pre_zero])⟩
    | succ i =>
      obtain ⟨V, v1, v2, v3⟩ := g3 i e' (by simpa using hi)
      exact ⟨V, by simpa using v1, v2, fun ρ2 h => v3 ρ2 (fun l hl => by rw [h l hl, ov_pre_succ])⟩

/-! ### What is ahead -/

/-- Of what has run, all that is ahead has run. -/
def Down (ops : List Oper) (X : Nat → Bool) : Prop := ∀ k o, ops[k]? = some o → X k = true → ∀ x ∈ o.after.toList, Region.binds .any x = true → X x.on = true

theorem ancs_go {X : Nat → Bool} : ∀ (l : List Oper) (acc : List Nat), (∀ k o, l[k]? = some o → X (acc.length + k) = true → ∀ x ∈ o.after.toList, Region.binds .any x = true → X x.on = true) →
    (∀ k an, acc[k]? = some an → X k = true → ∀ j, an.testBit j = true → X j = true) → ∀ k an, (ancs l acc)[k]? = some an → X k = true → ∀ j, an.testBit j = true → X j = true
  | [], acc, _, ha => ha
  | o :: r, acc, hd, ha => by
    simp only [ancs]
    refine ancs_go r _ (fun k o' hk hX => hd (k + 1) o' (by simpa using hk) (by rw [List.length_append, List.length_singleton] at hX; rw [show acc.length + (k + 1) = acc.length + 1 + k by omega]; exact hX)) ?_
    intro k an hk hX j hj
    rcases Nat.lt_trichotomy k acc.length with hlt | heq | hgt
    · rw [List.getElem?_append_left hlt] at hk
      exact ha k an hk hX j hj
    · subst heq
      simp only [List.getElem?_append_right (Nat.le_refl _), Nat.sub_self, List.getElem?_cons_zero, Option.some.injEq] at hk
      subst hk
      have hdo := hd 0 o rfl (by simpa using hX)
      have fold : ∀ (xs : List Edge) (s : Nat), (∀ x ∈ xs, Region.binds .any x = true → X x.on = true) → (∀ j, s.testBit j = true → X j = true) →
          ∀ j, (xs.foldl (fun s x => if Region.binds .any x then s ||| 2 ^ x.on ||| acc.getD x.on 0 else s) s).testBit j = true → X j = true := by
        intro xs
        induction xs with
        | nil => intro s _ hs j hj; exact hs j hj
        | cons x xs ih =>
          intro s hx hs j hj
          simp only [List.foldl_cons] at hj
          refine ih _ (fun y hy => hx y (by simp [hy])) ?_ j hj
          intro j hj
          by_cases hb : Region.binds .any x = true
          · rw [if_pos hb] at hj
            simp only [Nat.testBit_or, Bool.or_eq_true] at hj
            rcases hj with (hj | hj) | hj
            · exact hs j hj
            · rw [Nat.testBit_two_pow] at hj
              have : x.on = j := by simpa using hj
              rw [← this]; exact hx x (by simp) hb
            · rw [List.getD_eq_getElem?_getD] at hj
              cases hq : acc[x.on]? with
              | none => rw [hq] at hj; simp at hj
              | some an => rw [hq] at hj; exact ha x.on an hq (hx x (by simp) hb) j hj
          · rw [if_neg hb] at hj; exact hs j hj
      exact fold o.after.toList 0 hdo (fun j hj => by simp at hj) j hj
    · rw [List.getElem?_append_right (by omega)] at hk
      have : k - acc.length = (k - acc.length - 1) + 1 := by omega
      rw [this] at hk
      simp at hk

theorem ancs_length : ∀ (l : List Oper) (acc : List Nat), (ancs l acc).length = acc.length + l.length
  | [], acc => by simp [ancs]
  | o :: r, acc => by simp only [ancs]; rw [ancs_length r]; simp; omega

theorem backs_spec : ∀ (l : List Oper) (k : Nat), backs l k = true → ∀ i o, l[i]? = some o → ∀ x ∈ o.after.toList, Region.binds .any x = true → x.on < k + i
  | [], k, _, i, o, h => by simp at h
  | o :: r, k, h, i, o', hi => by
    simp only [backs, Bool.and_eq_true] at h
    intro x hx hb
    cases i with
    | zero =>
      simp only [List.getElem?_cons_zero, Option.some.injEq] at hi
      subst hi
      have := List.all_eq_true.1 h.1 x hx
      simpa [hb] using this
    | succ i =>
      have := backs_spec r (k + 1) h.2 i o' (by simpa using hi) x hx hb
      omega

theorem freeOf_spec {an : Nat} {f : Fp} : ∀ (l : List Rec) (i : Nat), freeOf an f i l = true → ∀ j r, l[j]? = some r → an.testBit (i + j) = false → f.clash r.f = false
  | [], i, _, j, r, h => by simp at h
  | r :: rs, i, h, j, r', hj => by
    simp only [freeOf, Bool.and_eq_true] at h
    intro hb
    cases j with
    | zero =>
      simp only [List.getElem?_cons_zero, Option.some.injEq] at hj
      subst hj
      have := h.1
      rw [Nat.add_zero] at hb
      simpa [hb] using this
    | succ j =>
      exact freeOf_spec rs (i + 1) h.2 j r' (by simpa using hj) (by rw [show i + 1 + j = i + (j + 1) by omega]; exact hb)

theorem freeAll_spec : ∀ (as : List Nat) (rs done : List Rec), freeAll done as rs = true → as.length = rs.length → ∀ j an rj, as[j]? = some an → rs[j]? = some rj →
    ∀ i ri, (done ++ rs)[i]? = some ri → i < done.length + j → an.testBit i = false → rj.f.clash ri.f = false
  | [], rs, done, _, hl, j, an, rj, h, _ => by simp at h
  | an :: as, [], done, _, hl, j, an', rj, _, h => by simp at h
  | an :: as, r :: rs, done, h, hl, j, an', rj, ha, hr => by
    simp only [freeAll, Bool.and_eq_true] at h
    intro i ri hi hlt hb
    cases j with
    | zero =>
      simp only [List.getElem?_cons_zero, Option.some.injEq] at ha hr
      subst ha hr
      rw [Nat.add_zero] at hlt
      rw [List.getElem?_append_left hlt] at hi
      exact freeOf_spec done 0 h.1 i ri hi (by rw [Nat.zero_add]; exact hb)
    | succ j =>
      refine freeAll_spec as rs (done ++ [r]) h.2 (by simpa using hl) j an' rj (by simpa using ha) (by simpa using hr) i ri (by simpa using hi) (by simp; omega) hb

end Rk

/-! Regions that draw their order: the end. -/
set_option linter.unusedVariables false
set_option linter.unusedSimpArgs false
namespace Rk
open Go

theorem reach_sub (A : Acc) : ∀ (f : Nat) (l : List Nat), ∀ x ∈ l, x ∈ reach A f l
  | 0, l, x, h => h
  | f + 1, l, x, h => by simp only [reach, List.mem_append]; exact .inl h

theorem meets_false {α : Type} [BEq α] [LawfulBEq α] {a b : List α} (h : meets a b = false) : ∀ x ∈ a, x ∉ b := by
  intro x hx hb
  have : meets a b = true := List.any_eq_true.2 ⟨x, hx, by simpa using hb⟩
  rw [h] at this
  simp at this

theorem meetsN_false {a : List Nat} {nm : Nat} (h : meetsN a nm = false) : ∀ x ∈ a, ∀ j < 64, x ≠ nm + j := by
  intro x hx j hj e
  have : meetsN a nm = true := List.any_eq_true.2 ⟨x, hx, by simp; omega⟩
  rw [h] at this
  simp at this

structure Apart (a b : Fp) : Prop where
  ws : ∀ x ∈ a.ws, x ∉ b.ws ∧ x ∉ b.rs
  wk : ∀ x ∈ a.wk, x ∉ b.rk ∧ ∀ j < 64, x ≠ b.nm + j
  wl : ∀ x ∈ a.wl, x ∉ b.wl ∧ x ∉ b.rl

theorem hits_false {a b : Fp} (h : a.hits b = false) : Apart a b := by
  simp only [Fp.hits, Bool.or_eq_false_iff] at h
  obtain ⟨⟨⟨⟨⟨h1, h2⟩, h3⟩, h4⟩, h5⟩, h6⟩ := h
  exact ⟨fun x hx => ⟨meets_false h1 x hx, meets_false h2 x hx⟩, fun x hx => ⟨meets_false h3 x hx, meetsN_false h4 x hx⟩, fun x hx => ⟨meets_false h5 x hx, meets_false h6 x hx⟩⟩

theorem guardC_agree {A A' : Acc} {ops : Array Oper} {o : Oper} {c : Cond} (h : guardC A ops o = some c) (hs : ∀ y ∈ c, A'.sl y.1 = A.sl y.1) : guardC A' ops o = some c := by
  unfold guardC at h ⊢
  split at h
  · exact h
  · rename_i j wt hgd
    simp only [Option.bind_eq_bind, Option.bind_eq_some_iff] at h ⊢
    obtain ⟨oj, hoj, g, hg, h⟩ := h
    refine ⟨oj, hoj, g, hg, ?_⟩
    split at h
    · rename_i c0 hsl
      simp only [Option.some.injEq] at h
      subst h
      rw [hs (g, wt) (by simp), hsl]
    · simp at h

theorem okEff_agree {nt : Nat} {sn sn' : List Nat} {A A' : Acc} {c : Cond} {o : Oper} {e : Eff} (h : okEff nt sn A c o e = true)
    (hd : ∀ d, o.dst = some d → d ∉ sn') (hc : ∀ y ∈ c, y.1 ∈ sn') (hk : ∀ κ, (o.dst = some κ ∨ ∃ x ∈ e.ks, x.1 = κ) → A'.ks κ = A.ks κ) : okEff nt sn' A' c o e = true := by
  simp only [okEff, Bool.and_eq_true] at h ⊢
  obtain ⟨⟨⟨⟨⟨⟨⟨h1, h2⟩, h3⟩, h4⟩, h5⟩, h6⟩, h7⟩, h8⟩ := h
  refine ⟨⟨⟨⟨⟨⟨⟨?_, ?_⟩, h3⟩, h4⟩, h5⟩, h6⟩, ?_⟩, h8⟩
  · cases hod : o.dst with
    | none => rfl
    | some d =>
      rw [hod] at h1
      simp only [Bool.and_eq_true] at h1 ⊢
      exact ⟨⟨h1.1.1, by simpa using hd d hod⟩, h1.2⟩
  · exact List.all_eq_true.2 (fun y hy => by simpa using hc y hy)
  · rw [Bool.or_eq_true] at h7 ⊢
    refine h7.imp id (fun q => ?_)
    cases hod : o.dst with
    | none => rw [hod] at q; exact q
    | some d =>
      rw [hod] at q
      unfold skipOk at q ⊢
      simp only [Bool.and_eq_true] at q ⊢
      refine ⟨q.1, ?_⟩
      have q2 := q.2
      have hfr : ∀ (l : List (Nat × KSh)), (∀ x ∈ l, x ∈ e.ks) → frzB A l = true → frzB A' l = true := by
        intro l hl hf
        refine List.all_eq_true.2 (fun x hx => ?_)
        have := List.all_eq_true.1 hf x hx
        rw [hk x.1 (.inr ⟨x, hl x hx, rfl⟩)]
        exact this
      split at q2
      · rename_i kc hcall
        simp only [Bool.and_eq_true] at q2 ⊢
        refine ⟨⟨⟨q2.1.1.1, hfr _ (fun x hx => (List.takeWhile_sublist _).subset hx) q2.1.1.2⟩, List.all_eq_true.2 (fun x hx => ?_)⟩, q2.2⟩
        have := List.all_eq_true.1 q2.1.2 x hx
        rw [hk x.1 (.inr ⟨x, (List.dropWhile_sublist _).subset hx, rfl⟩)]
        exact this
      · rw [Bool.or_eq_true] at q2 ⊢
        refine q2.imp id (fun q3 => ?_)
        split at q3
        · rename_i kk u l t g ce hlast hsets
          simp only [Bool.and_eq_true] at q3 ⊢
          refine ⟨⟨q3.1.1, ?_⟩, hfr _ (fun x hx => List.dropLast_subset _ hx) q3.2⟩
          rw [hk d (.inl hod)]; exact q3.1.2
        · simp at q3

section
variable {E : Env} {C : Ctx} {call : CallF}

/-- The places of those that have run. -/
def seenX (rs : List Rec) (X : Nat → Bool) : List Nat := (List.range rs.length).filterMap fun k => if X k then (rs[k]?).bind (·.o.dst) else none

theorem mem_seenX {rs : List Rec} {X : Nat → Bool} {d : Nat} : d ∈ seenX rs X ↔ ∃ k r, rs[k]? = some r ∧ X k = true ∧ r.o.dst = some d := by
  simp only [seenX, List.mem_filterMap, List.mem_range]
  constructor
  · rintro ⟨k, hk, h⟩
    split at h
    · rename_i hX
      simp only [Option.bind_eq_some_iff] at h
      obtain ⟨r, h1, h2⟩ := h
      exact ⟨k, r, h1, hX, h2⟩
    · simp at h
  · rintro ⟨k, r, h1, h2, h3⟩
    refine ⟨k, (List.getElem?_eq_some_iff.1 h1).1, ?_⟩
    rw [if_pos h2, h1]
    exact h3

theorem draw_go (hS : StepSound E C call) {ops : Array Oper} {sl0 : Nat → Slot} {ks0 : Nat → Option KSh} {ρ : Rho} {rs : List Rec} {Us : List (List (Loc × Dyn))}
    (hUlen : Us.length = rs.length) (hlen : rs.map (·.o) = ops.toList) (hrec : ∀ i r, rs[i]? = some r → RecOk E C.nt ops sl0 ks0 [] rs i r)
    (hback : ∀ i o, ops.toList[i]? = some o → ∀ x ∈ o.after.toList, Region.binds .any x = true → x.on < i)
    (hfree : ∀ (X : Nat → Bool), Down ops.toList X → ∀ j rj, rs[j]? = some rj → X j = true → ∀ i ri, rs[i]? = some ri → i < j → X i = false → Apart rj.f ri.f ∧ Apart ri.f rj.f)
    (hU : ∀ i r, rs[i]? = some r → ∃ U, Us[i]? = some U ∧ (∀ y ∈ U, y.1 ∈ r.e.sets.map (·.1) ++ callOuts r.e.call) ∧ ∀ ρ2, (∀ l ∈ effLocs r.e, ρ2 l = ov pU (pre i) 0 Us ρ l) → runE call r.e ρ2 = some (updS ρ2 U))
    {Q : Exit → Act → World → Prop}
    (hQ : ∀ β' a' w', Rel C (ov pS (fun _ => true) 0 (rs.map (·.e.sl)) sl0) (ov pK (fun _ => true) 0 (rs.map (·.e.ks)) ks0) (ov pU (fun _ => true) 0 Us ρ) β' a' w' → Q .normal a' w') :
    ∀ (fuel : Nat) (listed : Array Bool) (β : Nat → Option Nat) (a : Act) (w : World), listed.size = ops.size → ((List.range ops.size).filter fun i => !listed.getD i true).length = fuel →
      Down ops.toList (fun i => listed.getD i false) →
      Rel C (ov pS (fun i => listed.getD i false) 0 (rs.map (·.e.sl)) sl0) (ov pK (fun i => listed.getD i false) 0 (rs.map (·.e.ks)) ks0) (ov pU (fun i => listed.getD i false) 0 Us ρ) β a w →
      InReg (ov pS (fun i => listed.getD i false) 0 (rs.map (·.e.sl)) sl0) (ov pU (fun i => listed.getD i false) 0 Us ρ) a (seenX rs (fun i => listed.getD i false)) →
      wpAny C.P .any ops Q fuel listed a w := by
  have hrl : rs.length = ops.size := by rw [← Array.length_toList, ← hlen, List.length_map]
  -- whoever is not listed has a least one, which is ready
  have hleast : ∀ (listed : Array Bool), listed.size = ops.size → ∀ n i, i < ops.size → i ≤ n → listed.getD i true = false → Region.ready .any ops listed ≠ [] := by
    intro listed hls n
    induction n with
    | zero =>
      intro i hi hn hl
      have : i = 0 := by omega
      subst this
      have : 0 ∈ Region.ready .any ops listed := by
        rw [mem_ready]
        refine ⟨hl, ops[0], Array.getElem?_eq_getElem hi, fun x hx hb => ?_⟩
        have := hback 0 ops[0] (by rw [Array.getElem?_toList]; exact Array.getElem?_eq_getElem hi) x (by simpa using hx) hb
        omega
      intro h0
      rw [h0] at this
      simp at this
    | succ n ih =>
      intro i hi hn hl
      by_cases hrd : ∀ x ∈ ops[i].after, Region.binds .any x = true → listed.getD x.on false = true
      · have : i ∈ Region.ready .any ops listed := by
          rw [mem_ready]
          exact ⟨hl, ops[i], Array.getElem?_eq_getElem hi, hrd⟩
        intro h0
        rw [h0] at this
        simp at this
      · simp only [Classical.not_forall] at hrd
        obtain ⟨x, hx, hb, hno⟩ := hrd
        have hlt := hback i ops[i] (by rw [Array.getElem?_toList]; exact Array.getElem?_eq_getElem hi) x (by simpa using hx) hb
        refine ih x.on (by omega) (by omega) ?_
        have hlt2 : x.on < listed.size := by omega
        simp [hlt2] at hno ⊢
        exact hno
  intro fuel
  induction fuel with
  | zero =>
    intro listed β a w hls hf hdown hrel hin
    have hall : ∀ i, i < ops.size → listed.getD i false = true := by
      intro i hi
      have hnil := List.length_eq_zero_iff.1 hf
      have : i ∉ (List.range ops.size).filter fun i => !listed.getD i true := by rw [hnil]; simp
      simp only [List.mem_filter, List.mem_range, hi, true_and] at this
      have hlt : i < listed.size := by omega
      simp [hlt] at this ⊢
      exact this
    refine ⟨?_, ?_⟩
    · apply List.eq_nil_iff_forall_not_mem.2
      intro i hi
      rw [mem_ready] at hi
      obtain ⟨h1, o, ho, _⟩ := hi
      have hi := (Array.getElem?_eq_some_iff.1 ho).1
      have := hall i hi
      have hlt : i < listed.size := by omega
      simp [hlt] at this h1
      rw [this] at h1
      simp at h1
    · refine hQ β a w ?_
      rw [ov_all putSl_ok (X := fun i => listed.getD i false) (rs.map (·.e.sl)) 0 sl0 (fun i hi => by rw [Nat.zero_add]; exact hall i (by simp at hi; omega)),
        ov_all putKs_ok (X := fun i => listed.getD i false) (rs.map (·.e.ks)) 0 ks0 (fun i hi => by rw [Nat.zero_add]; exact hall i (by simp at hi; omega)),
        ov_all updS_ok (X := fun i => listed.getD i false) Us 0 ρ (fun i hi => by rw [Nat.zero_add]; exact hall i (by omega))] at hrel
      exact hrel
  | succ fuel ih =>
    intro listed β a w hls hf hdown hrel hin
    refine ⟨fun h0 => ?_, fun i hi => ?_⟩
    · exfalso
      have hne : (List.range ops.size).filter (fun i => !listed.getD i true) ≠ [] := by
        intro h; rw [h] at hf; simp at hf
      obtain ⟨i, hi⟩ := List.exists_mem_of_ne_nil _ hne
      simp only [List.mem_filter, List.mem_range, Bool.not_eq_true'] at hi
      exact hleast listed hls i i hi.1 (Nat.le_refl _) hi.2 h0
    · rw [mem_ready] at hi
      obtain ⟨hun, o, ho, hpre⟩ := hi
      have hio := (Array.getElem?_eq_some_iff.1 ho).1
      have hil : i < listed.size := by omega
      obtain ⟨r, hr⟩ : ∃ r, rs[i]? = some r := ⟨rs[i], List.getElem?_eq_getElem (by omega)⟩
      have hro : r.o = o := by
        have h1 : (rs.map (·.o))[i]? = some r.o := by rw [List.getElem?_map, hr]; rfl
        rw [hlen, Array.getElem?_toList, ho] at h1
        simpa using h1.symm
      obtain ⟨A, a1, a2, a3, a4, a5, a6, sn, a7, a8⟩ := (hrec i r hr).at_
      obtain ⟨U, u1, u2, u3⟩ := hU i r hr
      -- the sets that have run, with it and without
      have hXi : (fun i => listed.getD i false) i = false := by
        simp only [Array.getD_eq_getD_getElem?, Array.getElem?_eq_getElem hil, Option.getD_some] at hun ⊢; exact hun
      have hYi : (fun j => (listed.setIfInBounds i true).getD j false) i = true := by
        simp [hil]
      have hXY : ∀ j, j ≠ i → (fun j => (listed.setIfInBounds i true).getD j false) j = (fun i => listed.getD i false) j := fun j hj => getD_set_ne false (Ne.symm hj)
      generalize hXd : (fun i => listed.getD i false) = X at *
      generalize hYd : (fun j => (listed.setIfInBounds i true).getD j false) = Y at *
      have hpreX : ∀ x ∈ o.after.toList, Region.binds .any x = true → X x.on = true := by
        intro x hx hb
        rw [← hXd]
        exact hpre x (by simpa using hx) hb
      have hdownY : Down ops.toList Y := by
        intro k o' hk hY x hx hb
        by_cases hki : k = i
        · subst hki
          rw [Array.getElem?_toList, ho, Option.some.injEq] at hk
          subst hk
          have := hpreX x hx hb
          by_cases hxi : x.on = k
          · rw [hxi]; exact hYi
          · rw [hXY _ hxi]; exact this
        · rw [hXY k hki] at hY
          have := hdown k o' hk hY x hx hb
          by_cases hxi : x.on = i
          · rw [hxi]; exact hYi
          · rw [hXY _ hxi]; exact this
      -- what does not stand as in the row's own order does not matter to it
      have hap : ∀ (k : Nat) (rk : Rec), rs[k]? = some rk → k ≠ i → pre i k ≠ X k → Apart rk.f r.f ∧ Apart r.f rk.f := by
        intro k rk hk hki hne
        rcases Nat.lt_or_ge k i with hlt | hge
        · have hXk : X k = false := by
            cases hx : X k with
            | false => rfl
            | true => exact absurd (by simp [pre, hlt, hx]) hne
          have := hfree Y hdownY i r hr hYi k rk hk hlt (by rw [hXY k hki]; exact hXk)
          exact ⟨this.2, this.1⟩
        · have hgt : i < k := by omega
          have hXk : X k = true := by
            cases hx : X k with
            | true => rfl
            | false => exact absurd (by simp [pre, hx]; omega) hne
          exact hfree X hdown k rk hk hXk i r hr hgt hXi
      have hrf := a5
      have hws : ∀ (k : Nat) (rk : Rec), rs[k]? = some rk → rk.f.ws = rk.e.sl.map (·.1) ∧ rk.f.wk = rk.e.ks.map (·.1) ∧ rk.f.wl = rk.e.sets.map (·.1) ++ callOuts rk.e.call := by
        intro k rk hk
        obtain ⟨A', _, _, _, _, q, _⟩ := (hrec k rk hk).at_
        rw [q]
        exact ⟨rfl, rfl, rfl⟩
      -- slots, keys and places that it looks at
      have hslX : ∀ t, t ∈ r.f.rs → ov pS X 0 (rs.map (·.e.sl)) sl0 t = A.sl t := by
        intro t ht
        rw [a1]
        refine ov_congr putSl_ok t _ 0 _ _ rfl (fun k w' hk hw => ?_)
        rw [List.getElem?_map] at hk
        cases hrk : rs[k]? with
        | none => rw [hrk] at hk; simp at hk
        | some rk =>
          rw [hrk] at hk
          simp only [Option.map_some, Option.some.injEq] at hk
          subst hk
          rw [Nat.zero_add]
          by_cases hki : k = i
          · subst hki; rw [hXi]; simp [pre]
          · refine Classical.byContradiction (fun hne => ?_)
            obtain ⟨y, hy, rfl⟩ := hw
            exact ((hap k rk hrk hki (fun e => hne e.symm)).1.ws y.1 (by rw [(hws k rk hrk).1]; exact List.mem_map.2 ⟨y, hy, rfl⟩)).2 ht
      have hksX : ∀ κ, (κ ∈ r.f.rk ∨ ∃ j < 64, κ = r.f.nm + j) → ov pK X 0 (rs.map (·.e.ks)) ks0 κ = A.ks κ := by
        intro κ hκ
        rw [a2]
        refine ov_congr putKs_ok κ _ 0 _ _ rfl (fun k w' hk hw => ?_)
        rw [List.getElem?_map] at hk
        cases hrk : rs[k]? with
        | none => rw [hrk] at hk; simp at hk
        | some rk =>
          rw [hrk] at hk
          simp only [Option.map_some, Option.some.injEq] at hk
          subst hk
          rw [Nat.zero_add]
          by_cases hki : k = i
          · subst hki; rw [hXi]; simp [pre]
          · refine Classical.byContradiction (fun hne => ?_)
            obtain ⟨y, hy, rfl⟩ := hw
            have := (hap k rk hrk hki (fun e => hne e.symm)).1.wk y.1 (by rw [(hws k rk hrk).2.1]; exact List.mem_map.2 ⟨y, hy, rfl⟩)
            rcases hκ with hκ | ⟨j, hj, hκ⟩
            · exact this.1 hκ
            · exact this.2 j hj hκ
      have hUw : ∀ (k : Nat) (V : List (Loc × Dyn)) (rk : Rec), Us[k]? = some V → rs[k]? = some rk → ∀ y ∈ V, y.1 ∈ rk.f.wl := by
        intro k V rk hV hrk y hy
        obtain ⟨V', v1, v2, _⟩ := hU k rk hrk
        rw [hV, Option.some.injEq] at v1
        subst v1
        rw [(hws k rk hrk).2.2]
        exact v2 y hy
      have hρX : ∀ l, l ∈ effLocs r.e → ov pU X 0 Us ρ l = ov pU (pre i) 0 Us ρ l := by
        intro l hl
        refine ov_congr updS_ok l _ 0 _ _ rfl (fun k V hV hw => ?_)
        have hk : k < rs.length := by have := (List.getElem?_eq_some_iff.1 hV).1; omega
        obtain ⟨rk, hrk⟩ : ∃ rk, rs[k]? = some rk := ⟨rs[k], List.getElem?_eq_getElem hk⟩
        rw [Nat.zero_add]
        by_cases hki : k = i
        · subst hki; rw [hXi]; simp [pre]
        · refine Classical.byContradiction (fun hne => ?_)
          obtain ⟨y, hy, rfl⟩ := hw
          refine ((hap k rk hrk hki (fun e => hne e.symm)).1.wl y.1 (hUw k V rk hV hrk y hy)).2 ?_
          rw [a5]
          simp only [footprint, effLocs, List.mem_append] at hl ⊢
          exact .inl hl
      have hrun := u3 _ hρX
      have hrs : ∀ y ∈ r.c, y.1 ∈ r.f.rs := by
        intro y hy
        rw [a5]
        simp only [footprint, List.mem_append, List.mem_map]
        exact .inr ⟨y, hy, rfl⟩
      have hg : guardC ⟨ov pS X 0 (rs.map (·.e.sl)) sl0, ov pK X 0 (rs.map (·.e.ks)) ks0⟩ ops o = some r.c := by
        rw [← hro]
        exact guardC_agree a3 (fun y hy => hslX _ (hrs y hy))
      have hagree : Agree A ⟨ov pS X 0 (rs.map (·.e.sl)) sl0, ov pK X 0 (rs.map (·.e.ks)) ks0⟩ (fun t => t ∈ r.f.rs) (fun κ => κ ∈ r.f.rk) := by
        refine ⟨fun t ht => (hslX t ht).symm, fun κ hκ => (hksX κ (.inl hκ)).symm, fun t ht s hs κ hκ => ?_⟩
        rw [a5] at ht ⊢
        simp only [footprint] at ht ⊢
        simp only [List.mem_append]
        refine .inr (reach_sub _ _ _ _ ?_)
        rw [List.mem_flatMap]
        refine ⟨t, ht, ?_⟩
        rw [List.mem_flatMap]
        exact ⟨s, hs, hκ⟩
      have hst : stat E ⟨ov pS X 0 (rs.map (·.e.sl)) sl0, ov pK X 0 (rs.map (·.e.ks)) ks0⟩ r.c o = some r.e := by
        rw [← hro, ← stat_agree hagree ?_ ?_ ?_ ?_]
        · exact a4
        · intro hv κ hκ k hk κ2 hκ2
          have := List.all_eq_true.1 (a6 hv) κ hκ
          rw [hk] at this
          simpa using List.all_eq_true.1 this κ2 hκ2
        · intro d hd
          rw [a5]
          simp only [footprint, List.mem_append]
          exact .inl (.inl (by rw [hd]; simp))
        · intro j hj
          exact (hksX _ (.inr ⟨j, hj, by rw [a5]; rfl⟩)).symm
        · intro x hx
          cases x with
          | tmp t =>
            simp only [opIn]
            rw [a5]
            simp only [footprint, List.mem_append, opTmps, List.mem_filterMap]
            exact .inl ⟨.tmp t, by simpa using hx, rfl⟩
          | _ => trivial
      obtain ⟨k1, k2, k3, k4, k5, k6, k7, k8⟩ := okEff_spec a8
      have hdst : ∀ (k : Nat) (rk : Rec) (d : Nat), rs[k]? = some rk → rk.o.dst = some d → k ≠ i → o.dst ≠ some d := by
        intro k rk d hrk hkd hki hod
        rw [← hro] at hod
        rcases Nat.lt_or_ge k i with hlt | hge
        · exact (k1 d hod).1.2 ((a7 d).2 (.inr ⟨k, hlt, rk, hrk, hkd⟩))
        · obtain ⟨A', _, _, _, _, _, _, sn', q7, q8⟩ := (hrec k rk hrk).at_
          obtain ⟨m1, _⟩ := okEff_spec q8
          exact (m1 d hkd).1.2 ((q7 d).2 (.inr ⟨i, by omega, r, hr, hod⟩))
      have hokX : okEff C.nt (seenX rs X) ⟨ov pS X 0 (rs.map (·.e.sl)) sl0, ov pK X 0 (rs.map (·.e.ks)) ks0⟩ r.c o r.e = true := by
        rw [← hro]
        refine okEff_agree a8 (fun d hd hmem => ?_) (fun y hy => ?_) (fun κ hκ => ?_)
        · obtain ⟨k, rk, hrk, hXk, hkd⟩ := mem_seenX.1 hmem
          have hki : k ≠ i := fun e => by rw [e, hXi] at hXk; simp at hXk
          exact hdst k rk d hrk hkd hki (by rw [← hro]; exact hd)
        · rcases (a7 y.1).1 (k2 y hy) with q | ⟨k, hk, rk, hrk, hkd⟩
          · simp at q
          · refine mem_seenX.2 ⟨k, rk, hrk, ?_, hkd⟩
            refine Classical.byContradiction (fun hno => ?_)
            have hXk : X k = false := by simpa using hno
            have hap' := (hap k rk hrk (by omega) (by rw [hXk]; simp [pre, hk])).1
            obtain ⟨A', _, _, _, _, _, _, sn', q7, q8⟩ := (hrec k rk hrk).at_
            obtain ⟨m1, _⟩ := okEff_spec q8
            obtain ⟨x, hx, hxd⟩ := (m1 y.1 hkd).2
            exact (hap'.ws y.1 (by rw [(hws k rk hrk).1]; exact List.mem_map.2 ⟨x, hx, hxd⟩)).2 (hrs y hy)
        · refine hksX κ (.inl ?_)
          rw [a5]
          simp only [footprint, List.mem_append, List.mem_map]
          rcases hκ with hκ | ⟨x, hx, hκ⟩
          · exact .inl (.inl (by rw [hκ]; simp))
          · exact .inl (.inr ⟨x, hx, hκ⟩)
      unfold wpOp
      simp only [ho]
      refine oper_ok hS hrel hin hg hst hokX hrun (fun β' a' w' hrel' hin' => ?_)
      -- the state behind it
      have hlater : ∀ (j : Nat) (rj : Rec), rs[j]? = some rj → i < j → X j = true → Apart rj.f r.f := fun j rj hj hij hXj =>
        (hap j rj hj (by omega) (by rw [hXj]; simp [pre]; omega)).1
      have e1 : ov pS Y 0 (rs.map (·.e.sl)) sl0 = putSl (ov pS X 0 (rs.map (·.e.sl)) sl0) r.e.sl := by
        funext x
        refine ov_add putSl_ok x i r.e.sl (rs.map (·.e.sl)) 0 sl0 (by rw [List.getElem?_map, hr]; rfl) (by rw [Nat.zero_add]; exact hXi) (by rw [Nat.zero_add]; exact hYi) (fun j hj => hXY j (by omega)) (fun j w' hj hij hXj hw1 hw2 => ?_)
        rw [List.getElem?_map] at hj
        cases hrj : rs[j]? with
        | none => rw [hrj] at hj; simp at hj
        | some rj =>
          rw [hrj] at hj
          simp only [Option.map_some, Option.some.injEq] at hj
          subst hj
          rw [Nat.zero_add] at hXj
          obtain ⟨y, hy, hyx⟩ := hw1
          obtain ⟨z, hz, hzx⟩ := hw2
          exact ((hlater j rj hrj hij hXj).ws x (by rw [(hws j rj hrj).1]; exact List.mem_map.2 ⟨y, hy, hyx⟩)).1 (by rw [(hws i r hr).1]; exact List.mem_map.2 ⟨z, hz, hzx⟩)
      have e2 : ov pK Y 0 (rs.map (·.e.ks)) ks0 = putKs (ov pK X 0 (rs.map (·.e.ks)) ks0) r.e.ks := by
        funext x
        refine ov_add putKs_ok x i r.e.ks (rs.map (·.e.ks)) 0 ks0 (by rw [List.getElem?_map, hr]; rfl) (by rw [Nat.zero_add]; exact hXi) (by rw [Nat.zero_add]; exact hYi) (fun j hj => hXY j (by omega)) (fun j w' hj hij hXj hw1 hw2 => ?_)
        rw [List.getElem?_map] at hj
        cases hrj : rs[j]? with
        | none => rw [hrj] at hj; simp at hj
        | some rj =>
          rw [hrj] at hj
          simp only [Option.map_some, Option.some.injEq] at hj
          subst hj
          rw [Nat.zero_add] at hXj
          obtain ⟨y, hy, hyx⟩ := hw1
          obtain ⟨z, hz, hzx⟩ := hw2
          refine ((hlater j rj hrj hij hXj).wk x (by rw [(hws j rj hrj).2.1]; exact List.mem_map.2 ⟨y, hy, hyx⟩)).1 ?_
          rw [a5]
          simp only [footprint, List.mem_append, List.mem_map]
          exact .inl (.inr ⟨z, hz, hzx⟩)
      have e3 : ov pU Y 0 Us ρ = updS (ov pU X 0 Us ρ) U := by
        funext x
        refine ov_add updS_ok x i U Us 0 ρ u1 (by rw [Nat.zero_add]; exact hXi) (by rw [Nat.zero_add]; exact hYi) (fun j hj => hXY j (by omega)) (fun j V hj hij hXj hw1 hw2 => ?_)
        have hjl : j < rs.length := by have := (List.getElem?_eq_some_iff.1 hj).1; omega
        obtain ⟨rj, hrj⟩ : ∃ rj, rs[j]? = some rj := ⟨rs[j], List.getElem?_eq_getElem hjl⟩
        rw [Nat.zero_add] at hXj
        obtain ⟨y, hy, rfl⟩ := hw1
        obtain ⟨z, hz, hzx⟩ := hw2
        exact ((hlater j rj hrj hij hXj).wl y.1 (hUw j V rj hj hrj y hy)).1 (by rw [← hzx]; exact hUw i U r u1 hr z hz)
      have hin2 : InReg (ov pS Y 0 (rs.map (·.e.sl)) sl0) (ov pU Y 0 Us ρ) a' (seenX rs Y) := by
        rw [e1, e3]
        refine hin'.mono (fun x hx => ?_)
        rcases List.mem_append.1 hx with hx | hx
        · refine mem_seenX.2 ⟨i, r, hr, hYi, ?_⟩
          rw [hro]
          simpa using hx
        · obtain ⟨k, rk, hrk, hXk, hkd⟩ := mem_seenX.1 hx
          refine mem_seenX.2 ⟨k, rk, hrk, ?_, hkd⟩
          rw [hXY k (fun e => by rw [e, hXi] at hXk; simp at hXk)]
          exact hXk
      refine ih (listed.setIfInBounds i true) β' a' w' (by simpa using hls) ?_ (by rw [hYd]; exact hdownY) (by rw [hYd, e1, e2, e3]; exact hrel') (by rw [hYd]; exact hin2)
      · have hp : (fun j => !(listed.setIfInBounds i true).getD j true) = fun j => (j != i) && (!listed.getD j true) := by
          funext j
          by_cases hji : j = i
          · subst hji; simp [hil]
          · rw [getD_set_ne true (Ne.symm hji)]; simp [hji]
        rw [hp, ← List.filter_filter, ← (List.Nodup.sublist List.filter_sublist List.nodup_range).erase_eq_filter]
        rw [List.length_erase_of_mem]
        · omega
        · simp only [List.mem_filter, List.mem_range, Bool.not_eq_true']
          exact ⟨hio, hun⟩

/-- A region that draws its order. -/
theorem draw_ok (hS : StepSound E C call) (hP : C.P = E.P) {ops : Array Oper} {S S' : St} {es : List Eff} {ρ ρ' : Rho} {β : Nat → Option Nat} {a : Act} {w : World}
    (ht : trOps E C.nt ops ops.toList [] S = some (S', es)) (hdr : drawOk E ops S = true) (h : Rel C S.acc.sl S.acc.ks ρ β a w) (hI : InReg S.acc.sl ρ a [])
    (hr : runEs call es ρ = some ρ') {Q : Exit → Act → World → Prop} (hQ : ∀ β' a' w', Rel C S'.acc.sl S'.acc.ks ρ' β' a' w' → Q .normal a' w') (id : Nat) : (Code.region id ops true).wp C.P Q a w := by
  simp only [drawOk, Bool.and_eq_true] at hdr
  obtain ⟨hm, hdr⟩ := hdr
  split at hdr
  rotate_left
  · simp at hdr
  rename_i rs hrs
  simp only [Bool.and_eq_true] at hdr
  obtain ⟨hb, hf⟩ := hdr
  obtain ⟨g1, g2, g3, g4, g5⟩ := recs_spec ops.toList [] S S' es rs ht hrs
  obtain ⟨Us, u1, u2, u3⟩ := runEs_spec es ρ ρ' hr
  refine wp_region_any (by rw [hP]; exact hm) ?_
  have hrl : rs.length = ops.size := by rw [← Array.length_toList, ← g2, List.length_map]
  have hX0 : (fun i => (Array.replicate ops.size false).getD i false) = fun _ => false := by
    funext i
    by_cases hi : i < ops.size <;> simp [hi]
  refine draw_go hS (sl0 := S.acc.sl) (ks0 := S.acc.ks) (ρ := ρ) (rs := rs) (Us := Us) (by rw [u1, ← g1, List.length_map]) g2 g3 (fun i o hi x hx hbx => by have := backs_spec ops.toList 0 hb i o hi x hx hbx; omega) ?_ ?_ ?_ ops.size _ β a _ (by simp) ?_ ?_ ?_ ?_
  · intro X hD j rj hj hXj i ri hi hij hXi
    have hjl : j < rs.length := (List.getElem?_eq_some_iff.1 hj).1
    obtain ⟨an, han⟩ : ∃ an, (ancs ops.toList [])[j]? = some an := ⟨_, List.getElem?_eq_getElem (by rw [ancs_length]; simp; omega)⟩
    have hcl := freeAll_spec (ancs ops.toList []) rs [] hf (by rw [ancs_length]; simp; omega) j an rj han hj i ri (by simpa using hi) (by simpa using hij) (by
      refine Classical.byContradiction (fun hno => ?_)
      have := ancs_go (X := X) ops.toList [] (fun k o hk hX => hD k o hk (by simpa using hX)) (fun k an h => by simp at h) j an han hXj i (by simpa using hno)
      rw [hXi] at this
      simp at this)
    simp only [Fp.clash, Bool.or_eq_false_iff] at hcl
    exact ⟨hits_false hcl.1, hits_false hcl.2⟩
  · intro i r hi
    have : es[i]? = some r.e := by rw [← g1, List.getElem?_map, hi]; rfl
    exact u3 i r.e this
  · intro β' a' w' hrel
    refine hQ β' a' w' ?_
    rw [g5, u2]
    exact hrel.weak (fun i => (g4 i).imp (fun q => q) (fun q => by rw [q]))
  · have : (fun i => !(Array.replicate ops.size false).getD i true) = fun i => decide (i < ops.size) := by
      funext i
      by_cases hi : i < ops.size <;> simp [hi]
    rw [this, List.filter_eq_self.2 (by intro x hx; simpa using hx), List.length_range]
  · rw [hX0]
    intro k o _ hX
    simp at hX
  · rw [hX0, ov_never, ov_never, ov_never]
    exact h.drawn _
  · rw [hX0, ov_never, ov_never]
    exact hI.mono (by simp)

end
end Rk

/-! What translated code computes, the code does. -/
set_option linter.unusedVariables false
set_option linter.unusedSimpArgs false
namespace Rk
open Go

section
variable {C : Ctx} {ρ : Rho} {β : Nat → Option Nat} {a : Act} {w : World}

theorem clean_acc (S : St) : S.clean.acc.ks = S.acc.ks ∧ ∀ i, S.clean.acc.sl i = cleanS (S.acc.sl i) := by
  refine ⟨rfl, fun i => ?_⟩
  simp only [St.clean, St.acc, Tab.get, Tab.get_map]
  cases S.sl.getF 40 i <;> rfl

theorem Rel.clean {S : St} (h : Rel C S.acc.sl S.acc.ks ρ β a w) : Rel C S.clean.acc.sl S.clean.acc.ks ρ β a w ∧ InReg S.clean.acc.sl ρ a [] := by
  obtain ⟨e1, e2⟩ := clean_acc S
  have hc : ∀ i, (S.clean.acc.sl i).cond = [] := by
    intro i
    rw [e2]
    unfold cleanS
    split
    · rename_i hh; simpa using hh
    · rfl
  refine ⟨?_, ⟨fun i y hy => by rw [hc i] at hy; simp at hy, fun i hno => absurd (fun y hy => by rw [hc i] at hy; simp at hy) hno⟩⟩
  rw [e1]
  refine h.weak (fun i => ?_)
  rw [e2]
  unfold cleanS
  split
  · exact .inl rfl
  · exact .inr rfl

theorem tr_ok {F : Fe} {call : CallF} {fuel : Nat} (hS : StepSound F.E C call) (hP : C.P = F.E.P) (hnt : C.nt = F.nt) (hrt : C.rts = F.rt) {RetP : List Dyn → Act → World → Prop}
    (hret : ∀ (S : St) o ρ β a w, trRet F S.acc = some o → Rel C S.acc.sl S.acc.ks ρ β a w → RetP (dyns ρ o) a w) :
    ∀ (c : Code) (S : St) (X : Xs) (r : Option Nf) (tc : TC) (S' : Option St), tr F c S X = some (r, tc, S') → ∀ (κn : Rho → Res) (κx : Nat → Rho → Res) (ρ : Rho) (β : Nat → Option Nat) (a : Act) (w : World) (res : List Dyn),
      Rel C S.acc.sl S.acc.ks ρ β a w → den call fuel tc κn κx ρ = some res → ∀ (Q : Exit → Act → World → Prop),
      (∀ S1 ρ' β' a' w', S' = some S1 → Rel C S1.acc.sl S1.acc.ks ρ' β' a' w' → κn ρ' = some res → Q .normal a' w') →
      (∀ id p ρ' β' a' w', X.find? (·.1 == id) = some p → Rel C p.2.st.acc.sl p.2.st.acc.ks ρ' β' a' w' → κx id ρ' = some res → Q (.exit id) a' w') →
      (∀ a' w', RetP res a' w' → Q .ret a' w') → c.wp C.P Q a w := by
  intro c
  induction c with
  | skip =>
    intro S X r tc S' ht κn κx ρ β a w res h hd Q hn hx hr
    simp only [tr, Option.some.injEq, Prod.mk.injEq] at ht
    obtain ⟨rfl, rfl, rfl⟩ := ht
    exact wp_skip (hn S ρ β a w rfl h hd)
  | label l =>
    intro S X r tc S' ht κn κx ρ β a w res h hd Q hn hx hr
    simp only [tr, Option.some.injEq, Prod.mk.injEq] at ht
    obtain ⟨rfl, rfl, rfl⟩ := ht
    exact wp_label (hn S ρ β a w rfl h hd)
  | region id ops draw =>
    intro S X r tc S' ht κn κx ρ β a w res h hd Q hn hx hr
    simp only [tr, trRegion, Option.bind_eq_bind, Option.bind_eq_some_iff, Option.some.injEq, Prod.mk.injEq] at ht
    obtain ⟨⟨S1, tc1⟩, ⟨⟨S2, es⟩, ho, h2⟩, rfl, rfl, rfl⟩ := ht
    split at h2
    · simp at h2
    rename_i hdok
    simp only [Option.some.injEq, Prod.mk.injEq] at h2
    obtain ⟨rfl, rfl⟩ := h2
    simp only [den, Option.bind_eq_some_iff] at hd
    obtain ⟨ρ1, hd1, hd2⟩ := hd
    obtain ⟨q1, q2⟩ := h.clean
    rw [← hnt] at ho
    cases draw with
    | true =>
      simp only [Bool.true_and, Bool.not_eq_true', Bool.not_eq_false] at hdok
      exact draw_ok hS hP ho hdok q1 q2 hd1 (fun β' a' w' h' => hn S2 ρ1 β' a' w' rfl h' hd2) id
    | false =>
      exact wp_region_list (trOps_ok hS ops.toList [] S.clean S2 es ρ ρ1 β a w ho q1 q2 hd1 Q (fun β' a' w' h' => hn S2 ρ1 β' a' w' rfl h' hd2))
  | seq x y ihx ihy =>
    intro S X r tc S' ht κn κx ρ β a w res h hd Q hn hx hr
    simp only [tr, Option.bind_eq_bind, Option.bind_eq_some_iff] at ht
    obtain ⟨⟨r1, ca, s1⟩, h1, ht⟩ := ht
    cases s1 with
    | none =>
      simp only [Option.some.injEq, Prod.mk.injEq] at ht
      obtain ⟨rfl, rfl, rfl⟩ := ht
      refine wp_seq (ihx S X r1 ca none h1 κn κx ρ β a w res h hd _ (fun S1 ρ' β' a' w' he => by simp at he) hx hr)
    | some S1 =>
      simp only [Option.bind_eq_some_iff, Option.some.injEq, Prod.mk.injEq] at ht
      obtain ⟨⟨r2, cb, s2⟩, h2, rfl, rfl, rfl⟩ := ht
      simp only [den] at hd
      refine wp_seq (ihx S X r1 ca (some S1) h1 _ κx ρ β a w res h hd _ (fun S1' ρ' β' a' w' he hrel hk => ?_) hx hr)
      simp only [Option.some.injEq] at he
      subst he
      exact ihy S1 X r2 cb s2 h2 κn κx ρ' β' a' w' res hrel hk Q hn hx hr
  | cond o x y ihx ihy =>
    intro S X r tc S' ht κn κx ρ β a w res h hd Q hn hx hr
    simp only [tr, Option.bind_eq_bind, Option.bind_eq_some_iff] at ht
    obtain ⟨e, he, ⟨r1, ca, s⟩, h1, ⟨r2, cb, t⟩, h2, ht⟩ := ht
    have hb : a.eval o = .bool (e.evB ρ) := by
      have := opT_ok h (cond := []) (fun y hy => by simp at hy) he
      simp only [RepC, Option.some.injEq] at this
      exact this
    refine wp_cond_split hb (fun hv => ?_) (fun hv => ?_)
    · cases s with
      | none =>
        simp only [Option.some.injEq, Prod.mk.injEq] at ht
        obtain ⟨rfl, rfl, rfl⟩ := ht
        simp only [den, hv, cond_true] at hd
        exact ihx S X r1 ca none h1 κn κx ρ β a w res h hd Q (fun S1 ρ' β' a' w' he => by simp at he) hx hr
      | some s1 =>
        cases t with
        | none =>
          simp only [Option.some.injEq, Prod.mk.injEq] at ht
          obtain ⟨rfl, rfl, rfl⟩ := ht
          simp only [den, hv, cond_true] at hd
          exact ihx S X r1 ca (some s1) h1 κn κx ρ β a w res h hd Q hn hx hr
        | some t1 =>
          simp only [Option.bind_eq_some_iff, Option.some.injEq, Prod.mk.injEq] at ht
          obtain ⟨ma, hma, mb, hmb, rfl, rfl, rfl⟩ := ht
          simp only [den, hv, cond_true] at hd
          refine ihx S X r1 ca (some s1) h1 _ κx ρ β a w res h hd Q (fun S1 ρ' β' a' w' he hrel hk => ?_) hx hr
          simp only [Option.some.injEq] at he
          subst he
          rw [← hrt] at hma
          obtain ⟨β2, hrel2⟩ := coerce_ok hrel hma
          rw [hrt] at hrel2
          exact hn _ _ β2 a' w' rfl hrel2 hk
    · cases t with
      | none =>
        cases s with
        | none =>
          simp only [Option.some.injEq, Prod.mk.injEq] at ht
          obtain ⟨rfl, rfl, rfl⟩ := ht
          simp only [den, hv, cond_false] at hd
          exact ihy S X r2 cb none h2 κn κx ρ β a w res h hd Q (fun S1 ρ' β' a' w' he => by simp at he) hx hr
        | some s1 =>
          simp only [Option.some.injEq, Prod.mk.injEq] at ht
          obtain ⟨rfl, rfl, rfl⟩ := ht
          simp only [den, hv, cond_false] at hd
          exact ihy S X r2 cb none h2 κn κx ρ β a w res h hd Q (fun S1 ρ' β' a' w' he => by simp at he) hx hr
      | some t1 =>
        cases s with
        | none =>
          simp only [Option.some.injEq, Prod.mk.injEq] at ht
          obtain ⟨rfl, rfl, rfl⟩ := ht
          simp only [den, hv, cond_false] at hd
          exact ihy S X r2 cb (some t1) h2 κn κx ρ β a w res h hd Q hn hx hr
        | some s1 =>
          simp only [Option.bind_eq_some_iff, Option.some.injEq, Prod.mk.injEq] at ht
          obtain ⟨ma, hma, mb, hmb, rfl, rfl, rfl⟩ := ht
          simp only [den, hv, cond_false] at hd
          refine ihy S X r2 cb (some t1) h2 _ κx ρ β a w res h hd Q (fun S1 ρ' β' a' w' he hrel hk => ?_) hx hr
          simp only [Option.some.injEq] at he
          subst he
          rw [← hrt] at hmb
          obtain ⟨β2, hrel2⟩ := coerce_ok hrel hmb
          rw [hrt] at hrel2
          exact hn _ _ β2 a' w' rfl hrel2 hk
  | block id x ih =>
    intro S X r tc S' ht κn κx ρ β a w res h hd Q hn hx hr
    simp only [tr, Option.bind_eq_bind, Option.bind_eq_some_iff] at ht
    obtain ⟨⟨xs, s⟩, hfl, ht⟩ := ht
    simp only at ht
    split at ht
    · simp only [Option.bind_eq_some_iff] at ht
      obtain ⟨⟨r1, cc, s1⟩, h1, ht⟩ := ht
      cases s1 with
      | some _ => simp at ht
      | none =>
        simp only [Option.some.injEq, Prod.mk.injEq] at ht
        obtain ⟨rfl, rfl, rfl⟩ := ht
        simp only [den] at hd
        refine wp_block (ih S _ r1 cc none h1 _ _ ρ β a w res h hd _ (fun S1 ρ' β' a' w' he => by simp at he) (fun id' p ρ' β' a' w' hf hrel hk => ?_) hr)
        have hp := List.find?_some hf
        have hm := List.mem_of_find?_eq_some hf
        simp only [List.mem_filter] at hm
        have hne : id' ≠ id := by
          intro e
          have h1 : p.1 = id' := by simpa using hp
          have h2 : p.1 ≠ id := by simpa using hm.2
          exact h2 (by rw [h1, e])
        have hne' : (id' == id) = false := by simpa using hne
        simp only [hne', cond_false] at hk
        simp only [Exit.inBlock, hne, if_false]
        refine hx id' p ρ' β' a' w' ?_ hrel hk
        have gen : ∀ (X : Xs), (X.filter (·.1 != id)).find? (·.1 == id') = some p → X.find? (·.1 == id') = some p := by
          intro X
          induction X with
          | nil => intro hh; exact hh
          | cons q X ihX =>
            intro hh
            by_cases hq : q.1 = id
            · have : ((q :: X).filter (·.1 != id)) = X.filter (·.1 != id) := by simp [List.filter_cons, hq]
              rw [this] at hh
              rw [List.find?_cons_of_neg (by simp [hq]; exact fun e => hne e.symm)]
              exact ihX hh
            · have : ((q :: X).filter (·.1 != id)) = q :: X.filter (·.1 != id) := by simp [List.filter_cons, hq]
              rw [this] at hh
              by_cases hq2 : q.1 = id'
              · rw [List.find?_cons_of_pos (by simpa using hq2)] at hh ⊢
                exact hh
              · rw [List.find?_cons_of_neg (by simpa using hq2)] at hh ⊢
                exact ihX hh
        exact gen X hf
    · rename_i hd0 tl0 heq
      simp only [Option.bind_eq_some_iff] at ht
      obtain ⟨⟨r1, cc, s1⟩, h1, ht⟩ := ht
      have exits : ∀ (N : Nf) (S1 : St), S' = some S1 → S1 = N.st → (∀ id' p ρ' β' a' w', List.find? (fun x : Nat × Nf => x.1 == id') ((id, N) :: X) = some p → Rel C p.2.st.acc.sl p.2.st.acc.ks ρ' β' a' w' →
          (bif id' == id then κn ρ' else κx id' ρ') = some res → Exit.inBlock id Q (.exit id') a' w') := by
        intro N S1 hS1 hN id' p ρ' β' a' w' hf hrel hk
        by_cases hid : id' = id
        · subst hid
          rw [List.find?_cons_of_pos (by simp)] at hf
          simp only [Option.some.injEq] at hf
          subst hf
          simp only [beq_self_eq_true, cond_true] at hk
          simp only [Exit.inBlock, if_true]
          exact hn S1 ρ' β' a' w' hS1 (by rw [hN]; exact hrel) hk
        · rw [List.find?_cons_of_neg (by simp; exact fun e => hid e.symm)] at hf
          have hid' : (id' == id) = false := by simpa using hid
          simp only [hid', cond_false] at hk
          simp only [Exit.inBlock, hid, if_false]
          exact hx id' p ρ' β' a' w' hf hrel hk
      cases s1 with
      | none =>
        simp only [Option.some.injEq, Prod.mk.injEq] at ht
        obtain ⟨rfl, rfl, rfl⟩ := ht
        simp only [den] at hd
        exact wp_block (ih S _ r1 cc none h1 _ _ ρ β a w res h hd _ (fun S1 ρ' β' a' w' he => by simp at he) (exits _ _ rfl rfl) hr)
      | some s1 =>
        simp only [Option.bind_eq_some_iff, Option.some.injEq, Prod.mk.injEq] at ht
        obtain ⟨m, hm, rfl, rfl, rfl⟩ := ht
        simp only [den] at hd
        refine wp_block (ih S _ r1 cc (some s1) h1 _ _ ρ β a w res h hd _ (fun S1 ρ' β' a' w' he hrel hk => ?_) (exits _ _ rfl rfl) hr)
        simp only [Option.some.injEq] at he
        subst he
        rw [← hrt] at hm
        obtain ⟨β2, hrel2⟩ := coerce_ok hrel hm
        rw [hrt] at hrel2
        exact hn _ _ β2 a' w' rfl hrel2 hk
  | loop x ih =>
    intro S X r tc S' ht κn κx ρ β a w res h hd Q hn hx hr
    simp only [tr, Option.bind_eq_bind, Option.bind_eq_some_iff] at ht
    obtain ⟨N, hN, m0, hm0, ⟨r1, cc, s⟩, h1, ht⟩ := ht
    rw [← hrt] at hm0
    obtain ⟨β0, hrel0⟩ := coerce_ok h hm0
    cases s with
    | none =>
      simp only [Option.some.injEq, Prod.mk.injEq] at ht
      obtain ⟨rfl, rfl, rfl⟩ := ht
      simp only [den] at hd
      have key : ∀ (k : Nat) (ρ : Rho) (β : Nat → Option Nat) (a : Act) (w : World), Rel C N.st.acc.sl N.st.acc.ks ρ β a w → iter k (fun self => den call fuel cc self κx) ρ = some res → Code.rounds C.P x Q k a w := by
        intro k
        induction k with
        | zero => intro ρ β a w _ hd; simp [iter] at hd
        | succ k ihk =>
          intro ρ β a w h hd
          simp only [iter] at hd
          rw [rounds_succ]
          exact ih N.st X r1 cc none h1 _ κx ρ β a w res h hd _ (fun S1 ρ' β' a' w' he => by simp at he) hx hr
      exact wp_loop_rounds fuel (key fuel _ β0 a w hrel0 hd)
    | some s1 =>
      simp only [Option.bind_eq_some_iff, Option.some.injEq, Prod.mk.injEq] at ht
      obtain ⟨m, hm, rfl, rfl, rfl⟩ := ht
      simp only [den] at hd
      have key : ∀ (k : Nat) (ρ : Rho) (β : Nat → Option Nat) (a : Act) (w : World), Rel C N.st.acc.sl N.st.acc.ks ρ β a w → iter k (fun self => den call fuel cc (fun ρ => self (updS ρ (evs ρ m))) κx) ρ = some res → Code.rounds C.P x Q k a w := by
        intro k
        induction k with
        | zero => intro ρ β a w _ hd; simp [iter] at hd
        | succ k ihk =>
          intro ρ β a w h hd
          simp only [iter] at hd
          rw [rounds_succ]
          refine ih N.st X r1 cc (some s1) h1 _ κx ρ β a w res h hd _ (fun S1 ρ' β' a' w' he hrel hk => ?_) hx hr
          simp only [Option.some.injEq] at he
          subst he
          rw [← hrt] at hm
          obtain ⟨β2, hrel2⟩ := coerce_ok hrel hm
          exact ihk _ β2 a' w' hrel2 hk
      exact wp_loop_rounds fuel (key fuel _ β0 a w hrel0 hd)
  | exit id =>
    intro S X r tc S' ht κn κx ρ β a w res h hd Q hn hx hr
    simp only [tr, Option.bind_eq_bind, Option.bind_eq_some_iff, Option.some.injEq, Prod.mk.injEq] at ht
    obtain ⟨p, hp, m, hm, rfl, rfl, rfl⟩ := ht
    simp only [den] at hd
    rw [← hrt] at hm
    obtain ⟨β2, hrel2⟩ := coerce_ok h hm
    exact wp_exit (hx id p _ β2 a w hp hrel2 hd)
  | ret =>
    intro S X r tc S' ht κn κx ρ β a w res h hd Q hn hx hr
    simp only [tr, Option.bind_eq_bind, Option.bind_eq_some_iff, Option.some.injEq, Prod.mk.injEq] at ht
    obtain ⟨o, ho, rfl, rfl, rfl⟩ := ht
    simp only [den, Option.some.injEq] at hd
    subst hd
    exact wp_ret (hr a w (hret S o ρ β a w ho h))
  | scope x ih =>
    intro S X r tc S' ht κn κx ρ β a w res h hd Q hn hx hr
    simp only [tr] at ht
    exact wp_scope_straight (ih S X r tc S' ht κn κx ρ β a w res h hd _ hn hx hr)
  | _ => intros; simp_all [tr]

end
end Rk

/-! Functions. -/
set_option linter.unusedVariables false
set_option linter.unusedSimpArgs false
namespace Rk
open Go

/-- What a call is given. -/
structure Entry (E : Env) (C : Ctx) (sg : Sig) (ρ : Rho) (β : Nat → Option Nat) (args : List Value) : Prop where
  tabs : TabsOk E C
  inj : ∀ κ κ' b, Priv (tgtT sg.inKs) κ → Priv (tgtT sg.inKs) κ' → β κ = some b → β κ' = some b → κ = κ'
  own : ∀ κ b, Priv (tgtT sg.inKs) κ → β κ = some b → C.T b
  keys : ∀ x ∈ sg.inKs, KeyOk (memOf C (tgtT sg.inKs) β ρ C.w0) x.1 x.2
  slots : SKsOk (memOf C (tgtT sg.inKs) β ρ C.w0) sg.inSl args
  jt : ∀ b, C.J b → b < C.w0.heap.size ∧ ¬ C.T b
  tt : ∀ b, C.T b → b < C.w0.heap.size
  tab : ∀ g, ρ (.g g) = C.tabs g

/-- What it answers. -/
structure OutOk (C : Ctx) (sg : Sig) (ρ : Rho) (β : Nat → Option Nat) (v : Value) (w : World) : Prop where
  inj : ∀ κ κ' b, Priv (tgtT sg.outKs) κ → Priv (tgtT sg.outKs) κ' → β κ = some b → β κ' = some b → κ = κ'
  own : ∀ κ b, Priv (tgtT sg.outKs) κ → β κ = some b → C.own b ∧ b < w.heap.size
  keys : ∀ x ∈ sg.outKs, KeyOk (memOf C (tgtT sg.outKs) β ρ w) x.1 x.2
  slot : SKOk (memOf C (tgtT sg.outKs) β ρ w) 0 sg.outSK v
  fr : Keep C w
  root : ∀ κ ∈ sg.roots, β κ = C.β0 κ

/-- What is answered, is returned. -/
def Sound (G : Prg) (call : CallF) : Prop :=
  ∀ (f : FuncId) (i : Nat) (xs r : List Dyn) (sg : Sig), call f i xs = some r → (G.E.sig f)[i]? = some sg → ∀ (C : Ctx) (β : Nat → Option Nat) (args : List Value),
    C.tabs = G.tabs → C.β0 = β → C.rts = sg.roots → Entry G.E C sg (G.init sg xs) β args →
    Calls G.E.P f args.toArray C.w0 (fun e w' => ∃ v, e = .returned v ∧ r.length = sg.outLocs.length ∧ ∃ β', OutOk C sg (updS (baseRho G.tabs) ((sg.outLocs.map (·.1)).zip r)) β' v w')

section
variable {C : Ctx} {ρ : Rho} {β : Nat → Option Nat} {a : Act} {w : World}

theorem roots_ge {sg : Sig} (hl : sg.iks.length ≤ 100000) : ∀ κ ∈ sg.roots, 100000 ≤ κ ∧ κ < 200000 := by
  intro κ hκ
  simp only [Sig.roots, List.mem_filterMap] at hκ
  obtain ⟨⟨k, i⟩, hm, h⟩ := hκ
  have hi : i < sg.iks.length := by
    have := List.mem_zipIdx hm
    omega
  split at h
  · simp only [Option.some.injEq] at h
    rw [← h]
    unfold inKey
    omega
  · simp at h

theorem SKsOk.length {M : Mem} : ∀ (l : List (Nat × SK)) (vs : List Value), SKsOk M l vs → l.length = vs.length
  | [], [], _ => rfl
  | (i, k) :: r, v :: vs, h => by simp [SKsOk.length r vs h.2]
  | [], _ :: _, h => h.elim
  | _ :: _, [], h => h.elim

theorem SKsOk.at {M : Mem} : ∀ (l : List (Nat × SK)) (vs : List Value), SKsOk M l vs → ∀ (q : Nat) (x : Nat × SK), l[q]? = some x → ∃ v, vs[q]? = some v ∧ SKOk M x.1 x.2 v
  | (i, k) :: r, v :: vs, h, 0, x, hq => by simp at hq; subst hq; exact ⟨v, rfl, h.1⟩
  | (i, k) :: r, v :: vs, h, q + 1, x, hq => by simpa using SKsOk.at r vs h.2 q x (by simpa using hq)
  | [], [], h, q, x, hq => by simp at hq
  | [], _ :: _, h, _, _, _ => h.elim
  | _ :: _, [], h, _, _, _ => h.elim

theorem inSl_at (sg : Sig) (q : Nat) (x : Nat × SK) (h : sg.inSl[q]? = some x) : x.1 = q := by
  simp only [Sig.inSl, List.getElem?_map, Option.map_eq_some_iff] at h
  obtain ⟨y, hy, rfl⟩ := h
  simp only [List.getElem?_zipIdx, Option.map_eq_some_iff] at hy
  obtain ⟨k, _, rfl⟩ := hy
  simp

theorem inSl_length (sg : Sig) : sg.inSl.length = sg.ins.length := by simp [Sig.inSl]

/-- The state at a function's entry. -/
theorem Entry.rel {E : Env} {sg : Sig} {args : List Value} (h : Entry E C sg ρ β args) (hβ : C.β0 = β) (hn : sg.ins.length ≤ C.nt) (hok : (entryN sg).ok = true) :
    Rel C (entry sg).acc.sl (entry sg).acc.ks ρ β { tmps := args.toArray ++ Array.replicate (C.nt - args.toArray.size) undef, defers := [] } C.w0 := by
  obtain ⟨e1, e2⟩ := Nf_acc hok
  have e1' : (entry sg).acc.ks = tgtT sg.inKs := e1
  have hlen : args.length = sg.ins.length := by rw [← SKsOk.length _ _ h.slots, inSl_length]
  rw [e1']
  refine ⟨h.inj, fun κ b hp hb => ⟨.inl (h.own κ b hp hb), h.tt b (h.own κ b hp hb)⟩, fun κ k hk => h.keys (κ, k) (find_mem hk), fun i => ?_, ?_, rfl, ⟨rfl, rfl, rfl, Nat.le_refl _, fun _ _ _ => rfl⟩, h.jt, h.tt, h.tab, fun κ _ => by rw [hβ]⟩
  · have := e2 i
    unfold entry
    rw [this]
    rcases putSl_find (entryN sg).sl (fun _ => ⟨[], .dead⟩) i with ⟨s, q1, q2⟩ | q
    · rw [q2]
      intro _
      simp only [entryN, List.mem_map] at q1
      obtain ⟨y, hy, hye⟩ := q1
      simp only [Prod.mk.injEq] at hye
      obtain ⟨rfl, rfl⟩ := hye
      obtain ⟨q, hq⟩ := List.getElem?_of_mem hy
      obtain ⟨v, hv1, hv2⟩ := SKsOk.at _ _ h.slots q y hq
      have hyq := inSl_at sg q y hq
      have hqlt : q < args.length := by
        rcases Nat.lt_or_ge q args.length with h' | h'
        · exact h'
        · simp [List.getElem?_eq_none h'] at hv1
      have : (args.toArray ++ Array.replicate (C.nt - args.toArray.size) undef).getD y.1 undef = v := by
        rw [hyq, Array.getD_eq_getD_getElem?, Array.getElem?_append_left (by simpa using hqlt), List.getElem?_toArray, hv1]
        rfl
      simp only
      rw [this]
      exact hv2
    · rw [q]; intro _; trivial
  · simp only [Array.size_append, Array.size_replicate, List.size_toArray]
    omega

/-- A result, read. -/
def resM (a : Act) : ResultVar → Sem Value
  | .tmp t => pure (a.tmps.getD t undef)
  | .cell c t => do loadVar t (← asAddr (a.tmps.getD c undef))

theorem results_eq (fn : Func) (a : Act) : results fn a.tmps = (do let vs ← fn.results.mapM (resM a); pure (if h : vs.size = 1 then vs[0] else .tuple vs)) := by
  have : (fun x : ResultVar => match x with | .tmp t => (pure (a.tmps.getD t undef) : Sem Value) | .cell c t => do loadVar t (← asAddr (a.tmps.getD c undef))) = resM a := by
    funext x; cases x <;> rfl
  unfold results
  rw [← this]
  rfl

theorem resV_ok {E : Env} {S : St} (hP : C.P = E.P) (h : Rel C S.acc.sl S.acc.ks ρ β a w) : ∀ (rs : List ResultVar) (vs : List (Bool × List CE)), rs.mapM (resV E S.acc) = some vs →
    ∃ vals : List Value, (rs.mapM (resM a)).run C.P w = .ok vals w ∧ VsOk (memOf C S.acc.ks β ρ w) vs vals
  | [], vs, hm => by
    simp at hm; subst hm
    exact ⟨[], by simp, trivial⟩
  | r :: rs, vs, hm => by
    simp only [List.mapM_cons, Option.bind_eq_bind, Option.bind_eq_some_iff, Option.pure_def, Option.some.injEq] at hm
    obtain ⟨v, h1, ws, h2, rfl⟩ := hm
    obtain ⟨vals, q1, q2⟩ := resV_ok hP h rs ws h2
    cases r with
    | cell c t =>
      simp only [resV, Option.bind_eq_bind, Option.bind_eq_some_iff] at h1
      obtain ⟨⟨s, e0⟩, hc, g, hg, n, hn, h1⟩ := h1
      rw [← hP] at hg hn
      have hv := op1_ok h (cond := []) (fun y hy => by simp at hy) hc
      dsimp only at h1
      split at h1
      · rename_i κ j
        simp only [Option.bind_eq_some_iff] at h1
        obtain ⟨k, hk, h1⟩ := h1
        split at h1
        · rename_i cs
          split at h1
          · rename_i hcond
            simp only [Option.some.injEq] at h1
            subst h1
            simp only [Bool.and_eq_true, Bool.or_eq_true, decide_eq_true_eq, beq_iff_eq] at hcond
            have hcell := hv.2
            simp only [CellOk, memOf, hk] at hcell
            obtain ⟨b, hb, hvb⟩ := hcell
            obtain ⟨b', cc, h0, h1, h2'⟩ := h.keys κ _ hk
            simp only [memOf] at h0
            rw [hb] at h0; simp only [Option.some.injEq] at h0; subst h0
            have hlen := h2'.length
            have h3 := (CellsOk.take n _ _ _ (CellsOk.drop j _ _ _ h2'))
            rw [Nat.zero_add] at h3
            have hl : ((cc.toList.drop j).take n).length = n := by simp only [List.length_take, List.length_drop]; omega
            have hrun := run_loadVar_cells (P := C.P) (w := w) (b := b) (o := j) hg hn hcond.2 hl (fun i hi => by
              have := h1.cell (j + i)
              simp only [memOf] at this
              rw [this, List.getElem?_take, if_pos hi, List.getElem?_drop, Array.getElem?_toList])
            have hvb' : a.tmps.getD c undef = .pointer (some ⟨b, j, none⟩) := hvb
            refine ⟨mkV g ((cc.toList.drop j).take n) :: vals, ?_, ⟨_, rfl, fun hg' => ?_, CEsOk.of_cells _ _ _ h3⟩, q2⟩
            · simp only [List.mapM_cons, Sem.run_bind, resM, hvb', asAddr, Sem.run_pure, Result.andThen_ok, hrun, q1]
            · rw [hl]
              rcases hcond.2 with hq | hq
              · simp only at hg'; rw [hg'] at hq; simp at hq
              · exact hq
          · simp at h1
        · simp at h1
      · rename_i κ
        simp only [Option.bind_eq_some_iff] at h1
        obtain ⟨k, hk, h1⟩ := h1
        split at h1
        · rename_i u m
          split at h1
          · rename_i hcond
            simp only [Option.some.injEq] at h1
            subst h1
            simp only [Bool.and_eq_true, beq_iff_eq] at hcond
            obtain ⟨⟨rfl, rfl⟩, hu⟩ := hcond
            have hcell := hv.2
            simp only [CellOk, memOf, hk] at hcell
            obtain ⟨b, hb, hvb⟩ := hcell
            obtain ⟨b', cc, h0, hblk, hm, hrows⟩ := h.keys κ _ hk
            simp only [memOf] at h0 hm
            rw [hb] at h0; simp only [Option.some.injEq] at h0; subst h0
            obtain ⟨vs, r1, r2, r3⟩ := arrCs_ok (M := memOf C S.acc.ks β ρ w) (e := .loc (.k κ 0)) (c := cc) hu hrows n 0 (by
              show 0 + n ≤ (content ρ κ u).length
              omega)
            have hrun := run_loadVar_cells (P := C.P) (w := w) (b := b) (o := 0) hg hn (.inl rfl) r1 (fun i hi => by
              have := hblk.cell (0 + i)
              simp only [memOf] at this
              rw [this]
              have := r2 i hi
              rw [← this])
            have hvb' : a.tmps.getD c undef = .pointer (some ⟨b, 0, none⟩) := hvb
            refine ⟨mkV true vs :: vals, ?_, ⟨_, rfl, fun hg' => by simp at hg', r3⟩, q2⟩
            simp only [List.mapM_cons, Sem.run_bind, resM, hvb', asAddr, Sem.run_pure, Result.andThen_ok, hrun, q1]
          · simp at h1
        · simp at h1
      · simp at h1
    | tmp t =>
      simp only [resV] at h1
      have hv := opC_ok h (cond := []) (fun y hy => by simp at hy) h1
      refine ⟨a.tmps.getD t undef :: vals, ?_, hv, q2⟩
      simp only [List.mapM_cons, Sem.run_bind, resM, Sem.run_pure, Result.andThen_ok, q1]

theorem VsOk.length {M : Mem} : ∀ (Vs : List (Bool × List CE)) (vs : List Value), VsOk M Vs vs → Vs.length = vs.length
  | [], [], _ => rfl
  | V :: Vs, v :: vs, h => by simp [VsOk.length Vs vs h.2]
  | [], _ :: _, h => h.elim
  | _ :: _, [], h => h.elim

theorem inj_roots (rt : List Nat) : Inj1 (rt.map fun κ => (κ, some κ)) := by
  have key : ∀ (rt : List Nat) κ κ', lookK (rt.map fun κ => (κ, some κ)) κ = some (some κ') → κ = κ' := by
    intro rt
    induction rt with
    | nil => intro κ κ' hh; simp [lookK] at hh
    | cons r rt ih =>
      intro κ κ' hh
      simp only [List.map_cons, lookK] at hh
      split at hh
      · rename_i hr
        have hr' : r = κ := by simpa using hr
        simp only [Option.some.injEq] at hh
        rw [← hr', hh]
      · exact ih κ κ' hh
  intro κ1 κ2 κ' q1 q2
  rw [key rt _ _ q1, key rt _ _ q2]

theorem look_roots {κ : Nat} : ∀ (rt : List Nat), κ ∈ rt → lookK (rt.map fun κ => (κ, some κ)) κ = some (some κ)
  | [], hh => by simp at hh
  | r :: rt, hh => by
    simp only [List.map_cons, lookK]
    by_cases hr : r = κ
    · simp [hr]
    · have hr' : (r == κ) = false := by simpa using hr
      rw [hr']
      simp only [Bool.false_eq_true, if_false]
      exact look_roots rt (by rcases List.mem_cons.1 hh with hh | hh; exact absurd hh.symm hr; exact hh)

theorem zip_evs (ρ : Rho) : ∀ (l : List (Loc × Ty × PE)), ((l.map fun x => (x.1, x.2.1)).map (·.1)).zip (dyns ρ (l.map (·.2))) = evs ρ l
  | [] => rfl
  | x :: r => by
    simp only [List.map_cons, dyns, evs, List.zip_cons_cons]
    congr 1
    exact zip_evs ρ r

/-- What a function returns. -/
theorem trRet_ok {F : Fe} {S : St} {o : List (Ty × PE)} {tabs : Nat → Dyn} (hP : C.P = F.E.P) (hrt : C.rts = F.rt) (hrs : F.rt = F.sg.roots) (ho : trRet F S.acc = some o) (h : Rel C S.acc.sl S.acc.ks ρ β a w) :
    a.defers = [] ∧ (dyns ρ o).length = F.sg.outLocs.length ∧ ∃ v, (results F.fn a.tmps).run C.P w = .ok v w ∧ ∃ β', OutOk C F.sg (updS (baseRho tabs) ((F.sg.outLocs.map (·.1)).zip (dyns ρ o))) β' v w := by
  refine ⟨h.dfr, ?_⟩
  simp only [trRet, Option.bind_eq_bind, Option.bind_eq_some_iff] at ho
  obtain ⟨vs, hvs, c, hcv, ho⟩ := ho
  split at ho
  · simp at ho
  rename_i hcond
  simp only [Bool.or_eq_true, bne_iff_ne, ne_eq, Bool.not_eq_true', not_or, Decidable.not_not, Bool.not_eq_false] at hcond
  obtain ⟨⟨hlocs, hnd⟩, hnk⟩ := hcond
  simp only [Option.some.injEq] at ho
  subst ho
  have hnd' := nodupB_ok _ hnd
  have hnk' := nodupB_ok _ hnk
  obtain ⟨vals, q1, q2⟩ := resV_ok hP h _ _ hvs
  have hvl := VsOk.length _ _ q2
  have hres : ∃ v, (results F.fn a.tmps).run C.P w = .ok v w ∧ OpVOk (memOf C S.acc.ks β ρ w) (retV vs) v := by
    clear hvs hcv
    have hm : (F.fn.results.mapM (resM a)).run C.P w = .ok vals.toArray w := by
      rw [Array.mapM_eq_mapM_toList, Sem.run_map, q1]
      rfl
    have hrun : (results F.fn a.tmps).run C.P w = .ok (if h : vals.toArray.size = 1 then vals.toArray[0] else .tuple vals.toArray) w := by
      rw [results_eq]
      simp only [Sem.run_bind, hm, Result.andThen_ok, Sem.run_pure]
    refine ⟨_, hrun, ?_⟩
    match vs, vals, q2 with
    | [], [], _ => exact ⟨[], rfl, trivial⟩
    | [v], [x], q2 => exact q2.1
    | v :: v2 :: vs, x :: x2 :: xs, q2 =>
      refine ⟨x :: x2 :: xs, ?_, q2⟩
      have : ¬ ((x :: x2 :: xs).toArray.size = 1) := by simp
      rw [dif_neg this]
    | [], _ :: _, q2 => exact q2.elim
    | [_], [], q2 => exact q2.elim
    | [_], _ :: _ :: _, q2 => exact q2.2.elim
    | _ :: _ :: _, [], q2 => exact q2.elim
    | _ :: _ :: _, [_], q2 => exact q2.2.elim
  obtain ⟨v, hrun, hv⟩ := hres
  refine ⟨by rw [← hlocs]; simp [dyns], v, hrun, tgtβ c.km β, ?_⟩
  have hmv : ∀ x ∈ c.mvs, ((updS (baseRho tabs) ((F.sg.outLocs.map (·.1)).zip (dyns ρ (c.mvs.map (·.2))))) x.1).get x.2.1 = x.2.2.ev ρ x.2.1 := by
    intro x hx
    rw [← hlocs, zip_evs]
    have hm2 : (x.1, (⟨x.2.1, x.2.2.ev ρ x.2.1⟩ : Dyn)) ∈ evs ρ c.mvs := List.mem_map.2 ⟨x, hx, rfl⟩
    have := updS_mem (ρ := baseRho tabs) (evs ρ c.mvs) (by
      rw [← hlocs] at hnd'
      simpa [evs, Function.comp_def] using hnd') _ hm2
    simp only at this
    rw [this, Dyn.get_mk]
  obtain ⟨k1, k2, k3⟩ := conv_imms h hcv
  have hF := conv_fits (I := imms C (tgtT F.sg.outKs) (tgtβ c.km β) w) (β' := tgtβ c.km β) h hcv hnk' (fun κ o hk => by simp only [tgtβ, hk]; cases o <;> rfl) hmv k3
  obtain ⟨c1, h1, h2, h3⟩ := conv_spec hcv
  have hinj : Inj1 c.km := (cvKs_le _ _ _ h2).2 ((cvSl_le _ _ _ _ h1).2 (inj_roots F.rt))
  have hsk := cvSl_ok h _ _ [v] _ _ h1 (hF.le (cvKs_le _ _ _ h2).1) ⟨hv, trivial⟩
  have hkk := cvKs_ok h _ _ _ h2 hF (fun x hx => mem_find hnk' hx)
  refine ⟨fun κ κ' b p1 p2 b1 b2 => ?_, fun κ b p1 b1 => ?_, hkk, hsk.1, h.fr, fun κ hκ => ?_⟩
  · obtain ⟨κ1, q1, q2, q3⟩ := k1 κ b p1 b1
    obtain ⟨κ2, r1, r2, r3⟩ := k1 κ' b p2 b2
    have : κ1 = κ2 := h.inj κ1 κ2 b q2 r2 q3 r3
    subst this
    exact hinj _ _ _ q1 r1
  · obtain ⟨κ1, q1, q2, q3⟩ := k1 κ b p1 b1
    exact h.own κ1 b q2 q3
  · rw [← hrs] at hκ
    have := (cvKs_le _ _ _ h2).1.km _ _ ((cvSl_le _ _ _ _ h1).1.km _ _ (look_roots F.rt hκ))
    simp only [tgtβ, this]
    exact h.rt κ (by rw [hrt]; exact hκ)

end

/-- A function that is translated returns what its translation answers. -/
theorem fn_ok {G : Prg} {call : CallF} {fuel : Nat} (hS : ∀ C : Ctx, TabsOk G.E C → C.tabs = G.tabs → StepSound G.E C call) {f : FuncId} {i : Nat} {tc : TC} {sg : Sig} (hc : G.code f i = some (tc, sg)) {xs r : List Dyn}
    (hr : den call fuel tc (fun _ => none) (fun _ _ => none) (G.init sg xs) = some r) {C : Ctx} {β : Nat → Option Nat} {args : List Value} (htb : C.tabs = G.tabs) (hβ : C.β0 = β) (hrt : C.rts = sg.roots) (he : Entry G.E C sg (G.init sg xs) β args) :
    Calls G.E.P f args.toArray C.w0 (fun e w' => ∃ v, e = .returned v ∧ r.length = sg.outLocs.length ∧ ∃ β', OutOk C sg (updS (baseRho G.tabs) ((sg.outLocs.map (·.1)).zip r)) β' v w') := by
  obtain ⟨fn, tc', hfn, hsg, htc, rfl, _⟩ := Prg.code_spec hc
  rw [den_ann] at hr
  simp only [trFn, Option.bind_eq_bind, Option.bind_eq_some_iff] at htc
  obtain ⟨body, hbody, htc⟩ := htc
  split at htc
  · simp at htc
  rename_i hcond
  simp only [Bool.or_eq_true, decide_eq_true_eq, Bool.not_eq_true', not_or, Nat.not_lt, Bool.not_eq_false] at hcond
  obtain ⟨⟨⟨hn1, hn2⟩, hok⟩, hik⟩ := hcond
  let C2 : Ctx := { C with nt := fn.ntmps, hrt := fun κ hκ => by have := roots_ge hik κ (by rw [← hrt]; exact hκ); omega }
  have he2 : Entry G.E C2 sg (G.init sg xs) β args := ⟨⟨he.tabs.P, he.tabs.tab⟩, he.inj, he.own, he.keys, he.slots, he.jt, he.tt, he.tab⟩
  have hrel := he2.rel hβ hn2 hok
  have hP : C2.P = G.E.P := he.tabs.P
  have hlen : args.length = sg.ins.length := by rw [← SKsOk.length _ _ he.slots, inSl_length]
  have hSS : StepSound G.E C2 call := @hS C2 ⟨he.tabs.P, he.tabs.tab⟩ htb
  refine calls_of_wp hfn hbody ?_
  have toQ : ∀ (res : List Dyn) (a' : Act) (w' : World), (a'.defers = [] ∧ res.length = sg.outLocs.length ∧ ∃ v, (results fn a'.tmps).run C2.P w' = .ok v w' ∧ ∃ β', OutOk C2 sg (updS (baseRho G.tabs) ((sg.outLocs.map (·.1)).zip res)) β' v w') → res = r →
      (a'.defers = [] ∧ ∃ v, (results fn a'.tmps).run G.E.P w' = .ok v w' ∧ ∃ v', Ending.returned v = .returned v' ∧ r.length = sg.outLocs.length ∧ ∃ β', OutOk C sg (updS (baseRho G.tabs) ((sg.outLocs.map (·.1)).zip r)) β' v' w') := by
    rintro res a' w' ⟨h1, h0, v, h2, β', h3⟩ rfl
    rw [hP] at h2
    exact ⟨h1, v, h2, v, rfl, h0, β', ⟨h3.inj, h3.own, h3.keys, h3.slot, ⟨h3.fr.os, h3.fr.tape, h3.fr.output, h3.fr.size, h3.fr.block⟩, h3.root⟩⟩
  simp only [Option.bind_eq_some_iff] at htc
  obtain ⟨⟨r1, cc, s⟩, ht, htc⟩ := htc
  have hret : ∀ (S : St) o ρ β a w, trRet ⟨G.E, fn, sg, fn.ntmps, sg.roots⟩ S.acc = some o → Rel C2 S.acc.sl S.acc.ks ρ β a w →
      (a.defers = [] ∧ (dyns ρ o).length = sg.outLocs.length ∧ ∃ v, (results fn a.tmps).run C2.P w = .ok v w ∧ ∃ β', OutOk C2 sg (updS (baseRho G.tabs) ((sg.outLocs.map (·.1)).zip (dyns ρ o))) β' v w) :=
    fun S o ρ β a w ho hr => trRet_ok (C := C2) (F := ⟨G.E, fn, sg, fn.ntmps, sg.roots⟩) hP hrt rfl ho hr
  have base := tr_ok (C := C2) (F := ⟨G.E, fn, sg, fn.ntmps, sg.roots⟩) (call := call) (fuel := fuel) (@hSS) hP rfl hrt
    (RetP := fun res a' w' => a'.defers = [] ∧ res.length = sg.outLocs.length ∧ ∃ v, (results fn a'.tmps).run C2.P w' = .ok v w' ∧ ∃ β', OutOk C2 sg (updS (baseRho G.tabs) ((sg.outLocs.map (·.1)).zip res)) β' v w') hret body (entry sg) [] r1 cc s ht
  rw [← hP]
  cases s with
  | none =>
    simp only [Option.some.injEq] at htc
    subst htc
    refine base _ _ _ β _ _ r hrel hr _ (fun S1 ρ' β' a' w' he => by simp at he) (fun id p ρ' β' a' w' hf => by simp at hf) (fun a' w' hret => ?_)
    rw [hP]
    exact toQ r a' w' hret rfl
  | some S1 =>
    simp only [Option.bind_eq_some_iff, Option.some.injEq] at htc
    obtain ⟨o, ho, rfl⟩ := htc
    simp only [den] at hr
    refine base _ _ _ β _ _ r hrel hr _ (fun S2 ρ' β' a' w' he hrel' hk => ?_) (fun id p ρ' β' a' w' hf => by simp at hf) (fun a' w' hret => ?_)
    · simp only [Option.some.injEq] at he hk
      subst he
      rw [hP]
      exact toQ _ a' w' (hret S1 o ρ' β' a' w' ho hrel') hk
    · rw [hP]
      exact toQ r a' w' hret rfl

end Rk

/-! Calls. -/
set_option linter.unusedVariables false
set_option linter.unusedSimpArgs false
namespace Rk
open Go

theorem find1 {α : Type} {l : List (Nat × α)} {κ : Nat} {k : α} (h : (l.find? (·.1 == κ)).map (·.2) = some k) : (κ, k) ∈ l := by
  simp only [Option.map_eq_some_iff] at h
  obtain ⟨x, hx, rfl⟩ := h
  have h1 := List.mem_of_find?_eq_some hx
  have h2 := List.find?_some hx
  have h2' : x.1 = κ := by simpa using h2
  subst h2'
  exact h1

theorem find2 {l : List (Nat × Nat)} {n κ : Nat} (h : (l.find? (·.2 == n)).map (·.1) = some κ) : (κ, n) ∈ l := by
  simp only [Option.map_eq_some_iff] at h
  obtain ⟨x, hx, rfl⟩ := h
  have h1 := List.mem_of_find?_eq_some hx
  have h2 := List.find?_some hx
  have h2' : x.2 = n := by simpa using h2
  subst h2'
  exact h1

theorem nodup_fst {α : Type} : ∀ {l : List (Nat × α)} {κ : Nat} {a b : α}, (l.map (·.1)).Nodup → (κ, a) ∈ l → (κ, b) ∈ l → a = b
  | x :: r, κ, a, b, hn, h1, h2 => by
    simp only [List.map_cons, List.nodup_cons] at hn
    rcases List.mem_cons.1 h1 with e1 | e1 <;> rcases List.mem_cons.1 h2 with e2 | e2
    · rw [← e1] at e2; simpa using e2.symm
    · exact absurd (List.mem_map.2 ⟨_, e2, by rw [← e1]⟩) hn.1
    · exact absurd (List.mem_map.2 ⟨_, e1, by rw [← e2]⟩) hn.1
    · exact nodup_fst hn.2 e1 e2

theorem nodup_snd : ∀ {l : List (Nat × Nat)} {n a b : Nat}, (l.map (·.2)).Nodup → (a, n) ∈ l → (b, n) ∈ l → a = b
  | x :: r, κ, a, b, hn, h1, h2 => by
    simp only [List.map_cons, List.nodup_cons] at hn
    rcases List.mem_cons.1 h1 with e1 | e1 <;> rcases List.mem_cons.1 h2 with e2 | e2
    · rw [← e1] at e2; simpa using e2.symm
    · exact absurd (List.mem_map.2 ⟨_, e2, by rw [← e1]⟩) hn.1
    · exact absurd (List.mem_map.2 ⟨_, e1, by rw [← e2]⟩) hn.1
    · exact nodup_snd hn.2 e1 e2

def invOf (nms : List (Nat × Nat)) (n : Nat) : Option Nat := (nms.find? (·.2 == n)).map (·.1)

theorem nameOf_iff {nms : List (Nat × Nat)} (h : (nms.map (·.1)).Nodup) {κ n : Nat} : nameOf nms κ = some n ↔ (κ, n) ∈ nms := by
  constructor
  · exact find1
  · intro hm
    unfold nameOf
    cases hq : nms.find? (·.1 == κ) with
    | none =>
      rw [List.find?_eq_none] at hq
      exact absurd (by simp) (hq _ hm)
    | some x =>
      have h1 := List.mem_of_find?_eq_some hq
      have h2 := List.find?_some hq
      have h2' : x.1 = κ := by simpa using h2
      have : x.2 = n := nodup_fst (κ := κ) h (by rw [← h2']; exact h1) hm
      simp [this]

theorem invOf_iff {nms : List (Nat × Nat)} (h : (nms.map (·.2)).Nodup) {κ n : Nat} : invOf nms n = some κ ↔ (κ, n) ∈ nms := by
  constructor
  · exact find2
  · intro hm
    unfold invOf
    cases hq : nms.find? (·.2 == n) with
    | none =>
      rw [List.find?_eq_none] at hq
      exact absurd (by simp) (hq _ hm)
    | some x =>
      have h1 := List.mem_of_find?_eq_some hq
      have h2 := List.find?_some hq
      have h2' : x.2 = n := by simpa using h2
      have : x.1 = κ := nodup_snd (n := n) h (by rw [← h2']; exact h1) hm
      simp [this]

theorem namesFit_mem {A : Acc} {sg : Sig} {km : List (Nat × Option Nat)} : ∀ (nms : List (Nat × Nat)) (ks : List (Nat × KSh)), namesFit A sg km nms ks = true →
    (∀ κ n, (κ, n) ∈ nms → ∃ k, (κ, k) ∈ ks ∧ nameFits A sg km κ n k = true) ∧ (∀ κ k, (κ, k) ∈ ks → ∃ n, (κ, n) ∈ nms ∧ nameFits A sg km κ n k = true)
  | [], [], _ => ⟨by simp, by simp⟩
  | (κ, n) :: r, (κ', k) :: r', h => by
    simp only [namesFit, Bool.and_eq_true, beq_iff_eq] at h
    obtain ⟨⟨h1, h2⟩, h3⟩ := h
    subst h1
    obtain ⟨q1, q2⟩ := namesFit_mem r r' h3
    refine ⟨fun κ1 n1 hm => ?_, fun κ1 k1 hm => ?_⟩
    · rcases List.mem_cons.1 hm with hm | hm
      · simp only [Prod.mk.injEq] at hm
        obtain ⟨rfl, rfl⟩ := hm
        exact ⟨k, by simp, h2⟩
      · obtain ⟨k, p1, p2⟩ := q1 κ1 n1 hm
        exact ⟨k, by simp [p1], p2⟩
    · rcases List.mem_cons.1 hm with hm | hm
      · simp only [Prod.mk.injEq] at hm
        obtain ⟨rfl, rfl⟩ := hm
        exact ⟨n, by simp, h2⟩
      · obtain ⟨n, p1, p2⟩ := q2 κ1 k1 hm
        exact ⟨n, by simp [p1], p2⟩
  | [], _ :: _, h => by simp [namesFit] at h
  | _ :: _, [], h => by simp [namesFit] at h

theorem renameKs_mem {nms : List (Nat × Nat)} : ∀ (ks rk : List (Nat × KSh)), renameKs nms ks = some rk → (∀ x ∈ rk, ∃ κ k, (κ, k) ∈ ks ∧ nameOf nms κ = some x.1 ∧ renameK (nameOf nms) k = some x.2) ∧
    ∀ κ k, (κ, k) ∈ ks → ∃ n k', nameOf nms κ = some n ∧ renameK (nameOf nms) k = some k' ∧ (n, k') ∈ rk
  | [], rk, h => by simp only [renameKs, Option.some.injEq] at h; subst h; exact ⟨by simp, by simp⟩
  | (κ, k) :: r, rk, h => by
    simp only [renameKs, Option.bind_eq_bind, Option.bind_eq_some_iff, Option.some.injEq] at h
    obtain ⟨n, hn, k', hk, rk', hr, rfl⟩ := h
    obtain ⟨q1, q2⟩ := renameKs_mem r rk' hr
    refine ⟨fun x hx => ?_, fun κ1 k1 hm => ?_⟩
    · rcases List.mem_cons.1 hx with hx | hx
      · subst hx; exact ⟨κ, k, by simp, hn, hk⟩
      · obtain ⟨κ1, k1, p1, p2, p3⟩ := q1 x hx
        exact ⟨κ1, k1, by simp [p1], p2, p3⟩
    · rcases List.mem_cons.1 hm with hm | hm
      · simp only [Prod.mk.injEq] at hm
        obtain ⟨rfl, rfl⟩ := hm
        exact ⟨n, k', hn, hk, by simp⟩
      · obtain ⟨n1, k2, p1, p2, p3⟩ := q2 κ1 k1 hm
        exact ⟨n1, k2, p1, p2, by simp [p3]⟩

theorem putKs_fun : ∀ (l : List (Nat × KSh)) (ks : Nat → Option KSh), (∀ x ∈ l, ∀ y ∈ l, x.1 = y.1 → x.2 = y.2) → ∀ x ∈ l, putKs ks l x.1 = some x.2
  | (κ, k) :: r, ks, hf, x, hx => by
    simp only [putKs]
    by_cases hr : ∃ y ∈ r, y.1 = x.1
    · obtain ⟨y, hy, hyx⟩ := hr
      have := putKs_fun r (fun z => if z = κ then some k else ks z) (fun a ha b hb => hf a (by simp [ha]) b (by simp [hb])) y hy
      rw [hyx] at this
      rw [this, hf y (by simp [hy]) x hx hyx]
    · have hnr : ∀ y ∈ r, y.1 ≠ x.1 := fun y hy e => hr ⟨y, hy, e⟩
      rw [putKs_not r _ x.1 hnr]
      rcases List.mem_cons.1 hx with hx | hx
      · subst hx; simp
      · exact absurd rfl (hnr x hx)

theorem goneKs_mem {sg : Sig} {km : List (Nat × Option Nat)} : ∀ (ks : List (Nat × KSh)) (x : Nat × KSh), x ∈ goneKs sg km ks → x.2 = .gone
  | [], x, h => by simp [goneKs] at h
  | (κ, k) :: r, x, h => by
    simp only [goneKs] at h
    split at h
    · exact goneKs_mem r x h
    · split at h
      · rcases List.mem_cons.1 h with h | h
        · rw [h]
        · exact goneKs_mem r x h
      · exact goneKs_mem r x h

/-! ### The same data under other names -/

section
variable {M M' : Mem} {nm : Nat → Option Nat}

/-- How keys under new names read. -/
structure Named (M M' : Mem) (nm : Nat → Option Nat) : Prop where
  w : M'.w = M.w
  I : ∀ b, M.I b → M'.I b
  key : ∀ κ n, nm κ = some n → ∃ k k', M.ks κ = some k ∧ renameK nm k = some k' ∧ M'.ks n = some k' ∧ M'.β n = M.β κ ∧ ∀ t, k = .row t → content M'.ρ n t = content M.ρ κ t

theorem Named.cell (h : Named M M' nm) {s s' : Sh} {v : Value} {d d' : Dyn} (hs : rename nm s = some s') (hd : ∀ t, s = .dyn t → d'.get t = d.get t) (hc : CellOk M s v d) : CellOk M' s' v d' := by
  cases s with
  | dyn t =>
    simp only [rename, Option.some.injEq] at hs
    subst hs
    simp only [CellOk] at hc ⊢
    rw [hd t rfl]
    exact RepC.ext h.I (fun b _ o => by rw [h.w]) _ _ _ hc
  | nil => simp only [rename, Option.some.injEq] at hs; subst hs; exact hc
  | nilp => simp only [rename, Option.some.injEq] at hs; subst hs; exact hc
  | gone => simp only [rename, Option.some.injEq] at hs; subst hs; trivial
  | full κ =>
    simp only [rename, Option.bind_eq_bind, Option.bind_eq_some_iff, Option.some.injEq] at hs
    obtain ⟨n, hn, rfl⟩ := hs
    obtain ⟨k, k', h1, h2, h3, h4, h5⟩ := h.key κ n hn
    simp only [CellOk, h1] at hc
    simp only [CellOk, h3]
    cases k with
    | row t =>
      simp only [renameK, Option.some.injEq] at h2
      subst h2
      simp only
      rw [h5 t rfl]
      exact RowV.ext (M := ⟨M.ks, fun x => if x = n then M.β κ else M.β x, M.ρ, M.w, M.I⟩) (by simp [h4]) (fun b _ => by rw [h.w]) (by
        obtain ⟨base, cap, g1, g2, g3⟩ := hc
        exact ⟨base, cap, g1, g2, by simpa using g3⟩)
    | gone =>
      simp only [renameK, Option.some.injEq] at h2
      subst h2
      trivial
    | imm t => simp [renameK] at h2
    | arr t m => exact hc.elim
    | box cs => exact hc.elim
  | ptr κ j =>
    simp only [rename, Option.bind_eq_bind, Option.bind_eq_some_iff, Option.some.injEq] at hs
    obtain ⟨n, hn, rfl⟩ := hs
    obtain ⟨k, k', h1, h2, h3, h4, h5⟩ := h.key κ n hn
    simp only [CellOk, h1] at hc
    simp only [CellOk, h3]
    cases k with
    | box cs =>
      simp only [renameK, Option.bind_eq_bind, Option.bind_eq_some_iff, Option.some.injEq] at h2
      obtain ⟨cs', _, rfl⟩ := h2
      simp only
      rw [h4]
      exact hc
    | gone =>
      simp only [renameK, Option.some.injEq] at h2
      subst h2
      trivial
    | row t => exact hc.elim
    | imm t => exact hc.elim
    | arr t m => exact hc.elim
  | _ => simp [rename] at hs

theorem Named.cells (h : Named M M' nm) {mk mk' : Nat → Loc} : ∀ (ss ss' : List Sh) (j : Nat) (vs : List Value), renameCs nm ss = some ss' → (∀ x ∈ cellLocs mk j ss, ∀ i, x.1 = mk i → M'.ρ (mk' i) = M.ρ x.1) → CellsOk M mk j ss vs → CellsOk M' mk' j ss' vs
  | [], ss', j, [], hs, hl, hc => by simp only [renameCs, Option.some.injEq] at hs; subst hs; trivial
  | s :: ss, ss', j, v :: vs, hs, hl, hc => by
    simp only [renameCs, Option.bind_eq_bind, Option.bind_eq_some_iff, Option.some.injEq] at hs
    obtain ⟨s1, h1, r1, h2, rfl⟩ := hs
    refine ⟨hc.1, h.cell h1 (fun t ht => ?_) hc.2.1, Named.cells h ss r1 (j + 1) vs h2 (fun x hx => hl x ?_) hc.2.2⟩
    · subst ht
      rw [hl (mk j, t) (by simp [cellLocs]) j rfl]
    · cases s <;> simp [cellLocs, hx]
  | [], ss', j, _ :: _, hs, hl, hc => hc.elim
  | _ :: _, ss', j, [], hs, hl, hc => hc.elim

theorem Named.vals (h : Named M M' nm) {mk mk' : Nat → Loc} : ∀ (Vs Vs' : List Val) (j : Nat) (vs : List Value), renameVs nm Vs = some Vs' → (∀ x ∈ valLocs mk j Vs, ∀ i, x.1 = mk i → M'.ρ (mk' i) = M.ρ x.1) → ValsOk M mk j Vs vs → ValsOk M' mk' j Vs' vs
  | [], Vs', j, [], hs, hl, hc => by simp only [renameVs, Option.some.injEq] at hs; subst hs; trivial
  | V :: Vs, Vs', j, v :: vs, hs, hl, hc => by
    simp only [renameVs, renameV, Option.bind_eq_bind, Option.bind_eq_some_iff, Option.some.injEq] at hs
    obtain ⟨V1, ⟨cs1, h1, rfl⟩, r1, h2, rfl⟩ := hs
    obtain ⟨⟨cells, g1, g2, g3⟩, g4⟩ := hc
    have hlen : cs1.length = V.cs.length := by
      have gen : ∀ (a b : List Sh), renameCs nm a = some b → b.length = a.length := by
        intro a
        induction a with
        | nil => intro b hb; simp only [renameCs, Option.some.injEq] at hb; subst hb; rfl
        | cons x r ih =>
          intro b hb
          simp only [renameCs, Option.bind_eq_bind, Option.bind_eq_some_iff, Option.some.injEq] at hb
          obtain ⟨_, _, r1, hr, rfl⟩ := hb
          simp [ih r1 hr]
      exact gen _ _ h1
    refine ⟨⟨cells, g1, g2, h.cells _ _ j _ h1 (fun x hx => hl x (by simp [valLocs, hx])) g3⟩, ?_⟩
    rw [hlen]
    exact Named.vals h Vs r1 _ vs h2 (fun x hx => hl x (by simp [valLocs, hx])) g4
  | [], Vs', j, _ :: _, hs, hl, hc => hc.elim
  | _ :: _, Vs', j, [], hs, hl, hc => hc.elim

theorem Named.sk (h : Named M M' nm) {i d : Nat} {k k' : SK} {v : Value} (hs : renameSK nm k = some k') (hl : ∀ x ∈ skLocs i k, ∀ j, x.1 = .s i j → M'.ρ (.s d j) = M.ρ x.1) (hc : SKOk M i k v) : SKOk M' d k' v := by
  cases k with
  | dead => simp [renameSK] at hs
  | val V =>
    simp only [renameSK, renameV, Option.bind_eq_bind, Option.bind_eq_some_iff, Option.some.injEq] at hs
    obtain ⟨V1, ⟨cs1, h1, rfl⟩, rfl⟩ := hs
    obtain ⟨cells, g1, g2, g3⟩ := hc
    exact ⟨cells, g1, g2, h.cells (mk := .s i) (mk' := .s d) _ _ 0 _ h1 (fun x hx => hl x hx) g3⟩
  | tup Vs =>
    simp only [renameSK, Option.bind_eq_bind, Option.bind_eq_some_iff, Option.some.injEq] at hs
    obtain ⟨V1, h1, rfl⟩ := hs
    obtain ⟨xs, g1, g2⟩ := hc
    exact ⟨xs, g1, h.vals (mk := .s i) (mk' := .s d) _ _ 0 _ h1 (fun x hx => hl x hx) g2⟩
  | clo f nf vs => simp [renameSK] at hs

theorem Named.keyOk (h : Named M M' nm) {κ n : Nat} {k k' : KSh} (hn : nm κ = some n) (hk : M.ks κ = some k) (hr : renameK nm k = some k') (hl : ∀ x ∈ keyLocs [(κ, k)], ∀ j, x.1 = .k κ j → M'.ρ (.k n j) = M.ρ x.1)
    (hc : KeyOk M κ k) : KeyOk M' n k' := by
  obtain ⟨k0, k1, h1, h2, h3, h4, h5⟩ := h.key κ n hn
  rw [hk] at h1
  simp only [Option.some.injEq] at h1
  subst h1
  cases k with
  | row t =>
    simp only [renameK, Option.some.injEq] at hr
    subst hr
    simp only [KeyOk] at hc ⊢
    rw [h4, h5 t rfl, h.w]
    cases hb : M.β κ with
    | none => rw [hb] at hc; exact hc
    | some b =>
      rw [hb] at hc
      obtain ⟨c, g1, g2⟩ := hc
      exact ⟨c, g1, g2.1, g2.2.1, fun i hi => RepC.ext h.I (fun b _ o => by rw [h.w]) _ _ _ (g2.2.2 i hi)⟩
  | box cs =>
    simp only [renameK, Option.bind_eq_bind, Option.bind_eq_some_iff, Option.some.injEq] at hr
    obtain ⟨cs', g1, rfl⟩ := hr
    obtain ⟨b, c, g2, g3, g4⟩ := hc
    exact ⟨b, c, by rw [h4]; exact g2, by rw [h.w]; exact g3, h.cells (mk := .k κ) (mk' := .k n) _ _ 0 _ g1 (fun x hx => hl x (by simp [keyLocs, hx])) g4⟩
  | gone =>
    simp only [renameK, Option.some.injEq] at hr
    subst hr
    trivial
  | imm t => simp [renameK] at hr
  | arr t m => simp [renameK] at hr

theorem mapLocs_mem {dd : Nat} : ∀ (L L' : List (Loc × Ty)), mapLocs nm dd L = some L' → ∀ x ∈ L, ∃ l', mapLoc nm dd x.1 = some l' ∧ (l', x.2) ∈ L'
  | [], L', h, x, hx => by simp at hx
  | (l, t) :: r, L', h, x, hx => by
    simp only [mapLocs, Option.bind_eq_bind, Option.bind_eq_some_iff, Option.some.injEq] at h
    obtain ⟨l1, h1, r1, h2, rfl⟩ := h
    rcases List.mem_cons.1 hx with hx | hx
    · subst hx; exact ⟨l1, h1, by simp⟩
    · obtain ⟨l', q1, q2⟩ := mapLocs_mem r r1 h2 x hx
      exact ⟨l', q1, by simp [q2]⟩

theorem mapLocs_from {dd : Nat} : ∀ (L L' : List (Loc × Ty)), mapLocs nm dd L = some L' → ∀ y ∈ L', ∃ x ∈ L, mapLoc nm dd x.1 = some y.1
  | [], L', h, y, hy => by simp only [mapLocs, Option.some.injEq] at h; subst h; simp at hy
  | (l, t) :: r, L', h, y, hy => by
    simp only [mapLocs, Option.bind_eq_bind, Option.bind_eq_some_iff, Option.some.injEq] at h
    obtain ⟨l1, h1, r1, h2, rfl⟩ := h
    rcases List.mem_cons.1 hy with hy | hy
    · subst hy; exact ⟨(l, t), by simp, h1⟩
    · obtain ⟨x, q1, q2⟩ := mapLocs_from r r1 h2 y hy
      exact ⟨x, by simp [q1], q2⟩

theorem mapLocs_ok {dd : Nat} {ρ ρ0 : Rho} : ∀ (L L' : List (Loc × Ty)) (o : List Dyn), mapLocs nm dd L = some L' → (L.map (·.1)).Nodup → (L'.map (·.1)).Nodup → o.length = L.length → ∀ x ∈ L, ∀ l', mapLoc nm dd x.1 = some l' →
    updS ρ ((L'.map (·.1)).zip o) l' = updS ρ0 ((L.map (·.1)).zip o) x.1
  | [], L', o, h, _, _, _, x, hx, _, _ => by simp at hx
  | (l, t) :: r, L', [], h, _, _, hl, _, _, _, _ => by simp at hl
  | (l, t) :: r, L', d :: o, h, h1, h2, hl, x, hx, l', hm => by
    simp only [mapLocs, Option.bind_eq_bind, Option.bind_eq_some_iff, Option.some.injEq] at h
    obtain ⟨l1, g1, r1, g2, rfl⟩ := h
    simp only [List.map_cons, List.nodup_cons] at h1 h2
    simp only [List.map_cons, List.zip_cons_cons, updS]
    rcases List.mem_cons.1 hx with hx | hx
    · subst hx
      rw [g1] at hm
      simp only [Option.some.injEq] at hm
      subst hm
      simp
    · obtain ⟨l2, q1, q2⟩ := mapLocs_mem r r1 g2 x hx
      rw [q1] at hm
      simp only [Option.some.injEq] at hm
      subst hm
      have n1 : l2 ≠ l1 := fun e => h2.1 (List.mem_map.2 ⟨_, q2, e⟩)
      have n2 : x.1 ≠ l := fun e => h1.1 (List.mem_map.2 ⟨_, hx, e⟩)
      rw [if_neg n1, if_neg n2]
      exact mapLocs_ok r r1 o g2 h1.2 h2.2 (by simpa using hl) x hx l2 q1

end
end Rk

/-! What a call is given. -/
set_option linter.unusedVariables false
set_option linter.unusedSimpArgs false
namespace Rk
open Go

theorem cellLocs_notG {mk : Nat → Loc} (hmk : ∀ j, notG (mk j) = true) : ∀ (ss : List Sh) (j : Nat), ∀ x ∈ cellLocs mk j ss, notG x.1 = true
  | [], j, x, hx => by simp [cellLocs] at hx
  | s :: r, j, x, hx => by
    have ih := cellLocs_notG hmk r (j + 1)
    cases s <;> simp only [cellLocs, List.mem_cons] at hx <;> first
      | exact ih x hx
      | (rcases hx with hx | hx
         · rw [hx]; exact hmk j
         · exact ih x hx)

theorem valLocs_notG {mk : Nat → Loc} (hmk : ∀ j, notG (mk j) = true) : ∀ (vs : List Val) (j : Nat), ∀ x ∈ valLocs mk j vs, notG x.1 = true
  | [], j, x, hx => by simp [valLocs] at hx
  | v :: r, j, x, hx => by
    simp only [valLocs, List.mem_append] at hx
    rcases hx with hx | hx
    · exact cellLocs_notG hmk _ _ x hx
    · exact valLocs_notG hmk r _ x hx

theorem keyLocs_notG : ∀ (ks : List (Nat × KSh)), ∀ x ∈ keyLocs ks, notG x.1 = true
  | [], x, hx => by simp [keyLocs] at hx
  | (κ, k) :: r, x, hx => by
    have ih := keyLocs_notG r
    cases k with
    | row t =>
      simp only [keyLocs, List.mem_cons] at hx
      rcases hx with hx | hx
      · rw [hx]; rfl
      · exact ih x hx
    | arr t n =>
      simp only [keyLocs, List.mem_cons] at hx
      rcases hx with hx | hx
      · rw [hx]; rfl
      · exact ih x hx
    | box cs =>
      simp only [keyLocs, List.mem_append] at hx
      rcases hx with hx | hx
      · exact cellLocs_notG (fun _ => rfl) _ _ x hx
      · exact ih x hx
    | imm t => exact ih x (by simpa [keyLocs] using hx)
    | gone => exact ih x (by simpa [keyLocs] using hx)

theorem stLocs_notG (sl : List (Nat × SK)) (ks : List (Nat × KSh)) : ∀ x ∈ stLocs sl ks, notG x.1 = true := by
  intro x hx
  simp only [stLocs, List.mem_append, List.mem_flatMap] at hx
  rcases hx with ⟨⟨i, s⟩, _, hx⟩ | hx
  · cases s with
    | dead => simp [skLocs] at hx
    | val v => exact cellLocs_notG (fun _ => rfl) _ _ x hx
    | tup vs => exact valLocs_notG (fun _ => rfl) _ _ x hx
    | clo f nf vs => exact valLocs_notG (fun _ => rfl) _ _ x hx
  · exact keyLocs_notG _ x hx

section
variable {C : Ctx} {sl : Nat → Slot} {ks : Nat → Option KSh} {ρ : Rho} {β : Nat → Option Nat} {a : Act} {w : World}

/-- The callee's view. -/
def calleeCtx (C : Ctx) (ks : Nat → Option KSh) (β : Nat → Option Nat) (w : World) (sg : Sig) (c : Cv) (hs : sg.iks.length ≤ 100000) : Ctx where
  P := C.P
  J := fun b => imms C ks β w b ∨ ∃ κ k, (κ, k) ∈ c.fz ∧ β κ = some b
  T := fun b => ∃ κ, Priv (tgtT sg.inKs) κ ∧ tgtβ c.km β κ = some b
  w0 := w
  nt := 0
  tabs := C.tabs
  rts := sg.roots
  β0 := tgtβ c.km β
  hrt := fun κ hκ => ⟨Nat.zero_le _, (roots_ge hs κ hκ).2⟩

theorem call_entry {G : Prg} (hT : TabsOk G.E C) (htb : C.tabs = G.tabs) (h : Rel C sl ks ρ β a w) {cond : Cond} {d : Option Tmp} {f : FuncId} {i : Nat} {sg : Sig} {args : List OpV} {e : Eff} {c : Cv} {nms : List (Nat × Nat)} {rk : List (Nat × KSh)} {sk : SK} {outs : List (Loc × Ty)}
    (hi : CallIs ⟨sl, ks⟩ cond d f i sg args e c nms rk sk outs) {vals : List Value} (hv : OpsOk (memOf C ks β ρ w) args vals) :
    Entry G.E (calleeCtx C ks β w sg c hi.small) sg (G.init sg (dyns ρ (c.mvs.map (·.2)))) (tgtβ c.km β) vals := by
  have hnk := nodupB_ok _ hi.ndI
  have hnl := nodupB_ok _ hi.ndL
  obtain ⟨k1, k2, k3⟩ := conv_imms (A := ⟨sl, ks⟩) h hi.cv
  have hinit : G.init sg (dyns ρ (c.mvs.map (·.2))) = updS (baseRho G.tabs) (evs ρ c.mvs) := by
    unfold Prg.init
    rw [← hi.locs, zip_evs]
  have hmv : ∀ x ∈ c.mvs, ((G.init sg (dyns ρ (c.mvs.map (·.2)))) x.1).get x.2.1 = x.2.2.ev ρ x.2.1 := by
    intro x hx
    rw [hinit]
    have hm2 : (x.1, (⟨x.2.1, x.2.2.ev ρ x.2.1⟩ : Dyn)) ∈ evs ρ c.mvs := List.mem_map.2 ⟨x, hx, rfl⟩
    have := updS_mem (ρ := baseRho G.tabs) (evs ρ c.mvs) (by
      rw [← hi.locs] at hnl
      simpa [evs, Function.comp_def] using hnl) _ hm2
    simp only at this
    rw [this, Dyn.get_mk]
  have hJI : ∀ b, (imms C ks β w b ∨ ∃ κ k, (κ, k) ∈ c.fz ∧ β κ = some b) → imms (calleeCtx C ks β w sg c hi.small) (tgtT sg.inKs) (tgtβ c.km β) w b := by
    intro b hb
    obtain ⟨q1, q2, q3⟩ := k3 b hb
    exact ⟨.inl hb, q2, q3⟩
  have hF := conv_fits (A := ⟨sl, ks⟩) (ρ' := G.init sg (dyns ρ (c.mvs.map (·.2)))) (I := imms (calleeCtx C ks β w sg c hi.small) (tgtT sg.inKs) (tgtβ c.km β) w) (β' := tgtβ c.km β) h hi.cv hnk (fun κ o hk => by simp only [tgtβ, hk]; cases o <;> rfl) hmv hJI
  obtain ⟨c1, h1, h2, h3⟩ := conv_spec hi.cv
  have hinj : Inj1 c.km := (cvKs_le _ _ _ h2).2 ((cvSl_le _ _ _ _ h1).2 (by intro κ1 κ2 κ' hh; simp [lookK] at hh))
  have hbJ : ∀ b, C.J b → ∀ o, cellAt w b o = cellAt C.w0 b o := fun b hb o => cellAt_congr (h.fr.block b (h.jt b hb).1 (h.jt b hb).2) o
  refine ⟨⟨hT.P, fun g u m hg => ?_⟩, fun κ κ' b p1 p2 b1 b2 => ?_, fun κ b p1 b1 => ⟨κ, p1, b1⟩, cvKs_ok (A := ⟨sl, ks⟩) h _ _ _ h2 hF (fun x hx => mem_find hnk hx), cvSl_ok (A := ⟨sl, ks⟩) h _ _ _ _ _ h1 (hF.le (cvKs_le _ _ _ h2).1) hv, fun b hb => ?_, fun b hb => ?_, fun g => ?_⟩
  · obtain ⟨g1, g2, g3⟩ := hT.tab g u m hg
    refine ⟨.inl (imms_J h g1), g2, fun i hi' => ?_⟩
    have := RepC.ext (fun b hb => (.inl (imms_J h hb) : imms C ks β w b ∨ ∃ κ k, (κ, k) ∈ c.fz ∧ β κ = some b)) hbJ _ _ _ (g3 i hi')
    have e : (fun j => cellAt w g (i * u.n + j)) = (fun j => cellAt C.w0 g (i * u.n + j)) := funext fun j => hbJ g g1 _
    show RepC w _ u (fun j => cellAt w g (i * u.n + j)) _
    rw [e]
    exact this
  · obtain ⟨κ1, q1, q2, q3⟩ := k1 κ b p1 b1
    obtain ⟨κ2, r1, r2, r3⟩ := k1 κ' b p2 b2
    have : κ1 = κ2 := h.inj κ1 κ2 b q2 r2 q3 r3
    subst this
    exact hinj _ _ _ q1 r1
  · obtain ⟨q1, q2, q3⟩ := k3 b hb
    exact ⟨q2, fun ⟨κ, hp, hb'⟩ => q3 κ hp hb'⟩
  · obtain ⟨κ, hp, hb'⟩ := hb
    obtain ⟨κ1, q1, q2, q3⟩ := k1 κ b hp hb'
    exact (h.own κ1 b q2 q3).2
  · rw [hinit]
    rw [updS_not]
    · exact congrFun htb.symm g
    · intro y hy e
      obtain ⟨z, hz, hzy⟩ := mem_evs hy
      have hz2 : (z.1, z.2.1) ∈ sg.inLocs := by rw [← hi.locs]; exact List.mem_map.2 ⟨z, hz, rfl⟩
      have := stLocs_notG _ _ _ hz2
      rw [← hzy, e] at this
      simp [notG] at this

theorem OpsOk.append {M : Mem} : ∀ (a b : List OpV) (x y : List Value), OpsOk M a x → OpsOk M b y → OpsOk M (a ++ b) (x ++ y)
  | [], b, [], y, _, h => h
  | p :: a, b, v :: x, y, h, h' => ⟨h.1, OpsOk.append a b x y h.2 h'⟩
  | [], _, _ :: _, _, h, _ => h.elim
  | _ :: _, _, [], _, h, _ => h.elim

theorem OpsOk.take {M : Mem} : ∀ (n : Nat) (a : List OpV) (x : List Value), OpsOk M a x → OpsOk M (a.take n) (x.take n) ∧ OpsOk M (a.drop n) (x.drop n)
  | 0, a, x, h => ⟨by simp [OpsOk], h⟩
  | n + 1, [], [], h => ⟨trivial, trivial⟩
  | n + 1, p :: a, v :: x, h => ⟨⟨h.1, (OpsOk.take n a x h.2).1⟩, (OpsOk.take n a x h.2).2⟩
  | n + 1, [], _ :: _, h => h.elim
  | n + 1, _ :: _, [], h => h.elim

theorem OpsOk.ofVs {M : Mem} : ∀ (vs : List (Bool × List CE)) (x : List Value), VsOk M vs x → OpsOk M (vs.map fun v => OpV.val v.1 v.2) x
  | [], [], _ => trivial
  | V :: vs, v :: x, h => ⟨h.1, OpsOk.ofVs vs x h.2⟩
  | [], _ :: _, h => h.elim
  | _ :: _, [], h => h.elim

theorem mapM_opV (h : Rel C sl ks ρ β a w) {cond : Cond} (hc : condOk ρ cond) : ∀ (xs : List Operand) (vs : List OpV), xs.mapM (opV ⟨sl, ks⟩ cond) = some vs → OpsOk (memOf C ks β ρ w) vs (xs.map a.eval)
  | [], vs, hm => by simp at hm; subst hm; trivial
  | x :: xs, vs, hm => by
    simp only [List.mapM_cons, Option.bind_eq_bind, Option.bind_eq_some_iff, Option.pure_def, Option.some.injEq] at hm
    obtain ⟨v, h1, ws, h2, rfl⟩ := hm
    exact ⟨opV_ok h hc h1, mapM_opV h hc xs ws h2⟩

/-- A call, up to the callee's door. -/
theorem call_run {E : Env} (hP : C.P = E.P) (h : Rel C sl ks ρ β a w) {cond : Cond} (hc : condOk ρ cond) {o : Oper} {c : Call} {g : Operand} {f : FuncId} {nf : Nat} {vs : List (Bool × List CE)} {as : List OpV}
    (ho : o.op = .call c) (hg : c.callee = .value g) (hgv : opV ⟨sl, ks⟩ cond g = some (.clo f nf vs)) (has : c.args.toList.mapM (opV ⟨sl, ks⟩ cond) = some as) (he : enters E.P f = true) :
    ∃ vals : List Value, (execOp a.eval o).run C.P w = .ok (.enter f vals.toArray) w ∧ OpsOk (memOf C ks β ρ w) ((vs.map fun v => OpV.val v.1 v.2).take nf ++ as ++ (vs.map fun v => OpV.val v.1 v.2).drop nf) vals := by
  obtain ⟨xs, ys, h1, h2, h3⟩ := opV_ok h hc hgv
  have h4 := mapM_opV h hc _ _ has
  have h5 := OpsOk.ofVs _ _ h3
  obtain ⟨h6, h7⟩ := OpsOk.take nf _ _ h5
  rw [List.take_left' h2] at h6
  rw [List.drop_left' h2] at h7
  refine ⟨xs ++ c.args.toList.map a.eval ++ ys, ?_, OpsOk.append _ _ _ _ (OpsOk.append _ _ _ _ h6 h4) h7⟩
  rw [← hP] at he
  unfold enters at he
  split at he
  · rename_i fn hfn
    simp only [Bool.and_eq_true, bne_iff_ne, ne_eq] at he
    unfold execOp
    rw [ho]
    have hb : fn.body.isNone = false := by
      cases hq : fn.body with
      | none => rw [hq] at he; simp at he
      | some b => rfl
    have hn : (fn.name == "runtime.NumGoroutine") = false := by simpa using he.1
    simp only [Sem.run_bind, resolve, hg, h1, Deferred.ofValue, Sem.run_pure, Result.andThen_ok, invoke, callFunc, run_program, hfn, hn, hb, Bool.false_eq_true, if_false]
    congr 2
    apply Array.ext'
    simp
  · simp at he

end
end Rk

/-! Calls do what they say. -/
set_option linter.unusedVariables false
set_option linter.unusedSimpArgs false
namespace Rk
open Go

section
variable {C : Ctx} {sl : Nat → Slot} {ks : Nat → Option KSh} {ρ : Rho} {β : Nat → Option Nat} {a : Act} {w : World}

theorem keyLocs_sub : ∀ (ks : List (Nat × KSh)) (κ : Nat) (k : KSh), (κ, k) ∈ ks → ∀ x ∈ keyLocs [(κ, k)], x ∈ keyLocs ks
  | (κ0, k0) :: r, κ, k, hm, x, hx => by
    have split : keyLocs ((κ0, k0) :: r) = keyLocs [(κ0, k0)] ++ keyLocs r := by cases k0 <;> simp [keyLocs]
    rw [split, List.mem_append]
    rcases List.mem_cons.1 hm with hm | hm
    · rw [← hm]; exact .inl hx
    · exact .inr (keyLocs_sub r κ k hm x hx)

theorem keyLoc_k : ∀ (κ : Nat) (k : KSh), ∀ x ∈ keyLocs [(κ, k)], ∃ j, x.1 = .k κ j := by
  have cl : ∀ (κ : Nat) (ss : List Sh) (j : Nat), ∀ x ∈ cellLocs (.k κ) j ss, ∃ i, x.1 = .k κ i := by
    intro κ ss
    induction ss with
    | nil => intro j x hx; simp [cellLocs] at hx
    | cons s r ih =>
      intro j x hx
      cases s <;> simp only [cellLocs, List.mem_cons] at hx <;> first
        | exact ih _ x hx
        | (rcases hx with hx | hx
           · exact ⟨j, by rw [hx]⟩
           · exact ih _ x hx)
  intro κ k x hx
  cases k with
  | row t => simp [keyLocs] at hx; exact ⟨0, by rw [hx]⟩
  | arr t n => simp [keyLocs] at hx; exact ⟨0, by rw [hx]⟩
  | box cs => exact cl κ cs 0 x (by simpa [keyLocs] using hx)
  | imm t => simp [keyLocs] at hx
  | gone => simp [keyLocs] at hx

theorem renameK_priv {nm : Nat → Option Nat} {k k' : KSh} (h : renameK nm k = some k') : k'.priv = k.priv := by
  cases k with
  | row t => simp only [renameK, Option.some.injEq] at h; subst h; rfl
  | gone => simp only [renameK, Option.some.injEq] at h; subst h; rfl
  | box cs =>
    simp only [renameK, Option.bind_eq_bind, Option.bind_eq_some_iff, Option.some.injEq] at h
    obtain ⟨_, _, rfl⟩ := h
    rfl
  | imm t => simp [renameK] at h
  | arr t n => simp [renameK] at h

theorem namesKs_mem {sg : Sig} {d : Nat} {km : List (Nat × Option Nat)} : ∀ (ks : List (Nat × KSh)) (nms : List (Nat × Nat)), namesKs sg d km ks = some nms → ∀ κ n, (κ, n) ∈ nms → keyName sg d km κ = some n
  | [], nms, h, κ, n, hm => by simp only [namesKs, Option.some.injEq] at h; subst h; simp at hm
  | (κ0, k0) :: r, nms, h, κ, n, hm => by
    simp only [namesKs, Option.bind_eq_bind, Option.bind_eq_some_iff, Option.some.injEq] at h
    obtain ⟨n0, h1, r1, h2, rfl⟩ := h
    rcases List.mem_cons.1 hm with hm | hm
    · simp only [Prod.mk.injEq] at hm
      obtain ⟨rfl, rfl⟩ := hm
      exact h1
    · exact namesKs_mem r r1 h2 κ n hm

theorem call_after (h : Rel C sl ks ρ β a w) {cond : Cond} {d : Option Tmp} (hd : DstOk C sl d) {f : FuncId} {i : Nat} {sg : Sig} {args : List OpV} {e : Eff} {c : Cv} {nms : List (Nat × Nat)} {rk : List (Nat × KSh)} {sk : SK} {outs : List (Loc × Ty)}
    (hi : CallIs ⟨sl, ks⟩ cond d f i sg args e c nms rk sk outs) {base : Rho} {o : List Dyn} (hlen : o.length = sg.outLocs.length) {β2 : Nat → Option Nat} {v : Value} {w' : World}
    (hout : OutOk (calleeCtx C ks β w sg c hi.small) sg (updS base ((sg.outLocs.map (·.1)).zip o)) β2 v w') :
    ∃ β', Rel C (putSl sl e.sl) (putKs ks e.ks) (updS ρ ((outs.map (·.1)).zip o)) β' (a.put d v) w' := by
  obtain ⟨k1, k2, k3⟩ := conv_imms (A := ⟨sl, ks⟩) h hi.cv
  have hfr : FrzRows ks c.fz := k2
  obtain ⟨f1, f2, f3, f4⟩ := h.freeze c.fz hfr.ok
  have n1 := nodupB_ok _ hi.nd1
  have n2 := nodupB_ok _ hi.nd2
  have nO := nodupB_ok _ hi.ndO
  obtain ⟨fit1, fit2⟩ := namesFit_mem _ _ hi.fit
  obtain ⟨rk1, rk2⟩ := renameKs_mem _ _ hi.hrk
  have houtk : e.ks = c.fz ++ (goneKs sg c.km sg.inKs ++ rk) := by rw [hi.he]
  let gn := goneKs sg c.km sg.inKs
  let ks1 := putKs ks c.fz
  let ks' := putKs (putKs ks1 gn) rk
  have hks' : putKs ks e.ks = ks' := by rw [houtk, putKs_append, putKs_append]
  let β' : Nat → Option Nat := fun κ => match invOf nms κ with | some κo => β2 κo | none => β κ
  let ρo := updS base ((sg.outLocs.map (·.1)).zip o)
  let ρ' := updS ρ ((outs.map (·.1)).zip o)
  -- keys by name
  have rkfun : ∀ x ∈ rk, ∀ y ∈ rk, x.1 = y.1 → x.2 = y.2 := by
    intro x hx y hy hxy
    obtain ⟨κ1, q1, a1, a2, a3⟩ := rk1 x hx
    obtain ⟨κ2, q2, b1, b2, b3⟩ := rk1 y hy
    have e1 := (nameOf_iff n1).1 a2
    have e2 := (nameOf_iff n1).1 b2
    rw [hxy] at e1
    have : κ1 = κ2 := nodup_snd n2 e1 e2
    subst this
    have : q1 = q2 := nodup_fst nO a1 b1
    subst this
    rw [a3] at b3
    simpa using b3
  have F1 : ∀ x ∈ rk, ks' x.1 = some x.2 := fun x hx => putKs_fun rk _ rkfun x hx
  have rkname : ∀ x ∈ rk, ∃ κ k, (κ, k) ∈ sg.outKs ∧ (κ, x.1) ∈ nms ∧ renameK (nameOf nms) k = some x.2 := by
    intro x hx
    obtain ⟨κ, k, a1, a2, a3⟩ := rk1 x hx
    exact ⟨κ, k, a1, (nameOf_iff n1).1 a2, a3⟩
  have namerk : ∀ κ n, (κ, n) ∈ nms → ∃ k k', (κ, k) ∈ sg.outKs ∧ renameK (nameOf nms) k = some k' ∧ (n, k') ∈ rk := by
    intro κ n hm
    obtain ⟨k, a1, _⟩ := fit1 κ n hm
    obtain ⟨n', k', b1, b2, b3⟩ := rk2 κ k a1
    rw [(nameOf_iff n1).2 hm] at b1
    simp only [Option.some.injEq] at b1
    subst b1
    exact ⟨k, k', a1, b2, b3⟩
  have gnval : ∀ x ∈ gn, x.2 = .gone := fun x hx => goneKs_mem _ x hx
  have gnfun : ∀ x ∈ gn, ∀ y ∈ gn, x.1 = y.1 → x.2 = y.2 := fun x hx y hy _ => by rw [gnval x hx, gnval y hy]
  have F2 : ∀ x ∈ gn, (∀ y ∈ rk, y.1 ≠ x.1) → ks' x.1 = some .gone := by
    intro x hx hn
    show putKs (putKs ks1 gn) rk x.1 = _
    rw [putKs_not rk _ x.1 hn, putKs_fun gn ks1 gnfun x hx, gnval x hx]
  have F3 : ∀ κ, (∀ y ∈ gn, y.1 ≠ κ) → (∀ y ∈ rk, y.1 ≠ κ) → ks' κ = ks1 κ := by
    intro κ h1 h2
    show putKs (putKs ks1 gn) rk κ = _
    rw [putKs_not rk _ κ h2, putKs_not gn _ κ h1]
  let K : Nat → Prop := fun κ => (∃ y ∈ gn, y.1 = κ) ∨ ∃ y ∈ rk, y.1 = κ
  obtain ⟨c1, cv1, cv2, cv3⟩ := conv_spec hi.cv
  have bound1 : ∀ κ κ', lookK c.km κ = some (some κ') → ∀ x ∈ c.fz, x.1 ≠ κ' := by
    intro κ κ' hk x hx e
    have h1 := cv3 x hx
    have : usedK c.km x.1 = true := List.any_eq_true.2 ⟨(κ, some κ'), lookK_mem _ _ _ hk, by simp [e]⟩
    rw [this] at h1
    simp at h1
  -- what was handed on is told of
  have P1 : ∀ b, (calleeCtx C ks β w sg c hi.small).T b → ∃ κ', K κ' ∧ Priv ks1 κ' ∧ β κ' = some b := by
    rintro b ⟨κ, hp, hb⟩
    obtain ⟨κ', q1, q2, q3⟩ := k1 κ b hp hb
    obtain ⟨k, hk, _⟩ := hp
    obtain ⟨y, hy, hyκ⟩ := hi.given (κ, k) (find_mem hk) κ' q1
    refine ⟨κ', ?_, ?_, q3⟩
    · rcases List.mem_append.1 hy with hy | hy
      · exact .inl ⟨y, hy, hyκ⟩
      · exact .inr ⟨y, hy, hyκ⟩
    · obtain ⟨k2, r1, r2⟩ := q2
      exact ⟨k2, by show putKs ks c.fz κ' = _; rw [putKs_not _ _ _ (bound1 κ κ' q1)]; exact r1, r2⟩
  -- names
  have P2 : ∀ κo n, (κo, n) ∈ nms → (ks1 n = none ∧ 200000 ≤ n) ∨ ((∃ cs, ks1 n = some (.box cs)) ∧ β2 κo = β n ∧ ∀ k', (n, k') ∈ rk → (∃ cs, k' = .box cs) ∨ k' = .gone) := by
    intro κo n hm
    obtain ⟨k, a1, a2⟩ := fit1 κo n hm
    unfold nameFits at a2
    split at a2
    · rename_i hbx
      right
      simp only [Bool.and_eq_true, List.contains_eq_mem, decide_eq_true_eq] at a2
      obtain ⟨⟨b1, b2⟩, b3⟩ := a2
      have hks : ∃ cs, ks n = some (.box cs) := by
        split at b1
        · rename_i cs hq; exact ⟨cs, hq⟩
        · simp at b1
      obtain ⟨cs, hks⟩ := hks
      have hnf : ∀ x ∈ c.fz, x.1 ≠ n := by
        intro x hx e
        obtain ⟨t, _, ht⟩ := hfr x hx
        rw [e, hks] at ht
        simp at ht
      have hname := namesKs_mem _ _ hi.hnms κo n hm
      unfold keyName at hname
      rw [if_pos hbx] at hname
      have hlk : lookK c.km κo = some (some n) := by
        split at hname
        · rename_i κ' hq; simp only [Option.some.injEq] at hname; rw [← hname]; exact hq
        · simp at hname
      refine ⟨⟨cs, by show putKs ks c.fz n = _; rw [putKs_not _ _ _ hnf]; exact hks⟩, ?_, fun k' hk' => ?_⟩
      · rw [hout.root κo b3]
        show tgtβ c.km β κo = β n
        simp only [tgtβ, hlk]
      · obtain ⟨κ2, q2, c1, c2, c3⟩ := rkname _ hk'
        have : κ2 = κo := nodup_snd n2 c2 hm
        subst this
        have : q2 = k := nodup_fst nO c1 a1
        subst this
        cases q2 with
        | box cs2 =>
          simp only [renameK, Option.bind_eq_bind, Option.bind_eq_some_iff, Option.some.injEq] at c3
          obtain ⟨cs3, _, rfl⟩ := c3
          exact .inl ⟨cs3, rfl⟩
        | gone => simp only [renameK, Option.some.injEq] at c3; exact .inr c3.symm
        | row t => simp at b2
        | imm t => simp at b2
        | arr t m => simp at b2
    · left
      simp only [Bool.and_eq_true, Option.isNone_iff_eq_none, decide_eq_true_eq] at a2
      obtain ⟨b1, b2⟩ := a2
      have b1 : ks n = none := b1
      exact ⟨by show putKs ks c.fz n = _; rw [putKs_not _ _ _ (hfr.not b1)]; exact b1, b2⟩
  have invK : ∀ κ κo, invOf nms κ = some κo → K κ := by
    intro κ κo hq
    obtain ⟨k, k', _, _, a3⟩ := namerk κo κ ((invOf_iff n2).1 hq)
    exact .inr ⟨_, a3, rfl⟩
  have βnot : ∀ κ, ¬ K κ → β' κ = β κ := by
    intro κ hk
    show (match invOf nms κ with | some κo => β2 κo | none => β κ) = β κ
    cases hq : invOf nms κ with
    | none => rfl
    | some κo => exact absurd (invK κ κo hq) hk
  have βname : ∀ κo n, (κo, n) ∈ nms → β' n = β2 κo := by
    intro κo n hm
    show (match invOf nms n with | some κo => β2 κo | none => β n) = β2 κo
    rw [(invOf_iff n2).2 hm]
  have ksnot : ∀ κ, ¬ K κ → ks' κ = ks1 κ := fun κ hk => F3 κ (fun y hy e => hk (.inl ⟨y, hy, e⟩)) (fun y hy e => hk (.inr ⟨y, hy, e⟩))
  -- a key that is told of, and is the call's own, has a name
  have privname : ∀ κ, K κ → Priv ks' κ → ∃ κo, (κo, κ) ∈ nms ∧ Priv (tgtT sg.outKs) κo := by
    intro κ hK hp
    by_cases hr : ∃ y ∈ rk, y.1 = κ
    · obtain ⟨y, hy, rfl⟩ := hr
      obtain ⟨κo, k, a1, a2, a3⟩ := rkname y hy
      obtain ⟨k2, b1, b2⟩ := hp
      rw [F1 y hy] at b1
      simp only [Option.some.injEq] at b1
      subst b1
      exact ⟨κo, a2, k, mem_find nO a1, by rw [← renameK_priv a3]; exact b2⟩
    · rcases hK with ⟨y, hy, rfl⟩ | hr'
      · obtain ⟨k2, b1, b2⟩ := hp
        rw [F2 y hy (fun z hz e => hr ⟨z, hz, e⟩)] at b1
        simp only [Option.some.injEq] at b1
        subst b1
        simp [KSh.priv] at b2
      · exact absurd hr' hr
  have locs : ∀ x ∈ sg.outLocs, ∀ l', mapLoc (nameOf nms) (d.getD 1000000) x.1 = some l' → ρ' l' = ρo x.1 :=
    mapLocs_ok _ _ o hi.houts (nodupB_ok _ hi.ndOL) (nodupB_ok _ hi.ndOS) hlen
  have ρnot : ∀ l, (∀ x ∈ sg.outLocs, mapLoc (nameOf nms) (d.getD 1000000) x.1 ≠ some l) → ρ' l = ρ l := by
    intro l hl
    refine updS_not _ (fun y hy e => ?_)
    obtain ⟨z, hz, hzy⟩ := List.mem_map.1 (List.of_mem_zip hy).1
    obtain ⟨x, hx, hxm⟩ := mapLocs_from _ _ hi.houts z hz
    exact hl x hx (by rw [hxm, hzy, e])
  have hI : ∀ b, imms (calleeCtx C ks β w sg c hi.small) (tgtT sg.outKs) β2 w' b → imms C ks' β' w' b := by
    rintro b ⟨g1, g2, g3⟩
    have hown : C.J b ∨ C.own b := by
      rcases g1 with (g1 | g1) | (g1 | g1)
      · exact g1.1
      · exact (k3 b (.inr g1)).1
      · obtain ⟨κ', _, q2, q3⟩ := P1 b g1
        exact .inr (f1.own κ' b q2 q3).1
      · exact .inr (.inr (Nat.le_trans h.fr.size g1))
    refine ⟨hown, g2, fun κ hp hb => ?_⟩
    by_cases hK : K κ
    · obtain ⟨κo, a1, a2⟩ := privname κ hK hp
      rw [βname κo κ a1] at hb
      exact g3 κo a2 hb
    · rw [βnot κ hK] at hb
      have hp1 : Priv ks1 κ := by obtain ⟨k, q1, q2⟩ := hp; exact ⟨k, by rw [← ksnot κ hK]; exact q1, q2⟩
      rcases g1 with (g1 | ⟨κf, kf, hm, hβf⟩) | (g1 | g1)
      · exact (f2 b g1).2.2 κ hp1 hb
      · exact (f3 κf kf b hm hβf).2.2 κ hp1 hb
      · obtain ⟨κ', q1, q2, q3⟩ := P1 b g1
        have := f1.inj κ κ' b hp1 q2 hb q3
        rw [this] at hK
        exact hK q1
      · have h1 := (f1.own κ b hp1 hb).2
        have h2 : w.heap.size ≤ b := g1
        omega
  have hN : Named (memOf (calleeCtx C ks β w sg c hi.small) (tgtT sg.outKs) β2 ρo w') (memOf C ks' β' ρ' w') (nameOf nms) := by
    refine ⟨rfl, hI, fun κ n hn => ?_⟩
    have hm := (nameOf_iff n1).1 hn
    obtain ⟨k, k', a1, a2, a3⟩ := namerk κ n hm
    refine ⟨k, k', mem_find nO a1, a2, F1 _ a3, βname κ n hm, fun t ht => ?_⟩
    subst ht
    have hx : (Loc.k κ 0, Ty.lst t) ∈ sg.outLocs := by
      refine List.mem_append_right _ (keyLocs_sub _ κ _ a1 _ (by simp [keyLocs]))
    have := locs _ hx (.k n 0) (by simp [mapLoc, hn])
    simp only [content, memOf]
    rw [this]
  refine ⟨β', ?_⟩
  rw [hks']
  refine f1.upd K (fun i => d = some i) (fun κ hκ => ⟨ksnot κ hκ, βnot κ hκ, fun j => ρnot _ (fun x hx hm => ?_)⟩) (fun i hi' => ⟨?_, fun j => ρnot _ (fun x hx hm => ?_), ?_⟩)
    (fun i _ y hy hD => (hd y.1 hD).2 i y hy rfl) (fun κ hκ => ?_) (fun b hb hK => ?_) hout.fr.size hout.fr.os hout.fr.tape hout.fr.output
    (fun κ b hK hp hb => ?_) (fun κ κ' b h1 h2 p1 p2 b1 b2 => ?_) (fun κ k hK hk => ?_) (fun i hD => ?_) (put_size _ _ _) (put_defers _ _ _) (fun g => ρnot _ (fun x hx hm => ?_)) (fun κ hκ hK => ?_)
  · -- keys' data
    cases hx1 : x.1 with
    | s i j' => rw [hx1] at hm; simp only [mapLoc] at hm; split at hm <;> simp at hm
    | g q => rw [hx1] at hm; simp [mapLoc] at hm
    | k κ2 j' =>
      rw [hx1] at hm
      simp only [mapLoc, Option.bind_eq_bind, Option.bind_eq_some_iff, Option.some.injEq, Loc.k.injEq] at hm
      obtain ⟨n, hn, rfl, _⟩ := hm
      obtain ⟨k, k', _, _, a3⟩ := namerk κ2 n ((nameOf_iff n1).1 hn)
      exact hκ (.inr ⟨_, a3, rfl⟩)
  · rw [hi.he]
    cases hdd : d with
    | none => rfl
    | some d' =>
      have : i ≠ d' := fun e => hi' (by rw [hdd, e])
      simp [putSl, this]
  · cases hx1 : x.1 with
    | k κ2 j' => rw [hx1] at hm; simp only [mapLoc, Option.bind_eq_bind, Option.bind_eq_some_iff, Option.some.injEq, reduceCtorEq, and_false, exists_false] at hm
    | g q => rw [hx1] at hm; simp [mapLoc] at hm
    | s i2 j' =>
      rw [hx1] at hm
      simp only [mapLoc] at hm
      split at hm
      · simp only [Option.some.injEq, Loc.s.injEq] at hm
        cases hdd : d with
        | none =>
          have hdst := hi.dst
          rw [hdd] at hdst
          simp only [dstOkB, Option.isSome_none, Bool.false_or] at hdst
          have := List.all_eq_true.1 hdst x hx
          rw [hx1] at this
          simp at this
        | some d' =>
          rw [hdd] at hm
          exact hi' (by rw [hdd]; simpa using hm.1)
      · simp at hm
  · cases hdd : d with
    | none => rfl
    | some d' => exact put_other a d' v i (fun e => hi' (by rw [hdd, e]))
  · -- keys read on
    by_cases hr : ∃ y ∈ rk, y.1 = κ
    · obtain ⟨y, hy, rfl⟩ := hr
      obtain ⟨κo, k, a1, a2, a3⟩ := rkname y hy
      rcases P2 κo y.1 a2 with ⟨q1, _⟩ | ⟨⟨cs, q1⟩, q2, q3⟩
      · right
        simp only [memOf]
        rw [show putKs ks c.fz y.1 = none from q1]
        trivial
      · rcases q3 y.2 hy with ⟨cs', q3⟩ | q3
        · right
          simp only [memOf]
          rw [show putKs ks c.fz y.1 = some (.box cs) from q1]
          exact ⟨⟨cs', by rw [F1 y hy, q3]⟩, by rw [βname κo y.1 a2]; exact q2⟩
        · left
          simp only [memOf]
          rw [F1 y hy, q3]
    · rcases hκ with ⟨y, hy, rfl⟩ | hr'
      · left
        simp only [memOf]
        exact F2 y hy (fun z hz e => hr ⟨z, hz, e⟩)
      · exact absurd hr' hr
  · refine hout.fr.block b hb (fun hTb => ?_)
    obtain ⟨κ', q1, q2, q3⟩ := P1 b hTb
    exact hK κ' q1 q2 q3
  · obtain ⟨κo, a1, a2⟩ := privname κ hK hp
    rw [βname κo κ a1] at hb
    obtain ⟨r1, r2⟩ := hout.own κo b a2 hb
    rcases r1 with r1 | r1
    · exact .inr (P1 b r1)
    · exact .inl ⟨r1, r2⟩
  · obtain ⟨κo, a1, a2⟩ := privname κ h1 p1
    obtain ⟨κo', a1', a2'⟩ := privname κ' h2 p2
    rw [βname κo κ a1] at b1
    rw [βname κo' κ' a1'] at b2
    have := hout.inj κo κo' b a2 a2' b1 b2
    subst this
    have e1 := (nameOf_iff n1).2 a1
    have e2 := (nameOf_iff n1).2 a1'
    rw [e1] at e2
    simpa using e2
  · by_cases hr : ∃ y ∈ rk, y.1 = κ
    · obtain ⟨y, hy, rfl⟩ := hr
      rw [F1 y hy] at hk
      simp only [Option.some.injEq] at hk
      subst hk
      obtain ⟨κo, k0, a1, a2, a3⟩ := rkname y hy
      refine hN.keyOk ((nameOf_iff n1).2 a2) (mem_find nO a1) a3 (fun x hx j hj => ?_) (hout.keys _ a1)
      refine locs x (List.mem_append_right _ (keyLocs_sub _ κo _ a1 x hx)) _ ?_
      rw [hj]
      simp [mapLoc, (nameOf_iff n1).2 a2]
    · rcases hK with ⟨y, hy, rfl⟩ | hr'
      · rw [F2 y hy (fun z hz e => hr ⟨z, hz, e⟩)] at hk
        simp only [Option.some.injEq] at hk
        subst hk
        trivial
      · exact absurd hr' hr
  · -- the result
    have hdi : d = some i := hD
    rw [hi.he, hdi]
    simp only [Option.isSome_some, if_true, Option.getD_some, putSl]
    rw [put_same a i v (by rw [h.tmps]; exact (hd i hdi).1)]
    intro _
    refine hN.sk hi.hsk (fun x hx j hj => ?_) hout.slot
    refine locs x (List.mem_append_left _ (by simpa [stLocs] using hx)) _ ?_
    rw [hj, hdi]
    simp [mapLoc]
  · cases hx1 : x.1 with
    | s i2 j' => rw [hx1] at hm; simp only [mapLoc] at hm; split at hm <;> simp at hm
    | g q => rw [hx1] at hm; simp [mapLoc] at hm
    | k κ2 j' => rw [hx1] at hm; simp only [mapLoc, Option.bind_eq_bind, Option.bind_eq_some_iff, Option.some.injEq, reduceCtorEq, and_false, exists_false] at hm
  · show (match invOf nms κ with | some κo => β2 κo | none => β κ) = β κ
    cases hq : invOf nms κ with
    | none => rfl
    | some κo =>
      rcases P2 κo κ ((invOf_iff n2).1 hq) with ⟨_, q2⟩ | ⟨_, q2, _⟩
      · have := (C.hrt κ hκ).2
        omega
      · exact q2

end
end Rk

/-! The whole: what `sem` answers, the program returns. -/
set_option linter.unusedVariables false
set_option linter.unusedSimpArgs false
namespace Rk
open Go

theorem mapLocs_len {nm : Nat → Option Nat} {dd : Nat} : ∀ (L L' : List (Loc × Ty)), mapLocs nm dd L = some L' → L'.length = L.length
  | [], L', h => by simp only [mapLocs, Option.some.injEq] at h; subst h; rfl
  | (l, t) :: r, L', h => by
    simp only [mapLocs, Option.bind_eq_bind, Option.bind_eq_some_iff, Option.some.injEq] at h
    obtain ⟨l', h1, r1, h2, rfl⟩ := h
    simp [mapLocs_len r r1 h2]

theorem step_ok {G : Prg} {call : CallF} (hS : Sound G call) {C : Ctx} (hT : TabsOk G.E C) (htb : C.tabs = G.tabs) : StepSound G.E C call := by
  intro sl ks ρ ρ' β a w o cond e h hd hc hs hr hcf
  cases hcall : e.call with
  | none =>
    unfold runE at hr
    cases hb : allB ρ e.chk with
    | false => simp [hb] at hr
    | true =>
      simp only [hb, cond_true, hcall, Option.some.injEq] at hr
      subst hr
      exact stat_ok hT h hd hc hs hb hcall
  | some k =>
    unfold callForm at hcf
    rw [hcall] at hcf
    simp only at hcf
    cases ho : o.op with
    | call c0 =>
      rw [ho] at hcf
      simp only at hcf
      cases hg : c0.callee with
      | value g =>
        unfold stat at hs
        simp only [ho, hg, Option.bind_eq_bind, Option.bind_eq_some_iff] at hs
        obtain ⟨gv, hgv, hs⟩ := hs
        split at hs
        · rename_i f nf vs
          simp only [Option.bind_eq_some_iff] at hs
          obtain ⟨as, has, hs⟩ := hs
          unfold stCall at hs
          split at hs
          · rename_i hen
            obtain ⟨q, sg, hsg, hs1⟩ := stCalls_spec _ _ hs
            obtain ⟨c, nms, rk, sk, outs, hi⟩ := stCall1_spec hs1
            obtain ⟨vals, hrun, hvals⟩ := call_run hT.P h hc ho hg hgv has hen
            have hent := call_entry hT htb h hi hvals
            rw [hi.he] at hcall
            simp only [Option.some.injEq] at hcall
            subst hcall
            unfold runE at hr
            have hchk : e.chk = [] := by rw [hi.he]
            have hec : e.call = some ⟨condE ⟨sl, ks⟩ cond, f, 0 + q, c.mvs.map (·.2), outs⟩ := by rw [hi.he]
            have hcond : allB ρ (condE ⟨sl, ks⟩ cond) = true := by
              have gen : ∀ l : List PE, (∀ e ∈ l, e.evB ρ = true) → allB ρ l = true := by
                intro l
                induction l with
                | nil => intro _; rfl
                | cons x r ih =>
                  intro hl
                  simp only [allB, Bool.and_eq_true]
                  exact ⟨hl x (by simp), ih (fun e he => hl e (by simp [he]))⟩
              exact gen _ (condE_ok cond hc)
            rw [hchk] at hr
            simp only [allB, cond_true, hec, hcond, Option.bind_eq_some_iff, Option.some.injEq] at hr
            obtain ⟨res, hres, rfl⟩ := hr
            rw [Nat.zero_add] at hres
            have hcalls := hS f q _ res sg hres hsg (calleeCtx C ks β w sg c hi.small) (tgtβ c.km β) vals htb rfl rfl hent
            refine Good.enter (w' := w) (f := f) (args := vals.toArray) hrun ?_
            rw [hT.P]
            refine Calls.mono hcalls ?_
            rintro e' w'' ⟨v, rfl, hlen, β', hout⟩
            exact ⟨v, rfl, by rw [zipP_zip _ _ (by rw [hlen, mapLocs_len _ _ hi.houts])]; exact call_after h hd hi hlen hout⟩
          · simp at hs
        · simp at hs
      | builtin b => rw [hg] at hcf; simp at hcf
      | invoke r m => rw [hg] at hcf; simp at hcf
    | _ => rw [ho] at hcf; simp at hcf

/-- That what is proved otherwise is right. -/
def ExtOk (G : Prg) : Prop := ∀ f i g, G.ext f i = some g → ∀ k, Sound G (fun f' i' xs => if f' = f ∧ i' = i then g k xs else none)

theorem sem_sound {G : Prg} (hx : ExtOk G) : ∀ k, Sound G (sem G k)
  | 0 => by
    intro f i xs r sg h
    simp [sem] at h
  | k + 1 => by
    intro f i xs r sg h hsg C β args htb hβ hrt he
    simp only [sem] at h
    split at h
    · rename_i g hg
      exact hx f i g hg k f i xs r sg (by simp [h]) hsg C β args htb hβ hrt he
    · split at h
      · simp at h
      · rename_i tc sg' hcode
        have hsg' : sg' = sg := by
          obtain ⟨fn, _, _, h2, _⟩ := Prg.code_spec hcode
          rw [hsg] at h2
          simpa using h2.symm
        subst hsg'
        exact fn_ok (fun C hT htb => step_ok (sem_sound hx k) hT htb) hcode h htb hβ hrt he

end Rk

/-! A law's arguments, opened as data. -/
set_option linter.unusedVariables false
set_option linter.unusedSimpArgs false
namespace Rk
open Go

/-- Data that fit their kinds. -/
def WF : (t : Ty) → t.D → Prop
  | .int k, x => k.min ≤ toI k x ∧ toI k x ≤ k.max
  | .bool, _ => True
  | .str, s => List.length (α := UInt8) s ≤ maxLen
  | .lst t, xs => List.length (α := t.D) xs ≤ maxLen ∧ ∀ x : t.D, List.Mem x xs → WF t x
  | .unit, _ => True
  | .pair a b, x => WF a x.1 ∧ WF b x.2

def opnF (g : TypeId → Option (List Ty)) (c : TypeId → Nat) : Nat → List Field → Option (List Ty)
  | _, [] => some []
  | n, x :: r =>
    if x.offset == n then do
      let l ← g x.type
      if c x.type == l.length then do
        let q ← opnF g c (n + l.length) r
        some (l ++ q)
      else none
    else none

/-- The leaves of a type, looked at with care. -/
def opn (P : Program) : Nat → TypeId → Option (List Ty)
  | 0, _ => none
  | f + 1, t =>
    match P.underlying t with
    | some (.int k) => some [.int k]
    | some .bool => some [.bool]
    | some .string => some [.str]
    | some (.slice e) => do
      let l ← opn P f e
      if P.cellsOf e == l.length && l.all Ty.isLeaf && !l.isEmpty then some [.lst (tree l)] else none
    | some (.struct fs) => do
      let l ← opnF (opn P f) P.cellsOf 0 fs.toList
      if P.cellsOf t == l.length then some l else none
    | _ => none

def LR (w : World) (I : Nat → Prop) : List Ty → List Value → List Dyn → Prop
  | [], [], [] => True
  | t :: ts, v :: vs, d :: ds => leafV v ∧ d.t = t ∧ RepC w I t (fun _ => some v) (d.get t) ∧ WF t (d.get t) ∧ LR w I ts vs ds
  | _, _, _ => False

def treeD : (l : List Ty) → List Dyn → (tree l).D
  | [], _ => ()
  | [t], ds => (ds.headD default).get t
  | t :: u :: r, ds => ((ds.headD default).get t, treeD (u :: r) ds.tail)

theorem LR.append {w : World} {I : Nat → Prop} : ∀ (l m : List Ty) (vs us : List Value) (ds es : List Dyn), LR w I l vs ds → LR w I m us es → LR w I (l ++ m) (vs ++ us) (ds ++ es)
  | [], m, [], us, [], es, _, h => h
  | t :: l, m, v :: vs, us, d :: ds, es, h, h' => ⟨h.1, h.2.1, h.2.2.1, h.2.2.2.1, LR.append l m vs us ds es h.2.2.2.2 h'⟩
  | [], _, _ :: _, _, _, _, h, _ => h.elim
  | [], _, [], _, _ :: _, _, h, _ => h.elim
  | _ :: _, _, [], _, _, _, h, _ => h.elim
  | _ :: _, _, _ :: _, _, [], _, h, _ => h.elim

theorem LR.length {w : World} {I : Nat → Prop} : ∀ (l : List Ty) (vs : List Value) (ds : List Dyn), LR w I l vs ds → vs.length = l.length ∧ ds.length = l.length
  | [], [], [], _ => ⟨rfl, rfl⟩
  | t :: l, v :: vs, d :: ds, h => by have := LR.length l vs ds h.2.2.2.2; simp [this.1, this.2]
  | [], _ :: _, _, h => h.elim
  | [], [], _ :: _, h => h.elim
  | _ :: _, [], _, h => h.elim
  | _ :: _, _ :: _, [], h => h.elim

theorem LR.tree {w : World} {I : Nat → Prop} : ∀ (l : List Ty) (vs : List Value) (ds : List Dyn), l.all Ty.isLeaf = true → LR w I l vs ds → RepC w I (Rk.tree l) (fun j => vs[j]?) (treeD l ds) ∧ WF (Rk.tree l) (treeD l ds)
  | [], [], [], _, _ => ⟨trivial, trivial⟩
  | [t], [v], [d], hl, h => by
    simp at hl
    refine ⟨RepC.congr t _ _ _ (fun j hj => ?_) h.2.2.1, h.2.2.2.1⟩
    rw [isLeaf_n hl] at hj
    have : j = 0 := by omega
    subst this; rfl
  | t :: u :: r, v :: vs, d :: ds, hl, h => by
    simp only [List.all_cons, Bool.and_eq_true] at hl
    have ih := LR.tree (u :: r) vs ds (by simp [hl.2]) h.2.2.2.2
    refine ⟨⟨RepC.congr t _ _ _ (fun j hj => ?_) h.2.2.1, RepC.congr _ _ _ _ (fun j hj => ?_) ih.1⟩, h.2.2.2.1, ih.2⟩
    · rw [isLeaf_n hl.1] at hj
      have : j = 0 := by omega
      subst this; rfl
    · rw [isLeaf_n hl.1, Nat.add_comm 1 j]; rfl
  | [], _ :: _, _, _, h => h.elim
  | [], [], _ :: _, _, h => h.elim
  | [_], [], _, _, h => h.elim
  | [_], _ :: _ :: _, [], _, h => h.elim
  | [_], [_], [], _, h => h.elim
  | [_], [_], _ :: _ :: _, _, h => h.2.2.2.2.elim
  | [_], _ :: _ :: _, _ :: _, _, h => by have := h.2.2.2.2; simp [LR] at this
  | _ :: _ :: _, [], _, _, h => h.elim
  | _ :: _ :: _, _ :: _, [], _, h => h.elim

theorem mapM_get {α γ : Type} {f : α → Option γ} : ∀ (l : List α) (ys : List γ), l.mapM f = some ys → ∀ x ∈ l, ∃ y, f x = some y
  | [], ys, h, x, hx => by simp at hx
  | a :: l, ys, h, x, hx => by
    simp only [List.mapM_cons, Option.bind_eq_bind, Option.bind_eq_some_iff, Option.pure_def, Option.some.injEq] at h
    obtain ⟨y, h1, ys', h2, rfl⟩ := h
    rcases List.mem_cons.1 hx with hx | hx
    · rw [hx]; exact ⟨y, h1⟩
    · exact mapM_get l ys' h2 x hx

theorem cells?_get {w : World} {base : Nat} {a : Addr} : ∀ (n : Nat) (cs : List Value), w.cells? base a n = some cs → cs.length = n ∧ ∀ i, i < n → w.cell? (a.add i) = cs[i]? := by
  intro n cs h
  unfold World.cells? at h
  split at h
  rotate_left
  · simp at h
  have gen : ∀ (m s : Nat) (cs : List Value), (List.range' s m).mapM (fun i => w.cell? (a.add i)) = some cs → cs.length = m ∧ ∀ i, i < m → w.cell? (a.add (s + i)) = cs[i]? := by
    intro m
    induction m with
    | zero => intro s cs h; simp at h; subst h; exact ⟨rfl, fun i hi => by omega⟩
    | succ m ih =>
      intro s cs h
      simp only [List.range'_succ, List.mapM_cons, Option.bind_eq_bind, Option.bind_eq_some_iff, Option.pure_def, Option.some.injEq] at h
      obtain ⟨c, h1, cs', h2, rfl⟩ := h
      obtain ⟨g1, g2⟩ := ih (s + 1) cs' h2
      refine ⟨by simp [g1], fun i hi => ?_⟩
      cases i with
      | zero => simpa using h1
      | succ i => have := g2 i (by omega); rw [show s + (i + 1) = s + 1 + i by omega, this]; simp
  rw [List.range_eq_range'] at h
  have := gen n 0 cs h
  refine ⟨this.1, fun i hi => ?_⟩
  have := this.2 i hi
  rwa [Nat.zero_add] at this

theorem choose_list {α : Type} {n : Nat} {Q : Nat → α → Prop} (h : ∀ i, i < n → ∃ x, Q i x) : ∃ l : List α, l.length = n ∧ ∀ i (hi : i < l.length), Q i (l.get ⟨i, hi⟩) := by
  induction n with
  | zero => exact ⟨[], rfl, fun i hi => by simp at hi⟩
  | succ n ih =>
    obtain ⟨l, h1, h2⟩ := ih (fun i hi => h i (by omega))
    obtain ⟨x, hx⟩ := h n (by omega)
    refine ⟨l ++ [x], by simp [h1], fun i hi => ?_⟩
    simp only [List.length_append, List.length_singleton] at hi
    by_cases hin : i < l.length
    · have := h2 i hin
      simp only [List.get_eq_getElem] at this ⊢
      rw [List.getElem_append_left hin]
      exact this
    · have : i = l.length := by omega
      subst this
      simp only [List.get_eq_getElem, List.getElem_append_right (Nat.le_refl _), Nat.sub_self, List.getElem_cons_zero]
      rw [h1]; exact hx

section
variable {H : Type} {enc : TypeId × Value → H} {P : Program} {w : World} {spare : Nat → Bool} {held : Bool}

theorem cell_lt {w : World} {a : Addr} {v : Value} (h : w.cell? a = some v) : a.block < w.heap.size ∧ a.spot = none := by
  refine ⟨?_, World.cell?_spot h⟩
  unfold World.cell? at h
  split at h
  · rename_i heq
    rcases Nat.lt_or_ge a.block w.heap.size with q | q
    · exact q
    · rw [Array.getElem?_eq_none q] at heq; simp at heq
  · simp at h

theorem toI_ofI' {k : IntKind} {n : Int} (h1 : k.min ≤ n) (h2 : n ≤ k.max) : toI k (ofI k n) = n := by
  cases k <;> simp [toI, ofI, IntKind.min, IntKind.max, IntKind.signed, IntKind.bits] at *
  omega

theorem opnF_ok {f F : Nat} {cs : List Value} (ih : ∀ (t : TypeId) (l : List Ty) (vs : List Value) (d : DataW H) (ps : List MemPlace), opn P F t = some l → DataW.trod enc P w 0 spare held f t vs = some (d, ps) → ∃ ds, LR w (· < w.heap.size) l vs ds) :
    ∀ (fs : List Field) (n : Nat) (l : List Ty) (xs : List (DataW H × List MemPlace)), opnF (opn P F) P.cellsOf n fs = some l →
      fs.mapM (fun x => DataW.trod enc P w 0 spare held f x.type ((cs.drop x.offset).take (P.cellsOf x.type))) = some xs → cs.length = n + l.length → ∃ ds, LR w (· < w.heap.size) l (cs.drop n) ds
  | [], n, l, xs, ho, hx, hl => by
    simp only [opnF, Option.some.injEq] at ho
    subst ho
    have : cs.drop n = [] := List.drop_eq_nil_iff.2 (by simp at hl; omega)
    rw [this]
    exact ⟨[], trivial⟩
  | x :: r, n, l, xs, ho, hx, hl => by
    simp only [opnF] at ho
    split at ho
    rotate_left
    · simp at ho
    rename_i hoff
    simp only [beq_iff_eq] at hoff
    simp only [Option.bind_eq_bind, Option.bind_eq_some_iff] at ho
    obtain ⟨l1, h1, ho⟩ := ho
    split at ho
    rotate_left
    · simp at ho
    rename_i hc
    simp only [beq_iff_eq] at hc
    simp only [Option.bind_eq_some_iff, Option.some.injEq] at ho
    obtain ⟨q, hq, rfl⟩ := ho
    simp only [List.mapM_cons, Option.bind_eq_bind, Option.bind_eq_some_iff, Option.pure_def, Option.some.injEq] at hx
    obtain ⟨⟨d, ps⟩, hx1, xs', hx2, _⟩ := hx
    obtain ⟨ds, hds⟩ := ih _ _ _ _ _ h1 hx1
    obtain ⟨es, hes⟩ := opnF_ok ih r (n + l1.length) q xs' hq hx2 (by rw [hl, List.length_append]; omega)
    refine ⟨ds ++ es, ?_⟩
    have := LR.append _ _ _ _ _ _ hds hes
    rw [hoff, hc] at this
    have e : (cs.drop n).take l1.length ++ cs.drop (n + l1.length) = cs.drop n := by
      rw [← List.drop_drop]; exact List.take_append_drop _ _
    rwa [e] at this

theorem LR.one {w : World} {I : Nat → Prop} (t : Ty) (v : Value) (x : t.D) (h1 : leafV v) (h2 : RepC w I t (fun _ => some v) x) (h3 : WF t x) : ∃ ds, LR w I [t] [v] ds :=
  ⟨[⟨t, x⟩], h1, rfl, by rw [Dyn.get_mk]; exact h2, by rw [Dyn.get_mk]; exact h3, trivial⟩

/-- What is read as data, is data. -/
theorem opn_ok : ∀ (F : Nat) (t : TypeId) (l : List Ty) (fuel : Nat) (cs : List Value) (d : DataW H) (ps : List MemPlace), opn P F t = some l → DataW.trod enc P w 0 spare held fuel t cs = some (d, ps) → ∃ ds, LR w (· < w.heap.size) l cs ds
  | 0, t, l, fuel, cs, d, ps, ho, _ => by simp [opn] at ho
  | F + 1, t, l, 0, cs, d, ps, ho, hd => by simp [DataW.trod] at hd
  | F + 1, t, l, fuel + 1, cs, d, ps, ho, hd => by
    have ih := fun t l vs d ps => opn_ok F t l fuel vs d ps
    unfold opn at ho
    unfold DataW.trod at hd
    cases hu : P.underlying t with
    | none => rw [hu] at ho; simp at ho
    | some u =>
      rw [hu] at ho hd
      cases u <;> simp only at ho <;> try (simp at ho; done)
      case int k =>
        simp only [Option.some.injEq] at ho
        subst ho
        split at hd <;> simp only [reduceCtorEq, Option.some.injEq, TypeDesc.int.injEq] at * <;> try contradiction
        rename_i k1 k2 n heq
        subst heq
        split at hd
        · rename_i hkn
          obtain ⟨rfl, hw⟩ := hkn
          simp only [Lit.wf, Bool.and_eq_true, decide_eq_true_eq] at hw
          refine LR.one (.int k2) _ (ofI k2 n) trivial ?_ ?_
          · simp only [RepC, toI_ofI' hw.1 hw.2]
          · simp only [WF, toI_ofI' hw.1 hw.2]; exact hw
        · simp at hd
      case bool =>
        simp only [Option.some.injEq] at ho
        subst ho
        split at hd <;> simp only [reduceCtorEq, Option.some.injEq] at * <;> try contradiction
        rename_i b _
        exact LR.one .bool _ b trivial rfl trivial
      case string =>
        simp only [Option.some.injEq] at ho
        subst ho
        split at hd <;> simp only [reduceCtorEq, Option.some.injEq] at * <;> try contradiction
        rename_i s _
        split at hd
        · rename_i hs
          refine LR.one .str _ s.data.toList trivial ⟨s, rfl, rfl⟩ ?_
          show List.length s.data.toList ≤ maxLen
          simpa using hs
        · simp at hd
      case slice e =>
        simp only [Option.bind_eq_bind, Option.bind_eq_some_iff] at ho
        obtain ⟨le, hle, ho⟩ := ho
        split at ho
        rotate_left
        · simp at ho
        rename_i hc
        simp only [Bool.and_eq_true, beq_iff_eq, Bool.not_eq_true', List.isEmpty_eq_false_iff] at hc
        obtain ⟨⟨hc, hleaf⟩, hne⟩ := hc
        simp only [Option.some.injEq] at ho
        subst ho
        split at hd <;> simp only [reduceCtorEq, Option.some.injEq, TypeDesc.slice.injEq] at * <;> try contradiction
        · exact LR.one (.lst (tree le)) _ [] trivial ⟨none, 0, 0, rfl, rfl, Nat.le_refl _, .inl rfl⟩ ⟨Nat.zero_le _, fun x hx => by cases hx⟩
        · rename_i e' a len cap heq
          subst heq
          split at hd
          rotate_left
          · simp at hd
          rename_i hb
          obtain ⟨_, hlc, hcm⟩ := hb
          simp only [Option.bind_eq_some_iff] at hd
          obtain ⟨elems, hel, _⟩ := hd
          have hone : ∀ i, i < len → ∃ x : (tree le).D, RepC w (· < w.heap.size) (tree le) (fun j => w.cell? ((a.add (i * le.length)).add j)) x ∧ WF (tree le) x := by
            intro i hi
            obtain ⟨y, hy⟩ := mapM_get _ _ hel i (by simpa using hi)
            simp only [Option.bind_eq_some_iff] at hy
            obtain ⟨cs, hcs, hy⟩ := hy
            obtain ⟨g1, g2⟩ := cells?_get _ _ hcs
            obtain ⟨ds, hds⟩ := ih e le cs y.1 y.2 hle hy
            obtain ⟨r1, r2⟩ := LR.tree le cs ds hleaf hds
            refine ⟨treeD le ds, RepC.congr _ _ _ _ (fun j hj => ?_) r1, r2⟩
            rw [tree_n le hleaf] at hj
            rw [← hc]
            exact (g2 j (by rw [hc]; exact hj)).symm
          obtain ⟨xs, hx1, hx2⟩ := choose_list hone
          refine LR.one (.lst (tree le)) _ xs trivial ?_ ?_
          · refine ⟨some a, len, cap, rfl, hx1, hlc, ?_⟩
            by_cases h0 : len = 0
            · exact .inl h0
            · right
              -- the first cell is there
              obtain ⟨y, hy⟩ := mapM_get _ _ hel 0 (by simp; omega)
              simp only [Option.bind_eq_some_iff] at hy
              obtain ⟨cs, hcs, hy⟩ := hy
              obtain ⟨g1, g2⟩ := cells?_get _ _ hcs
              have hpos : 0 < P.cellsOf e := by rw [hc]; exact List.length_pos_iff.2 hne
              have h00 := g2 0 hpos
              obtain ⟨c0, hc0⟩ : ∃ c, cs[0]? = some c := ⟨cs[0], List.getElem?_eq_getElem (by omega)⟩
              rw [hc0] at h00
              obtain ⟨q1, q2⟩ := cell_lt h00
              obtain ⟨ab, ao, asp⟩ := a
              simp [Addr.add] at q1 q2
              subst q2
              refine ⟨ab, ao, rfl, q1, fun i hi => ?_⟩
              have := (hx2 i hi).1
              refine RepC.congr _ _ _ _ (fun j hj => ?_) this
              simp only [cellAt, tree_n le hleaf]
              congr 1
              simp only [Addr.add]
              split <;> split <;> simp_all <;> omega
          · refine ⟨by show xs.length ≤ maxLen; omega, fun x hx => ?_⟩
            obtain ⟨i, hi, rfl⟩ := List.mem_iff_getElem.1 hx
            exact (hx2 i hi).2
      case struct fs =>
        simp only [Option.bind_eq_bind, Option.bind_eq_some_iff] at ho
        obtain ⟨l1, h1, ho⟩ := ho
        split at ho
        rotate_left
        · simp at ho
        rename_i hc
        simp only [beq_iff_eq] at hc
        simp only [Option.some.injEq] at ho
        subst ho
        simp only at hd
        split at hd
        rotate_left
        · simp at hd
        rename_i hlen
        rw [Option.map_eq_some_iff] at hd
        obtain ⟨xs, hxs, _⟩ := hd
        have := opnF_ok (cs := cs) ih fs.toList 0 l1 xs h1 hxs (by omega)
        simpa using this

end
end Rk

/-! A law: its arguments are data, its translation answers true: it returns true and writes nothing. -/
set_option linter.unusedVariables false
set_option linter.unusedSimpArgs false
namespace Rk
open Go Go.ChangeShapes Go.WideShapes Go.ChangeAt Go.RowKit

def lawSig (gs : List Bool) (ls : List (List Ty)) : Sig := ⟨(gs.zip ls).map fun x => .val ⟨x.1, x.2.map .dyn⟩, [], [⟨false, [.dyn .bool]⟩], []⟩

/-- Data of these types, that fit. -/
def FitsL : List Ty → List Dyn → Prop
  | [], [] => True
  | t :: ts, d :: ds => (∃ x : t.D, d = ⟨t, x⟩ ∧ WF t x) ∧ FitsL ts ds
  | _, _ => False

theorem FitsL.uncons {t : Ty} {ts : List Ty} {xs : List Dyn} (h : FitsL (t :: ts) xs) : ∃ (x : t.D) (ys : List Dyn), xs = ⟨t, x⟩ :: ys ∧ WF t x ∧ FitsL ts ys := by
  cases xs with
  | nil => exact h.elim
  | cons d ds => obtain ⟨⟨x, e, w⟩, h⟩ := h; exact ⟨x, ds, by rw [e], w, h⟩
theorem FitsL.unnil {xs : List Dyn} (h : FitsL [] xs) : xs = [] := by
  cases xs with
  | nil => rfl
  | cons d ds => exact h.elim

theorem FitsL.append : ∀ (l m : List Ty) (ds es : List Dyn), FitsL l ds → FitsL m es → FitsL (l ++ m) (ds ++ es)
  | [], _, [], _, _, h => h
  | t :: l, m, d :: ds, es, h, h' => ⟨h.1, FitsL.append l m ds es h.2 h'⟩
  | [], _, _ :: _, _, h, _ => h.elim
  | _ :: _, _, [], _, h, _ => h.elim

theorem Dyn.eta {d : Dyn} {t : Ty} (h : d.t = t) : d = ⟨t, d.get t⟩ := by
  subst h
  obtain ⟨t, v⟩ := d
  rw [Dyn.get_mk]

theorem LR.fits {w : World} {I : Nat → Prop} : ∀ (l : List Ty) (vs : List Value) (ds : List Dyn), LR w I l vs ds → FitsL l ds
  | [], [], [], _ => trivial
  | t :: l, v :: vs, d :: ds, h => ⟨⟨d.get t, Dyn.eta h.2.1, h.2.2.2.1⟩, LR.fits l vs ds h.2.2.2.2⟩
  | [], _ :: _, _, h => h.elim
  | [], [], _ :: _, h => h.elim
  | _ :: _, [], _, h => h.elim
  | _ :: _, _ :: _, [], h => h.elim

def argLocs : Nat → List (List Ty) → List Loc
  | _, [] => []
  | i, l :: r => (List.range' 0 l.length).map (Loc.s i) ++ argLocs (i + 1) r

theorem updS_app (ρ : Rho) : ∀ (a b : List (Loc × Dyn)), updS ρ (a ++ b) = updS (updS ρ b) a
  | [], b => rfl
  | (l, d) :: r, b => by
    funext x
    simp only [List.cons_append, updS]
    rw [updS_app ρ r b]

theorem updS_row (i : Nat) : ∀ (n s : Nat) (ds : List Dyn) (ρ : Rho), ds.length = n → ∀ j d, ds[j]? = some d → updS ρ (((List.range' s n).map (Loc.s i)).zip ds) (.s i (s + j)) = d
  | 0, s, ds, ρ, hl, j, d, h => by
    have := List.length_eq_zero_iff.1 hl
    subst this
    simp at h
  | n + 1, s, [], ρ, hl, j, d, h => by simp at hl
  | n + 1, s, e :: ds, ρ, hl, j, d, h => by
    simp only [List.range'_succ, List.map_cons, List.zip_cons_cons, updS]
    cases j with
    | zero => simpa using h
    | succ j =>
      rw [if_neg (by simp)]
      have := updS_row i n (s + 1) ds ρ (by simpa using hl) j d (by simpa using h)
      rw [show s + (j + 1) = s + 1 + j by omega]
      exact this

theorem updS_args : ∀ (ls : List (List Ty)) (dss : List (List Dyn)) (i : Nat) (ρ : Rho), ls.map List.length = dss.map List.length →
    ∀ (k : Nat) (ds : List Dyn), dss[k]? = some ds → ∀ j d, ds[j]? = some d → updS ρ ((argLocs i ls).zip dss.flatten) (.s (i + k) j) = d
  | [], [], i, ρ, _, k, ds, h => by simp at h
  | [], _ :: _, i, ρ, h, _, _, _ => by simp at h
  | _ :: _, [], i, ρ, h, _, _, _ => by simp at h
  | l :: ls, es :: dss, i, ρ, hl, k, ds, h => by
    simp only [List.map_cons, List.cons.injEq] at hl
    intro j d hd
    simp only [argLocs, List.flatten_cons]
    rw [List.zip_append (by simp [hl.1]), updS_app]
    cases k with
    | zero =>
      simp only [List.getElem?_cons_zero, Option.some.injEq] at h
      subst h
      have := updS_row i l.length 0 es (updS ρ ((argLocs (i + 1) ls).zip dss.flatten)) hl.1.symm j d hd
      simpa using this
    | succ k =>
      rw [updS_not _ (fun y hy e => ?_)]
      · have := updS_args ls dss (i + 1) ρ hl.2 k ds (by simpa using h) j d hd
        rw [show i + (k + 1) = i + 1 + k by omega]
        exact this
      · have := (List.of_mem_zip hy).1
        obtain ⟨q, _, hq⟩ := List.mem_map.1 this
        rw [← hq] at e
        simp at e

theorem argLocs_s : ∀ (ls : List (List Ty)) (i : Nat), ∀ l ∈ argLocs i ls, ∃ a b, l = .s a b
  | [], i, l, h => by simp [argLocs] at h
  | x :: r, i, l, h => by
    simp only [argLocs, List.mem_append] at h
    rcases h with h | h
    · obtain ⟨q, _, rfl⟩ := List.mem_map.1 h
      exact ⟨_, _, rfl⟩
    · exact argLocs_s r _ l h

/-- The arguments, one by one. -/
def ArgR (w : World) (I : Nat → Prop) : List Bool → List (List Ty) → List Value → List (List Dyn) → Prop
  | [], [], [], [] => True
  | g :: gs, l :: ls, v :: vs, ds :: dss => (∃ cells, v = mkV g cells ∧ (g = false → cells.length = 1) ∧ LR w I l cells ds) ∧ ArgR w I gs ls vs dss
  | _, _, _, _ => False

theorem ArgR.fits {w : World} {I : Nat → Prop} : ∀ (gs : List Bool) (ls : List (List Ty)) (vs : List Value) (dss : List (List Dyn)), ArgR w I gs ls vs dss → FitsL ls.flatten dss.flatten ∧ ls.map List.length = dss.map List.length
  | [], [], [], [], _ => ⟨trivial, rfl⟩
  | g :: gs, l :: ls, v :: vs, ds :: dss, h => by
    obtain ⟨⟨cells, h1, h2, h3⟩, h4⟩ := h
    obtain ⟨g1, g2⟩ := ArgR.fits gs ls vs dss h4
    exact ⟨FitsL.append _ _ _ _ (LR.fits _ _ _ h3) g1, by simp only [List.map_cons, g2, (LR.length _ _ _ h3).2]⟩
  | [], [], [], _ :: _, h => h.elim
  | [], [], _ :: _, _, h => h.elim
  | [], _ :: _, _, _, h => h.elim
  | _ :: _, [], _, _, h => h.elim
  | _ :: _, _ :: _, [], _, h => h.elim
  | _ :: _, _ :: _, _ :: _, [], h => h.elim

theorem LR.cellsOk {M : Mem} {I : Nat → Prop} {i : Nat} (hI : ∀ b, I b → M.I b) : ∀ (l : List Ty) (vs : List Value) (ds : List Dyn) (j : Nat), LR M.w I l vs ds → (∀ q d, ds[q]? = some d → M.ρ (.s i (j + q)) = d) →
    CellsOk M (.s i) j (l.map .dyn) vs
  | [], [], [], j, _, _ => trivial
  | t :: l, v :: vs, d :: ds, j, h, hρ => by
    refine ⟨h.1, ?_, LR.cellsOk hI l vs ds (j + 1) h.2.2.2.2 (fun q d' hq => by rw [show j + 1 + q = j + (q + 1) by omega]; exact hρ (q + 1) d' (by simpa using hq))⟩
    have := hρ 0 d rfl
    rw [Nat.add_zero] at this
    rw [this]
    exact RepC.ext hI (fun _ _ _ => rfl) _ _ _ h.2.2.1
  | [], _ :: _, _, _, h, _ => h.elim
  | [], [], _ :: _, _, h, _ => h.elim
  | _ :: _, [], _, _, h, _ => h.elim
  | _ :: _, _ :: _, [], _, h, _ => h.elim

theorem ren_dyn (l : List Ty) : (l.map Sh.dyn).map renIn = l.map Sh.dyn := by
  induction l with
  | nil => rfl
  | cons t l ih => simp only [List.map_cons, ih]; rfl

theorem ArgR.sks {M : Mem} {I : Nat → Prop} (hI : ∀ b, I b → M.I b) : ∀ (gs : List Bool) (ls : List (List Ty)) (vs : List Value) (dss : List (List Dyn)) (i : Nat), ArgR M.w I gs ls vs dss →
    (∀ (k : Nat) (ds : List Dyn), dss[k]? = some ds → ∀ j d, ds[j]? = some d → M.ρ (.s (i + k) j) = d) →
    SKsOk M ((((gs.zip ls).map fun x => SK.val ⟨x.1, x.2.map .dyn⟩).zipIdx i).map fun x => (x.2, renSK x.1)) vs
  | [], [], [], [], i, _, _ => trivial
  | g :: gs, l :: ls, v :: vs, ds :: dss, i, h, hρ => by
    obtain ⟨⟨cells, h1, h2, h3⟩, h4⟩ := h
    refine ⟨⟨cells, h1, h2, ?_⟩, ArgR.sks hI gs ls vs dss (i + 1) h4 (fun k ds' hk j d hd => by rw [show i + 1 + k = i + (k + 1) by omega]; exact hρ (k + 1) ds' (by simpa using hk) j d hd)⟩
    simp only [renVal, ren_dyn]
    exact LR.cellsOk hI l cells ds 0 h3 (fun q d hq => by rw [Nat.zero_add]; have := hρ 0 ds rfl q d hq; rwa [Nat.add_zero] at this)
  | [], [], [], _ :: _, _, h, _ => h.elim
  | [], [], _ :: _, _, _, h, _ => h.elim
  | [], _ :: _, _, _, _, h, _ => h.elim
  | _ :: _, [], _, _, _, h, _ => h.elim
  | _ :: _, _ :: _, [], _, _, h, _ => h.elim
  | _ :: _, _ :: _, _ :: _, [], _, h, _ => h.elim

section
variable {H : Type} {enc : TypeId × Value → H} {P : Program} {w : World}

theorem arg_open {F : Nat} {t : TypeId} {l : List Ty} {g : Bool} {v : Value} {d : DataW H} {ps : List MemPlace} {base : Nat} (ho : opn P F t = some l) (hg : isAggT P t = some g)
    (hv : Value.okWide P w .any base t v) (hd : DataW.Trod enc P w 0 (fun _ => true) true t v d ps) : ∃ cells, v = mkV g cells ∧ (g = false → cells.length = 1) ∧ ∃ ds, LR w (· < w.heap.size) l cells ds := by
  obtain ⟨fuel, hf⟩ := hd
  obtain ⟨ds, hds⟩ := opn_ok F t l fuel _ d ps ho hf
  refine ⟨v.cells.toList, ?_, ?_, ds, hds⟩
  all_goals
    cases F with
    | zero => simp [opn] at ho
    | succ F =>
      unfold opn at ho
      simp only [isAggT, Option.bind_eq_bind, Option.bind_eq_some_iff] at hg
      obtain ⟨u, hu, hg⟩ := hg
      rw [hu] at ho
      cases u <;> simp only at ho hg <;> first
        | (simp at ho; done)
        | (simp only [Option.some.injEq] at hg
           subst hg
           first
            | (obtain ⟨n, rfl⟩ := okWide_int hu hv; simp [mkV, Value.cells])
            | (obtain ⟨n, rfl⟩ := okWide_bool hu hv; simp [mkV, Value.cells])
            | (obtain ⟨n, rfl⟩ := okWide_string hu hv; simp [mkV, Value.cells])
            | (obtain ⟨a, b, c, rfl⟩ := okWide_slice hu hv; simp [mkV, Value.cells])
            | (obtain ⟨cs, rfl, _⟩ := okWide_struct hu hv; simp [mkV, Value.cells]))

theorem args_open {F : Nat} : ∀ (ts : List TypeId) (gs : List Bool) (ls : List (List Ty)) (vs : List Value) (ds : List (DataW H)) (ps : List MemPlace) (base : Nat), ts.map (opn P F) = ls.map some → ts.map (isAggT P) = gs.map some →
    (∀ (j : Nat) t v, ts[j]? = some t → vs[j]? = some v → Value.okWide P w .any base t v) → DataW.TrodAll enc P w 0 (fun _ => true) true ts vs ds ps → ∃ dss, ArgR w (· < w.heap.size) gs ls vs dss
  | [], [], [], [], ds, ps, base, _, _, _, _ => ⟨[], trivial⟩
  | t :: ts, g :: gs, l :: ls, v :: vs, ds, ps, base, ho, hg, hv, hd => by
    simp only [List.map_cons, List.cons.injEq] at ho hg
    obtain ⟨v', vs', d', ds', p', q', e1, e2, e3, h1, h2⟩ := Go.ChangeShapes.trodAll_cons hd
    simp only [List.cons.injEq] at e1
    obtain ⟨rfl, rfl⟩ := e1
    obtain ⟨cells, c1, c2, es, c3⟩ := arg_open ho.1 hg.1 (hv 0 t v rfl rfl) h1
    obtain ⟨dss, hdss⟩ := args_open ts gs ls vs ds' q' base ho.2 hg.2 (fun j t v h h' => hv (j + 1) t v (by simpa using h) (by simpa using h')) h2
    exact ⟨es :: dss, ⟨cells, c1, c2, c3⟩, hdss⟩
  | [], _ :: _, _, _, _, _, _, _, h, _, _ => by simp at h
  | [], [], _ :: _, _, _, _, _, h, _, _, _ => by simp at h
  | [], [], [], _ :: _, _, _, _, _, _, _, h => by cases h
  | _ :: _, [], _, _, _, _, _, _, h, _, _ => by simp at h
  | _ :: _, _ :: _, [], _, _, _, _, h, _, _, _ => by simp at h
  | _ :: _, _ :: _, _ :: _, [], _, _, _, _, _, _, h => by cases h

end

theorem trodAll_below {H : Type} {enc : TypeId × Value → H} {P : Program} (hl : laidOutB P = true) {W W' : World} (hb : Below W.heap.size W W') :
    ∀ (ts : List TypeId) (vs : List Value) (ds : List (DataW H)) (ps : List MemPlace), (ts.all fun t => P.readableRec t && decide (t < P.types.size)) = true → DataW.TrodAll enc P W 0 (fun _ => true) true ts vs ds ps →
      DataW.TrodAll enc P W' 0 (fun b => decide (b < W.heap.size)) true ts vs ds ps
  | [], vs, ds, ps, _, h => by
    cases vs <;> cases ds <;> simp only [DataW.TrodAll] at h ⊢
    exact h
  | t :: ts, vs, ds, ps, hr, h => by
    obtain ⟨v', vs', d', ds', p', q', rfl, rfl, rfl, h1, h2⟩ := Go.ChangeShapes.trodAll_cons h
    simp only [List.all_cons, Bool.and_eq_true, decide_eq_true_eq] at hr
    exact trodAll_cons_mk (Below.trod hl hr.1.1 hr.1.2 h1 hb (by obtain ⟨m, hm⟩ := h1; exact DataW.trod_lt m _ _ _ hm)) (trodAll_below hl hb ts vs' ds' q' (by simpa using hr.2) h2)

theorem trodAll_len {H : Type} {enc : TypeId × Value → H} {P : Program} {W : World} : ∀ (ts : List TypeId) (vs : List Value) (ds : List (DataW H)) (ps : List MemPlace), DataW.TrodAll enc P W 0 (fun _ => true) true ts vs ds ps → ds.length = ts.length
  | [], vs, ds, ps, h => by
    cases vs <;> cases ds <;> simp only [DataW.TrodAll] at h ⊢
    rfl
  | t :: ts, vs, ds, ps, h => by
    obtain ⟨v', vs', d', ds', p', q', rfl, rfl, rfl, h1, h2⟩ := Go.ChangeShapes.trodAll_cons h
    simp [trodAll_len ts vs' ds' q' h2]

theorem tgtT_nil : tgtT [] = fun _ => none := by
  funext κ; rfl

theorem not_priv (κ : Nat) : ¬ Priv (tgtT []) κ := by
  rintro ⟨k, h, _⟩
  rw [tgtT_nil] at h
  simp at h

def lawCtx (P : Program) (w : World) (tabs : Nat → Dyn) : Ctx := ⟨P, fun b => b < w.heap.size, fun _ => False, w, 0, tabs, [], fun _ => none, by simp⟩

/-- The walk of a law. -/
theorem law_walk {G : Prg} (hx : ExtOk G) {f : FuncId} {gs : List Bool} {ls : List (List Ty)} (hsg : (G.E.sig f)[0]? = some (lawSig gs ls)) (hloc : (lawSig gs ls).inLocs.map (·.1) = argLocs 0 ls)
    {w : World} {args : List Value} {dss : List (List Dyn)} (ha : ArgR w (· < w.heap.size) gs ls args dss) (ht : TabsOk G.E (lawCtx G.E.P w G.tabs)) (hlaw : ∀ xs, FitsL ls.flatten xs → ∃ k r, sem G k f 0 xs = some r ∧ (r.headD default).get .bool = true) :
    Calls G.E.P f args.toArray w (fun e w' => e = .returned (.bool true) ∧ Below w.heap.size w w') := by
  obtain ⟨hf, hl⟩ := ArgR.fits _ _ _ _ ha
  obtain ⟨k, r, hk, hr⟩ := hlaw _ hf
  have hI : ∀ b, b < w.heap.size → imms (lawCtx G.E.P w G.tabs) (tgtT []) (fun _ => none) w b := fun b hb => ⟨.inl hb, hb, fun κ hp => (not_priv κ hp).elim⟩
  have hent : Entry G.E (lawCtx G.E.P w G.tabs) (lawSig gs ls) (G.init (lawSig gs ls) dss.flatten) (fun _ => none) args := by
    refine ⟨ht, fun κ κ' b h => (not_priv κ h).elim, fun κ b h => (not_priv κ h).elim, fun x hx => by simp [lawSig, Sig.inKs, numK] at hx, ?_, fun b hb => ⟨hb, fun h => h⟩, fun b hb => hb.elim, fun g => ?_⟩
    · refine ArgR.sks (M := memOf (lawCtx G.E.P w G.tabs) (tgtT []) (fun _ => none) (G.init (lawSig gs ls) dss.flatten) w) hI gs ls args dss 0 ha (fun k ds hk j d hd => ?_)
      simp only [memOf, Prg.init, hloc]
      exact updS_args ls dss 0 _ hl k ds hk j d hd
    · simp only [Prg.init, hloc]
      rw [updS_not _ (fun y hy e => ?_)]
      · rfl
      · obtain ⟨a, b, q⟩ := argLocs_s ls 0 _ (List.of_mem_zip hy).1
        rw [q] at e
        simp at e
  have := sem_sound hx k f 0 _ _ _ hk hsg (lawCtx G.E.P w G.tabs) (fun _ => none) args rfl rfl rfl hent
  refine Calls.mono this ?_
  rintro e w' ⟨v, rfl, hlen, β', ho⟩
  obtain ⟨d, rfl⟩ : ∃ d, r = [d] := by
    match r, hlen with
    | [d], _ => exact ⟨d, rfl⟩
    | [], h => simp [lawSig, Sig.outLocs, Sig.outSK, Sig.outKs, numK, stLocs, skLocs, cellLocs, keyLocs, renVal, renIn] at h
    | _ :: _ :: _, h => simp [lawSig, Sig.outLocs, Sig.outSK, Sig.outKs, numK, stLocs, skLocs, cellLocs, keyLocs, renVal, renIn] at h
  have hd : d.get .bool = true := hr
  refine ⟨?_, ?_⟩
  · obtain ⟨cells, h1, h2, h3⟩ := ho.slot
    have : cells.length = 1 := h2 rfl
    match cells, this, h3 with
    | [c], _, h3 =>
      have hc : c = .bool true := by
        have := h3.2.1
        simp only [renIn, CellOk, memOf] at this
        have h4 : RepC w' _ .bool (fun _ => some c) (d.get .bool) := this
        rw [hd] at h4
        simpa [RepC] using h4
      rw [h1, hc]
      rfl
  · have := ho.fr
    exact ⟨this.os, this.tape, this.output, this.size, fun b hb => this.block b hb (fun h => h)⟩

end Rk

/-! What functions answer, without fuel: as expressions over data. -/
set_option linter.unusedVariables false
set_option linter.unusedSimpArgs false
namespace Rk
open Go

/-- Bytes as integers, and integers as bytes. -/
def i8 (x : UInt8) : Int := (x.toNat : Int)
def o8 (x : Int) : UInt8 := UInt8.ofNat x.toNat
def W64 (x : Int) : Int := IntKind.wrap .i64 x

/-! ### More fuel -/

def LeF {α R : Type} (f g : α → Option R) : Prop := ∀ a r, f a = some r → g a = some r

theorem runE_mono {c c' : CallF} (hc : ∀ f i xs r, c f i xs = some r → c' f i xs = some r) {e : Eff} {ρ ρ1 : Rho} (h : runE c e ρ = some ρ1) : runE c' e ρ = some ρ1 := by
  unfold runE at h ⊢
  cases hb : allB ρ e.chk with
  | false => simp [hb] at h
  | true =>
    simp only [hb, cond_true] at h ⊢
    cases hk : e.call with
    | none => rw [hk] at h; exact h
    | some k =>
      simp only [hk] at h ⊢
      cases hcb : allB ρ k.cond with
      | false => rw [hcb] at h; exact h
      | true =>
        simp only [hcb, cond_true, Option.bind_eq_some_iff] at h ⊢
        obtain ⟨o, h1, h2⟩ := h
        exact ⟨o, hc _ _ _ _ h1, h2⟩

theorem runEs_mono {c c' : CallF} (hc : ∀ f i xs r, c f i xs = some r → c' f i xs = some r) : ∀ (es : List Eff) (ρ ρ1 : Rho), runEs c es ρ = some ρ1 → runEs c' es ρ = some ρ1
  | [], ρ, ρ1, h => h
  | e :: r, ρ, ρ1, h => by
    simp only [runEs, Option.bind_eq_some_iff] at h ⊢
    obtain ⟨ρ2, h1, h2⟩ := h
    exact ⟨ρ2, runE_mono hc h1, runEs_mono hc r ρ2 ρ1 h2⟩

theorem iter_mono {F F' : (Rho → Res) → Rho → Res} (hF : ∀ f g, LeF f g → LeF (F f) (F' g)) : ∀ (k k' : Nat), k ≤ k' → LeF (iter k F) (iter k' F')
  | 0, _, _ => fun a r h => by simp [iter] at h
  | k + 1, 0, h => by omega
  | k + 1, k' + 1, h => hF _ _ (iter_mono hF k k' (by omega))

theorem den_mono {c c' : CallF} (hc : ∀ f i xs r, c f i xs = some r → c' f i xs = some r) {k k' : Nat} (hk : k ≤ k') : ∀ (tc : TC) (κn κn' : Rho → Res) (κx κx' : Nat → Rho → Res), LeF κn κn' → (∀ i, LeF (κx i) (κx' i)) →
    LeF (den c k tc κn κx) (den c' k' tc κn' κx') := by
  intro tc
  induction tc with
  | nop => intro κn κn' κx κx' h1 h2 ρ r h; exact h1 _ _ h
  | effs l =>
    intro κn κn' κx κx' h1 h2 ρ r h
    simp only [den, Option.bind_eq_some_iff] at h ⊢
    obtain ⟨ρ1, g1, g2⟩ := h
    exact ⟨ρ1, runEs_mono hc _ _ _ g1, h1 _ _ g2⟩
  | seq a b iha ihb => intro κn κn' κx κx' h1 h2; exact iha _ _ _ _ (ihb _ _ _ _ h1 h2) h2
  | cond e a b iha ihb =>
    intro κn κn' κx κx' h1 h2 ρ r h
    simp only [den] at h ⊢
    cases hb : e.evB ρ with
    | true => rw [hb] at h; exact iha _ _ _ _ h1 h2 _ _ h
    | false => rw [hb] at h; exact ihb _ _ _ _ h1 h2 _ _ h
  | block id a ih =>
    intro κn κn' κx κx' h1 h2
    refine ih _ _ _ _ h1 (fun i ρ r h => ?_)
    cases hb : i == id with
    | true => simp only [hb, cond_true] at h ⊢; exact h1 _ _ h
    | false => simp only [hb, cond_false] at h ⊢; exact h2 _ _ _ h
  | loop V a ih => intro κn κn' κx κx' h1 h2; exact iter_mono (fun f g hfg => ih _ _ _ _ hfg h2) k k' hk
  | exit id => intro κn κn' κx κx' h1 h2; exact h2 id
  | ret o => intro κn κn' κx κx' h1 h2 ρ r h; exact h
  | mv l a ih => intro κn κn' κx κx' h1 h2 ρ r h; exact ih _ _ _ _ h1 h2 _ _ h
  | bnd V o a b iha ihb => intro κn κn' κx κx' h1 h2; exact iha _ _ _ _ (ihb _ _ _ _ h1 h2) h2

/-- More fuel answers the same. -/
def ExtMono (G : Prg) : Prop := ∀ f i g, G.ext f i = some g → ∀ k xs r, g k xs = some r → g (k + 1) xs = some r

theorem sem_mono1 {G : Prg} (hx : ExtMono G) : ∀ (k : Nat) f i xs r, sem G k f i xs = some r → sem G (k + 1) f i xs = some r
  | 0, f, i, xs, r, h => by simp [sem] at h
  | k + 1, f, i, xs, r, h => by
    simp only [sem] at h
    unfold sem
    split at h
    · rename_i g hg
      exact hx f i g hg k xs r h
    · rename_i hg
      split at h
      · simp at h
      · rename_i tc sg hc
        exact den_mono (sem_mono1 hx k) (Nat.le_succ k) tc _ _ _ _ (fun _ _ h => h) (fun _ _ _ h => h) _ _ h

theorem sem_mono {G : Prg} (hx : ExtMono G) {k k' : Nat} (hk : k ≤ k') {f i xs r} (h : sem G k f i xs = some r) : sem G k' f i xs = some r := by
  induction hk with
  | refl => exact h
  | step _ ih => exact sem_mono1 hx _ _ _ _ _ ih

/-! ### Data of many types -/

def Dat : List Ty → Type
  | [] => Unit
  | [t] => t.D
  | t :: u :: r => t.D × Dat (u :: r)

def ofDyns : (ts : List Ty) → List Dyn → Dat ts
  | [], _ => ()
  | [t], l => (l.headD default).get t
  | t :: u :: r, l => ((l.headD default).get t, ofDyns (u :: r) l.tail)

def dfltD : (ts : List Ty) → Dat ts
  | [] => ()
  | [t] => t.dflt
  | t :: u :: r => (t.dflt, dfltD (u :: r))

def gets (ρ : Rho) : (V : TL) → Dat (V.map (·.2))
  | [] => ()
  | [x] => (ρ x.1).get x.2
  | x :: y :: r => ((ρ x.1).get x.2, gets ρ (y :: r))

def locsD : (V : TL) → Dat (V.map (·.2)) → List (Loc × Dyn)
  | [], _ => []
  | [x], d => [(x.1, ⟨x.2, d⟩)]
  | x :: y :: r, d => (x.1, ⟨x.2, d.1⟩) :: locsD (y :: r) d.2

/-! ### Loops -/

def iterT {α R : Type} : Nat → ((α → Option R) → α → Option R) → α → Option R
  | 0, _, _ => none
  | k + 1, F, a => F (iterT k F) a

open Classical in
noncomputable def lfp {α R : Type} (F : (α → Option R) → α → Option R) (a : α) : Option R :=
  if h : ∃ r k, iterT k F a = some r then some h.choose else none

theorem lfp_spec {α R : Type} {F : (α → Option R) → α → Option R} {a : α} {r : R} (h : lfp F a = some r) : ∃ k, iterT k F a = some r := by
  unfold lfp at h
  split at h
  · rename_i hh
    simp only [Option.some.injEq] at h
    subst h
    exact hh.choose_spec
  · simp at h

/-- What hangs on a function by finitely many of its answers. -/
structure Cts {α R Q : Type} (E : (α → Option R) → Option Q) : Prop where
  mono : ∀ f g, LeF f g → ∀ y, E f = some y → E g = some y
  lim : ∀ (c : Nat → α → Option R) (l : α → Option R), (∀ k, LeF (c k) (c (k + 1))) → (∀ a r, l a = some r → ∃ k, c k a = some r) → ∀ y, E l = some y → ∃ k, E (c k) = some y

section
variable {α R Q : Type}

theorem ce_const (x : Option Q) : Cts (fun _ : α → Option R => x) := ⟨fun _ _ _ _ h => h, fun _ _ _ _ _ h => ⟨0, h⟩⟩
theorem ce_self (a : α) : Cts (fun s : α → Option R => s a) := ⟨fun _ _ h _ => h _ _, fun _ _ _ h _ => h _ _⟩

theorem chain_le {c : Nat → α → Option R} (h : ∀ k, LeF (c k) (c (k + 1))) {k k' : Nat} (hk : k ≤ k') : LeF (c k) (c k') := by
  induction hk with
  | refl => exact fun _ _ h => h
  | step _ ih => exact fun a r h' => h _ _ _ (ih _ _ h')

theorem ce_cond (b : Bool) {E E' : (α → Option R) → Option Q} (h : Cts E) (h' : Cts E') : Cts (fun s => cond b (E s) (E' s)) := by
  cases b
  · exact h'
  · exact h

theorem ce_bind {T : Type} (x : Option T) {E : T → (α → Option R) → Option Q} (h : ∀ t, Cts (E t)) : Cts (fun s => x.bind fun t => E t s) := by
  cases x with
  | none => exact ce_const none
  | some t => exact h t

theorem ce_bind2 {T : Type} {A : (α → Option R) → Option T} {E : T → (α → Option R) → Option Q} (ha : Cts A) (h : ∀ t, Cts (E t)) : Cts (fun s => (A s).bind fun t => E t s) := by
  constructor
  · intro f g hfg y hy
    simp only [Option.bind_eq_some_iff] at hy ⊢
    obtain ⟨t, h1, h2⟩ := hy
    exact ⟨t, ha.mono f g hfg t h1, (h t).mono f g hfg y h2⟩
  · intro c l hc hl y hy
    simp only [Option.bind_eq_some_iff] at hy
    obtain ⟨t, h1, h2⟩ := hy
    obtain ⟨k1, q1⟩ := ha.lim c l hc hl t h1
    obtain ⟨k2, q2⟩ := (h t).lim c l hc hl y h2
    refine ⟨max k1 k2, ?_⟩
    simp only [Option.bind_eq_some_iff]
    exact ⟨t, ha.mono _ _ (chain_le hc (Nat.le_max_left _ _)) t q1, (h t).mono _ _ (chain_le hc (Nat.le_max_right _ _)) y q2⟩

theorem ce_map {T : Type} {A : (α → Option R) → Option T} {g : T → Q} (ha : Cts A) : Cts (fun s => (A s).map g) := by
  constructor
  · intro f f' hfg y hy
    simp only [Option.map_eq_some_iff] at hy ⊢
    obtain ⟨t, h1, h2⟩ := hy
    exact ⟨t, ha.mono f f' hfg t h1, h2⟩
  · intro c l hc hl y hy
    simp only [Option.map_eq_some_iff] at hy
    obtain ⟨t, h1, h2⟩ := hy
    obtain ⟨k1, q1⟩ := ha.lim c l hc hl t h1
    exact ⟨k1, by simp only [Option.map_eq_some_iff]; exact ⟨t, q1, h2⟩⟩

theorem ce_elim {T S : Type} (x : T ⊕ S) {E : T → (α → Option R) → Option Q} {E' : S → (α → Option R) → Option Q} (h : ∀ t, Cts (E t)) (h' : ∀ t, Cts (E' t)) : Cts (fun s => Sum.elim (fun t => E t s) (fun t => E' t s) x) := by
  cases x
  · exact h _
  · exact h' _

theorem iterT_le {β S : Type} {F : (β → Option S) → β → Option S} {F' : (β → Option S) → β → Option S} (hm : ∀ a f g, LeF f g → ∀ y, F f a = some y → F' g a = some y) : ∀ (k k' : Nat), k ≤ k' → LeF (iterT k F) (iterT k' F')
  | 0, _, _ => fun a r h => by simp [iterT] at h
  | k + 1, 0, h => by omega
  | k + 1, k' + 1, h => fun a r hh => hm a _ _ (iterT_le hm k k' (by omega)) r hh

theorem lfp_of {β S : Type} {F : (β → Option S) → β → Option S} (hm : ∀ a, Cts (fun s => F s a)) {k : Nat} {a : β} {r : S} (h : iterT k F a = some r) : lfp F a = some r := by
  unfold lfp
  have hh : ∃ r k, iterT k F a = some r := ⟨r, k, h⟩
  rw [dif_pos hh]
  obtain ⟨k', hk'⟩ := hh.choose_spec
  have e1 := iterT_le (F := F) (F' := F) (fun a f g hfg y => (hm a).mono f g hfg y) k (max k k') (Nat.le_max_left _ _) _ _ h
  have e2 := iterT_le (F := F) (F' := F) (fun a f g hfg y => (hm a).mono f g hfg y) k' (max k k') (Nat.le_max_right _ _) _ _ hk'
  rw [e1] at e2
  exact e2.symm

/-- A loop is its round. -/
theorem lfp_eq {β S : Type} {F : (β → Option S) → β → Option S} (hm : ∀ a, Cts (fun s => F s a)) (a : β) : lfp F a = F (lfp F) a := by
  have h1 : ∀ r, lfp F a = some r → F (lfp F) a = some r := by
    intro r h
    obtain ⟨k, hk⟩ := lfp_spec h
    cases k with
    | zero => simp [iterT] at hk
    | succ k => exact (hm a).mono _ _ (fun b r hb => lfp_of hm hb) r hk
  have h2 : ∀ r, F (lfp F) a = some r → lfp F a = some r := by
    intro r h
    obtain ⟨k, hk⟩ := (hm a).lim (fun k => iterT k F) (lfp F) (fun k => iterT_le (fun a f g hfg y => (hm a).mono f g hfg y) k (k + 1) (Nat.le_succ k)) (fun b r hb => lfp_spec hb) r h
    exact lfp_of hm (k := k + 1) hk
  cases h : lfp F a with
  | some r => exact (h1 r h).symm
  | none =>
    cases h' : F (lfp F) a with
    | none => rfl
    | some r => rw [h2 r h'] at h; simp at h

/-- A loop within. -/
theorem ce_lfp {β S : Type} (b : β) {H : (α → Option R) → (β → Option S) → β → Option S} (h1 : ∀ t x, Cts (fun s => H s t x)) (h2 : ∀ s x, Cts (fun t => H s t x)) : Cts (fun s => lfp (H s) b) := by
  constructor
  · intro f g hfg y hy
    obtain ⟨k, hk⟩ := lfp_spec hy
    exact lfp_of (h2 g) (k := k) (iterT_le (F := H f) (F' := H g) (fun a t t' htt z hz => (h2 g a).mono t t' htt z ((h1 t a).mono f g hfg z hz)) k k (Nat.le_refl _) _ _ hk)
  · intro c l hc hl y hy
    obtain ⟨n, hn⟩ := lfp_spec hy
    have hmono : ∀ n k k', k ≤ k' → LeF (iterT n (H (c k))) (iterT n (H (c k'))) := fun n k k' hk =>
      iterT_le (fun a t t' htt z hz => (h2 (c k') a).mono t t' htt z ((h1 t a).mono _ _ (chain_le hc hk) z hz)) n n (Nat.le_refl _)
    have key : ∀ n x z, iterT n (H l) x = some z → ∃ k, iterT n (H (c k)) x = some z := by
      intro n
      induction n with
      | zero => intro x z h; simp [iterT] at h
      | succ n ih =>
        intro x z h
        simp only [iterT] at h
        obtain ⟨k1, hk1⟩ := (h1 _ x).lim c l hc hl z h
        obtain ⟨k2, hk2⟩ := (h2 (c k1) x).lim (fun k => iterT n (H (c k))) (iterT n (H l)) (fun k => hmono n k (k + 1) (Nat.le_succ k)) (fun a r ha => ih a r ha) z hk1
        refine ⟨max k1 k2, ?_⟩
        simp only [iterT]
        exact (h2 _ x).mono _ _ (hmono n k2 (max k1 k2) (Nat.le_max_right _ _)) z ((h1 _ x).mono _ _ (chain_le hc (Nat.le_max_left k1 k2)) z hk2)
    obtain ⟨k, hk⟩ := key n b y hn
    exact ⟨k, lfp_of (h2 (c k)) hk⟩

end

/-! ### Without fuel -/

open Classical in
noncomputable def Sω (G : Prg) : CallF := fun f i xs => if h : ∃ r k, sem G k f i xs = some r then some h.choose else none

theorem Sω_spec {G : Prg} {f i xs r} (h : Sω G f i xs = some r) : ∃ k, sem G k f i xs = some r := by
  unfold Sω at h
  split at h
  · rename_i hh
    simp only [Option.some.injEq] at h
    subst h
    exact hh.choose_spec
  · simp at h

theorem Sω_of {G : Prg} (hx : ExtMono G) {k : Nat} {f i xs r} (h : sem G k f i xs = some r) : Sω G f i xs = some r := by
  unfold Sω
  have hh : ∃ r k, sem G k f i xs = some r := ⟨r, k, h⟩
  rw [dif_pos hh]
  obtain ⟨k', hk'⟩ := hh.choose_spec
  have e1 := sem_mono hx (Nat.le_max_left k k') h
  have e2 := sem_mono hx (Nat.le_max_right k k') hk'
  rw [e1] at e2
  exact e2.symm

noncomputable def Tω (G : Prg) (f : FuncId) (i : Nat) (xs : List Dyn) (ts : List Ty) : Option (Dat ts) := (Sω G f i xs).map (ofDyns ts)

def setV (tabs : Nat → Dyn) (V : TL) (s : Dat (V.map (·.2))) : Rho := updS (baseRho tabs) (locsD V s)

noncomputable def runW {R : Type} (G : Prg) : List Eff → (Rho → Option R) → Rho → Option R
  | [], κ, ρ => κ ρ
  | e :: r, κ, ρ =>
    bif allB ρ e.chk then
      match e.call with
      | none => runW G r κ (updS ρ (evs ρ e.sets))
      | some c => (bif allB ρ c.cond then Tω G c.f c.i (dyns ρ c.args) (c.outs.map (·.2)) else some (dfltD _)).bind fun d => runW G r κ (updS ρ (locsD c.outs d))
    else none

noncomputable def denW (G : Prg) : {R : Type} → (fin : List Dyn → Option R) → TC → (Rho → Option R) → (Nat → Rho → Option R) → Rho → Option R
  | _, _, .nop, κn, _, ρ => κn ρ
  | _, _, .effs l, κn, _, ρ => runW G l κn ρ
  | _, fin, .seq a b, κn, κx, ρ => denW G fin a (denW G fin b κn κx) κx ρ
  | _, fin, .cond e a b, κn, κx, ρ => bif e.evB ρ then denW G fin a κn κx ρ else denW G fin b κn κx ρ
  | _, fin, .block id a, κn, κx, ρ => denW G fin a κn (fun i ρ => bif i == id then κn ρ else κx i ρ) ρ
  | _, fin, .loop V a, _, κx, ρ => lfp (fun self s => denW G fin a (fun ρ' => self (gets ρ' V)) κx (setV G.tabs V s)) (gets ρ V)
  | _, _, .exit id, _, κx, ρ => κx id ρ
  | _, fin, .ret outs, _, _, ρ => fin (dyns ρ outs)
  | _, fin, .mv l a, κn, κx, ρ => denW G fin a κn κx (updS ρ (evs ρ l))
  | _, fin, .bnd V true a b, κn, κx, ρ => (denW G (fun _ => none) a (fun ρ' => some (gets ρ' V)) (fun _ _ => none) ρ).bind fun s => denW G fin b κn κx (setV G.tabs V s)
  | R, fin, .bnd V false a b, κn, κx, ρ => (denW (R := Dat (V.map (·.2)) ⊕ R) G (fun r => (fin r).map .inr) a (fun ρ' => some (.inl (gets ρ' V))) (fun i ρ' => (κx i ρ').map .inr) ρ).bind
      (Sum.elim (fun s => denW G fin b κn κx (setV G.tabs V s)) (fun y => some y))

/-! ### Alike where it matters -/

structure Ag (tabs : Nat → Dyn) (L : TL) (ρ ρ' : Rho) : Prop where
  at_ : ∀ x ∈ L, (ρ x.1).get x.2 = (ρ' x.1).get x.2
  g1 : ∀ g, ρ (.g g) = tabs g
  g2 : ∀ g, ρ' (.g g) = tabs g

theorem Ag.sub {tabs : Nat → Dyn} {L L' : TL} {ρ ρ' : Rho} (h : Ag tabs L ρ ρ') (hs : ∀ x ∈ L', x ∈ L) : Ag tabs L' ρ ρ' := ⟨fun x hx => h.at_ x (hs x hx), h.g1, h.g2⟩

theorem Ag.rd {tabs : Nat → Dyn} {l : TL} {ρ ρ' : Rho} (h : Ag tabs (Rk.rd l) ρ ρ') : ∀ x ∈ l, (ρ x.1).get x.2 = (ρ' x.1).get x.2 := by
  intro x hx
  cases hl : x.1 with
  | g i => rw [h.g1, h.g2]
  | s i j => have := h.at_ x (List.mem_filter.2 ⟨hx, by rw [hl]; rfl⟩); rw [hl] at this; exact this
  | k i j => have := h.at_ x (List.mem_filter.2 ⟨hx, by rw [hl]; rfl⟩); rw [hl] at this; exact this

theorem mem3 {α : Type} {a b c : List α} {x : α} : (x ∈ a → x ∈ a ++ b ++ c) ∧ (x ∈ b → x ∈ a ++ b ++ c) ∧ (x ∈ c → x ∈ a ++ b ++ c) := by
  simp only [List.mem_append]
  exact ⟨fun h => .inl (.inl h), fun h => .inl (.inr h), fun h => .inr h⟩
theorem mem2 {α : Type} {a b : List α} {x : α} : (x ∈ a → x ∈ a ++ b) ∧ (x ∈ b → x ∈ a ++ b) := by
  simp only [List.mem_append]
  exact ⟨.inl, .inr⟩

theorem ev_tl {ρ ρ' : Rho} : ∀ (e : PE) (t : Ty), (∀ x ∈ e.tl t, (ρ x.1).get x.2 = (ρ' x.1).get x.2) → e.ev ρ t = e.ev ρ' t := by
  intro e
  induction e with
  | loc l => intro t h; exact h (l, t) List.mem_cons_self
  | int n => intro t h; rfl
  | bool n => intro t h; rfl
  | str n => intro t h; rfl
  | lnil => intro t h; rfl
  | unit => intro t h; rfl
  | ar op k k2 a b iha ihb =>
    intro t h
    have e0 := iha (.int k) (fun x hx => h x (mem2.1 hx))
    have e1 := ihb (.int k2) (fun x hx => h x (mem2.2 hx))
    simp only [PE.ev, e0, e1]
  | cmpI op k a b iha ihb =>
    intro t h
    have e0 := iha (.int k) (fun x hx => h x (mem2.1 hx))
    have e1 := ihb (.int k) (fun x hx => h x (mem2.2 hx))
    simp only [PE.ev, e0, e1]
  | cmpS op a b iha ihb =>
    intro t h
    have e0 := iha .str (fun x hx => h x (mem2.1 hx))
    have e1 := ihb .str (fun x hx => h x (mem2.2 hx))
    simp only [PE.ev, e0, e1]
  | cmpB n a b iha ihb =>
    intro t h
    have e0 := iha .bool (fun x hx => h x (mem2.1 hx))
    have e1 := ihb .bool (fun x hx => h x (mem2.2 hx))
    simp only [PE.ev, e0, e1]
  | neg k a iha =>
    intro t h
    have e0 := iha (.int k) (fun x hx => h x hx)
    simp only [PE.ev, e0]
  | com k a iha =>
    intro t h
    have e0 := iha (.int k) (fun x hx => h x hx)
    simp only [PE.ev, e0]
  | conv k a iha =>
    intro t h
    have e0 := iha (.int k) (fun x hx => h x hx)
    simp only [PE.ev, e0]
  | not a iha =>
    intro t h
    have e0 := iha .bool (fun x hx => h x hx)
    simp only [PE.ev, e0]
  | cat a b iha ihb =>
    intro t h
    have e0 := iha .str (fun x hx => h x (mem2.1 hx))
    have e1 := ihb .str (fun x hx => h x (mem2.2 hx))
    simp only [PE.ev, e0, e1]
  | slen a iha =>
    intro t h
    have e0 := iha .str (fun x hx => h x hx)
    simp only [PE.ev, e0]
  | sidx a i iha ihi =>
    intro t h
    have e0 := iha .str (fun x hx => h x (mem2.1 hx))
    have e1 := ihi (.int .i64) (fun x hx => h x (mem2.2 hx))
    simp only [PE.ev, e0, e1]
  | ssub a lo hi iha ihlo ihhi =>
    intro t h
    have e0 := iha .str (fun x hx => h x (mem3.1 hx))
    have e1 := ihlo (.int .i64) (fun x hx => h x (mem3.2.1 hx))
    have e2 := ihhi (.int .i64) (fun x hx => h x (mem3.2.2 hx))
    simp only [PE.ev, e0, e1, e2]
  | llen u a iha =>
    intro t h
    have e0 := iha (.lst u) (fun x hx => h x hx)
    simp only [PE.ev, e0]
  | lidx a i iha ihi =>
    intro t h
    have e0 := iha (.lst t) (fun x hx => h x (mem2.1 hx))
    have e1 := ihi (.int .i64) (fun x hx => h x (mem2.2 hx))
    simp only [PE.ev, e0, e1]
  | lsub a lo hi iha ihlo ihhi =>
    intro t h
    cases t with
    | lst t =>
      have e0 := iha (.lst t) (fun x hx => h x (mem3.1 hx))
      have e1 := ihlo (.int .i64) (fun x hx => h x (mem3.2.1 hx))
      have e2 := ihhi (.int .i64) (fun x hx => h x (mem3.2.2 hx))
      simp only [PE.ev, onLst_lst, onPair_pair, e0, e1, e2]
      try rfl
    | _ => rfl
  | lapp a b iha ihb =>
    intro t h
    cases t with
    | lst t =>
      have e0 := iha (.lst t) (fun x hx => h x (mem2.1 hx))
      have e1 := ihb (.lst t) (fun x hx => h x (mem2.2 hx))
      simp only [PE.ev, onLst_lst, onPair_pair, e0, e1]
      try rfl
    | _ => rfl
  | lset a i v iha ihi ihv =>
    intro t h
    cases t with
    | lst t =>
      have e0 := iha (.lst t) (fun x hx => h x (mem3.1 hx))
      have e1 := ihi (.int .i64) (fun x hx => h x (mem3.2.1 hx))
      have e2 := ihv t (fun x hx => h x (mem3.2.2 hx))
      simp only [PE.ev, onLst_lst, onPair_pair, e0, e1, e2]
      try rfl
    | _ => rfl
  | one a iha =>
    intro t h
    cases t with
    | lst t =>
      have e0 := iha t (fun x hx => h x hx)
      simp only [PE.ev, onLst_lst, onPair_pair, e0]
      try rfl
    | _ => rfl
  | lrep n a ihn iha =>
    intro t h
    cases t with
    | lst t =>
      have e0 := ihn (.int .i64) (fun x hx => h x (mem2.1 hx))
      have e1 := iha t (fun x hx => h x (mem2.2 hx))
      simp only [PE.ev, onLst_lst, onPair_pair, e0, e1]
      try rfl
    | _ => rfl
  | b2s a iha =>
    intro t h
    have e0 := iha (.lst (.int .u8)) (fun x hx => h x hx)
    simp only [PE.ev, e0]
  | s2b a iha =>
    intro t h
    have e0 := iha .str (fun x hx => h x hx)
    simp only [PE.ev, e0]
  | fst u a iha =>
    intro t h
    have e0 := iha (.pair t u) (fun x hx => h x hx)
    simp only [PE.ev, e0]
  | snd u a iha =>
    intro t h
    have e0 := iha (.pair u t) (fun x hx => h x hx)
    simp only [PE.ev, e0]
  | pair a b iha ihb =>
    intro t h
    cases t with
    | pair t u =>
      have e0 := iha t (fun x hx => h x (mem2.1 hx))
      have e1 := ihb u (fun x hx => h x (mem2.2 hx))
      simp only [PE.ev, onLst_lst, onPair_pair, e0, e1]
      try rfl
    | _ => rfl
  | ite c a b ihc iha ihb =>
    intro t h
    have e0 := ihc .bool (fun x hx => h x (mem3.1 hx))
    have e1 := iha t (fun x hx => h x (mem3.2.1 hx))
    have e2 := ihb t (fun x hx => h x (mem3.2.2 hx))
    simp only [PE.ev, e0, e1, e2]
  | and a b iha ihb =>
    intro t h
    have e0 := iha .bool (fun x hx => h x (mem2.1 hx))
    have e1 := ihb .bool (fun x hx => h x (mem2.2 hx))
    simp only [PE.ev, e0, e1]
  | imp a b iha ihb =>
    intro t h
    have e0 := iha .bool (fun x hx => h x (mem2.1 hx))
    have e1 := ihb .bool (fun x hx => h x (mem2.2 hx))
    simp only [PE.ev, e0, e1]
  | plus a b iha ihb =>
    intro t h
    have e0 := iha (.int .i64) (fun x hx => h x (mem2.1 hx))
    have e1 := ihb (.int .i64) (fun x hx => h x (mem2.2 hx))
    simp only [PE.ev, e0, e1]
  | minus a b iha ihb =>
    intro t h
    have e0 := iha (.int .i64) (fun x hx => h x (mem2.1 hx))
    have e1 := ihb (.int .i64) (fun x hx => h x (mem2.2 hx))
    simp only [PE.ev, e0, e1]
  | minI k a b iha ihb =>
    intro t h
    have e0 := iha (.int k) (fun x hx => h x (mem2.1 hx))
    have e1 := ihb (.int k) (fun x hx => h x (mem2.2 hx))
    simp only [PE.ev, e0, e1]
  | maxI k a b iha ihb =>
    intro t h
    have e0 := iha (.int k) (fun x hx => h x (mem2.1 hx))
    have e1 := ihb (.int k) (fun x hx => h x (mem2.2 hx))
    simp only [PE.ev, e0, e1]

theorem allB_tl {ρ ρ' : Rho} : ∀ (l : List PE), (∀ x ∈ l.flatMap (fun e => e.tl .bool), (ρ x.1).get x.2 = (ρ' x.1).get x.2) → allB ρ l = allB ρ' l
  | [], _ => rfl
  | e :: r, h => by
    simp only [List.flatMap_cons, List.mem_append] at h
    simp only [allB, PE.evB, ev_tl e _ (fun x hx => h x (.inl hx)), allB_tl r (fun x hx => h x (.inr hx))]

theorem evs_tl {ρ ρ' : Rho} : ∀ (l : List (Loc × Ty × PE)), (∀ x ∈ l.flatMap (fun e => e.2.2.tl e.2.1), (ρ x.1).get x.2 = (ρ' x.1).get x.2) → evs ρ l = evs ρ' l
  | [], _ => rfl
  | e :: r, h => by
    simp only [List.flatMap_cons, List.mem_append] at h
    have := evs_tl r (fun x hx => h x (.inr hx))
    simp only [evs] at this ⊢
    simp only [List.map_cons, this, ev_tl e.2.2 _ (fun x hx => h x (.inl hx))]

theorem dyns_tl {ρ ρ' : Rho} : ∀ (l : List (Ty × PE)), (∀ x ∈ l.flatMap (fun e => e.2.tl e.1), (ρ x.1).get x.2 = (ρ' x.1).get x.2) → dyns ρ l = dyns ρ' l
  | [], _ => rfl
  | e :: r, h => by
    simp only [List.flatMap_cons, List.mem_append] at h
    have := dyns_tl r (fun x hx => h x (.inr hx))
    simp only [dyns] at this ⊢
    simp only [List.map_cons, this, ev_tl e.2 _ (fun x hx => h x (.inl hx))]

theorem mem_uniT : ∀ (b a : TL) (x : Loc × Ty), x ∈ uniT a b ↔ x ∈ a ∨ x ∈ b
  | [], a, x => by simp [uniT]
  | y :: r, a, x => by
    have : uniT a (y :: r) = uniT (if a.contains y then a else a ++ [y]) r := rfl
    rw [this, mem_uniT r]
    split
    · rename_i h
      simp only [List.contains_eq_mem, decide_eq_true_eq] at h
      constructor
      · rintro (q | q)
        · exact .inl q
        · exact .inr (List.mem_cons_of_mem _ q)
      · rintro (q | q)
        · exact .inl q
        · rcases List.mem_cons.1 q with q | q
          · rw [q]; exact .inl h
          · exact .inr q
    · simp only [List.mem_append, List.mem_cons, List.not_mem_nil, or_false]
      constructor
      · rintro ((q | q) | q)
        · exact .inl q
        · exact .inr (.inl q)
        · exact .inr (.inr q)
      · rintro (q | q | q)
        · exact .inl (.inl q)
        · exact .inl (.inr q)
        · exact .inr q

theorem mem_killT {L : TL} {ls : List Loc} {x : Loc × Ty} : x ∈ killT L ls ↔ x ∈ L ∧ x.1 ∉ ls := by
  simp [killT, List.mem_filter]

/-- The same writes. -/
theorem Ag.writes {tabs : Nat → Dyn} {L : TL} {ρ ρ' : Rho} {U U' : List (Loc × Dyn)} {ws : List Loc} (h : Ag tabs (killT L ws) ρ ρ') (hU : ∀ y ∈ U, y.1 ∈ ws) (hU' : ∀ y ∈ U', y.1 ∈ ws) (hg : ws.all notG = true)
    (hw : ∀ x ∈ L, x.1 ∈ ws → (updS ρ U x.1).get x.2 = (updS ρ' U' x.1).get x.2) : Ag tabs L (updS ρ U) (updS ρ' U') := by
  have hgl : ∀ g, Loc.g g ∉ ws := fun g hm => by have := List.all_eq_true.1 hg _ hm; simp [notG] at this
  refine ⟨fun x hx => ?_, fun g => ?_, fun g => ?_⟩
  · by_cases hm : x.1 ∈ ws
    · exact hw x hx hm
    · rw [updS_not U (fun y hy e => hm (by rw [← e]; exact hU y hy)), updS_not U' (fun y hy e => hm (by rw [← e]; exact hU' y hy))]
      exact h.at_ x (mem_killT.2 ⟨hx, hm⟩)
  · rw [updS_not U (fun y hy e => hgl g (by rw [← e]; exact hU y hy))]; exact h.g1 g
  · rw [updS_not U' (fun y hy e => hgl g (by rw [← e]; exact hU' y hy))]; exact h.g2 g

theorem mem_zipP_iff : ∀ (l : List (Loc × Ty)) (o : List Dyn) (a : Loc), a ∈ l.map (·.1) → ∃ y ∈ zipP l o, y.1 = a
  | [], _, a, h => by simp at h
  | x :: r, o, a, h => by
    simp only [List.map_cons, List.mem_cons] at h
    rcases h with h | h
    · exact ⟨_, by simp only [zipP, List.mem_cons]; exact .inl rfl, h.symm⟩
    · obtain ⟨y, h1, h2⟩ := mem_zipP_iff r o.tail a h
      exact ⟨y, by simp only [zipP, List.mem_cons]; exact .inr h1, h2⟩

theorem mem_locsD : ∀ (V : TL) (d : Dat (V.map (·.2))) (y : Loc × Dyn), y ∈ locsD V d → y.1 ∈ V.map (·.1)
  | [], _, y, h => by simp [locsD] at h
  | [x], d, y, h => by simp only [locsD, List.mem_singleton] at h; simp [h]
  | x :: z :: r, d, y, h => by
    simp only [locsD, List.mem_cons] at h
    rcases h with h | h
    · simp [h]
    · have := mem_locsD (z :: r) d.2 y h
      simp only [List.map_cons, List.mem_cons] at this ⊢
      exact .inr this

/-- What a call brings reads the same, one by one and all at once. -/
theorem brings : ∀ (V : TL) (o : List Dyn) (ρ ρ' : Rho), nodupB (V.map (·.1)) = true → ∀ x ∈ V, (updS ρ (locsD V (ofDyns (V.map (·.2)) o)) x.1).get x.2 = (updS ρ' (zipP V o) x.1).get x.2
  | [], o, ρ, ρ', _, x, hx => by simp at hx
  | [y], o, ρ, ρ', _, x, hx => by
    simp only [List.mem_singleton] at hx
    subst hx
    simp only [locsD, zipP, updS, if_true]
    exact Dyn.get_mk x.2 ((o.headD default).get x.2)
  | y :: z :: r, o, ρ, ρ', h, x, hx => by
    simp only [List.map_cons, nodupB, Bool.and_eq_true, Bool.not_eq_true'] at h
    have e1 : locsD (y :: z :: r) (ofDyns ((y :: z :: r).map (·.2)) o) = (y.1, ⟨y.2, (o.headD default).get y.2⟩) :: locsD (z :: r) (ofDyns ((z :: r).map (·.2)) o.tail) := rfl
    rw [e1]
    simp only [zipP, updS]
    rcases List.mem_cons.1 hx with hx | hx
    · subst hx
      rw [if_pos rfl, if_pos rfl, Dyn.get_mk]
    · have hne : x.1 ≠ y.1 := by
        intro e
        have hm : x.1 ∈ (z :: r).map (·.1) := List.mem_map.2 ⟨x, hx, rfl⟩
        rw [e] at hm
        simp only [List.map_cons] at hm
        have := h.1
        simp only [List.contains_eq_mem, decide_eq_false_iff_not] at this
        exact this hm
      rw [if_neg hne, if_neg hne]
      exact brings (z :: r) o.tail ρ ρ' (by simp only [List.map_cons, nodupB, Bool.and_eq_true, Bool.not_eq_true']; exact h.2) x hx

theorem brings_dflt : ∀ (V : TL) (ρ ρ' : Rho), nodupB (V.map (·.1)) = true → ∀ x ∈ V, (updS ρ (locsD V (dfltD (V.map (·.2)))) x.1).get x.2 = (updS ρ' (V.map fun x => (x.1, ⟨x.2, x.2.dflt⟩)) x.1).get x.2
  | [], ρ, ρ', _, x, hx => by simp at hx
  | [y], ρ, ρ', _, x, hx => by
    simp only [List.mem_singleton] at hx
    subst hx
    simp only [locsD, updS, if_true, List.map_cons, List.map_nil]
    rfl
  | y :: z :: r, ρ, ρ', h, x, hx => by
    simp only [List.map_cons, nodupB, Bool.and_eq_true, Bool.not_eq_true'] at h
    show (updS ρ ((y.1, ⟨y.2, y.2.dflt⟩) :: locsD (z :: r) (dfltD ((z :: r).map (·.2)))) x.1).get x.2 = (updS ρ' ((y.1, ⟨y.2, y.2.dflt⟩) :: (z :: r).map fun x => (x.1, ⟨x.2, x.2.dflt⟩)) x.1).get x.2
    simp only [updS]
    rcases List.mem_cons.1 hx with hx | hx
    · subst hx
      rw [if_pos rfl, if_pos rfl]
    · have hne : x.1 ≠ y.1 := by
        intro e
        have hm : x.1 ∈ (z :: r).map (·.1) := List.mem_map.2 ⟨x, hx, rfl⟩
        rw [e] at hm
        simp only [List.map_cons] at hm
        have := h.1
        simp only [List.contains_eq_mem, decide_eq_false_iff_not] at this
        exact this hm
      rw [if_neg hne, if_neg hne]
      exact brings_dflt (z :: r) ρ ρ' (by simp only [List.map_cons, nodupB, Bool.and_eq_true, Bool.not_eq_true']; exact h.2) x hx

theorem gets_eq : ∀ (V : TL) (ρ ρ' : Rho), (∀ x ∈ V, (ρ x.1).get x.2 = (ρ' x.1).get x.2) → gets ρ V = gets ρ' V
  | [], ρ, ρ', _ => rfl
  | [x], ρ, ρ', h => h x (by simp)
  | x :: y :: r, ρ, ρ', h => by
    simp only [gets]
    rw [h x (by simp), gets_eq (y :: r) ρ ρ' (fun x hx => h x (List.mem_cons_of_mem _ hx))]

theorem setV_get : ∀ (V : TL) (ρ ρ' : Rho), nodupB (V.map (·.1)) = true → ∀ x ∈ V, (updS ρ (locsD V (gets ρ' V)) x.1).get x.2 = (ρ' x.1).get x.2
  | [], ρ, ρ', _, x, hx => by simp at hx
  | [y], ρ, ρ', _, x, hx => by
    simp only [List.mem_singleton] at hx
    subst hx
    simp only [locsD, updS, if_true]
    exact Dyn.get_mk x.2 ((ρ' x.1).get x.2)
  | y :: z :: r, ρ, ρ', h, x, hx => by
    simp only [List.map_cons, nodupB, Bool.and_eq_true, Bool.not_eq_true'] at h
    have e1 : locsD (y :: z :: r) (gets ρ' (y :: z :: r)) = (y.1, ⟨y.2, (ρ' y.1).get y.2⟩) :: locsD (z :: r) (gets ρ' (z :: r)) := rfl
    rw [e1]
    simp only [updS]
    rcases List.mem_cons.1 hx with hx | hx
    · subst hx
      rw [if_pos rfl, Dyn.get_mk]
    · have hne : x.1 ≠ y.1 := by
        intro e
        have hm : x.1 ∈ (z :: r).map (·.1) := List.mem_map.2 ⟨x, hx, rfl⟩
        rw [e] at hm
        simp only [List.map_cons] at hm
        have := h.1
        simp only [List.contains_eq_mem, decide_eq_false_iff_not] at this
        exact this hm
      rw [if_neg hne]
      exact setV_get (z :: r) ρ ρ' (by simp only [List.map_cons, nodupB, Bool.and_eq_true, Bool.not_eq_true']; exact h.2) x hx

/-! ### What is answered without fuel, is answered with enough -/

section
variable {G : Prg}

def Chain {α S : Type} (c : Nat → α → Option S) : Prop := ∀ k, LeF (c k) (c (k + 1))

/-- Answers without fuel are answers with some. -/
def Lim {R : Type} (P : R → Prop) (Q : R → List Dyn → Prop) (tabs : Nat → Dyn) (L : TL) (κ : Rho → Option R) (c : Nat → Rho → Res) : Prop :=
  ∀ ρ ρ' y, Ag tabs L ρ ρ' → κ ρ = some y → P y → ∃ k r, c k ρ' = some r ∧ Q y r

theorem runW_ok {R : Type} {P : R → Prop} {Q : R → List Dyn → Prop} (hx : ExtMono G) : ∀ (l : List Eff) (Ln L : TL), lvcs l Ln = some L → ∀ (κ : Rho → Option R) (c : Nat → Rho → Res), Chain c → Lim P Q G.tabs Ln κ c →
    Lim P Q G.tabs L (runW G l κ) (fun k ρ => (runEs (sem G k) l ρ).bind (c k))
  | [], Ln, L, hl, κ, c, hc, hlim => by
    simp only [lvcs, Option.some.injEq] at hl
    subst hl
    intro ρ ρ' y ha hy hP
    obtain ⟨k, r, h1, h2⟩ := hlim ρ ρ' y ha hy hP
    exact ⟨k, r, h1, h2⟩
  | e :: l, Ln, L, hl, κ, c, hc, hlim => by
    simp only [lvcs, Option.bind_eq_bind, Option.bind_eq_some_iff] at hl
    obtain ⟨L1, h1, hl⟩ := hl
    split at hl
    rotate_left
    · simp at hl
    rename_i hok
    simp only [Option.some.injEq] at hl
    subst hl
    have ih := runW_ok hx l Ln L1 h1 κ c hc hlim
    intro ρ ρ' y ha hy hP
    simp only [effOkB, Bool.and_eq_true] at hok
    obtain ⟨hng, hok⟩ := hok
    have hkill : Ag G.tabs (killT L1 (effWr e)) ρ ρ' := ha.sub (fun x hx => (mem_uniT _ _ _).2 (.inl hx))
    have hrd := (ha.sub (L' := rd (effTl e)) (fun x hx => (mem_uniT _ _ _).2 (.inr hx))).rd
    simp only [effTl, List.mem_append] at hrd
    have hchk := allB_tl e.chk (fun x hx => hrd x (.inl hx))
    unfold runW at hy
    cases hb : allB ρ e.chk with
    | false => simp [hb] at hy
    | true =>
      rw [hb] at hchk
      simp only [hb, cond_true] at hy
      cases hk : e.call with
      | none =>
        simp only [hk] at hy hrd
        have hev := evs_tl e.sets (fun x hx => hrd x (.inr hx))
        have hwr : effWr e = e.sets.map (·.1) := by simp [effWr, hk]
        rw [hwr] at hkill hng
        have hmem : ∀ y ∈ evs ρ e.sets, y.1 ∈ e.sets.map (·.1) := fun y hy => by
          obtain ⟨x, hx, hxy⟩ := mem_evs hy
          rw [hxy]; exact List.mem_map.2 ⟨x, hx, rfl⟩
        have hag : Ag G.tabs L1 (updS ρ (evs ρ e.sets)) (updS ρ' (evs ρ' e.sets)) := by
          rw [← hev]
          refine hkill.writes hmem hmem hng (fun x hx hm => ?_)
          have : ∃ y ∈ evs ρ e.sets, y.1 = x.1 := by
            obtain ⟨z, hz, hzx⟩ := List.mem_map.1 hm
            exact ⟨(z.1, ⟨z.2.1, z.2.2.ev ρ z.2.1⟩), List.mem_map.2 ⟨z, hz, rfl⟩, hzx⟩
          rw [updS_ok.same ρ ρ' _ _ this]
        obtain ⟨k, r, g1, g2⟩ := ih _ _ y hag hy hP
        refine ⟨k, r, ?_, g2⟩
        simp only [runEs, runE, ← hchk, cond_true, hk, Option.bind_some]
        exact g1
      | some q =>
        simp only [hk] at hy hok hrd
        simp only [Bool.and_eq_true] at hok
        obtain ⟨hnd, hty⟩ := hok
        have hcond := allB_tl q.cond (fun x hx => hrd x (.inr (List.mem_append.2 (.inl hx))))
        have hargs := dyns_tl q.args (fun x hx => hrd x (.inr (List.mem_append.2 (.inr hx))))
        have hwr : effWr e = q.outs.map (·.1) := by simp [effWr, hk]
        rw [hwr] at hkill hng
        have hin : ∀ x ∈ L1, x.1 ∈ q.outs.map (·.1) → x ∈ q.outs := by
          intro x hx hm
          have := List.all_eq_true.1 hty x hx
          simp only [Bool.or_eq_true, Bool.not_eq_true', List.contains_eq_mem, decide_eq_true_eq, decide_eq_false_iff_not] at this
          rcases this with h | h
          · exact absurd hm h
          · exact h
        simp only [Option.bind_eq_some_iff] at hy
        obtain ⟨d, hd, hy⟩ := hy
        cases hcb : allB ρ q.cond with
        | true =>
          rw [hcb] at hd hcond
          simp only [cond_true, Tω, Option.map_eq_some_iff] at hd
          obtain ⟨o, ho, rfl⟩ := hd
          obtain ⟨k0, hk0⟩ := Sω_spec ho
          have hag : Ag G.tabs L1 (updS ρ (locsD q.outs (ofDyns (q.outs.map (·.2)) o))) (updS ρ' (zipP q.outs o)) :=
            hkill.writes (fun y hy => mem_locsD _ _ _ hy) (fun y hy => mem_zipP _ _ _ hy) hng (fun x hx hm => brings q.outs o ρ ρ' hnd x (hin x hx hm))
          obtain ⟨k, r, g1, g2⟩ := ih _ _ y hag hy hP
          refine ⟨max k0 k, r, ?_, g2⟩
          simp only [runEs, runE, ← hchk, cond_true, hk, ← hcond, ← hargs, sem_mono hx (Nat.le_max_left k0 k) hk0, Option.bind_some]
          simp only [Option.bind_eq_some_iff] at g1 ⊢
          obtain ⟨ρ2, q1, q2⟩ := g1
          exact ⟨ρ2, runEs_mono (fun f i xs r h => sem_mono hx (Nat.le_max_right k0 k) h) _ _ _ q1, chain_le hc (Nat.le_max_right k0 k) _ _ q2⟩
        | false =>
          rw [hcb] at hd hcond
          simp only [cond_false, Option.some.injEq] at hd
          subst hd
          have hag : Ag G.tabs L1 (updS ρ (locsD q.outs (dfltD (q.outs.map (·.2))))) (updS ρ' (q.outs.map fun x => (x.1, ⟨x.2, x.2.dflt⟩))) :=
            hkill.writes (fun y hy => mem_locsD _ _ _ hy) (fun y hy => by obtain ⟨x, hx, rfl⟩ := List.mem_map.1 hy; exact List.mem_map.2 ⟨x, hx, rfl⟩) hng (fun x hx hm => brings_dflt q.outs ρ ρ' hnd x (hin x hx hm))
          obtain ⟨k, r, g1, g2⟩ := ih _ _ y hag hy hP
          refine ⟨k, r, ?_, g2⟩
          simp only [runEs, runE, ← hchk, cond_true, hk, ← hcond, cond_false, Option.bind_some]
          exact g1

theorem chain_den (hx : ExtMono G) (tc : TC) {cn : Nat → Rho → Res} {cx : Nat → Nat → Rho → Res} (h1 : Chain cn) (h2 : ∀ i, Chain (fun k => cx k i)) : Chain (fun k => den (sem G k) k tc (cn k) (cx k)) := fun k =>
  den_mono (sem_mono1 hx k) (Nat.le_succ k) tc _ _ _ _ (h1 k) (fun i => h2 i k)

theorem denW_ok (hx : ExtMono G) : ∀ (tc : TC) {R : Type} (fin : List Dyn → Option R) (P : R → Prop) (Q : R → List Dyn → Prop), (∀ r y, fin r = some y → P y → Q y r) →
    ∀ (Ln : TL) (X : List (Nat × TL)) (L : TL), lvc tc Ln X = some L → ∀ (κn : Rho → Option R) (κx : Nat → Rho → Option R) (cn : Nat → Rho → Res) (cx : Nat → Nat → Rho → Res),
    Chain cn → (∀ i, Chain (fun k => cx k i)) → Lim P Q G.tabs Ln κn cn → (∀ i, Lim P Q G.tabs (lookX X i) (κx i) (fun k => cx k i)) →
    Lim P Q G.tabs L (denW G fin tc κn κx) (fun k => den (sem G k) k tc (cn k) (cx k)) := by
  intro tc
  induction tc with
  | nop =>
    intro R fin P Q hf Ln X L hl κn κx cn cx h1 h2 hn hxx
    simp only [lvc, Option.some.injEq] at hl
    subst hl
    exact hn
  | effs l =>
    intro R fin P Q hf Ln X L hl κn κx cn cx h1 h2 hn hxx
    exact runW_ok hx l Ln L hl κn cn h1 hn
  | seq a b iha ihb =>
    intro R fin P Q hf Ln X L hl κn κx cn cx h1 h2 hn hxx
    simp only [lvc, Option.bind_eq_bind, Option.bind_eq_some_iff] at hl
    obtain ⟨Lb, hb, ha⟩ := hl
    exact iha fin P Q hf Lb X L ha _ κx _ cx (chain_den hx b h1 h2) h2 (ihb fin P Q hf Ln X Lb hb κn κx cn cx h1 h2 hn hxx) hxx
  | cond e a b iha ihb =>
    intro R fin P Q hf Ln X L hl κn κx cn cx h1 h2 hn hxx
    simp only [lvc, Option.bind_eq_bind, Option.bind_eq_some_iff, Option.some.injEq] at hl
    obtain ⟨La, ha, Lb, hb, rfl⟩ := hl
    intro ρ ρ' y hag hy hP
    have he := ev_tl e .bool ((hag.sub (L' := rd (e.tl .bool)) (fun x hx => (mem_uniT _ _ _).2 (.inl hx))).rd)
    simp only [denW, PE.evB] at hy
    simp only [den, PE.evB, ← he]
    cases hc : (e.ev ρ .bool : Bool) with
    | true =>
      rw [hc] at hy
      exact iha fin P Q hf Ln X La ha κn κx cn cx h1 h2 hn hxx ρ ρ' y (hag.sub (fun x hx => (mem_uniT _ _ _).2 (.inr ((mem_uniT _ _ _).2 (.inl hx))))) hy hP
    | false =>
      rw [hc] at hy
      exact ihb fin P Q hf Ln X Lb hb κn κx cn cx h1 h2 hn hxx ρ ρ' y (hag.sub (fun x hx => (mem_uniT _ _ _).2 (.inr ((mem_uniT _ _ _).2 (.inr hx))))) hy hP
  | block id a ih =>
    intro R fin P Q hf Ln X L hl κn κx cn cx h1 h2 hn hxx
    simp only [lvc] at hl
    refine ih fin P Q hf Ln ((id, Ln) :: X) L hl κn _ cn _ h1 (fun i => ?_) hn (fun i => ?_)
    · cases hi : i == id with
      | true => simp only [hi, cond_true]; exact h1
      | false => simp only [hi, cond_false]; exact h2 i
    · cases hi : i == id with
      | true =>
        have e : lookX ((id, Ln) :: X) i = Ln := by
          have : i = id := by simpa using hi
          simp [lookX, this]
        rw [e]
        simp only [hi, cond_true]; exact hn
      | false =>
        have e : lookX ((id, Ln) :: X) i = lookX X i := by
          have : (id == i) = false := by simpa using fun e => by simp [e] at hi
          simp [lookX, List.find?_cons, this]
        rw [e]
        simp only [hi, cond_false]; exact hxx i
  | loop V a ih =>
    intro R fin P Q hf Ln X L hl κn κx cn cx h1 h2 hn hxx
    simp only [lvc, Option.bind_eq_bind, Option.bind_eq_some_iff] at hl
    obtain ⟨La, ha, hl⟩ := hl
    split at hl
    rotate_left
    · simp at hl
    rename_i hok
    simp only [Option.some.injEq] at hl
    subst hl
    simp only [Bool.and_eq_true] at hok
    obtain ⟨⟨hsub, hnd⟩, hng⟩ := hok
    have hsub' : ∀ x ∈ La, x ∈ V := fun x hx => by simpa using List.all_eq_true.1 hsub x hx
    intro ρ ρ' y hag hy hP
    simp only [denW] at hy
    obtain ⟨n, hiter⟩ := lfp_spec hy
    have hch : Chain (fun k => iter k (fun self => den (sem G k) k a self (cx k))) := fun k =>
      iter_mono (fun f g hfg => den_mono (sem_mono1 hx k) (Nat.le_succ k) a _ _ _ _ hfg (fun i => h2 i k)) k (k + 1) (Nat.le_succ k)
    have key : ∀ n, Lim P Q G.tabs V (fun ρ => iterT n (fun self s => denW G fin a (fun ρ' => self (gets ρ' V)) κx (setV G.tabs V s)) (gets ρ V)) (fun k => iter k (fun self => den (sem G k) k a self (cx k))) := by
      intro n
      induction n with
      | zero => intro ρ ρ' y _ h _; simp [iterT] at h
      | succ n ihn =>
        intro ρ ρ' y hag h hP
        simp only [iterT] at h
        have hag2 : Ag G.tabs La (setV G.tabs V (gets ρ V)) ρ' := by
          refine ⟨fun x hx => ?_, fun g => ?_, hag.g2⟩
          · rw [setV, setV_get V _ ρ hnd x (hsub' x hx)]
            exact hag.at_ x (hsub' x hx)
          · rw [setV, updS_not _ (fun y hy e => ?_)]
            · rfl
            · obtain ⟨x, hx, hxe⟩ := List.mem_map.1 (mem_locsD _ _ _ hy)
              have := List.all_eq_true.1 hng x hx
              rw [hxe, e] at this
              simp [notG] at this
        obtain ⟨k, r, g1, g2⟩ := ih fin P Q hf V X La ha _ κx _ cx hch h2 ihn hxx _ _ y hag2 h hP
        refine ⟨k + 1, r, ?_, g2⟩
        simp only [iter]
        exact den_mono (sem_mono1 hx k) (Nat.le_succ k) a _ _ _ _ (iter_mono (fun f g hfg => den_mono (sem_mono1 hx k) (Nat.le_succ k) a _ _ _ _ hfg (fun i => h2 i k)) k k (Nat.le_refl _)) (fun i => h2 i k) _ _ g1
    exact key n ρ ρ' y hag hiter hP
  | exit id =>
    intro R fin P Q hf Ln X L hl κn κx cn cx h1 h2 hn hxx
    simp only [lvc, Option.some.injEq] at hl
    subst hl
    exact hxx id
  | ret o =>
    intro R fin P Q hf Ln X L hl κn κx cn cx h1 h2 hn hxx
    simp only [lvc, Option.some.injEq] at hl
    subst hl
    intro ρ ρ' y hag hy hP
    simp only [denW] at hy
    have he := dyns_tl o ((hag.sub (L' := rd (o.flatMap fun x => x.2.tl x.1)) (fun x hx => (mem_uniT _ _ _).2 (.inr hx))).rd)
    exact ⟨0, dyns ρ' o, rfl, by rw [← he]; exact hf _ _ hy hP⟩
  | mv l a ih =>
    intro R fin P Q hf Ln X L hl κn κx cn cx h1 h2 hn hxx
    simp only [lvc, Option.bind_eq_bind, Option.bind_eq_some_iff] at hl
    obtain ⟨La, ha, hl⟩ := hl
    split at hl
    rotate_left
    · simp at hl
    rename_i hng
    simp only [Option.some.injEq] at hl
    subst hl
    intro ρ ρ' y hag hy hP
    have hkill : Ag G.tabs (killT La (l.map (·.1))) ρ ρ' := hag.sub (fun x hx => (mem_uniT _ _ _).2 (.inl hx))
    have hev := evs_tl l ((hag.sub (L' := rd (l.flatMap fun x => x.2.2.tl x.2.1)) (fun x hx => (mem_uniT _ _ _).2 (.inr hx))).rd)
    have hmem : ∀ y ∈ evs ρ l, y.1 ∈ l.map (·.1) := fun y hy => by
      obtain ⟨x, hx, hxy⟩ := mem_evs hy
      rw [hxy]; exact List.mem_map.2 ⟨x, hx, rfl⟩
    have hag2 : Ag G.tabs La (updS ρ (evs ρ l)) (updS ρ' (evs ρ' l)) := by
      rw [← hev]
      refine hkill.writes hmem hmem hng (fun x hx hm => ?_)
      have : ∃ y ∈ evs ρ l, y.1 = x.1 := by
        obtain ⟨z, hz, hzx⟩ := List.mem_map.1 hm
        exact ⟨(z.1, ⟨z.2.1, z.2.2.ev ρ z.2.1⟩), List.mem_map.2 ⟨z, hz, rfl⟩, hzx⟩
      rw [updS_ok.same ρ ρ' _ _ this]
    exact ih fin P Q hf Ln X La ha κn κx cn cx h1 h2 hn hxx _ _ y hag2 hy hP
  | bnd V own a b iha ihb =>
    intro R fin P Q hf Ln X L hl κn κx cn cx h1 h2 hn hxx
    simp only [lvc, Option.bind_eq_bind, Option.bind_eq_some_iff] at hl
    obtain ⟨Lb, hb, hl⟩ := hl
    split at hl
    rotate_left
    · simp at hl
    rename_i hok
    simp only [Bool.and_eq_true] at hok
    obtain ⟨⟨hsub, hnd⟩, hng⟩ := hok
    have hsub' : ∀ x ∈ Lb, x ∈ V := fun x hx => by simpa using List.all_eq_true.1 hsub x hx
    have hset : ∀ ρ ρ', Ag G.tabs V ρ ρ' → Ag G.tabs Lb (setV G.tabs V (gets ρ V)) ρ' := by
      intro ρ ρ' hag
      refine ⟨fun x hx => ?_, fun g => ?_, hag.g2⟩
      · rw [setV, setV_get V _ ρ hnd x (hsub' x hx)]
        exact hag.at_ x (hsub' x hx)
      · rw [setV, updS_not _ (fun y hy e => ?_)]
        · rfl
        · obtain ⟨x, hx, hxe⟩ := List.mem_map.1 (mem_locsD _ _ _ hy)
          have := List.all_eq_true.1 hng x hx
          rw [hxe, e] at this
          simp [notG] at this
    have hB := ihb fin P Q hf Ln X Lb hb κn κx cn cx h1 h2 hn hxx
    cases own with
    | true =>
      intro ρ ρ' y hag hy hP
      simp only [denW, Option.bind_eq_some_iff] at hy
      obtain ⟨s0, hs0, hy⟩ := hy
      exact iha (R := Dat (V.map (·.2))) (fun _ => none) (fun s => s = s0) (fun _ r => Q y r) (fun r s h => by simp at h) V X L hl (fun ρ' => some (gets ρ' V)) (fun _ _ => none) _ cx (chain_den hx b h1 h2) h2
        (fun ρ1 ρ1' s hag1 hs hss => by
          simp only [Option.some.injEq] at hs
          subst hss
          subst hs
          exact hB _ ρ1' y (hset ρ1 ρ1' hag1) hy hP)
        (fun i ρ1 ρ1' s hag1 hs _ => by simp at hs) ρ ρ' s0 hag hs0 rfl
    | false =>
      intro ρ ρ' y hag hy hP
      simp only [denW, Option.bind_eq_some_iff] at hy
      obtain ⟨z0, hz0, hy⟩ := hy
      exact iha (R := Dat (V.map (·.2)) ⊕ R) (fun r => (fin r).map .inr) (fun z => z = z0) (fun _ r => Q y r) (fun r z h hz => by
          simp only [Option.map_eq_some_iff] at h
          obtain ⟨y1, q1, q2⟩ := h
          subst hz
          subst q2
          simp only [Sum.elim_inr, Option.some.injEq] at hy
          subst hy
          exact hf r _ q1 hP) V X L hl (fun ρ' => some (.inl (gets ρ' V))) (fun i ρ' => (κx i ρ').map .inr) _ cx (chain_den hx b h1 h2) h2
        (fun ρ1 ρ1' z hag1 hz hzz => by
          simp only [Option.some.injEq] at hz
          subst hzz
          subst hz
          simp only [Sum.elim_inl] at hy
          exact hB _ ρ1' y (hset ρ1 ρ1' hag1) hy hP)
        (fun i ρ1 ρ1' z hag1 hz hzz => by
          simp only [Option.map_eq_some_iff] at hz
          obtain ⟨y1, q1, q2⟩ := hz
          subst hzz
          subst q2
          simp only [Sum.elim_inr, Option.some.injEq] at hy
          subst hy
          exact hxx i ρ1 ρ1' _ hag1 q1 hP) ρ ρ' z0 hag hz0 rfl

/-- What a function's code comes to. -/
noncomputable def codeW (G : Prg) (f : FuncId) (i : Nat) (xs : List Dyn) (ts : List Ty) : Option (Dat ts) :=
  match G.code f i with
  | some (tc, sg) => if (sg.inLocs.map (·.1)).all notG then denW G (fun r => some (ofDyns ts r)) tc (fun _ => none) (fun _ _ => none) (G.init sg xs) else none
  | none => none

/-- A function answers what its code comes to. -/
theorem Tω_of (hx : ExtMono G) {f : FuncId} {i : Nat} {xs : List Dyn} {ts : List Ty} (hext : G.ext f i = none) {y : Dat ts} (h : codeW G f i xs ts = some y) : Tω G f i xs ts = some y := by
  unfold codeW at h
  split at h
  rotate_left
  · simp at h
  rename_i tc sg hc
  split at h
  rotate_left
  · simp at h
  rename_i hin
  obtain ⟨fn, tc0, _, _, _, _, L, hL⟩ := Prg.code_spec hc
  have hg : ∀ g, G.init sg xs (.g g) = G.tabs g := by
    intro g
    unfold Prg.init
    rw [updS_not _ (fun y hy e => ?_)]
    · rfl
    · have := List.all_eq_true.1 hin _ (List.of_mem_zip hy).1
      rw [e] at this
      simp [notG] at this
  obtain ⟨k, r, h1, h2⟩ := denW_ok hx tc (fun r => some (ofDyns ts r)) (fun _ => True) (fun y r => ofDyns ts r = y) (fun r y h _ => by simpa using h) [] [] L hL (fun _ => none) (fun _ _ => none) (fun _ _ => none) (fun _ _ _ => none)
    (fun _ _ _ h => by simp at h) (fun _ _ _ _ h => by simp at h)
    (fun _ _ _ _ h => by simp at h) (fun _ _ _ _ _ h => by simp at h) (G.init sg xs) (G.init sg xs) y ⟨fun _ _ => rfl, hg, hg⟩ h trivial
  have : sem G (k + 1) f i xs = some r := by
    simp only [sem, hext, hc]
    exact h1
  unfold Tω
  rw [Sω_of hx this]
  simp only [Option.map_some, h2]

theorem Tω_sem {f : FuncId} {i : Nat} {xs : List Dyn} {b : Bool} (h : Tω G f i xs [.bool] = some b) : ∃ k r, sem G k f i xs = some r ∧ (r.headD default).get .bool = b := by
  have h' : (Sω G f i xs).map (ofDyns [.bool]) = some b := h
  obtain ⟨r, h1, h2⟩ := Option.map_eq_some_iff.1 h'
  obtain ⟨k, hk⟩ := Sω_spec h1
  exact ⟨k, r, hk, h2⟩

end
end Rk

/-! Plain arithmetic of integers, bytes and lists, as the translation writes them. -/
set_option linter.unusedVariables false
set_option linter.unusedSimpArgs false
namespace Rk
open Go

theorem cT {α : Type} {c : Bool} {x y : α} (h : c = true) : (bif c then x else y) = x := by rw [h]; rfl
theorem cF {α : Type} {c : Bool} {x y : α} (h : c = false) : (bif c then x else y) = y := by rw [h]; rfl
theorem grd {α : Type} {c : Bool} {x y : α} (h : c = true) : (bif (c && true) then x else y) = x := by rw [h]; rfl
theorem dT {p : Prop} [Decidable p] (h : p) : decide p = true := decide_eq_true h
theorem dF {p : Prop} [Decidable p] (h : ¬ p) : decide p = false := decide_eq_false h
theorem aT {a b : Bool} (h : a = true) (h' : b = true) : (a && b) = true := by rw [h, h']; rfl
theorem bS {α β : Type} {x : α} {f : α → Option β} : ((some x).bind f) = f x := rfl

theorem W64_in {x : Int} (h1 : -9223372036854775808 ≤ x) (h2 : x ≤ 9223372036854775807) : W64 x = x := IntWalk.i64_in x ⟨h1, h2⟩
theorem i8_nn (x : UInt8) : 0 ≤ i8 x := by unfold i8; omega
theorem i8_lt (x : UInt8) : i8 x < 256 := by unfold i8; have := x.toNat_lt; omega
theorem i8_o8 {n : Int} (h0 : 0 ≤ n) (h1 : n < 256) : i8 (o8 n) = n := by
  unfold i8 o8
  rw [UInt8.toNat_ofNat']
  omega
theorem o8_i8 (x : UInt8) : o8 (i8 x) = x := by
  unfold i8 o8
  simp
theorem i8_inj {x y : UInt8} (h : i8 x = i8 y) : x = y := by rw [← o8_i8 x, h, o8_i8]
theorem wrap8 (n : Int) : IntKind.wrap .u8 n = n % 256 := IntKind.wrap_u8' n

theorem bits8 : ∀ x : Fin 256, bitsI .or .u8 (x.val : Int) 128 = (x.val : Int) % 128 + 128 ∧ bitsI .and .u8 (x.val : Int) 127 = (x.val : Int) % 128 := by decide +kernel
theorem or128 {x : Int} (h0 : 0 ≤ x) (h1 : x < 256) : arI .or .u8 x 128 = x % 128 + 128 := by
  have := (bits8 ⟨x.toNat, by omega⟩).1
  simp only [] at this
  rw [show ((x.toNat : Nat) : Int) = x by omega] at this
  exact this
theorem and127 {x : Int} (h0 : 0 ≤ x) (h1 : x < 256) : arI .and .u8 x 127 = x % 128 := by
  have := (bits8 ⟨x.toNat, by omega⟩).2
  simp only [] at this
  rw [show ((x.toNat : Nat) : Int) = x by omega] at this
  exact this
theorem shr7 {x : Int} (h0 : 0 ≤ x) : arI .shr .i64 x 7 = x / 128 := by
  show x.fdiv (2 ^ (min (7 : Int).toNat 64)) = x / 128
  rw [Int.fdiv_eq_ediv_of_nonneg _ (by decide)]
  rfl
theorem quo64 {x y : Int} (h0 : 0 ≤ x) (h1 : x ≤ 9223372036854775807) (h2 : 1 ≤ y) : arI .quo .i64 x y = x / y := IntWalk.i64_quo x y ⟨h0, h1, h2⟩

theorem idx_get {α : Type} {d : α} {l : List α} {i : Int} (h0 : 0 ≤ i) (h : i < l.length) : idx d l i = l[i.toNat]'(by omega) := by
  unfold idx
  rw [if_neg (by omega), List.getD_eq_getElem?_getD, List.getElem?_eq_getElem (by omega)]
  rfl
theorem idx_nat {α : Type} {d : α} {l : List α} {i : Nat} (h : i < l.length) : idx d l (i : Int) = l[i] := by
  rw [idx_get (by omega) (by omega)]
  simp
theorem sub_zero {α : Type} (l : List α) (n : Int) : sub l 0 n = l.take n.toNat := by simp [sub]
theorem sub_nat {α : Type} (l : List α) (a b : Nat) : sub l (a : Int) (b : Int) = (l.take b).drop a := by simp [sub]
theorem sub_len {α : Type} (l : List α) (a : Int) : sub l a (l.length : Int) = l.drop a.toNat := by simp [sub]

theorem or64 {a b : Nat} (ha : a < 2 ^ 63) (hb : b < 2 ^ 63) : arI .or .i64 (a : Int) (b : Int) = ((a ||| b : Nat) : Int) := by
  show IntKind.i64.wrap ((BitVec.ofInt 64 (a : Int) ||| BitVec.ofInt 64 (b : Int)).toNat : Int) = _
  have hor : a ||| b < 2 ^ 63 := Nat.or_lt_two_pow ha hb
  rw [BitVec.toNat_or, BitVec.ofInt_natCast, BitVec.ofInt_natCast, BitVec.toNat_ofNat, BitVec.toNat_ofNat, Nat.mod_eq_of_lt (by omega), Nat.mod_eq_of_lt (by omega)]
  exact IntWalk.i64_in _ ⟨by omega, by omega⟩

theorem shl64 {a k : Nat} (hk : k < 64) (h : a * 2 ^ k < 2 ^ 63) : arI .shl .i64 (a : Int) (k : Int) = ((a * 2 ^ k : Nat) : Int) := by
  show IntKind.i64.wrap ((a : Int) * 2 ^ (min ((k : Int).toNat) 64)) = _
  have e : min ((k : Int).toNat) 64 = k := by omega
  rw [e]
  have : ((a : Int) * 2 ^ k) = ((a * 2 ^ k : Nat) : Int) := by simp
  rw [this]
  exact IntWalk.i64_in _ ⟨by omega, by omega⟩

theorem or_shl {a b k : Nat} (ha : a < 2 ^ k) (hk : k < 64) (h : a + b * 2 ^ k < 2 ^ 63) : arI .or .i64 (a : Int) (arI .shl .i64 (b : Int) (k : Int)) = ((a + b * 2 ^ k : Nat) : Int) := by
  rw [shl64 hk (by omega), or64 (by omega) (by omega)]
  congr 1
  have := Nat.two_pow_add_eq_or_of_lt ha b
  rw [Nat.or_comm, Nat.mul_comm b, ← this]
  omega

end Rk
