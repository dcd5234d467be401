/- The framework: a translation of the program that is verified in Lean, part 3. No condition. -/
import Derived.Orders
import Derived.LoopN
import Derived.Scope
import Derived.MapKept
import Derived.Test.YtfmdnoljlbfjbaaDoorF1
set_option linter.unusedVariables false
set_option linter.unusedSimpArgs false
set_option linter.unusedVariables false
set_option linter.unusedSimpArgs false
namespace Rk
open Go
structure Agree (A A' : Acc) (ts : Nat → Prop) (kk : Nat → Prop) : Prop where
  sl : ∀ t, ts t → A.sl t = A'.sl t
  ks : ∀ κ, kk κ → A.ks κ = A'.ks κ
  cells : ∀ t, ts t → ∀ s ∈ (A.sl t).k.cells, ∀ κ ∈ s.keys, kk κ
def In (kk : Nat → Prop) (c : CE) : Prop := ∀ κ ∈ c.1.keys, kk κ
def opIn (ts : Nat → Prop) : Operand → Prop
  | .tmp t => ts t
  | _ => True
section
variable {A A' : Acc} {ts kk : Nat → Prop}
theorem opV_agree (h : Agree A A' ts kk) {cond : Cond} {x : Operand} (hx : opIn ts x) : opV A cond x = opV A' cond x := by
  cases x with
  | tmp t => simp only [opV, opTmp, h.sl t hx]
  | const v => rfl
  | func f => rfl
  | global g => rfl
theorem opC_agree (h : Agree A A' ts kk) {cond : Cond} {x : Operand} (hx : opIn ts x) : opC A cond x = opC A' cond x := by
  simp only [opC, opV_agree h hx]
theorem op1_agree (h : Agree A A' ts kk) {cond : Cond} {x : Operand} (hx : opIn ts x) : op1 A cond x = op1 A' cond x := by
  simp only [op1, opV_agree h hx]
theorem opT_agree (h : Agree A A' ts kk) {cond : Cond} {x : Operand} {t : Ty} (hx : opIn ts x) : opT A cond x t = opT A' cond x t := by
  simp only [opT, op1_agree h hx]
theorem opI_agree (h : Agree A A' ts kk) {cond : Cond} {x : Operand} (hx : opIn ts x) : opI A cond x = opI A' cond x := by
  simp only [opI, op1_agree h hx]
theorem opX_agree (h : Agree A A' ts kk) {cond : Cond} {x : Operand} (hx : opIn ts x) : opX A cond x = opX A' cond x := by
  simp only [opX, opI_agree h hx]
theorem readL_agree (h : Agree A A' ts kk) {c : CE} (hc : In kk c) : readL A c = readL A' c := by
  obtain ⟨s, e⟩ := c
  cases s with
  | full κ => simp only [readL, h.ks κ (hc κ (by simp [Sh.keys]))]
  | pre κ => simp only [readL, h.ks κ (hc κ (by simp [Sh.keys]))]
  | view κ => simp only [readL, h.ks κ (hc κ (by simp [Sh.keys]))]
  | dyn t => cases t <;> rfl
  | _ => rfl
theorem rowK_agree (h : Agree A A' ts kk) {s : Sh} (hc : ∀ κ ∈ s.keys, kk κ) : rowK A s = rowK A' s := by
  cases s with
  | full κ => simp only [rowK, h.ks κ (hc κ (by simp [Sh.keys]))]
  | pre κ => simp only [rowK, h.ks κ (hc κ (by simp [Sh.keys]))]
  | view κ => simp only [rowK, h.ks κ (hc κ (by simp [Sh.keys]))]
  | _ => rfl
theorem frz_agree (h : Agree A A' ts kk) {s : Sh} (hc : ∀ κ ∈ s.keys, kk κ) : frz A s = frz A' s := by
  cases s with
  | full κ => simp only [frz, h.ks κ (hc κ (by simp [Sh.keys]))]
  | pre κ => simp only [frz, h.ks κ (hc κ (by simp [Sh.keys]))]
  | view κ => simp only [frz, h.ks κ (hc κ (by simp [Sh.keys]))]
  | _ => rfl
theorem asT_agree (h : Agree A A' ts kk) {c : CE} {t : Ty} (hc : In kk c) : asT A c t = asT A' c t := by
  obtain ⟨s, e⟩ := c
  simp only [asT, readL_agree h hc, frz_agree h (s := s) hc]
theorem asTs_agree (h : Agree A A' ts kk) : ∀ (cs : List CE) (l : List Ty), (∀ c ∈ cs, In kk c) → asTs A cs l = asTs A' cs l
  | [], [], _ => rfl
  | c :: cs, t :: l, hc => by simp only [asTs, asT_agree h (hc c (by simp)), asTs_agree h cs l (fun c h => hc c (by simp [h]))]
  | [], _ :: _, _ => rfl
  | _ :: _, [], _ => rfl
theorem cellsAt_in {mk : Nat → Loc} : ∀ (ss : List Sh) (j : Nat), (∀ s ∈ ss, ∀ κ ∈ s.keys, kk κ) → ∀ c ∈ cellsAt mk j ss, In kk c
  | [], j, _, c, hc => by simp [cellsAt] at hc
  | s :: r, j, h, c, hc => by
    simp only [cellsAt, List.mem_cons] at hc
    rcases hc with hc | hc
    · rw [hc]; exact h s (by simp)
    · exact cellsAt_in r (j + 1) (fun s hs => h s (by simp [hs])) c hc
theorem valsAt_in {mk : Nat → Loc} : ∀ (vs : List Val) (j : Nat), (∀ s ∈ vs.flatMap (·.cs), ∀ κ ∈ s.keys, kk κ) → ∀ V ∈ valsAt mk j vs, ∀ c ∈ V.2, In kk c
  | [], j, _, V, hV => by simp [valsAt] at hV
  | v :: r, j, h, V, hV => by
    simp only [valsAt, List.mem_cons] at hV
    rcases hV with hV | hV
    · rw [hV]
      exact cellsAt_in v.cs j (fun s hs => h s (by simp only [List.flatMap_cons, List.mem_append]; exact .inl hs))
    · exact valsAt_in r _ (fun s hs => h s (by simp only [List.flatMap_cons, List.mem_append]; exact .inr hs)) V hV
theorem constC_in {v : Value} {c : CE} (h : constC v = some c) : In kk c := by
  unfold constC at h
  split at h <;> first
    | (simp only [Option.some.injEq] at h; subst h; intro κ hκ; simp [Sh.keys] at hκ; done)
    | (split at h <;> first
        | (simp at h; done)
        | (simp only [Option.some.injEq] at h; subst h; intro κ hκ; simp [Sh.keys] at hκ))
    | (simp at h; done)
theorem constCs_in : ∀ (vs : List Value) (cs : List CE), vs.mapM constC = some cs → ∀ c ∈ cs, In kk c
  | [], cs, h, c, hc => by simp at h; subst h; simp at hc
  | v :: vs, cs, h, c, hc => by
    simp only [List.mapM_cons, Option.bind_eq_bind, Option.bind_eq_some_iff, Option.pure_def, Option.some.injEq] at h
    obtain ⟨d, h1, ds, h2, rfl⟩ := h
    rcases List.mem_cons.1 hc with hc | hc
    · rw [hc]; exact constC_in h1
    · exact constCs_in vs ds h2 c hc
theorem constV_in {v : Value} {r : Bool × List CE} (h : constV v = some r) : ∀ c ∈ r.2, In kk c := by
  unfold constV at h
  split at h
  · simp only [Option.bind_eq_bind, Option.bind_eq_some_iff, Option.some.injEq] at h
    obtain ⟨ds, h1, rfl⟩ := h
    exact constCs_in _ _ h1
  · simp only [Option.bind_eq_bind, Option.bind_eq_some_iff, Option.some.injEq] at h
    obtain ⟨c, h1, rfl⟩ := h
    intro d hd
    simp only [List.mem_singleton] at hd
    rw [hd]; exact constC_in h1
theorem opV_in (h : Agree A A' ts kk) {cond : Cond} {x : Operand} (hx : opIn ts x) {v : OpV} (hv : opV A cond x = some v) : ∀ c ∈ v.cells, In kk c := by
  cases x with
  | tmp t =>
    simp only [opV, opTmp] at hv
    split at hv
    · have hc := h.cells t hx
      cases hk : (A.sl t).k with
      | dead => rw [hk] at hv; simp [skV] at hv
      | val w =>
        rw [hk] at hv hc; simp only [skV, Option.some.injEq] at hv; subst hv
        exact cellsAt_in _ _ hc
      | tup vs =>
        rw [hk] at hv hc; simp only [skV, Option.some.injEq] at hv; subst hv
        intro c hc'
        simp only [OpV.cells, List.mem_flatMap] at hc'
        obtain ⟨V, hV, hc'⟩ := hc'
        exact valsAt_in _ _ hc V hV c hc'
      | clo f nf vs =>
        rw [hk] at hv hc; simp only [skV, Option.some.injEq] at hv; subst hv
        intro c hc'
        simp only [OpV.cells, List.mem_flatMap] at hc'
        obtain ⟨V, hV, hc'⟩ := hc'
        exact valsAt_in _ _ hc V hV c hc'
    · simp at hv
  | const v0 =>
    simp only [opV, Option.bind_eq_bind, Option.bind_eq_some_iff, Option.some.injEq] at hv
    obtain ⟨⟨g, cs⟩, h1, rfl⟩ := hv
    exact constV_in h1
  | func f => simp only [opV, Option.some.injEq] at hv; subst hv; intro c hc; simp [OpV.cells] at hc
  | global g => simp [opV] at hv
theorem op1_in (h : Agree A A' ts kk) {cond : Cond} {x : Operand} (hx : opIn ts x) {c : CE} (hc : op1 A cond x = some c) : In kk c := by
  simp only [op1, Option.bind_eq_bind, Option.bind_eq_some_iff] at hc
  obtain ⟨v, h1, h2⟩ := hc
  split at h2
  · simp only [Option.some.injEq] at h2
    subst h2
    exact opV_in h hx h1 _ (by simp [OpV.cells])
  · simp at h2
theorem opC_in (h : Agree A A' ts kk) {cond : Cond} {x : Operand} (hx : opIn ts x) {r : Bool × List CE} (hc : opC A cond x = some r) : ∀ c ∈ r.2, In kk c := by
  simp only [opC, Option.bind_eq_bind, Option.bind_eq_some_iff] at hc
  obtain ⟨v, h1, h2⟩ := hc
  split at h2
  · simp only [Option.some.injEq] at h2
    subst h2
    exact opV_in h hx h1
  · simp at h2
theorem bind_agree {α γ : Type} {x y : Option α} {f g : α → Option γ} (h : x = y) (hf : ∀ a, x = some a → f a = g a) : x.bind f = y.bind g := by
  subst h
  cases x with
  | none => rfl
  | some a => exact hf a rfl
end
end Rk
set_option linter.unusedVariables false
set_option linter.unusedSimpArgs false
namespace Rk
open Go
section
variable {A A' : Acc} {ts kk : Nat → Prop} {E : Env} {cond : Cond} {d : Option Tmp}
theorem under_agree (e : PE) : under A cond e = under A' cond e := rfl
theorem liveC_agree (h : Agree A A' ts kk) {c : CE} (hc : In kk c) : liveC A c = liveC A' c := by
  obtain ⟨s, e⟩ := c
  cases s with
  | ptr κ j => simp only [liveC, h.ks κ (hc κ (by simp [Sh.keys]))]
  | arr κ => simp only [liveC, h.ks κ (hc κ (by simp [Sh.keys]))]
  | ept κ j => simp only [liveC, h.ks κ (hc κ (by simp [Sh.keys]))]
  | _ => rfl
theorem stLoad_agree (h : Agree A A' ts kk) {t : TypeId} {c : CE} (hc : In kk c) : stLoad E A cond d t c = stLoad E A' cond d t c := by
  obtain ⟨s, e⟩ := c
  cases s with
  | ptr κ j => simp only [stLoad, h.ks κ (hc κ (by simp [Sh.keys]))]
  | arr κ => simp only [stLoad, h.ks κ (hc κ (by simp [Sh.keys]))]
  | ept κ j => simp only [stLoad, h.ks κ (hc κ (by simp [Sh.keys]))]
  | _ => rfl
theorem stStore_agree (h : Agree A A' ts kk) {t : TypeId} {c : CE} {v : Bool × List CE} (hc : In kk c) (hv : ∀ x ∈ v.2, In kk x) : stStore E A cond d t c v = stStore E A' cond d t c v := by
  obtain ⟨s, e⟩ := c
  cases s with
  | ptr κ j => simp only [stStore, h.ks κ (hc κ (by simp [Sh.keys]))]
  | arr κ => simp only [stStore, h.ks κ (hc κ (by simp [Sh.keys])), asTs_agree h v.2 _ hv]
  | ept κ j => simp only [stStore, stEpt, h.ks κ (hc κ (by simp [Sh.keys])), asTs_agree h v.2 _ hv]
  | _ => rfl
theorem newK_agree (h : Agree A A' ts kk) (hd : ∀ i, d = some i → kk i) {k : KSh} {content : List (Loc × Ty × PE)} {sh : Nat → Sh} {fz : Frz} {chk : List PE} :
    newK A cond d k content sh fz chk = newK A' cond d k content sh fz chk := by
  cases d with
  | none => rfl
  | some i => simp only [newK, Option.bind_eq_bind, Option.bind_some, h.ks i (hd i rfl)]; rfl
theorem optX_agree (h : Agree A A' ts kk) {dflt : PE} {x : Option Operand} (hx : ∀ y, x = some y → opIn ts y) : optX A cond dflt x = optX A' cond dflt x := by
  cases x with
  | none => rfl
  | some y => simp only [optX, opX_agree h (hx y rfl)]
theorem stBin_agree (h : Agree A A' ts kk) {op : BinOp} {t : TypeId} {x y : Operand} (hx : opIn ts x) (hy : opIn ts y) : stBin E A cond d op t x y = stBin E A' cond d op t x y := by
  simp only [stBin, opC_agree h hx, opC_agree h hy, Option.bind_eq_bind]
  refine bind_agree rfl (fun r hr => ?_)
  refine bind_agree rfl (fun r' hr' => ?_)
  split
  · rfl
  split
  · rfl
  · have hin : ∀ c ∈ r.2, In kk c := opC_in h hx (by rw [opC_agree h hx]; exact hr)
    split
    · rename_i κ j p q heq1 heq2
      rw [liveC_agree h (hin _ (by rw [heq1]; simp))]
    all_goals rfl
theorem stLen_agree (h : Agree A A' ts kk) {t : TypeId} {x : Operand} (hx : opIn ts x) : stLen E A cond d t x = stLen E A' cond d t x := by
  simp only [stLen, Option.bind_eq_bind]
  refine bind_agree rfl (fun dd hdd => ?_)
  cases dd <;> try rfl
  · simp only [opT_agree h hx]
  · rw [op1_agree h hx]
    refine bind_agree rfl (fun c hc => ?_)
    have hin := op1_in h hx (by rw [op1_agree h hx]; exact hc)
    split
    · rfl
    · rw [readL_agree h hin]
theorem stConv_agree (h : Agree A A' ts kk) {s t : TypeId} {x : Operand} (hx : opIn ts x) : stConv E A cond d s t x = stConv E A' cond d s t x := by
  simp only [stConv, op1_agree h hx, Option.bind_eq_bind]
  refine bind_agree rfl (fun c hc => ?_)
  have hin := op1_in h hx (by rw [op1_agree h hx]; exact hc)
  refine bind_agree rfl (fun d1 _ => ?_)
  refine bind_agree rfl (fun d2 _ => ?_)
  split <;> try rfl
  refine bind_agree rfl (fun d3 _ => ?_)
  split <;> try rfl
  split <;> try rfl
  rw [readL_agree h hin]
theorem stIndexArr_agree (h : Agree A A' ts kk) {n : Nat} {el : TypeId} {x : Operand} {i : PE} (hx : opIn ts x) : stIndexArr E A cond d n el x i = stIndexArr E A' cond d n el x i := by
  simp only [stIndexArr, opC_agree h hx, Option.bind_eq_bind]
  rfl
theorem stIndexAddr_agree (h : Agree A A' ts kk) {t : TypeId} {x ix : Operand} (hx : opIn ts x) (hi : opIn ts ix) : stIndexAddr E A cond d t x ix = stIndexAddr E A' cond d t x ix := by
  simp only [stIndexAddr, opX_agree h hi, op1_agree h hx, Option.bind_eq_bind]
  refine bind_agree rfl (fun i _ => ?_)
  refine bind_agree rfl (fun dd _ => ?_)
  split <;> try rfl
  · refine bind_agree (op1_agree h (by assumption)) (fun c hc => ?_)
    have hin := op1_in h (by assumption) hc
    refine bind_agree rfl (fun sz _ => ?_)
    obtain ⟨s, e⟩ := c
    cases s with
    | arr κ => simp only [h.ks κ (hin κ (by simp [Sh.keys]))]; rfl
    | ptr κ j => simp only [h.ks κ (hin κ (by simp [Sh.keys]))]
    | _ => rfl
  · refine bind_agree (op1_agree h (by assumption)) (fun c hc => ?_)
    have hin := op1_in h (by assumption) hc
    refine bind_agree rfl (fun l _ => ?_)
    split
    · rfl
    · rw [readL_agree h hin, rowK_agree h (s := c.1) hin]
      rfl
theorem stSlice_agree (h : Agree A A' ts kk) {t : TypeId} {x : Operand} {lo hi : Option Operand} (hx : opIn ts x) (hl : ∀ y, lo = some y → opIn ts y) (hh : ∀ y, hi = some y → opIn ts y) :
    stSlice E A cond d t x lo hi none = stSlice E A' cond d t x lo hi none := by
  have e1 : ∀ dflt, optX A cond dflt lo = optX A' cond dflt lo := fun dflt => optX_agree h hl
  have e2 : ∀ dflt, optX A cond dflt hi = optX A' cond dflt hi := fun dflt => optX_agree h hh
  simp only [stSlice, op1_agree h hx, opT_agree h hx, e1, e2, Option.bind_eq_bind]
  refine bind_agree rfl (fun dd _ => ?_)
  split <;> try rfl
  refine bind_agree rfl (fun c hc => ?_)
  have hin := op1_in h hx (by rw [op1_agree h hx]; exact hc)
  refine bind_agree rfl (fun l _ => ?_)
  refine bind_agree rfl (fun l2 _ => ?_)
  split
  · rfl
  · rw [readL_agree h hin, rowK_agree h (s := c.1) hin]
    rfl
theorem stS2b_agree (h : Agree A A' ts kk) (hd : ∀ i, d = some i → kk i) {s t : TypeId} {x : Operand} (hx : opIn ts x) : stS2b E A cond d s t x = stS2b E A' cond d s t x := by
  simp only [stS2b, opT_agree h hx, newK_agree h hd]
theorem constC_keys {v : Value} {c : CE} (h : constC v = some c) : c.1.keys = [] := by
  unfold constC at h
  split at h
  · split at h
    · simp at h
    · simp only [Option.some.injEq] at h; subst h; rfl
  all_goals first
    | (simp at h; done)
    | (simp only [Option.some.injEq] at h; subst h; rfl)
theorem constMs_in : ∀ (vs : List Value) (cs : List CE), vs.mapM constC = some cs → ∀ c ∈ cs, In kk c
  | [], cs, h, c, hc => by simp at h; subst h; simp at hc
  | v :: vs, cs, h, c, hc => by
    simp only [List.mapM_cons, Option.bind_eq_bind, Option.bind_eq_some_iff, Option.pure_def, Option.some.injEq] at h
    obtain ⟨x, h1, ws, h2, rfl⟩ := h
    rcases List.mem_cons.1 hc with hc | hc
    · subst hc
      intro κ hκ
      rw [constC_keys h1] at hκ
      simp at hκ
    · exact constMs_in vs ws h2 c hc
theorem zeroCs_in {P : Program} {t : TypeId} {z : Bool × List CE} (hz : zeroCs P t = some z) : ∀ c ∈ z.2, In kk c := by
  simp only [zeroCs, Option.bind_eq_bind, Option.bind_eq_some_iff] at hz
  obtain ⟨i, _, v, _, hz⟩ := hz
  unfold constV at hz
  split at hz
  · simp only [Option.bind_eq_bind, Option.bind_eq_some_iff, Option.some.injEq] at hz
    obtain ⟨cs, h1, rfl⟩ := hz
    exact constMs_in _ _ h1
  · simp only [Option.bind_eq_bind, Option.bind_eq_some_iff, Option.some.injEq] at hz
    obtain ⟨c, h1, rfl⟩ := hz
    intro c' hc'
    simp only [List.mem_singleton] at hc'
    subst hc'
    intro κ hκ
    rw [constC_keys h1] at hκ
    simp at hκ
theorem stB2b_agree (h : Agree A A' ts kk) {s t : TypeId} {x : Operand} (hx : opIn ts x) : stB2b E A cond d s t x = stB2b E A' cond d s t x := by
  simp only [stB2b, op1_agree h hx, Option.bind_eq_bind]
  split
  · rfl
  refine bind_agree rfl (fun d1 _ => ?_)
  split <;> try rfl
  refine bind_agree rfl (fun d2 _ => ?_)
  split <;> try rfl
  refine bind_agree rfl (fun c hc => ?_)
  have hin := op1_in h hx (by rw [op1_agree h hx]; exact hc)
  obtain ⟨s, e⟩ := c
  cases s with
  | full κ => simp only [h.ks κ (hin κ (by simp [Sh.keys]))]
  | _ => rfl
theorem stMake_agree (h : Agree A A' ts kk) (hd : ∀ i, d = some i → kk i) {t : TypeId} {x y : Operand} (hx : opIn ts x) (hy : opIn ts y) : stMake E A cond d t x y = stMake E A' cond d t x y := by
  simp only [stMake, opI_agree h hx, opI_agree h hy, newK_agree h hd, Option.bind_eq_bind]
  refine bind_agree rfl (fun dd _ => ?_)
  split <;> try rfl
  refine bind_agree rfl (fun l _ => ?_)
  refine bind_agree rfl (fun b _ => ?_)
  refine bind_agree rfl (fun z hz => ?_)
  refine bind_agree rfl (fun k _ => ?_)
  refine bind_agree rfl (fun k2 _ => ?_)
  split
  · rfl
  rw [asTs_agree h z.2 l (zeroCs_in hz)]
  rfl
theorem appSrc_agree (h : Agree A A' ts kk) {u : Ty} {c : CE} (hc : In kk c) : appSrc A u c = appSrc A' u c := by
  unfold appSrc
  split
  · rfl
  · rfl
  · rw [readL_agree h hc]
theorem appDst_agree (h : Agree A A' ts kk) {u : Ty} {c : CE} (hc : In kk c) : appDst A u c = appDst A' u c := by
  simp only [appDst, readL_agree h hc, rowK_agree h (s := c.1) hc]
theorem stAppend_agree (h : Agree A A' ts kk) (hd : ∀ i, d = some i → kk i) {t t2 : TypeId} {x y : Operand} (hx : opIn ts x) (hy : opIn ts y) : stAppend E A cond d t t2 x y = stAppend E A' cond d t t2 x y := by
  simp only [stAppend, op1_agree h hx, op1_agree h hy, newK_agree h hd, Option.bind_eq_bind]
  split
  · rfl
  refine bind_agree rfl (fun dd _ => ?_)
  split <;> try rfl
  refine bind_agree rfl (fun l _ => ?_)
  refine bind_agree rfl (fun b _ => ?_)
  refine bind_agree rfl (fun z _ => ?_)
  refine bind_agree rfl (fun ca hca => ?_)
  have hina := op1_in h hx (by rw [op1_agree h hx]; exact hca)
  refine bind_agree rfl (fun cz hcz => ?_)
  have hinz := op1_in h hy (by rw [op1_agree h hy]; exact hcz)
  refine bind_agree rfl (fun d2 _ => ?_)
  rw [appSrc_agree h hinz]
  split
  · rfl
  refine bind_agree rfl (fun r _ => ?_)
  split
  · rfl
  · rw [appDst_agree h hina]
theorem spanOf_agree (h : Agree A A' ts kk) {u : Ty} {c : CE} (hc : In kk c) : spanOf A u c = spanOf A' u c := by
  obtain ⟨s, e⟩ := c
  cases s with
  | full κ => simp only [spanOf, h.ks κ (hc κ (by simp [Sh.keys]))]
  | pre κ => simp only [spanOf, h.ks κ (hc κ (by simp [Sh.keys]))]
  | view κ => simp only [spanOf, h.ks κ (hc κ (by simp [Sh.keys]))]
  | _ => rfl
theorem stCopy_agree (h : Agree A A' ts kk) {t : TypeId} {x y : Operand} (hx : opIn ts x) (hy : opIn ts y) : stCopy E A cond d t x y = stCopy E A' cond d t x y := by
  simp only [stCopy, op1_agree h hx, op1_agree h hy, Option.bind_eq_bind]
  split
  · rfl
  refine bind_agree rfl (fun dd _ => ?_)
  split <;> try rfl
  refine bind_agree rfl (fun l _ => ?_)
  refine bind_agree rfl (fun ca hca => ?_)
  have hina := op1_in h hx (by rw [op1_agree h hx]; exact hca)
  refine bind_agree rfl (fun cz hcz => ?_)
  have hinz := op1_in h hy (by rw [op1_agree h hy]; exact hcz)
  rw [spanOf_agree h hina, readL_agree h hinz]
end
end Rk
set_option linter.unusedVariables false
set_option linter.unusedSimpArgs false
namespace Rk
open Go
section
variable {A A' : Acc} {ts kk : Nat → Prop} {E : Env} {cond : Cond} {d : Option Tmp}
def Closed (A : Acc) (kk : Nat → Prop) : Prop := ∀ κ, kk κ → ∀ k, A.ks κ = some k → ∀ κ2 ∈ k.keys, kk κ2
def KmIn (kk : Nat → Prop) (c : Cv) : Prop := ∀ κ κ', lookK c.km κ = some (some κ') → kk κ'
theorem bindK_in {c e : Cv} {κ : Nat} {o : Option Nat} (h : c.bindK κ o = some e) (hc : KmIn kk c) (ho : ∀ κ', o = some κ' → kk κ') : KmIn kk e := by
  unfold Cv.bindK at h
  have add : ∀ x, e = { c with km := c.km ++ [(κ, x)] } → (∀ κ', x = some κ' → kk κ') → KmIn kk e := by
    rintro x rfl hx κ1 κ2 h1
    rw [lookK_append] at h1
    cases hq : lookK c.km κ1 with
    | some o1 => rw [hq] at h1; simp only [Option.some.injEq] at h1; subst h1; exact hc _ _ hq
    | none =>
      rw [hq] at h1
      simp only [lookK] at h1
      split at h1
      · simp only [Option.some.injEq] at h1; exact hx κ2 h1
      · simp at h1
  split at h
  · split at h
    · simp only [Option.some.injEq] at h; subst h; exact hc
    · simp at h
  · split at h
    · simp only [Option.some.injEq] at h; exact add none h.symm (by simp)
    · split at h
      · simp at h
      · simp only [Option.some.injEq] at h; exact add _ h.symm ho
theorem cvC_agree (h : Agree A A' ts kk) {T : Nat → Option KSh} {c : Cv} {l : Loc} {want : Sh} {x : CE} (hx : In kk x) : cvC A T c l want x = cvC A' T c l want x := by
  obtain ⟨s, e⟩ := x
  cases want with
  | dyn t => simp only [cvC, asT_agree h hx]
  | full κ =>
    cases s with
    | full κ' =>
      have e1 := h.ks κ' (hx κ' (by simp [Sh.keys]))
      simp only [cvC]
      cases T κ with
      | none => rfl
      | some k => cases k <;> first | rfl | simp only [e1]
    | nil =>
      simp only [cvC]
      cases T κ with
      | none => rfl
      | some k => cases k <;> rfl
    | _ => rfl
  | ptr κ j =>
    cases s with
    | ptr κ' j' => simp only [cvC, h.ks κ' (hx κ' (by simp [Sh.keys]))]
    | _ => rfl
  | arr κ =>
    cases s with
    | arr κ' => simp only [cvC, h.ks κ' (hx κ' (by simp [Sh.keys]))]
    | _ => rfl
  | _ => rfl
theorem cvC_in {T : Nat → Option KSh} {c e : Cv} {l : Loc} {want : Sh} {x : CE} (hx : In kk x) (hc : KmIn kk c) (he : cvC A T c l want x = some e) : KmIn kk e := by
  unfold cvC at he
  split at he
  · simp only [Option.bind_eq_bind, Option.bind_eq_some_iff, Option.some.injEq] at he
    obtain ⟨_, _, rfl⟩ := he
    exact hc
  · split at he
    · simp only [Option.some.injEq] at he; subst he; exact hc
    · simp at he
  · split at he
    · simp only [Option.some.injEq] at he; subst he; exact hc
    · simp at he
  · simp only [Option.some.injEq] at he; subst he; exact hc
  · split at he
    · rename_i κ' t hx1 hT
      split at he
      · split at he
        · exact bindK_in he hc (fun κ2 h2 => by simp only [Option.some.injEq] at h2; subst h2; exact hx _ (by rw [hx1]; simp [Sh.keys]))
        · simp at he
      · simp at he
    · exact bindK_in he hc (by simp)
    · simp at he
  · split at he
    · rename_i κ' j' hx1
      split at he
      · split at he
        · exact bindK_in he hc (fun κ2 h2 => by simp only [Option.some.injEq] at h2; subst h2; exact hx _ (by rw [hx1]; simp [Sh.keys]))
        · simp at he
      · simp at he
    · simp at he
  · split at he
    · rename_i κ' hx1
      split at he
      · split at he
        · exact bindK_in he hc (fun κ2 h2 => by simp only [Option.some.injEq] at h2; subst h2; exact hx _ (by rw [hx1]; simp [Sh.keys]))
        · simp at he
      · simp at he
    · simp at he
  · simp at he
theorem cvCs_agree (h : Agree A A' ts kk) {T : Nat → Option KSh} {mk : Nat → Loc} : ∀ (ws : List Sh) (xs : List CE) (c : Cv) (j : Nat), (∀ x ∈ xs, In kk x) → KmIn kk c →
    cvCs A T mk c j ws xs = cvCs A' T mk c j ws xs ∧ ∀ e, cvCs A T mk c j ws xs = some e → KmIn kk e
  | [], [], c, j, _, hc => ⟨rfl, fun e he => by simp only [cvCs, Option.some.injEq] at he; subst he; exact hc⟩
  | w :: ws, x :: xs, c, j, hx, hc => by
    have e1 := cvC_agree h (T := T) (c := c) (l := mk j) (want := w) (hx x (by simp))
    constructor
    · simp only [cvCs, e1, Option.bind_eq_bind]
      refine bind_agree rfl (fun c1 h1 => ?_)
      exact (cvCs_agree h ws xs c1 (j + 1) (fun x hx' => hx x (by simp [hx'])) (cvC_in (hx x (by simp)) hc h1)).1
    · intro e he
      simp only [cvCs, Option.bind_eq_bind, Option.bind_eq_some_iff] at he
      obtain ⟨c1, h1, h2⟩ := he
      exact (cvCs_agree h ws xs c1 (j + 1) (fun x hx' => hx x (by simp [hx'])) (cvC_in (hx x (by simp)) hc h1)).2 e h2
  | [], _ :: _, c, j, _, hc => ⟨rfl, fun e he => by simp [cvCs] at he⟩
  | _ :: _, [], c, j, _, hc => ⟨rfl, fun e he => by simp [cvCs] at he⟩
theorem cvVs_agree (h : Agree A A' ts kk) {T : Nat → Option KSh} {mk : Nat → Loc} : ∀ (ws : List Val) (xs : List (Bool × List CE)) (c : Cv) (j : Nat), (∀ X ∈ xs, ∀ x ∈ X.2, In kk x) → KmIn kk c →
    cvVs A T mk c j ws xs = cvVs A' T mk c j ws xs ∧ ∀ e, cvVs A T mk c j ws xs = some e → KmIn kk e
  | [], [], c, j, _, hc => ⟨rfl, fun e he => by simp only [cvVs, Option.some.injEq] at he; subst he; exact hc⟩
  | w :: ws, x :: xs, c, j, hx, hc => by
    obtain ⟨p1, p2⟩ := cvCs_agree h (T := T) (mk := mk) w.cs x.2 c j (hx x (by simp)) hc
    constructor
    · simp only [cvVs]
      split
      · rfl
      · rw [p1]
        refine bind_agree rfl (fun c1 h1 => ?_)
        exact (cvVs_agree h ws xs c1 _ (fun X hX => hx X (by simp [hX])) (p2 c1 (by rw [p1]; exact h1))).1
    · intro e he
      simp only [cvVs] at he
      split at he
      · simp at he
      · simp only [Option.bind_eq_bind, Option.bind_eq_some_iff] at he
        obtain ⟨c1, h1, h2⟩ := he
        exact (cvVs_agree h ws xs c1 _ (fun X hX => hx X (by simp [hX])) (p2 c1 h1)).2 e h2
  | [], _ :: _, c, j, _, hc => ⟨rfl, fun e he => by simp [cvVs] at he⟩
  | _ :: _, [], c, j, _, hc => ⟨rfl, fun e he => by simp [cvVs] at he⟩
theorem cvS_agree (h : Agree A A' ts kk) {T : Nat → Option KSh} {c : Cv} {i : Nat} {k : SK} {x : OpV} (hx : ∀ q ∈ x.cells, In kk q) (hc : KmIn kk c) :
    cvS A T c i k x = cvS A' T c i k x ∧ ∀ e, cvS A T c i k x = some e → KmIn kk e := by
  cases k with
  | dead => exact ⟨rfl, fun e he => by simp [cvS] at he⟩
  | val w =>
    cases x with
    | val g cs =>
      obtain ⟨p1, p2⟩ := cvCs_agree h (T := T) (mk := .s i) w.cs cs c 0 hx hc
      simp only [cvS]
      split
      · exact ⟨p1, p2⟩
      · exact ⟨rfl, fun e he => by simp at he⟩
    | tup vs => exact ⟨rfl, fun e he => by simp [cvS] at he⟩
    | clo f nf vs => exact ⟨rfl, fun e he => by simp [cvS] at he⟩
  | tup ws =>
    cases x with
    | tup vs =>
      exact cvVs_agree h (T := T) (mk := .s i) ws vs c 0 (fun X hX q hq => hx q (by simp only [OpV.cells, List.mem_flatMap]; exact ⟨X, hX, hq⟩)) hc
    | val g cs => exact ⟨rfl, fun e he => by simp [cvS] at he⟩
    | clo f nf vs => exact ⟨rfl, fun e he => by simp [cvS] at he⟩
  | clo f nf ws =>
    cases x with
    | clo g ng vs =>
      obtain ⟨p1, p2⟩ := cvVs_agree h (T := T) (mk := .s i) ws vs c 0 (fun X hX q hq => hx q (by simp only [OpV.cells, List.mem_flatMap]; exact ⟨X, hX, hq⟩)) hc
      simp only [cvS]
      split
      · exact ⟨p1, p2⟩
      · exact ⟨rfl, fun e he => by simp at he⟩
    | val g cs => exact ⟨rfl, fun e he => by simp [cvS] at he⟩
    | tup vs => exact ⟨rfl, fun e he => by simp [cvS] at he⟩
theorem cvSl_agree (h : Agree A A' ts kk) {T : Nat → Option KSh} : ∀ (sl : List (Nat × SK)) (xs : List OpV) (c : Cv), (∀ X ∈ xs, ∀ x ∈ X.cells, In kk x) → KmIn kk c →
    cvSl A T c sl xs = cvSl A' T c sl xs ∧ ∀ e, cvSl A T c sl xs = some e → KmIn kk e
  | [], [], c, _, hc => ⟨rfl, fun e he => by simp only [cvSl, Option.some.injEq] at he; subst he; exact hc⟩
  | (i, k) :: sl, x :: xs, c, hx, hc => by
    obtain ⟨p1, p2⟩ := cvS_agree h (T := T) (i := i) (k := k) (hx x (by simp)) hc
    constructor
    · simp only [cvSl]
      rw [p1]
      refine bind_agree rfl (fun c1 h1 => ?_)
      exact (cvSl_agree h sl xs c1 (fun X hX => hx X (by simp [hX])) (p2 c1 (by rw [p1]; exact h1))).1
    · intro e he
      simp only [cvSl, Option.bind_eq_bind, Option.bind_eq_some_iff] at he
      obtain ⟨c1, h1, h2⟩ := he
      exact (cvSl_agree h sl xs c1 (fun X hX => hx X (by simp [hX])) (p2 c1 h1)).2 e h2
  | [], _ :: _, c, _, hc => ⟨rfl, fun e he => by simp [cvSl] at he⟩
  | _ :: _, [], c, _, hc => ⟨rfl, fun e he => by simp [cvSl] at he⟩
theorem cvK1_agree (h : Agree A A' ts kk) (hcl : Closed A kk) {T : Nat → Option KSh} {c : Cv} {κ : Nat} {k : KSh} (hc : KmIn kk c) :
    cvK1 A T c κ k = cvK1 A' T c κ k ∧ ∀ e, cvK1 A T c κ k = some e → KmIn kk e := by
  have hlk : ∀ κ', lookK c.km κ = some (some κ') → A.ks κ' = A'.ks κ' := fun κ' hq => h.ks κ' (hc κ κ' hq)
  cases hq : lookK c.km κ with
  | none => cases k <;> (simp only [cvK1, hq]; refine ⟨trivial, fun e he => ?_⟩; first | (simp at he; done) | (simp only [Option.some.injEq] at he; subst he; exact hc))
  | some o =>
    cases o with
    | none =>
      cases k <;> (simp only [cvK1, hq]; refine ⟨trivial, fun e he => ?_⟩; first | (simp at he; done) | (simp only [Option.some.injEq] at he; subst he; exact hc))
    | some κ' =>
      have e1 := hlk κ' hq
      cases k with
      | gone => simp only [cvK1, hq]; exact ⟨trivial, fun e he => by simp only [Option.some.injEq] at he; subst he; exact hc⟩
      | row t =>
        simp only [cvK1, hq, e1]
        refine ⟨trivial, fun e he => ?_⟩
        split at he
        · split at he
          · simp only [Option.some.injEq] at he; subst he; exact hc
          · simp at he
        · simp at he
      | arr t n =>
        simp only [cvK1, hq, e1]
        refine ⟨trivial, fun e he => ?_⟩
        split at he
        · split at he
          · simp only [Option.some.injEq] at he; subst he; exact hc
          · simp at he
        · simp at he
      | imm t => simp only [cvK1, hq]; exact ⟨trivial, fun e he => by simp at he⟩
      | box cs =>
        simp only [cvK1, hq]
        rw [← e1]
        cases hk : A.ks κ' with
        | none => exact ⟨rfl, fun e he => by simp at he⟩
        | some k2 =>
          cases k2 with
          | box xs =>
            exact cvCs_agree h (T := T) (mk := .k κ) cs (cellsAt (.k κ') 0 xs) c 0 (cellsAt_in _ _ (fun s hs κ2 hκ2 => hcl κ' (hc κ κ' hq) _ hk κ2 (by simp only [KSh.keys, List.mem_flatMap]; exact ⟨s, hs, hκ2⟩))) hc
          | row _ => exact ⟨rfl, fun e he => by simp at he⟩
          | arr _ _ => exact ⟨rfl, fun e he => by simp at he⟩
          | imm _ => exact ⟨rfl, fun e he => by simp at he⟩
          | gone => exact ⟨rfl, fun e he => by simp at he⟩
theorem cvKs_agree (h : Agree A A' ts kk) (hcl : Closed A kk) {T : Nat → Option KSh} : ∀ (ks : List (Nat × KSh)) (c : Cv), KmIn kk c →
    cvKs A T c ks = cvKs A' T c ks ∧ ∀ e, cvKs A T c ks = some e → KmIn kk e
  | [], c, hc => ⟨rfl, fun e he => by simp only [cvKs, Option.some.injEq] at he; subst he; exact hc⟩
  | (κ, k) :: r, c, hc => by
    obtain ⟨p1, p2⟩ := cvK1_agree h hcl (T := T) (κ := κ) (k := k) hc
    constructor
    · simp only [cvKs]
      rw [p1]
      refine bind_agree rfl (fun c1 h1 => ?_)
      exact (cvKs_agree h hcl r c1 (p2 c1 (by rw [p1]; exact h1))).1
    · intro e he
      simp only [cvKs, Option.bind_eq_bind, Option.bind_eq_some_iff] at he
      obtain ⟨c1, h1, h2⟩ := he
      exact (cvKs_agree h hcl r c1 (p2 c1 h1)).2 e h2
theorem conv_agree (h : Agree A A' ts kk) (hcl : Closed A kk) {sl : List (Nat × SK)} {ks : List (Nat × KSh)} {xs : List OpV} (hx : ∀ X ∈ xs, ∀ x ∈ X.cells, In kk x) : conv A [] sl ks xs = conv A' [] sl ks xs := by
  obtain ⟨p1, p2⟩ := cvSl_agree h (T := fun κ => (ks.find? (·.1 == κ)).map (·.2)) sl xs ⟨[], [], []⟩ hx (by intro κ κ' hh; simp [lookK] at hh)
  simp only [conv, Option.bind_eq_bind]
  refine bind_agree p1 (fun c1 h1 => ?_)
  exact bind_agree (cvKs_agree h hcl ks c1 (p2 c1 h1)).1 (fun c2 _ => rfl)
end
end Rk
set_option linter.unusedVariables false
set_option linter.unusedSimpArgs false
namespace Rk
open Go
section
variable {A A' : Acc} {ts kk : Nat → Prop} {E : Env} {cond : Cond} {d : Option Tmp}
theorem conv_in (h : Agree A A' ts kk) (hcl : Closed A kk) {sl : List (Nat × SK)} {ks : List (Nat × KSh)} {xs : List OpV} (hx : ∀ X ∈ xs, ∀ x ∈ X.cells, In kk x) {e : Cv} (he : conv A [] sl ks xs = some e) : KmIn kk e := by
  obtain ⟨p1, p2⟩ := cvSl_agree h (T := fun κ => (ks.find? (·.1 == κ)).map (·.2)) sl xs ⟨[], [], []⟩ hx (by intro κ κ' hh; simp [lookK] at hh)
  simp only [conv, Option.bind_eq_bind, Option.bind_eq_some_iff] at he
  obtain ⟨c1, h1, c2, h2, h3⟩ := he
  split at h3
  · simp at h3
  · simp only [Option.some.injEq] at h3
    subst h3
    exact (cvKs_agree h hcl ks c1 (p2 c1 h1)).2 c2 h2
theorem namesKs_in {sg : Sig} {dd : Nat} {c : Cv} (hc : KmIn kk c) : ∀ (l : List (Nat × KSh)) (nms : List (Nat × Nat)), namesKs sg dd c.km l = some nms →
    ∀ x ∈ nms, kk x.2 ∨ ∃ j < 64, x.2 = 200000 + dd * 64 + j
  | [], nms, h, x, hx => by simp only [namesKs, Option.some.injEq] at h; subst h; simp at hx
  | (κ, k) :: r, nms, h, x, hx => by
    simp only [namesKs, Option.bind_eq_bind, Option.bind_eq_some_iff, Option.some.injEq] at h
    obtain ⟨n, h1, ns, h2, rfl⟩ := h
    rcases List.mem_cons.1 hx with hx | hx
    · subst hx
      simp only
      unfold keyName at h1
      split at h1
      · split at h1
        · rename_i κ' hq
          simp only [Option.some.injEq] at h1
          subst h1
          exact .inl (hc _ _ hq)
        · simp at h1
      · split at h1
        · rename_i hlt
          simp only [Option.some.injEq] at h1
          exact .inr ⟨κ - inKey 0, hlt, h1.symm⟩
        · simp at h1
    · exact namesKs_in hc r ns h2 x hx
theorem namesFit_agree {sg : Sig} {km : List (Nat × Option Nat)} : ∀ (nms : List (Nat × Nat)) (l : List (Nat × KSh)), (∀ x ∈ nms, A.ks x.2 = A'.ks x.2) → namesFit A sg km nms l = namesFit A' sg km nms l
  | [], [], _ => rfl
  | [], _ :: _, _ => rfl
  | _ :: _, [], _ => rfl
  | (κ, n) :: r, (κ', k) :: r', h => by
    simp only [namesFit, nameFits, h (κ, n) (by simp), namesFit_agree r r' (fun x hx => h x (by simp [hx]))]
theorem stCall1_agree (h : Agree A A' ts kk) (hcl : Closed A kk) (hn : ∀ j < 64, A.ks (200000 + d.getD 1000000 * 64 + j) = A'.ks (200000 + d.getD 1000000 * 64 + j))
    {f : FuncId} {i : Nat} {sg : Sig} {args : List OpV} (hx : ∀ X ∈ args, ∀ x ∈ X.cells, In kk x) : stCall1 A cond d f i sg args = stCall1 A' cond d f i sg args := by
  simp only [stCall1, Option.bind_eq_bind]
  refine bind_agree (conv_agree h hcl hx) (fun c hc => ?_)
  have hin := conv_in h hcl hx hc
  split
  · rfl
  split
  · rfl
  refine bind_agree rfl (fun nms hnms => ?_)
  have hq := namesFit_agree (A := A) (A' := A') (sg := sg) (km := c.km) nms sg.outKs (fun x hx => by
    rcases namesKs_in hin _ _ hnms x hx with q | ⟨j, hj, q⟩
    · exact h.ks _ q
    · rw [q]; exact hn j hj)
  rw [hq]
  rfl
theorem stCalls_agree (h : Agree A A' ts kk) (hcl : Closed A kk) (hn : ∀ j < 64, A.ks (200000 + d.getD 1000000 * 64 + j) = A'.ks (200000 + d.getD 1000000 * 64 + j))
    {f : FuncId} {args : List OpV} (hx : ∀ X ∈ args, ∀ x ∈ X.cells, In kk x) : ∀ (l : List Sig) (i : Nat), stCalls A cond d f args i l = stCalls A' cond d f args i l
  | [], i => rfl
  | sg :: r, i => by
    simp only [stCalls, stCall1_agree h hcl hn hx, stCalls_agree h hcl hn hx r]
theorem mapM_agree {α γ : Type} {f g : α → Option γ} : ∀ (l : List α), (∀ x ∈ l, f x = g x) → l.mapM f = l.mapM g
  | [], _ => rfl
  | x :: r, h => by
    simp only [List.mapM_cons, h x (by simp), mapM_agree r (fun y hy => h y (by simp [hy]))]
theorem opC_mapM_agree (h : Agree A A' ts kk) {l : List Operand} (hx : ∀ x ∈ l, opIn ts x) : l.mapM (opC A cond) = l.mapM (opC A' cond) :=
  mapM_agree l (fun x hx' => opC_agree h (hx x hx'))
theorem opV_mapM_agree (h : Agree A A' ts kk) {l : List Operand} (hx : ∀ x ∈ l, opIn ts x) : l.mapM (opV A cond) = l.mapM (opV A' cond) :=
  mapM_agree l (fun x hx' => opV_agree h (hx x hx'))
theorem opV_mapM_in (h : Agree A A' ts kk) : ∀ (l : List Operand) (vs : List OpV), (∀ x ∈ l, opIn ts x) → l.mapM (opV A cond) = some vs → ∀ X ∈ vs, ∀ x ∈ X.cells, In kk x
  | [], vs, _, hv, X, hX => by simp at hv; subst hv; simp at hX
  | y :: r, vs, hx, hv, X, hX => by
    simp only [List.mapM_cons, Option.bind_eq_bind, Option.bind_eq_some_iff, Option.pure_def, Option.some.injEq] at hv
    obtain ⟨v, h1, vs', h2, rfl⟩ := hv
    rcases List.mem_cons.1 hX with hX | hX
    · subst hX; exact opV_in h (hx y (by simp)) h1
    · exact opV_mapM_in h r vs' (fun x hx' => hx x (by simp [hx'])) h2 X hX
theorem buildCs_agree (h : Agree A A' ts kk) {t : TypeId} : ∀ (ps : List (Nat × Operand)) (cs : List CE), (∀ p ∈ ps, opIn ts p.2) → buildCs E A cond t ps cs = buildCs E A' cond t ps cs
  | [], cs, _ => rfl
  | p :: r, cs, hx => by
    simp only [buildCs, opC_agree h (hx p (by simp)), Option.bind_eq_bind]
    refine bind_agree rfl (fun q _ => ?_)
    refine bind_agree rfl (fun q2 _ => ?_)
    split
    · rfl
    split
    · exact buildCs_agree h r _ (fun p hp => hx p (by simp [hp]))
    · rfl
theorem sliceEs_agree (h : Agree A A' ts kk) {lv : List Ty} : ∀ (ps : List (Nat × Operand)) (i : Nat), (∀ p ∈ ps, opIn ts p.2) → sliceEs A cond lv i ps = sliceEs A' cond lv i ps
  | [], i, _ => rfl
  | p :: r, i, hx => by
    simp only [sliceEs, opC_agree h (hx p (by simp)), Option.bind_eq_bind]
    split
    · rfl
    refine bind_agree rfl (fun q hq => ?_)
    have hin := opC_in h (hx p (by simp)) (by rw [opC_agree h (hx p (by simp))]; exact hq)
    rw [asTs_agree h q.2 lv hin, sliceEs_agree h r (i + 1) (fun p hp => hx p (by simp [hp]))]
theorem stCall_agree (h : Agree A A' ts kk) (hcl : Closed A kk) (hn : ∀ j < 64, A.ks (200000 + d.getD 1000000 * 64 + j) = A'.ks (200000 + d.getD 1000000 * 64 + j))
    {f : FuncId} {args : List OpV} (hx : ∀ X ∈ args, ∀ x ∈ X.cells, In kk x) : stCall E A cond d f args = stCall E A' cond d f args := by
  simp only [stCall, stCalls_agree h hcl hn hx]
theorem stat_agree {o : Oper} (h : Agree A A' ts kk) (hcl : isCallV o = true → Closed A kk) (hd : ∀ i, o.dst = some i → kk i) (hn : ∀ j < 64, A.ks (200000 + o.dst.getD 1000000 * 64 + j) = A'.ks (200000 + o.dst.getD 1000000 * 64 + j))
    (hx : ∀ x ∈ o.op.operands, opIn ts x) : stat E A cond o = stat E A' cond o := by
  obtain ⟨dst, op, type, pos, after, guard⟩ := o
  simp only at hd hn hx
  cases op <;> simp only [Op.operands] at hx <;> simp only [stat, Option.bind_eq_bind, later]
  case move x => rw [opV_agree h (hx x (by simp))]
  case assign x => rw [opV_agree h (hx x (by simp))]
  case pick c a b =>
    rw [opT_agree h (hx c (by simp)), op1_agree h (hx a (by simp)), op1_agree h (hx b (by simp))]
  case alloc t => simp only [newK_agree h hd]
  case box t x =>
    rw [opC_agree h (hx x (by simp))]
    refine bind_agree rfl (fun r hr => ?_)
    have hin := opC_in h (hx x (by simp)) (by rw [opC_agree h (hx x (by simp))]; exact hr)
    refine bind_agree rfl (fun dd _ => ?_)
    simp only [newK_agree h hd, asTs_agree h r.2 _ hin]
  case build t parts =>
    refine bind_agree rfl (fun r hr => ?_)
    simp only [buildCs_agree h parts.toList r.2 (fun p hp => hx p.2 (by simp; exact ⟨p.1, by simpa using hp⟩))]
  case buildSlice t len parts =>
    simp only [newK_agree h hd, sliceEs_agree h parts.toList 0 (fun p hp => hx p.2 (by simp; exact ⟨p.1, by simpa using hp⟩))]
  case load t a =>
    have ha := hx a (by simp)
    cases a with
    | global g => rfl
    | tmp t' =>
      simp only
      refine bind_agree (op1_agree h ha) (fun c hc => ?_)
      exact stLoad_agree h (op1_in h ha hc)
    | const v =>
      simp only
      refine bind_agree (op1_agree h ha) (fun c hc => ?_)
      exact stLoad_agree h (op1_in h ha hc)
    | func f =>
      simp only
      refine bind_agree (op1_agree h ha) (fun c hc => ?_)
      exact stLoad_agree h (op1_in h ha hc)
  case store t a x =>
    rw [opC_agree h (hx x (by simp))]
    refine bind_agree (op1_agree h (hx a (by simp))) (fun c hc => ?_)
    refine bind_agree rfl (fun v hv => ?_)
    exact stStore_agree h (op1_in h (hx a (by simp)) hc) (opC_in h (hx x (by simp)) (by rw [opC_agree h (hx x (by simp))]; exact hv))
  case nilCheck x =>
    refine bind_agree (op1_agree h (hx x (by simp))) (fun c hc => ?_)
    rw [liveC_agree h (op1_in h (hx x (by simp)) hc)]
  case binOp op t x y yt => exact stBin_agree h (hx x (by simp)) (hx y (by simp))
  case unOp op t x => rw [op1_agree h (hx x (by simp))]
  case convert s t x => rw [stS2b_agree h hd (hx x (by simp)), stB2b_agree h (hx x (by simp)), stConv_agree h (hx x (by simp))]
  case makeFunc fn first captured =>
    cases fn <;> try rfl
    simp only [opC_mapM_agree h (l := first.toList) (fun x hx' => hx x (by simp at hx'; simp [hx'])), opC_mapM_agree h (l := captured.toList) (fun x hx' => hx x (by simp at hx'; simp [hx']))]
  case makeSlice t l c => exact stMake_agree h hd (hx l (by simp)) (hx c (by simp))
  case slice t x lo hi mx =>
    cases mx with
    | some m => rfl
    | none => exact stSlice_agree h (hx x (by simp)) (fun y hy => hx y (by simp [hy])) (fun y hy => hx y (by simp [hy]))
  case fieldAddr t x f =>
    refine bind_agree rfl (fun r _ => ?_)
    refine bind_agree rfl (fun n _ => ?_)
    split
    · rfl
    refine bind_agree (op1_agree h (hx x (by simp))) (fun c hc => ?_)
    rw [liveC_agree h (op1_in h (hx x (by simp)) hc)]
  case field t x f => rw [opC_agree h (hx x (by simp))]
  case indexAddr t x ix => exact stIndexAddr_agree h (hx x (by simp)) (hx ix (by simp))
  case index t x ix =>
    simp only [opX_agree h (hx ix (by simp)), opT_agree h (hx x (by simp))]
    refine bind_agree rfl (fun i _ => ?_)
    refine bind_agree rfl (fun dd _ => ?_)
    cases dd <;> try rfl
    exact stIndexArr_agree h (hx x (by simp))
  case extract x i => rw [opV_agree h (hx x (by simp))]
  case call c =>
    have hargs : ∀ x ∈ c.args, opIn ts x := fun x hx' => hx x (by simp [Call.operands, hx'])
    cases hc : c.callee with
    | value g =>
      have hg : opIn ts g := hx g (by simp [Call.operands, hc])
      simp only
      refine bind_agree (opV_agree h hg) (fun gv hgv => ?_)
      have hgin := opV_in h hg hgv
      cases gv with
      | val _ _ => rfl
      | tup _ => rfl
      | clo f nf vs =>
        simp only
        refine bind_agree (opV_mapM_agree h (l := c.args.toList) (fun x hx' => hargs x (by simpa using hx'))) (fun as has => ?_)
        have hain := opV_mapM_in h c.args.toList as (fun x hx' => hargs x (by simpa using hx')) has
        refine stCall_agree h (hcl (by simp [isCallV, hc])) hn (fun X hX => ?_)
        have hw : ∀ X ∈ (vs.map fun v => OpV.val v.1 v.2), ∀ x ∈ X.cells, In kk x := by
          intro X hX
          obtain ⟨v, hv, rfl⟩ := List.mem_map.1 hX
          intro x hx'
          exact hgin x (by simp only [OpV.cells, List.mem_flatMap]; exact ⟨v, hv, hx'⟩)
        rcases List.mem_append.1 hX with hX | hX
        · rcases List.mem_append.1 hX with hX | hX
          · exact hw X (List.mem_of_mem_take hX)
          · exact hain X hX
        · exact hw X (List.mem_of_mem_drop hX)
    | invoke r m => rfl
    | builtin b =>
      cases b <;> try rfl
      case append =>
        simp only
        split
        · rename_i x y t t2 _ heq _
          exact stAppend_agree h hd (hargs x (by rw [← Array.mem_toList_iff, heq]; simp)) (hargs y (by rw [← Array.mem_toList_iff, heq]; simp))
        · rfl
      case len =>
        simp only
        split
        · rename_i x t _ heq _
          exact stLen_agree h (hargs x (by rw [← Array.mem_toList_iff, heq]; simp))
        · rfl
      case copy =>
        simp only
        split
        · rename_i x y t _ heq _
          exact stCopy_agree h (hargs x (by rw [← Array.mem_toList_iff, heq]; simp)) (hargs y (by rw [← Array.mem_toList_iff, heq]; simp))
        · rfl
      case min =>
        simp only
        split
        · rename_i x y heq
          simp only [opI_agree h (hargs x (by rw [← Array.mem_toList_iff, heq]; simp)), opI_agree h (hargs y (by rw [← Array.mem_toList_iff, heq]; simp))]
        · rfl
      case max =>
        simp only
        split
        · rename_i x y heq
          simp only [opI_agree h (hargs x (by rw [← Array.mem_toList_iff, heq]; simp)), opI_agree h (hargs y (by rw [← Array.mem_toList_iff, heq]; simp))]
        · rfl
end
end Rk
set_option linter.unusedVariables false
set_option linter.unusedSimpArgs false
namespace Rk
open Go
section
variable {α β W : Type}
def ov (put : (α → β) → W → α → β) (X : Nat → Bool) : Nat → List W → (α → β) → (α → β)
  | _, [], f => f
  | k, w :: r, f => ov put X (k + 1) r (if X k then put f w else f)
structure PutOk (put : (α → β) → W → α → β) (wr : W → α → Prop) : Prop where
  not : ∀ f w x, ¬ wr w x → put f w x = f x
  same : ∀ f g w x, wr w x → put f w x = put g w x
variable {put : (α → β) → W → α → β} {wr : W → α → Prop}
theorem ov_congr (hp : PutOk put wr) (x : α) {X Y : Nat → Bool} : ∀ (l : List W) (k : Nat) (f g : α → β), f x = g x → (∀ i w, l[i]? = some w → wr w x → X (k + i) = Y (k + i)) → ov put X k l f x = ov put Y k l g x
  | [], k, f, g, hf, h => hf
  | w :: r, k, f, g, hf, h => by
    simp only [ov]
    refine ov_congr hp x r (k + 1) _ _ ?_ (fun i w' hi hw => by have := h (i + 1) w' (by simpa using hi) hw; rw [show k + 1 + i = k + (i + 1) by omega]; exact this)
    by_cases hw : wr w x
    · have := h 0 w (by simp) hw
      simp only [Nat.add_zero] at this
      rw [this]
      split
      · exact hp.same _ _ _ _ hw
      · exact hf
    · have e1 : (if X k then put f w else f) x = f x := by split; exact hp.not _ _ _ hw; rfl
      have e2 : (if Y k then put g w else g) x = g x := by split; exact hp.not _ _ _ hw; rfl
      rw [e1, e2, hf]
theorem ov_not (hp : PutOk put wr) (x : α) {X : Nat → Bool} : ∀ (l : List W) (k : Nat) (f : α → β), (∀ i w, l[i]? = some w → X (k + i) = true → ¬ wr w x) → ov put X k l f x = f x
  | [], k, f, h => rfl
  | w :: r, k, f, h => by
    simp only [ov]
    rw [ov_not hp x r (k + 1) _ (fun i w' hi hX => h (i + 1) w' (by simpa using hi) (by rw [show k + (i + 1) = k + 1 + i by omega]; exact hX))]
    split
    · rename_i hX
      exact hp.not _ _ _ (h 0 w (by simp) hX)
    · rfl
theorem ov_add (hp : PutOk put wr) {X Y : Nat → Bool} (x : α) (i : Nat) (w : W) : ∀ (l : List W) (k : Nat) (f : α → β), l[i]? = some w → X (k + i) = false → Y (k + i) = true →
    (∀ j, j ≠ k + i → Y j = X j) → (∀ j w', l[j]? = some w' → i < j → X (k + j) = true → wr w' x → ¬ wr w x) → ov put Y k l f x = put (ov put X k l f) w x := by
  intro l k f hi hX hY hXY h
  by_cases hw : wr w x
  · -- split at i
    have key : ∀ (m : List W) (k i : Nat) (f g : α → β), m[i]? = some w → Y (k + i) = true → (∀ j w', m[j]? = some w' → i < j → Y (k + j) = true → ¬ wr w' x) → ov put Y k m f x = put g w x := by
      clear hi hX hY hXY h
      intro m
      induction m with
      | nil => intro k i f g hi; simp at hi
      | cons w0 r ih =>
        intro k i f g hi hY hh
        simp only [ov]
        cases i with
        | zero =>
          simp only [List.getElem?_cons_zero, Option.some.injEq] at hi
          subst hi
          simp only [Nat.add_zero] at hY
          rw [hY, if_pos rfl]
          rw [ov_not hp x r (k + 1) _ (fun j w' hj hX => hh (j + 1) w' (by simpa using hj) (by omega) (by rw [show k + (j + 1) = k + 1 + j by omega]; exact hX))]
          exact hp.same _ _ _ _ hw
        | succ i =>
          exact ih (k + 1) i _ g (by simpa using hi) (by rw [show k + 1 + i = k + (i + 1) by omega]; exact hY) (fun j w' hj hij hX => hh (j + 1) w' (by simpa using hj) (by omega) (by rw [show k + (j + 1) = k + 1 + j by omega]; exact hX))
    exact key l k i f _ hi hY (fun j w' hj hij hYj hwj => h j w' hj hij (by rw [← hXY (k + j) (by omega)]; exact hYj) hwj hw)
  · rw [hp.not _ _ _ hw]
    refine ov_congr hp x l k f f rfl (fun j w' hj hwj => hXY _ (fun e => ?_))
    have : j = i := by omega
    subst this
    rw [hi] at hj
    simp only [Option.some.injEq] at hj
    subst hj
    exact hw hwj
theorem ov_all (hp : PutOk put wr) {X : Nat → Bool} (l : List W) (k : Nat) (f : α → β) (h : ∀ i, i < l.length → X (k + i) = true) : ov put X k l f = ov put (fun _ => true) k l f := by
  funext x
  refine ov_congr hp x l k f f rfl (fun i w hi _ => ?_)
  exact h i (List.getElem?_eq_some_iff.1 hi).1
end
theorem putSl_ok : PutOk (fun f (w : List (Nat × Slot)) => putSl f w) (fun w x => ∃ y ∈ w, y.1 = x) := by
  constructor
  · intro f w x
    induction w generalizing f with
    | nil => intro _; rfl
    | cons y r ih =>
      intro h
      obtain ⟨i, s⟩ := y
      simp only [putSl]
      rw [ih _ (fun ⟨z, hz, e⟩ => h ⟨z, by simp [hz], e⟩)]
      exact if_neg (fun e => h ⟨(i, s), by simp, e.symm⟩)
  · intro f g w x
    induction w generalizing f g with
    | nil => rintro ⟨y, hy, _⟩; simp at hy
    | cons y r ih =>
      rintro ⟨z, hz, e⟩
      obtain ⟨i, s⟩ := y
      simp only [putSl]
      by_cases hr : ∃ y ∈ r, y.1 = x
      · exact ih _ _ hr
      · have hnot : ∀ (f : Nat → Slot), putSl f r x = f x := by
          intro f
          clear ih
          induction r generalizing f with
          | nil => rfl
          | cons y r ih =>
            obtain ⟨j, s'⟩ := y
            simp only [putSl]
            rw [ih (by rcases List.mem_cons.1 hz with hz | hz; exact List.mem_cons.2 (.inl hz); rcases List.mem_cons.1 hz with hz | hz; exact absurd ⟨z, by simp [hz], e⟩ hr; exact List.mem_cons.2 (.inr hz)) (fun ⟨q, hq, e⟩ => hr ⟨q, by simp [hq], e⟩)]
            exact if_neg (fun e => hr ⟨(j, s'), by simp, e.symm⟩)
        rw [hnot, hnot]
        rcases List.mem_cons.1 hz with hz | hz
        · subst hz; simp only at e; simp [e]
        · exact absurd ⟨z, hz, e⟩ hr
theorem putKs_ok : PutOk (fun f (w : List (Nat × KSh)) => putKs f w) (fun w x => ∃ y ∈ w, y.1 = x) := by
  have hnot : ∀ (w : List (Nat × KSh)) (f : Nat → Option KSh) (x : Nat), (¬ ∃ y ∈ w, y.1 = x) → putKs f w x = f x := by
    intro w f x h
    exact putKs_not w f x (fun y hy e => h ⟨y, hy, e⟩)
  refine ⟨fun f w x h => hnot w f x h, ?_⟩
  intro f g w x
  induction w generalizing f g with
  | nil => rintro ⟨y, hy, _⟩; simp at hy
  | cons y r ih =>
    rintro ⟨z, hz, e⟩
    obtain ⟨i, s⟩ := y
    simp only [putKs]
    by_cases hr : ∃ y ∈ r, y.1 = x
    · exact ih _ _ hr
    · simp only [hnot r _ x hr]
      rcases List.mem_cons.1 hz with hz | hz
      · subst hz; simp only at e; simp [e]
      · exact absurd ⟨z, hz, e⟩ hr
theorem updS_ok : PutOk (fun f (w : List (Loc × Dyn)) => updS f w) (fun w x => ∃ y ∈ w, y.1 = x) := by
  refine ⟨fun f w x h => updS_not w (fun y hy e => h ⟨y, hy, e⟩), ?_⟩
  intro f g w x
  induction w with
  | nil => rintro ⟨y, hy, _⟩; simp at hy
  | cons y r ih =>
    rintro ⟨z, hz, e⟩
    obtain ⟨i, s⟩ := y
    simp only [updS]
    by_cases hx : x = i
    · simp [hx]
    · rw [if_neg hx, if_neg hx]
      rcases List.mem_cons.1 hz with hz | hz
      · subst hz; exact absurd e.symm hx
      · exact ih ⟨z, hz, e⟩
theorem ev_agree {ρ ρ' : Rho} : ∀ (e : PE), (∀ l ∈ e.locs, ρ l = ρ' l) → ∀ t, e.ev ρ t = e.ev ρ' t := by
  intro e
  induction e <;> intro h t <;> simp only [PE.locs, List.mem_append, List.mem_singleton] at h <;> simp only [PE.ev]
  case loc l => rw [h l rfl]
  case ar op k k2 a b iha ihb => simp only [iha (fun l hl => h l (.inl hl)), ihb (fun l hl => h l (.inr hl))]
  case cmpI op k a b iha ihb => simp only [iha (fun l hl => h l (.inl hl)), ihb (fun l hl => h l (.inr hl))]
  case cmpS op a b iha ihb => simp only [iha (fun l hl => h l (.inl hl)), ihb (fun l hl => h l (.inr hl))]
  case cmpB op a b iha ihb => simp only [iha (fun l hl => h l (.inl hl)), ihb (fun l hl => h l (.inr hl))]
  case neg k a ih => simp only [ih h]
  case com k a ih => simp only [ih h]
  case not a ih => simp only [ih h]
  case conv k a ih => simp only [ih h]
  case cat a b iha ihb => simp only [iha (fun l hl => h l (.inl hl)), ihb (fun l hl => h l (.inr hl))]
  case slen a ih => simp only [ih h]
  case sidx a b iha ihb => simp only [iha (fun l hl => h l (.inl hl)), ihb (fun l hl => h l (.inr hl))]
  case ssub a b c iha ihb ihc => simp only [iha (fun l hl => h l (.inl (.inl hl))), ihb (fun l hl => h l (.inl (.inr hl))), ihc (fun l hl => h l (.inr hl))]
  case llen t' a ih => simp only [ih h]
  case lidx a b iha ihb => simp only [iha (fun l hl => h l (.inl hl)), ihb (fun l hl => h l (.inr hl))]
  case lsub a b c iha ihb ihc => simp only [iha (fun l hl => h l (.inl (.inl hl))), ihb (fun l hl => h l (.inl (.inr hl))), ihc (fun l hl => h l (.inr hl))]
  case lapp a b iha ihb => simp only [iha (fun l hl => h l (.inl hl)), ihb (fun l hl => h l (.inr hl))]
  case lset a b c iha ihb ihc => simp only [iha (fun l hl => h l (.inl (.inl hl))), ihb (fun l hl => h l (.inl (.inr hl))), ihc (fun l hl => h l (.inr hl))]
  case one a ih => simp only [ih h]
  case lrep a b iha ihb => simp only [iha (fun l hl => h l (.inl hl)), ihb (fun l hl => h l (.inr hl))]
  case b2s a ih => simp only [ih h]
  case s2b a ih => simp only [ih h]
  case fst u a ih => simp only [ih h]
  case snd u a ih => simp only [ih h]
  case pair a b iha ihb => simp only [iha (fun l hl => h l (.inl hl)), ihb (fun l hl => h l (.inr hl))]
  case ite a b c iha ihb ihc => simp only [iha (fun l hl => h l (.inl (.inl hl))), ihb (fun l hl => h l (.inl (.inr hl))), ihc (fun l hl => h l (.inr hl))]
  case and a b iha ihb => simp only [iha (fun l hl => h l (.inl hl)), ihb (fun l hl => h l (.inr hl))]
  case imp a b iha ihb => simp only [iha (fun l hl => h l (.inl hl)), ihb (fun l hl => h l (.inr hl))]
  case plus a b iha ihb => simp only [iha (fun l hl => h l (.inl hl)), ihb (fun l hl => h l (.inr hl))]
  case minus a b iha ihb => simp only [iha (fun l hl => h l (.inl hl)), ihb (fun l hl => h l (.inr hl))]
  case minI k a b iha ihb => simp only [iha (fun l hl => h l (.inl hl)), ihb (fun l hl => h l (.inr hl))]
  case maxI k a b iha ihb => simp only [iha (fun l hl => h l (.inl hl)), ihb (fun l hl => h l (.inr hl))]
theorem allB_agree {ρ ρ' : Rho} : ∀ (l : List PE), (∀ x ∈ l.flatMap PE.locs, ρ x = ρ' x) → allB ρ l = allB ρ' l
  | [], _ => rfl
  | e :: r, h => by
    simp only [List.flatMap_cons, List.mem_append] at h
    simp only [allB, PE.evB, ev_agree e (fun l hl => h l (.inl hl)), allB_agree r (fun x hx => h x (.inr hx))]
theorem evs_agree {ρ ρ' : Rho} : ∀ (l : List (Loc × Ty × PE)), (∀ x ∈ l.flatMap (fun x => x.2.2.locs), ρ x = ρ' x) → evs ρ l = evs ρ' l
  | [], _ => rfl
  | e :: r, h => by
    simp only [List.flatMap_cons, List.mem_append] at h
    have := evs_agree r (fun x hx => h x (.inr hx))
    simp only [evs] at this ⊢
    simp only [List.map_cons, this, ev_agree e.2.2 (fun l hl => h l (.inl hl))]
theorem dyns_agree {ρ ρ' : Rho} : ∀ (l : List (Ty × PE)), (∀ x ∈ l.flatMap (fun x => x.2.locs), ρ x = ρ' x) → dyns ρ l = dyns ρ' l
  | [], _ => rfl
  | e :: r, h => by
    simp only [List.flatMap_cons, List.mem_append] at h
    have := dyns_agree r (fun x hx => h x (.inr hx))
    simp only [dyns] at this ⊢
    simp only [List.map_cons, this, ev_agree e.2 (fun l hl => h l (.inl hl))]
def effLocs (e : Eff) : List Loc := e.chk.flatMap PE.locs ++ e.sets.flatMap (fun x => x.2.2.locs) ++ callLocs e.call
theorem runE_writes {call : CallF} {e : Eff} {ρ ρ1 : Rho} (h : runE call e ρ = some ρ1) :
    ∃ U : List (Loc × Dyn), ρ1 = updS ρ U ∧ (∀ y ∈ U, y.1 ∈ e.sets.map (·.1) ++ callOuts e.call) ∧ ∀ ρ2, (∀ l ∈ effLocs e, ρ2 l = ρ l) → runE call e ρ2 = some (updS ρ2 U) := by
  unfold runE at h
  cases hb : allB ρ e.chk with
  | false => simp [hb] at h
  | true =>
    simp only [hb, cond_true] at h
    have hag : ∀ ρ2, (∀ l ∈ effLocs e, ρ2 l = ρ l) → allB ρ2 e.chk = true := by
      intro ρ2 h2
      rw [← hb]
      exact allB_agree _ (fun x hx => h2 x (by simp only [effLocs, List.mem_append]; exact .inl (.inl hx)))
    cases hc : e.call with
    | none =>
      simp only [hc, Option.some.injEq] at h
      refine ⟨evs ρ e.sets, h.symm, fun y hy => ?_, fun ρ2 h2 => ?_⟩
      · obtain ⟨x, hx, hxy⟩ := mem_evs hy
        simp only [List.mem_append, List.mem_map]
        exact .inl ⟨x, hx, hxy.symm⟩
      · simp only [runE, hag ρ2 h2, cond_true, hc, Option.some.injEq]
        rw [evs_agree e.sets (fun x hx => h2 x (by simp only [effLocs, List.mem_append]; exact .inl (.inr hx)))]
    | some c =>
      simp only [hc] at h
      have hcond : ∀ ρ2, (∀ l ∈ effLocs e, ρ2 l = ρ l) → allB ρ2 c.cond = allB ρ c.cond ∧ dyns ρ2 c.args = dyns ρ c.args := by
        intro ρ2 h2
        have key : ∀ x ∈ c.cond.flatMap PE.locs ++ c.args.flatMap (fun x => x.2.locs), ρ2 x = ρ x := by
          intro x hx
          refine h2 x ?_
          simp only [effLocs, hc, callLocs, List.mem_append] at hx ⊢
          exact .inr hx
        simp only [List.mem_append] at key
        exact ⟨allB_agree _ (fun x hx => key x (.inl hx)), dyns_agree _ (fun x hx => key x (.inr hx))⟩
      cases hcb : allB ρ c.cond with
      | false =>
        simp only [hcb, cond_false, Option.some.injEq] at h
        refine ⟨_, h.symm, fun y hy => ?_, fun ρ2 h2 => ?_⟩
        · obtain ⟨x, hx, rfl⟩ := List.mem_map.1 hy
          simp only [callOuts, List.mem_append, List.mem_map]
          exact .inr ⟨x, hx, rfl⟩
        · simp only [runE, hag ρ2 h2, cond_true, hc, (hcond ρ2 h2).1, hcb, cond_false]
      | true =>
        simp only [hcb, cond_true, Option.bind_eq_some_iff, Option.some.injEq] at h
        obtain ⟨o, ho, rfl⟩ := h
        refine ⟨_, rfl, fun y hy => ?_, fun ρ2 h2 => ?_⟩
        · have := mem_zipP _ _ _ hy
          simp only [callOuts, List.mem_append]
          exact .inr this
        · simp only [runE, hag ρ2 h2, cond_true, hc, (hcond ρ2 h2).1, hcb, (hcond ρ2 h2).2, ho, Option.bind_some]
end Rk
set_option linter.unusedVariables false
set_option linter.unusedSimpArgs false
namespace Rk
open Go
section
variable {E : Env} {C : Ctx} {sl : Nat → Slot} {ks : Nat → Option KSh} {ρ : Rho} {β : Nat → Option Nat} {a : Act} {w : World}
theorem Rel.drawn (h : Rel C sl ks ρ β a w) (n : Nat) : Rel C sl ks ρ β a { w with drawn := n } := by
  refine Rel.upd h (fun _ => False) (fun _ => False) (fun κ _ => ⟨rfl, rfl, fun _ => rfl⟩) (fun i _ => ⟨rfl, fun _ => rfl, rfl⟩) (fun _ _ _ _ h => h) (fun _ h => h.elim) (fun _ _ _ => rfl) (Nat.le_refl _) rfl rfl rfl
    (fun _ _ h => h.elim) (fun _ _ _ h => h.elim) (fun _ _ h => h.elim) (fun _ h => h.elim) rfl rfl (fun _ => rfl) (fun _ _ h => h.elim)
theorem InReg.mono {seen seen' : List Nat} (h : InReg sl ρ a seen) (hs : ∀ x ∈ seen, x ∈ seen') : InReg sl ρ a seen' := ⟨fun i y hy => hs _ (h.seen i y hy), h.undef⟩
theorem oper_ok {call : CallF} (hS : StepSound E C call) {ops : Array Oper} {o : Oper} {ρ1 : Rho} {seen : List Nat} {c : Cond} {e : Eff} (h : Rel C sl ks ρ β a w) (hI : InReg sl ρ a seen)
    (hc : guardC ⟨sl, ks⟩ ops o = some c) (he : stat E ⟨sl, ks⟩ c o = some e) (hok : okEff C.nt seen ⟨sl, ks⟩ c o e = true) (hr1 : runE call e ρ = some ρ1)
    {Q : Exit → Act → World → Prop} {K : Act → World → Prop}
    (hK : ∀ β' a' w', Rel C (putSl sl e.sl) (putKs ks e.ks) ρ1 β' a' w' → InReg (putSl sl e.sl) ρ1 a' (o.dst.toList ++ seen) → K a' w') :
    if Region.wanted o (yielded ops a.tmps) then o.wp C.P a w K Q ∨ (o.asks C.P a w ∧ LetsOut Q) else K (a.put o.dst undef) w := by
  obtain ⟨k1, k2, k3, k4, k5, k6, k7, k8⟩ := okEff_spec hok
  have hd : DstOk C sl o.dst := fun d hd => ⟨(k1 d hd).1.1, fun j y hy e => (k1 d hd).1.2 (by rw [← e]; exact hI.seen j y hy)⟩
  obtain ⟨gw1, gw2⟩ := guard_ok h hI (ops := ops) (o := o) (c := c) hc
  have hcond : ∀ cc : Cond, (∀ y ∈ cc, y.1 ∈ seen) → (condOk ρ1 cc ↔ condOk ρ cc) := by
    intro cc hcc
    have key : ∀ y ∈ cc, ρ1 (.s y.1 0) = ρ (.s y.1 0) := fun y hy => runE_other hr1 k5 k6 (fun hdd => (k1 _ hdd).1.2 (hcc y hy)) 0
    constructor <;> intro hcc' y hy
    · rw [← key y hy]; exact hcc' y hy
    · rw [key y hy]; exact hcc' y hy
  have goes : ∀ (v : Value) (w1 : World), (∃ β', Rel C (putSl sl e.sl) (putKs ks e.ks) ρ1 β' (a.put o.dst v) w1) → (condOk ρ c ∨ v = undef) → K (a.put o.dst v) w1 := by
    rintro v w1 ⟨β', hrel⟩ hv
    refine hK β' (a.put o.dst v) w1 hrel ?_
    have hslots : ∀ i, (o.dst ≠ some i ∧ putSl sl e.sl i = sl i) ∨ (o.dst = some i ∧ (putSl sl e.sl i).cond = c) := by
      intro i
      have gen : ∀ (l : List (Nat × Slot)) (sl : Nat → Slot), (∀ x ∈ l, x.2.cond = c ∧ o.dst = some x.1) → (((∀ x ∈ l, x.1 ≠ i) ∧ putSl sl l i = sl i) ∨ (o.dst = some i ∧ (putSl sl l i).cond = c)) := by
        intro l
        induction l with
        | nil => intro sl _; exact .inl ⟨by simp, rfl⟩
        | cons x r ih =>
          intro sl hx
          obtain ⟨j, s⟩ := x
          simp only [putSl]
          rcases ih (fun x => if x = j then s else sl x) (fun y hy => hx y (by simp [hy])) with ⟨q0, q⟩ | q
          · by_cases hij : i = j
            · right
              obtain ⟨g1, g2⟩ := hx (j, s) (by simp)
              refine ⟨by rw [hij]; exact g2, ?_⟩
              have g1' : s.cond = c := g1
              rw [q, if_pos hij]; exact g1'
            · left
              refine ⟨fun x hx => ?_, by rw [q]; simp [hij]⟩
              rcases List.mem_cons.1 hx with hx | hx
              · rw [hx]; exact fun e => hij e.symm
              · exact q0 x hx
          · exact .inr q
      rcases gen e.sl _ (fun x hx => ⟨(k3 x hx).1, (k3 x hx).2.1⟩) with ⟨q0, q⟩ | q
      · refine .inl ⟨fun hdi => ?_, q⟩
        obtain ⟨x, hx, hxi⟩ := (k1 i hdi).2
        exact q0 x hx hxi
      · exact .inr q
    refine ⟨fun i y hy => ?_, fun i hno => ?_⟩
    · rcases hslots i with ⟨_, q⟩ | ⟨q1, q2⟩
      · rw [q] at hy
        simp [hI.seen i y hy]
      · rw [q2] at hy
        simp [k2 y hy]
    · rcases hslots i with ⟨hdi, q⟩ | ⟨q1, q2⟩
      · rw [q] at hno
        have hno' : ¬ condOk ρ (sl i).cond := fun hh => hno ((hcond _ (hI.seen i)).2 hh)
        have hu := hI.undef i hno'
        cases hod : o.dst with
        | none => exact hu
        | some d =>
          rw [put_other a d v i (fun e => hdi (by rw [hod, e]))]
          exact hu
      · rw [q2] at hno
        have hno' : ¬ condOk ρ c := fun hh => hno ((hcond _ k2).2 hh)
        rcases hv with hv | hv
        · exact absurd hv hno'
        · rw [q1, hv]
          by_cases hlt : i < a.tmps.size
          · exact put_same a i _ hlt
          · simp only [Act.put, Array.getD_eq_getD_getElem?, Array.getElem?_setIfInBounds]
            simp [hlt]
  by_cases hcc : condOk ρ c
  · have hgood := hS (e := e) h hd hcc he hr1 k8
    rw [if_pos (gw1 hcc)]
    left
    refine (Good.form hgood (fun a' w' ⟨β', hrel⟩ => hrel.dfr)) _ _ (fun a' w' => ?_)
    rintro ⟨⟨v, rfl⟩, hrel⟩
    exact goes v w' hrel (.inl hcc)
  · rw [if_neg (by rw [gw2 hcc]; simp)]
    refine goes undef w ?_ (.inr rfl)
    rcases k7 with k7 | k7
    · exact absurd (fun x hx => by rw [k7] at hx; simp at hx) hcc
    · exact skip_ok h hd hcc k7 (fun x hx => ⟨(k3 x hx).1, (k3 x hx).2.1⟩) hr1
end
abbrev pS := fun (f : Nat → Slot) (w : List (Nat × Slot)) => putSl f w
abbrev pK := fun (f : Nat → Option KSh) (w : List (Nat × KSh)) => putKs f w
abbrev pU := fun (f : Rho) (w : List (Loc × Dyn)) => updS f w
theorem ov_shift {α β W : Type} (put : (α → β) → W → α → β) (X : Nat → Bool) : ∀ (l : List W) (k : Nat) (f : α → β), ov put X (k + 1) l f = ov put (fun j => X (j + 1)) k l f
  | [], _, _ => rfl
  | w :: r, k, f => by simp only [ov]; rw [ov_shift put X r (k + 1)]
theorem ov_never {α β W : Type} (put : (α → β) → W → α → β) : ∀ (l : List W) (k : Nat) (f : α → β), ov put (fun _ => false) k l f = f
  | [], _, _ => rfl
  | w :: r, k, f => by simp only [ov]; exact ov_never put r _ _
def pre (i : Nat) : Nat → Bool := fun j => decide (j < i)
theorem ov_pre_zero {α β W : Type} (put : (α → β) → W → α → β) (l : List W) (f : α → β) : ov put (pre 0) 0 l f = f := by
  have : pre 0 = fun _ => false := by funext j; simp [pre]
  rw [this, ov_never]
theorem ov_pre_succ {α β W : Type} (put : (α → β) → W → α → β) (w : W) (l : List W) (i : Nat) (f : α → β) : ov put (pre (i + 1)) 0 (w :: l) f = ov put (pre i) 0 l (put f w) := by
  simp only [ov]
  rw [ov_shift]
  have h0 : pre (i + 1) 0 = true := by simp [pre]
  rw [h0, if_pos rfl]
  congr 1
  funext j
  simp [pre]
theorem ov_true_cons {α β W : Type} (put : (α → β) → W → α → β) (w : W) (l : List W) (f : α → β) : ov put (fun _ => true) 0 (w :: l) f = ov put (fun _ => true) 0 l (put f w) := by
  simp only [ov]
  rw [ov_shift]
  rfl
structure RecOk (E : Env) (nt : Nat) (ops : Array Oper) (sl0 : Nat → Slot) (ks0 : Nat → Option KSh) (seen : List Nat) (rs : List Rec) (i : Nat) (r : Rec) : Prop where
  at_ : ∃ A : Acc, A.sl = ov pS (pre i) 0 (rs.map (·.e.sl)) sl0 ∧ A.ks = ov pK (pre i) 0 (rs.map (·.e.ks)) ks0 ∧ guardC A ops r.o = some r.c ∧ stat E A r.c r.o = some r.e ∧ r.f = footprint A r.o r.c r.e ∧
    (isCallV r.o = true → closedB A r.f.rk = true) ∧ ∃ sn : List Nat, (∀ d, d ∈ sn ↔ d ∈ seen ∨ ∃ k, k < i ∧ ∃ r', rs[k]? = some r' ∧ r'.o.dst = some d) ∧ okEff nt sn A r.c r.o r.e = true
theorem recs_spec {E : Env} {nt : Nat} {ops : Array Oper} : ∀ (l : List Oper) (seen : List Nat) (S S' : St) (es : List Eff) (rs : List Rec), trOps E nt ops l seen S = some (S', es) → recs E ops l S = some rs →
    rs.map (·.e) = es ∧ rs.map (·.o) = l ∧ (∀ i r, rs[i]? = some r → RecOk E nt ops S.acc.sl S.acc.ks seen rs i r) ∧
    (∀ i, S'.acc.sl i = ov pS (fun _ => true) 0 (rs.map (·.e.sl)) S.acc.sl i ∨ S'.acc.sl i = ⟨[], .dead⟩) ∧ S'.acc.ks = ov pK (fun _ => true) 0 (rs.map (·.e.ks)) S.acc.ks
  | [], seen, S, S', es, rs, ht, hr => by
    simp only [trOps, Option.some.injEq, Prod.mk.injEq] at ht
    simp only [recs, Option.some.injEq] at hr
    obtain ⟨rfl, rfl⟩ := ht
    subst hr
    exact ⟨rfl, rfl, fun i r h => by simp at h, fun i => .inl rfl, rfl⟩
  | o :: l, seen, S, S', es, rs, ht, hr => by
    simp only [trOps, Option.bind_eq_bind, Option.bind_eq_some_iff] at ht
    obtain ⟨c, hc, e, he, ht⟩ := ht
    split at ht
    · simp at ht
    rename_i hok
    simp only [Bool.not_eq_true', Bool.not_eq_false] at hok
    simp only [Option.bind_eq_some_iff, Option.some.injEq, Prod.mk.injEq] at ht
    obtain ⟨⟨S1, es1⟩, ht1, rfl, rfl⟩ := ht
    simp only [recs, hc, he, Option.bind_eq_bind, Option.bind_some] at hr
    split at hr
    · simp at hr
    rename_i hcl
    simp only [Option.bind_eq_some_iff, Option.some.injEq] at hr
    obtain ⟨rs1, hr1, rfl⟩ := hr
    obtain ⟨k1, k2, k3, k4, k5, k6, k7, k8⟩ := okEff_spec hok
    have hacc := put_acc (S := S) (e := e) (fun x hx => (k3 x hx).2.2) k4
    obtain ⟨g1, g2, g3, g4, g5⟩ := recs_spec l (o.dst.toList ++ seen) (S.put e) S1 es1 rs1 ht1 hr1
    rw [hacc] at g3 g4 g5
    refine ⟨by simp [g1], by simp [g2], ?_, ?_, ?_⟩
    · intro i r hi
      cases i with
      | zero =>
        simp only [List.getElem?_cons_zero, Option.some.injEq] at hi
        subst hi
        refine ⟨S.acc, ?_, ?_, hc, he, rfl, ?_, seen, fun d => ⟨.inl, fun h => h.elim id (fun ⟨k, hk, _⟩ => by omega)⟩, hok⟩
        · rw [ov_pre_zero]
        · rw [ov_pre_zero]
        · intro hv
          simp only [hv, Bool.true_and, Bool.not_eq_true', Bool.not_eq_false] at hcl
          exact hcl
      | succ i =>
        obtain ⟨A, q1, q2, q3, q4, q5, q6, sn, q7, q8⟩ := (g3 i r (by simpa using hi)).at_
        refine ⟨A, ?_, ?_, q3, q4, q5, q6, sn, fun d => ?_, q8⟩
        · rw [q1, List.map_cons, ov_pre_succ]
        · rw [q2, List.map_cons, ov_pre_succ]
        · rw [q7 d]
          constructor
          · rintro (h | ⟨k, hk, r', hr', hd⟩)
            · rcases List.mem_append.1 h with h | h
              · exact .inr ⟨0, by omega, _, rfl, by simpa using h⟩
              · exact .inl h
            · exact .inr ⟨k + 1, by omega, r', by simpa using hr', hd⟩
          · rintro (h | ⟨k, hk, r', hr', hd⟩)
            · exact .inl (List.mem_append.2 (.inr h))
            · cases k with
              | zero =>
                simp only [List.getElem?_cons_zero, Option.some.injEq] at hr'
                subst hr'
                exact .inl (List.mem_append.2 (.inl (by simpa using hd)))
              | succ k => exact .inr ⟨k, by omega, r', by simpa using hr', hd⟩
    · intro i
      obtain ⟨m1, m2⟩ := killCond_acc e.sl S1 (fun x hx => (k3 x hx).2.2)
      rw [List.map_cons, ov_true_cons]
      rcases m2 i with q | q
      · rw [q]; exact g4 i
      · exact .inr q
    · obtain ⟨m1, m2⟩ := killCond_acc e.sl S1 (fun x hx => (k3 x hx).2.2)
      have hk : (killCond S1 e.sl).acc.ks = S1.acc.ks := by simp only [St.acc]; rw [m1]
      rw [hk, g5, List.map_cons, ov_true_cons]
theorem runEs_spec {call : CallF} : ∀ (es : List Eff) (ρ ρ' : Rho), runEs call es ρ = some ρ' →
    ∃ Us : List (List (Loc × Dyn)), Us.length = es.length ∧ ρ' = ov pU (fun _ => true) 0 Us ρ ∧ ∀ i e, es[i]? = some e → ∃ U, Us[i]? = some U ∧ (∀ y ∈ U, y.1 ∈ e.sets.map (·.1) ++ callOuts e.call) ∧
      ∀ ρ2, (∀ l ∈ effLocs e, ρ2 l = ov pU (pre i) 0 Us ρ l) → runE call e ρ2 = some (updS ρ2 U)
  | [], ρ, ρ', h => by
    simp only [runEs, Option.some.injEq] at h
    subst h
    exact ⟨[], rfl, rfl, fun i e h => by simp at h⟩
  | e :: r, ρ, ρ', h => by
    simp only [runEs, Option.bind_eq_some_iff] at h
    obtain ⟨ρ1, h1, h2⟩ := h
    obtain ⟨U, rfl, u1, u2⟩ := runE_writes h1
    obtain ⟨Us, g1, g2, g3⟩ := runEs_spec r _ ρ' h2
    refine ⟨U :: Us, by simp [g1], by rw [g2, ov_true_cons], ?_⟩
    intro i e' hi
    cases i with
    | zero =>
      simp only [List.getElem?_cons_zero, Option.some.injEq] at hi
      subst hi
      exact ⟨U, rfl, u1, fun ρ2 h => u2 ρ2 (fun l hl => by rw [h l hl, ov_pre_zero])⟩
    | succ i =>
      obtain ⟨V, v1, v2, v3⟩ := g3 i e' (by simpa using hi)
      exact ⟨V, by simpa using v1, v2, fun ρ2 h => v3 ρ2 (fun l hl => by rw [h l hl, ov_pre_succ])⟩
def Down (ops : List Oper) (X : Nat → Bool) : Prop := ∀ k o, ops[k]? = some o → X k = true → ∀ x ∈ o.after.toList, Region.binds .any x = true → X x.on = true
theorem ancs_go {X : Nat → Bool} : ∀ (l : List Oper) (acc : List Nat), (∀ k o, l[k]? = some o → X (acc.length + k) = true → ∀ x ∈ o.after.toList, Region.binds .any x = true → X x.on = true) →
    (∀ k an, acc[k]? = some an → X k = true → ∀ j, an.testBit j = true → X j = true) → ∀ k an, (ancs l acc)[k]? = some an → X k = true → ∀ j, an.testBit j = true → X j = true
  | [], acc, _, ha => ha
  | o :: r, acc, hd, ha => by
    simp only [ancs]
    refine ancs_go r _ (fun k o' hk hX => hd (k + 1) o' (by simpa using hk) (by rw [List.length_append, List.length_singleton] at hX; rw [show acc.length + (k + 1) = acc.length + 1 + k by omega]; exact hX)) ?_
    intro k an hk hX j hj
    rcases Nat.lt_trichotomy k acc.length with hlt | heq | hgt
    · rw [List.getElem?_append_left hlt] at hk
      exact ha k an hk hX j hj
    · subst heq
      simp only [List.getElem?_append_right (Nat.le_refl _), Nat.sub_self, List.getElem?_cons_zero, Option.some.injEq] at hk
      subst hk
      have hdo := hd 0 o rfl (by simpa using hX)
      have fold : ∀ (xs : List Edge) (s : Nat), (∀ x ∈ xs, Region.binds .any x = true → X x.on = true) → (∀ j, s.testBit j = true → X j = true) →
          ∀ j, (xs.foldl (fun s x => if Region.binds .any x then s ||| 2 ^ x.on ||| acc.getD x.on 0 else s) s).testBit j = true → X j = true := by
        intro xs
        induction xs with
        | nil => intro s _ hs j hj; exact hs j hj
        | cons x xs ih =>
          intro s hx hs j hj
          simp only [List.foldl_cons] at hj
          refine ih _ (fun y hy => hx y (by simp [hy])) ?_ j hj
          intro j hj
          by_cases hb : Region.binds .any x = true
          · rw [if_pos hb] at hj
            simp only [Nat.testBit_or, Bool.or_eq_true] at hj
            rcases hj with (hj | hj) | hj
            · exact hs j hj
            · rw [Nat.testBit_two_pow] at hj
              have : x.on = j := by simpa using hj
              rw [← this]; exact hx x (by simp) hb
            · rw [List.getD_eq_getElem?_getD] at hj
              cases hq : acc[x.on]? with
              | none => rw [hq] at hj; simp at hj
              | some an => rw [hq] at hj; exact ha x.on an hq (hx x (by simp) hb) j hj
          · rw [if_neg hb] at hj; exact hs j hj
      exact fold o.after.toList 0 hdo (fun j hj => by simp at hj) j hj
    · rw [List.getElem?_append_right (by omega)] at hk
      have : k - acc.length = (k - acc.length - 1) + 1 := by omega
      rw [this] at hk
      simp at hk
theorem ancs_length : ∀ (l : List Oper) (acc : List Nat), (ancs l acc).length = acc.length + l.length
  | [], acc => by simp [ancs]
  | o :: r, acc => by simp only [ancs]; rw [ancs_length r]; simp; omega
theorem backs_spec : ∀ (l : List Oper) (k : Nat), backs l k = true → ∀ i o, l[i]? = some o → ∀ x ∈ o.after.toList, Region.binds .any x = true → x.on < k + i
  | [], k, _, i, o, h => by simp at h
  | o :: r, k, h, i, o', hi => by
    simp only [backs, Bool.and_eq_true] at h
    intro x hx hb
    cases i with
    | zero =>
      simp only [List.getElem?_cons_zero, Option.some.injEq] at hi
      subst hi
      have := List.all_eq_true.1 h.1 x hx
      simpa [hb] using this
    | succ i =>
      have := backs_spec r (k + 1) h.2 i o' (by simpa using hi) x hx hb
      omega
theorem freeOf_spec {an : Nat} {f : Fp} : ∀ (l : List Rec) (i : Nat), freeOf an f i l = true → ∀ j r, l[j]? = some r → an.testBit (i + j) = false → f.clash r.f = false
  | [], i, _, j, r, h => by simp at h
  | r :: rs, i, h, j, r', hj => by
    simp only [freeOf, Bool.and_eq_true] at h
    intro hb
    cases j with
    | zero =>
      simp only [List.getElem?_cons_zero, Option.some.injEq] at hj
      subst hj
      have := h.1
      rw [Nat.add_zero] at hb
      simpa [hb] using this
    | succ j =>
      exact freeOf_spec rs (i + 1) h.2 j r' (by simpa using hj) (by rw [show i + 1 + j = i + (j + 1) by omega]; exact hb)
theorem freeAll_spec : ∀ (as : List Nat) (rs done : List Rec), freeAll done as rs = true → as.length = rs.length → ∀ j an rj, as[j]? = some an → rs[j]? = some rj →
    ∀ i ri, (done ++ rs)[i]? = some ri → i < done.length + j → an.testBit i = false → rj.f.clash ri.f = false
  | [], rs, done, _, hl, j, an, rj, h, _ => by simp at h
  | an :: as, [], done, _, hl, j, an', rj, _, h => by simp at h
  | an :: as, r :: rs, done, h, hl, j, an', rj, ha, hr => by
    simp only [freeAll, Bool.and_eq_true] at h
    intro i ri hi hlt hb
    cases j with
    | zero =>
      simp only [List.getElem?_cons_zero, Option.some.injEq] at ha hr
      subst ha hr
      rw [Nat.add_zero] at hlt
      rw [List.getElem?_append_left hlt] at hi
      exact freeOf_spec done 0 h.1 i ri hi (by rw [Nat.zero_add]; exact hb)
    | succ j =>
      refine freeAll_spec as rs (done ++ [r]) h.2 (by simpa using hl) j an' rj (by simpa using ha) (by simpa using hr) i ri (by simpa using hi) (by simp; omega) hb
end Rk
set_option linter.unusedVariables false
set_option linter.unusedSimpArgs false
namespace Rk
open Go
theorem reach_sub (A : Acc) : ∀ (f : Nat) (l : List Nat), ∀ x ∈ l, x ∈ reach A f l
  | 0, l, x, h => h
  | f + 1, l, x, h => by simp only [reach, List.mem_append]; exact .inl h
theorem meets_false {α : Type} [BEq α] [LawfulBEq α] {a b : List α} (h : meets a b = false) : ∀ x ∈ a, x ∉ b := by
  intro x hx hb
  have : meets a b = true := List.any_eq_true.2 ⟨x, hx, by simpa using hb⟩
  rw [h] at this
  simp at this
theorem meetsN_false {a : List Nat} {nm : Nat} (h : meetsN a nm = false) : ∀ x ∈ a, ∀ j < 64, x ≠ nm + j := by
  intro x hx j hj e
  have : meetsN a nm = true := List.any_eq_true.2 ⟨x, hx, by simp; omega⟩
  rw [h] at this
  simp at this
structure Apart (a b : Fp) : Prop where
  ws : ∀ x ∈ a.ws, x ∉ b.ws ∧ x ∉ b.rs
  wk : ∀ x ∈ a.wk, x ∉ b.rk ∧ ∀ j < 64, x ≠ b.nm + j
  wl : ∀ x ∈ a.wl, x ∉ b.wl ∧ x ∉ b.rl
theorem hits_false {a b : Fp} (h : a.hits b = false) : Apart a b := by
  simp only [Fp.hits, Bool.or_eq_false_iff] at h
  obtain ⟨⟨⟨⟨⟨h1, h2⟩, h3⟩, h4⟩, h5⟩, h6⟩ := h
  exact ⟨fun x hx => ⟨meets_false h1 x hx, meets_false h2 x hx⟩, fun x hx => ⟨meets_false h3 x hx, meetsN_false h4 x hx⟩, fun x hx => ⟨meets_false h5 x hx, meets_false h6 x hx⟩⟩
theorem guardC_agree {A A' : Acc} {ops : Array Oper} {o : Oper} {c : Cond} (h : guardC A ops o = some c) (hs : ∀ y ∈ c, A'.sl y.1 = A.sl y.1) : guardC A' ops o = some c := by
  unfold guardC at h ⊢
  split at h
  · exact h
  · rename_i j wt hgd
    simp only [Option.bind_eq_bind, Option.bind_eq_some_iff] at h ⊢
    obtain ⟨oj, hoj, g, hg, h⟩ := h
    refine ⟨oj, hoj, g, hg, ?_⟩
    split at h
    · rename_i c0 hsl
      simp only [Option.some.injEq] at h
      subst h
      rw [hs (g, wt) (by simp), hsl]
    · simp at h
theorem okEff_agree {nt : Nat} {sn sn' : List Nat} {A A' : Acc} {c : Cond} {o : Oper} {e : Eff} (h : okEff nt sn A c o e = true)
    (hd : ∀ d, o.dst = some d → d ∉ sn') (hc : ∀ y ∈ c, y.1 ∈ sn') (hk : ∀ κ, (o.dst = some κ ∨ ∃ x ∈ e.ks, x.1 = κ) → A'.ks κ = A.ks κ) : okEff nt sn' A' c o e = true := by
  simp only [okEff, Bool.and_eq_true] at h ⊢
  obtain ⟨⟨⟨⟨⟨⟨⟨h1, h2⟩, h3⟩, h4⟩, h5⟩, h6⟩, h7⟩, h8⟩ := h
  refine ⟨⟨⟨⟨⟨⟨⟨?_, ?_⟩, h3⟩, h4⟩, h5⟩, h6⟩, ?_⟩, h8⟩
  · cases hod : o.dst with
    | none => rfl
    | some d =>
      rw [hod] at h1
      simp only [Bool.and_eq_true] at h1 ⊢
      exact ⟨⟨h1.1.1, by simpa using hd d hod⟩, h1.2⟩
  · exact List.all_eq_true.2 (fun y hy => by simpa using hc y hy)
  · rw [Bool.or_eq_true] at h7 ⊢
    refine h7.imp id (fun q => ?_)
    cases hod : o.dst with
    | none => rw [hod] at q; exact q
    | some d =>
      rw [hod] at q
      unfold skipOk at q ⊢
      simp only [Bool.and_eq_true] at q ⊢
      refine ⟨q.1, ?_⟩
      have q2 := q.2
      have hfr : ∀ (l : List (Nat × KSh)), (∀ x ∈ l, x ∈ e.ks) → frzB A l = true → frzB A' l = true := by
        intro l hl hf
        refine List.all_eq_true.2 (fun x hx => ?_)
        have := List.all_eq_true.1 hf x hx
        rw [hk x.1 (.inr ⟨x, hl x hx, rfl⟩)]
        exact this
      split at q2
      · rename_i kc hcall
        simp only [Bool.and_eq_true] at q2 ⊢
        refine ⟨⟨⟨q2.1.1.1, hfr _ (fun x hx => (List.takeWhile_sublist _).subset hx) q2.1.1.2⟩, List.all_eq_true.2 (fun x hx => ?_)⟩, q2.2⟩
        have := List.all_eq_true.1 q2.1.2 x hx
        rw [hk x.1 (.inr ⟨x, (List.dropWhile_sublist _).subset hx, rfl⟩)]
        exact this
      · rw [Bool.or_eq_true] at q2 ⊢
        refine q2.imp id (fun q3 => ?_)
        split at q3
        · rename_i kk u l t g ce hlast hsets
          simp only [Bool.and_eq_true] at q3 ⊢
          refine ⟨⟨q3.1.1, ?_⟩, hfr _ (fun x hx => List.dropLast_subset _ hx) q3.2⟩
          rw [hk d (.inl hod)]; exact q3.1.2
        · simp at q3
section
variable {E : Env} {C : Ctx} {call : CallF}
def seenX (rs : List Rec) (X : Nat → Bool) : List Nat := (List.range rs.length).filterMap fun k => if X k then (rs[k]?).bind (·.o.dst) else none
theorem mem_seenX {rs : List Rec} {X : Nat → Bool} {d : Nat} : d ∈ seenX rs X ↔ ∃ k r, rs[k]? = some r ∧ X k = true ∧ r.o.dst = some d := by
  simp only [seenX, List.mem_filterMap, List.mem_range]
  constructor
  · rintro ⟨k, hk, h⟩
    split at h
    · rename_i hX
      simp only [Option.bind_eq_some_iff] at h
      obtain ⟨r, h1, h2⟩ := h
      exact ⟨k, r, h1, hX, h2⟩
    · simp at h
  · rintro ⟨k, r, h1, h2, h3⟩
    refine ⟨k, (List.getElem?_eq_some_iff.1 h1).1, ?_⟩
    rw [if_pos h2, h1]
    exact h3
theorem draw_go (hS : StepSound E C call) {ops : Array Oper} {sl0 : Nat → Slot} {ks0 : Nat → Option KSh} {ρ : Rho} {rs : List Rec} {Us : List (List (Loc × Dyn))}
    (hUlen : Us.length = rs.length) (hlen : rs.map (·.o) = ops.toList) (hrec : ∀ i r, rs[i]? = some r → RecOk E C.nt ops sl0 ks0 [] rs i r)
    (hback : ∀ i o, ops.toList[i]? = some o → ∀ x ∈ o.after.toList, Region.binds .any x = true → x.on < i)
    (hfree : ∀ (X : Nat → Bool), Down ops.toList X → ∀ j rj, rs[j]? = some rj → X j = true → ∀ i ri, rs[i]? = some ri → i < j → X i = false → Apart rj.f ri.f ∧ Apart ri.f rj.f)
    (hU : ∀ i r, rs[i]? = some r → ∃ U, Us[i]? = some U ∧ (∀ y ∈ U, y.1 ∈ r.e.sets.map (·.1) ++ callOuts r.e.call) ∧ ∀ ρ2, (∀ l ∈ effLocs r.e, ρ2 l = ov pU (pre i) 0 Us ρ l) → runE call r.e ρ2 = some (updS ρ2 U))
    {Q : Exit → Act → World → Prop}
    (hQ : ∀ β' a' w', Rel C (ov pS (fun _ => true) 0 (rs.map (·.e.sl)) sl0) (ov pK (fun _ => true) 0 (rs.map (·.e.ks)) ks0) (ov pU (fun _ => true) 0 Us ρ) β' a' w' → Q .normal a' w') :
    ∀ (fuel : Nat) (listed : Array Bool) (β : Nat → Option Nat) (a : Act) (w : World), listed.size = ops.size → ((List.range ops.size).filter fun i => !listed.getD i true).length = fuel →
      Down ops.toList (fun i => listed.getD i false) →
      Rel C (ov pS (fun i => listed.getD i false) 0 (rs.map (·.e.sl)) sl0) (ov pK (fun i => listed.getD i false) 0 (rs.map (·.e.ks)) ks0) (ov pU (fun i => listed.getD i false) 0 Us ρ) β a w →
      InReg (ov pS (fun i => listed.getD i false) 0 (rs.map (·.e.sl)) sl0) (ov pU (fun i => listed.getD i false) 0 Us ρ) a (seenX rs (fun i => listed.getD i false)) →
      wpAny C.P .any ops Q fuel listed a w := by
  have hrl : rs.length = ops.size := by rw [← Array.length_toList, ← hlen, List.length_map]
  -- whoever is not listed has a least one, which is ready
  have hleast : ∀ (listed : Array Bool), listed.size = ops.size → ∀ n i, i < ops.size → i ≤ n → listed.getD i true = false → Region.ready .any ops listed ≠ [] := by
    intro listed hls n
    induction n with
    | zero =>
      intro i hi hn hl
      have : i = 0 := by omega
      subst this
      have : 0 ∈ Region.ready .any ops listed := by
        rw [mem_ready]
        refine ⟨hl, ops[0], Array.getElem?_eq_getElem hi, fun x hx hb => ?_⟩
        have := hback 0 ops[0] (by rw [Array.getElem?_toList]; exact Array.getElem?_eq_getElem hi) x (by simpa using hx) hb
        omega
      intro h0
      rw [h0] at this
      simp at this
    | succ n ih =>
      intro i hi hn hl
      by_cases hrd : ∀ x ∈ ops[i].after, Region.binds .any x = true → listed.getD x.on false = true
      · have : i ∈ Region.ready .any ops listed := by
          rw [mem_ready]
          exact ⟨hl, ops[i], Array.getElem?_eq_getElem hi, hrd⟩
        intro h0
        rw [h0] at this
        simp at this
      · simp only [Classical.not_forall] at hrd
        obtain ⟨x, hx, hb, hno⟩ := hrd
        have hlt := hback i ops[i] (by rw [Array.getElem?_toList]; exact Array.getElem?_eq_getElem hi) x (by simpa using hx) hb
        refine ih x.on (by omega) (by omega) ?_
        have hlt2 : x.on < listed.size := by omega
        simp [hlt2] at hno ⊢
        exact hno
  intro fuel
  induction fuel with
  | zero =>
    intro listed β a w hls hf hdown hrel hin
    have hall : ∀ i, i < ops.size → listed.getD i false = true := by
      intro i hi
      have hnil := List.length_eq_zero_iff.1 hf
      have : i ∉ (List.range ops.size).filter fun i => !listed.getD i true := by rw [hnil]; simp
      simp only [List.mem_filter, List.mem_range, hi, true_and] at this
      have hlt : i < listed.size := by omega
      simp [hlt] at this ⊢
      exact this
    refine ⟨?_, ?_⟩
    · apply List.eq_nil_iff_forall_not_mem.2
      intro i hi
      rw [mem_ready] at hi
      obtain ⟨h1, o, ho, _⟩ := hi
      have hi := (Array.getElem?_eq_some_iff.1 ho).1
      have := hall i hi
      have hlt : i < listed.size := by omega
      simp [hlt] at this h1
      rw [this] at h1
      simp at h1
    · refine hQ β a w ?_
      rw [ov_all putSl_ok (X := fun i => listed.getD i false) (rs.map (·.e.sl)) 0 sl0 (fun i hi => by rw [Nat.zero_add]; exact hall i (by simp at hi; omega)),
        ov_all putKs_ok (X := fun i => listed.getD i false) (rs.map (·.e.ks)) 0 ks0 (fun i hi => by rw [Nat.zero_add]; exact hall i (by simp at hi; omega)),
        ov_all updS_ok (X := fun i => listed.getD i false) Us 0 ρ (fun i hi => by rw [Nat.zero_add]; exact hall i (by omega))] at hrel
      exact hrel
  | succ fuel ih =>
    intro listed β a w hls hf hdown hrel hin
    refine ⟨fun h0 => ?_, fun i hi => ?_⟩
    · exfalso
      have hne : (List.range ops.size).filter (fun i => !listed.getD i true) ≠ [] := by
        intro h; rw [h] at hf; simp at hf
      obtain ⟨i, hi⟩ := List.exists_mem_of_ne_nil _ hne
      simp only [List.mem_filter, List.mem_range, Bool.not_eq_true'] at hi
      exact hleast listed hls i i hi.1 (Nat.le_refl _) hi.2 h0
    · rw [mem_ready] at hi
      obtain ⟨hun, o, ho, hpre⟩ := hi
      have hio := (Array.getElem?_eq_some_iff.1 ho).1
      have hil : i < listed.size := by omega
      obtain ⟨r, hr⟩ : ∃ r, rs[i]? = some r := ⟨rs[i], List.getElem?_eq_getElem (by omega)⟩
      have hro : r.o = o := by
        have h1 : (rs.map (·.o))[i]? = some r.o := by rw [List.getElem?_map, hr]; rfl
        rw [hlen, Array.getElem?_toList, ho] at h1
        simpa using h1.symm
      obtain ⟨A, a1, a2, a3, a4, a5, a6, sn, a7, a8⟩ := (hrec i r hr).at_
      obtain ⟨U, u1, u2, u3⟩ := hU i r hr
      -- the sets that have run, with it and without
      have hXi : (fun i => listed.getD i false) i = false := by
        simp only [Array.getD_eq_getD_getElem?, Array.getElem?_eq_getElem hil, Option.getD_some] at hun ⊢; exact hun
      have hYi : (fun j => (listed.setIfInBounds i true).getD j false) i = true := by
        simp [hil]
      have hXY : ∀ j, j ≠ i → (fun j => (listed.setIfInBounds i true).getD j false) j = (fun i => listed.getD i false) j := fun j hj => getD_set_ne false (Ne.symm hj)
      generalize hXd : (fun i => listed.getD i false) = X at *
      generalize hYd : (fun j => (listed.setIfInBounds i true).getD j false) = Y at *
      have hpreX : ∀ x ∈ o.after.toList, Region.binds .any x = true → X x.on = true := by
        intro x hx hb
        rw [← hXd]
        exact hpre x (by simpa using hx) hb
      have hdownY : Down ops.toList Y := by
        intro k o' hk hY x hx hb
        by_cases hki : k = i
        · subst hki
          rw [Array.getElem?_toList, ho, Option.some.injEq] at hk
          subst hk
          have := hpreX x hx hb
          by_cases hxi : x.on = k
          · rw [hxi]; exact hYi
          · rw [hXY _ hxi]; exact this
        · rw [hXY k hki] at hY
          have := hdown k o' hk hY x hx hb
          by_cases hxi : x.on = i
          · rw [hxi]; exact hYi
          · rw [hXY _ hxi]; exact this
      -- what does not stand as in the row's own order does not matter to it
      have hap : ∀ (k : Nat) (rk : Rec), rs[k]? = some rk → k ≠ i → pre i k ≠ X k → Apart rk.f r.f ∧ Apart r.f rk.f := by
        intro k rk hk hki hne
        rcases Nat.lt_or_ge k i with hlt | hge
        · have hXk : X k = false := by
            cases hx : X k with
            | false => rfl
            | true => exact absurd (by simp [pre, hlt, hx]) hne
          have := hfree Y hdownY i r hr hYi k rk hk hlt (by rw [hXY k hki]; exact hXk)
          exact ⟨this.2, this.1⟩
        · have hgt : i < k := by omega
          have hXk : X k = true := by
            cases hx : X k with
            | true => rfl
            | false => exact absurd (by simp [pre, hx]; omega) hne
          exact hfree X hdown k rk hk hXk i r hr hgt hXi
      have hrf := a5
      have hws : ∀ (k : Nat) (rk : Rec), rs[k]? = some rk → rk.f.ws = rk.e.sl.map (·.1) ∧ rk.f.wk = rk.e.ks.map (·.1) ∧ rk.f.wl = rk.e.sets.map (·.1) ++ callOuts rk.e.call := by
        intro k rk hk
        obtain ⟨A', _, _, _, _, q, _⟩ := (hrec k rk hk).at_
        rw [q]
        exact ⟨rfl, rfl, rfl⟩
      -- slots, keys and places that it looks at
      have hslX : ∀ t, t ∈ r.f.rs → ov pS X 0 (rs.map (·.e.sl)) sl0 t = A.sl t := by
        intro t ht
        rw [a1]
        refine ov_congr putSl_ok t _ 0 _ _ rfl (fun k w' hk hw => ?_)
        rw [List.getElem?_map] at hk
        cases hrk : rs[k]? with
        | none => rw [hrk] at hk; simp at hk
        | some rk =>
          rw [hrk] at hk
          simp only [Option.map_some, Option.some.injEq] at hk
          subst hk
          rw [Nat.zero_add]
          by_cases hki : k = i
          · subst hki; rw [hXi]; simp [pre]
          · refine Classical.byContradiction (fun hne => ?_)
            obtain ⟨y, hy, rfl⟩ := hw
            exact ((hap k rk hrk hki (fun e => hne e.symm)).1.ws y.1 (by rw [(hws k rk hrk).1]; exact List.mem_map.2 ⟨y, hy, rfl⟩)).2 ht
      have hksX : ∀ κ, (κ ∈ r.f.rk ∨ ∃ j < 64, κ = r.f.nm + j) → ov pK X 0 (rs.map (·.e.ks)) ks0 κ = A.ks κ := by
        intro κ hκ
        rw [a2]
        refine ov_congr putKs_ok κ _ 0 _ _ rfl (fun k w' hk hw => ?_)
        rw [List.getElem?_map] at hk
        cases hrk : rs[k]? with
        | none => rw [hrk] at hk; simp at hk
        | some rk =>
          rw [hrk] at hk
          simp only [Option.map_some, Option.some.injEq] at hk
          subst hk
          rw [Nat.zero_add]
          by_cases hki : k = i
          · subst hki; rw [hXi]; simp [pre]
          · refine Classical.byContradiction (fun hne => ?_)
            obtain ⟨y, hy, rfl⟩ := hw
            have := (hap k rk hrk hki (fun e => hne e.symm)).1.wk y.1 (by rw [(hws k rk hrk).2.1]; exact List.mem_map.2 ⟨y, hy, rfl⟩)
            rcases hκ with hκ | ⟨j, hj, hκ⟩
            · exact this.1 hκ
            · exact this.2 j hj hκ
      have hUw : ∀ (k : Nat) (V : List (Loc × Dyn)) (rk : Rec), Us[k]? = some V → rs[k]? = some rk → ∀ y ∈ V, y.1 ∈ rk.f.wl := by
        intro k V rk hV hrk y hy
        obtain ⟨V', v1, v2, _⟩ := hU k rk hrk
        rw [hV, Option.some.injEq] at v1
        subst v1
        rw [(hws k rk hrk).2.2]
        exact v2 y hy
      have hρX : ∀ l, l ∈ effLocs r.e → ov pU X 0 Us ρ l = ov pU (pre i) 0 Us ρ l := by
        intro l hl
        refine ov_congr updS_ok l _ 0 _ _ rfl (fun k V hV hw => ?_)
        have hk : k < rs.length := by have := (List.getElem?_eq_some_iff.1 hV).1; omega
        obtain ⟨rk, hrk⟩ : ∃ rk, rs[k]? = some rk := ⟨rs[k], List.getElem?_eq_getElem hk⟩
        rw [Nat.zero_add]
        by_cases hki : k = i
        · subst hki; rw [hXi]; simp [pre]
        · refine Classical.byContradiction (fun hne => ?_)
          obtain ⟨y, hy, rfl⟩ := hw
          refine ((hap k rk hrk hki (fun e => hne e.symm)).1.wl y.1 (hUw k V rk hV hrk y hy)).2 ?_
          rw [a5]
          simp only [footprint, effLocs, List.mem_append] at hl ⊢
          exact .inl hl
      have hrun := u3 _ hρX
      have hrs : ∀ y ∈ r.c, y.1 ∈ r.f.rs := by
        intro y hy
        rw [a5]
        simp only [footprint, List.mem_append, List.mem_map]
        exact .inr ⟨y, hy, rfl⟩
      have hg : guardC ⟨ov pS X 0 (rs.map (·.e.sl)) sl0, ov pK X 0 (rs.map (·.e.ks)) ks0⟩ ops o = some r.c := by
        rw [← hro]
        exact guardC_agree a3 (fun y hy => hslX _ (hrs y hy))
      have hagree : Agree A ⟨ov pS X 0 (rs.map (·.e.sl)) sl0, ov pK X 0 (rs.map (·.e.ks)) ks0⟩ (fun t => t ∈ r.f.rs) (fun κ => κ ∈ r.f.rk) := by
        refine ⟨fun t ht => (hslX t ht).symm, fun κ hκ => (hksX κ (.inl hκ)).symm, fun t ht s hs κ hκ => ?_⟩
        rw [a5] at ht ⊢
        simp only [footprint] at ht ⊢
        simp only [List.mem_append]
        refine .inr (reach_sub _ _ _ _ ?_)
        rw [List.mem_flatMap]
        refine ⟨t, ht, ?_⟩
        rw [List.mem_flatMap]
        exact ⟨s, hs, hκ⟩
      have hst : stat E ⟨ov pS X 0 (rs.map (·.e.sl)) sl0, ov pK X 0 (rs.map (·.e.ks)) ks0⟩ r.c o = some r.e := by
        rw [← hro, ← stat_agree hagree ?_ ?_ ?_ ?_]
        · exact a4
        · intro hv κ hκ k hk κ2 hκ2
          have := List.all_eq_true.1 (a6 hv) κ hκ
          rw [hk] at this
          simpa using List.all_eq_true.1 this κ2 hκ2
        · intro d hd
          rw [a5]
          simp only [footprint, List.mem_append]
          exact .inl (.inl (by rw [hd]; simp))
        · intro j hj
          exact (hksX _ (.inr ⟨j, hj, by rw [a5]; rfl⟩)).symm
        · intro x hx
          cases x with
          | tmp t =>
            simp only [opIn]
            rw [a5]
            simp only [footprint, List.mem_append, opTmps, List.mem_filterMap]
            exact .inl ⟨.tmp t, by simpa using hx, rfl⟩
          | _ => trivial
      obtain ⟨k1, k2, k3, k4, k5, k6, k7, k8⟩ := okEff_spec a8
      have hdst : ∀ (k : Nat) (rk : Rec) (d : Nat), rs[k]? = some rk → rk.o.dst = some d → k ≠ i → o.dst ≠ some d := by
        intro k rk d hrk hkd hki hod
        rw [← hro] at hod
        rcases Nat.lt_or_ge k i with hlt | hge
        · exact (k1 d hod).1.2 ((a7 d).2 (.inr ⟨k, hlt, rk, hrk, hkd⟩))
        · obtain ⟨A', _, _, _, _, _, _, sn', q7, q8⟩ := (hrec k rk hrk).at_
          obtain ⟨m1, _⟩ := okEff_spec q8
          exact (m1 d hkd).1.2 ((q7 d).2 (.inr ⟨i, by omega, r, hr, hod⟩))
      have hokX : okEff C.nt (seenX rs X) ⟨ov pS X 0 (rs.map (·.e.sl)) sl0, ov pK X 0 (rs.map (·.e.ks)) ks0⟩ r.c o r.e = true := by
        rw [← hro]
        refine okEff_agree a8 (fun d hd hmem => ?_) (fun y hy => ?_) (fun κ hκ => ?_)
        · obtain ⟨k, rk, hrk, hXk, hkd⟩ := mem_seenX.1 hmem
          have hki : k ≠ i := fun e => by rw [e, hXi] at hXk; simp at hXk
          exact hdst k rk d hrk hkd hki (by rw [← hro]; exact hd)
        · rcases (a7 y.1).1 (k2 y hy) with q | ⟨k, hk, rk, hrk, hkd⟩
          · simp at q
          · refine mem_seenX.2 ⟨k, rk, hrk, ?_, hkd⟩
            refine Classical.byContradiction (fun hno => ?_)
            have hXk : X k = false := by simpa using hno
            have hap' := (hap k rk hrk (by omega) (by rw [hXk]; simp [pre, hk])).1
            obtain ⟨A', _, _, _, _, _, _, sn', q7, q8⟩ := (hrec k rk hrk).at_
            obtain ⟨m1, _⟩ := okEff_spec q8
            obtain ⟨x, hx, hxd⟩ := (m1 y.1 hkd).2
            exact (hap'.ws y.1 (by rw [(hws k rk hrk).1]; exact List.mem_map.2 ⟨x, hx, hxd⟩)).2 (hrs y hy)
        · refine hksX κ (.inl ?_)
          rw [a5]
          simp only [footprint, List.mem_append, List.mem_map]
          rcases hκ with hκ | ⟨x, hx, hκ⟩
          · exact .inl (.inl (by rw [hκ]; simp))
          · exact .inl (.inr ⟨x, hx, hκ⟩)
      unfold wpOp
      simp only [ho]
      refine oper_ok hS hrel hin hg hst hokX hrun (fun β' a' w' hrel' hin' => ?_)
      -- the state behind it
      have hlater : ∀ (j : Nat) (rj : Rec), rs[j]? = some rj → i < j → X j = true → Apart rj.f r.f := fun j rj hj hij hXj =>
        (hap j rj hj (by omega) (by rw [hXj]; simp [pre]; omega)).1
      have e1 : ov pS Y 0 (rs.map (·.e.sl)) sl0 = putSl (ov pS X 0 (rs.map (·.e.sl)) sl0) r.e.sl := by
        funext x
        refine ov_add putSl_ok x i r.e.sl (rs.map (·.e.sl)) 0 sl0 (by rw [List.getElem?_map, hr]; rfl) (by rw [Nat.zero_add]; exact hXi) (by rw [Nat.zero_add]; exact hYi) (fun j hj => hXY j (by omega)) (fun j w' hj hij hXj hw1 hw2 => ?_)
        rw [List.getElem?_map] at hj
        cases hrj : rs[j]? with
        | none => rw [hrj] at hj; simp at hj
        | some rj =>
          rw [hrj] at hj
          simp only [Option.map_some, Option.some.injEq] at hj
          subst hj
          rw [Nat.zero_add] at hXj
          obtain ⟨y, hy, hyx⟩ := hw1
          obtain ⟨z, hz, hzx⟩ := hw2
          exact ((hlater j rj hrj hij hXj).ws x (by rw [(hws j rj hrj).1]; exact List.mem_map.2 ⟨y, hy, hyx⟩)).1 (by rw [(hws i r hr).1]; exact List.mem_map.2 ⟨z, hz, hzx⟩)
      have e2 : ov pK Y 0 (rs.map (·.e.ks)) ks0 = putKs (ov pK X 0 (rs.map (·.e.ks)) ks0) r.e.ks := by
        funext x
        refine ov_add putKs_ok x i r.e.ks (rs.map (·.e.ks)) 0 ks0 (by rw [List.getElem?_map, hr]; rfl) (by rw [Nat.zero_add]; exact hXi) (by rw [Nat.zero_add]; exact hYi) (fun j hj => hXY j (by omega)) (fun j w' hj hij hXj hw1 hw2 => ?_)
        rw [List.getElem?_map] at hj
        cases hrj : rs[j]? with
        | none => rw [hrj] at hj; simp at hj
        | some rj =>
          rw [hrj] at hj
          simp only [Option.map_some, Option.some.injEq] at hj
          subst hj
          rw [Nat.zero_add] at hXj
          obtain ⟨y, hy, hyx⟩ := hw1
          obtain ⟨z, hz, hzx⟩ := hw2
          refine ((hlater j rj hrj hij hXj).wk x (by rw [(hws j rj hrj).2.1]; exact List.mem_map.2 ⟨y, hy, hyx⟩)).1 ?_
          rw [a5]
          simp only [footprint, List.mem_append, List.mem_map]
          exact .inl (.inr ⟨z, hz, hzx⟩)
      have e3 : ov pU Y 0 Us ρ = updS (ov pU X 0 Us ρ) U := by
        funext x
        refine ov_add updS_ok x i U Us 0 ρ u1 (by rw [Nat.zero_add]; exact hXi) (by rw [Nat.zero_add]; exact hYi) (fun j hj => hXY j (by omega)) (fun j V hj hij hXj hw1 hw2 => ?_)
        have hjl : j < rs.length := by have := (List.getElem?_eq_some_iff.1 hj).1; omega
        obtain ⟨rj, hrj⟩ : ∃ rj, rs[j]? = some rj := ⟨rs[j], List.getElem?_eq_getElem hjl⟩
        rw [Nat.zero_add] at hXj
        obtain ⟨y, hy, rfl⟩ := hw1
        obtain ⟨z, hz, hzx⟩ := hw2
        exact ((hlater j rj hrj hij hXj).wl y.1 (hUw j V rj hj hrj y hy)).1 (by rw [← hzx]; exact hUw i U r u1 hr z hz)
      have hin2 : InReg (ov pS Y 0 (rs.map (·.e.sl)) sl0) (ov pU Y 0 Us ρ) a' (seenX rs Y) := by
        rw [e1, e3]
        refine hin'.mono (fun x hx => ?_)
        rcases List.mem_append.1 hx with hx | hx
        · refine mem_seenX.2 ⟨i, r, hr, hYi, ?_⟩
          rw [hro]
          simpa using hx
        · obtain ⟨k, rk, hrk, hXk, hkd⟩ := mem_seenX.1 hx
          refine mem_seenX.2 ⟨k, rk, hrk, ?_, hkd⟩
          rw [hXY k (fun e => by rw [e, hXi] at hXk; simp at hXk)]
          exact hXk
      refine ih (listed.setIfInBounds i true) β' a' w' (by simpa using hls) ?_ (by rw [hYd]; exact hdownY) (by rw [hYd, e1, e2, e3]; exact hrel') (by rw [hYd]; exact hin2)
      · have hp : (fun j => !(listed.setIfInBounds i true).getD j true) = fun j => (j != i) && (!listed.getD j true) := by
          funext j
          by_cases hji : j = i
          · subst hji; simp [hil]
          · rw [getD_set_ne true (Ne.symm hji)]; simp [hji]
        rw [hp, ← List.filter_filter, ← (List.Nodup.sublist List.filter_sublist List.nodup_range).erase_eq_filter]
        rw [List.length_erase_of_mem]
        · omega
        · simp only [List.mem_filter, List.mem_range, Bool.not_eq_true']
          exact ⟨hio, hun⟩
theorem draw_ok (hS : StepSound E C call) (hP : C.P = E.P) {ops : Array Oper} {S S' : St} {es : List Eff} {ρ ρ' : Rho} {β : Nat → Option Nat} {a : Act} {w : World}
    (ht : trOps E C.nt ops ops.toList [] S = some (S', es)) (hdr : drawOk E ops S = true) (h : Rel C S.acc.sl S.acc.ks ρ β a w) (hI : InReg S.acc.sl ρ a [])
    (hr : runEs call es ρ = some ρ') {Q : Exit → Act → World → Prop} (hQ : ∀ β' a' w', Rel C S'.acc.sl S'.acc.ks ρ' β' a' w' → Q .normal a' w') (id : Nat) : (Code.region id ops true).wp C.P Q a w := by
  simp only [drawOk, Bool.and_eq_true] at hdr
  obtain ⟨hm, hdr⟩ := hdr
  split at hdr
  rotate_left
  · simp at hdr
  rename_i rs hrs
  simp only [Bool.and_eq_true] at hdr
  obtain ⟨hb, hf⟩ := hdr
  obtain ⟨g1, g2, g3, g4, g5⟩ := recs_spec ops.toList [] S S' es rs ht hrs
  obtain ⟨Us, u1, u2, u3⟩ := runEs_spec es ρ ρ' hr
  refine wp_region_any (by rw [hP]; exact hm) ?_
  have hrl : rs.length = ops.size := by rw [← Array.length_toList, ← g2, List.length_map]
  have hX0 : (fun i => (Array.replicate ops.size false).getD i false) = fun _ => false := by
    funext i
    by_cases hi : i < ops.size <;> simp [hi]
  refine draw_go hS (sl0 := S.acc.sl) (ks0 := S.acc.ks) (ρ := ρ) (rs := rs) (Us := Us) (by rw [u1, ← g1, List.length_map]) g2 g3 (fun i o hi x hx hbx => by have := backs_spec ops.toList 0 hb i o hi x hx hbx; omega) ?_ ?_ ?_ ops.size _ β a _ (by simp) ?_ ?_ ?_ ?_
  · intro X hD j rj hj hXj i ri hi hij hXi
    have hjl : j < rs.length := (List.getElem?_eq_some_iff.1 hj).1
    obtain ⟨an, han⟩ : ∃ an, (ancs ops.toList [])[j]? = some an := ⟨_, List.getElem?_eq_getElem (by rw [ancs_length]; simp; omega)⟩
    have hcl := freeAll_spec (ancs ops.toList []) rs [] hf (by rw [ancs_length]; simp; omega) j an rj han hj i ri (by simpa using hi) (by simpa using hij) (by
      refine Classical.byContradiction (fun hno => ?_)
      have := ancs_go (X := X) ops.toList [] (fun k o hk hX => hD k o hk (by simpa using hX)) (fun k an h => by simp at h) j an han hXj i (by simpa using hno)
      rw [hXi] at this
      simp at this)
    simp only [Fp.clash, Bool.or_eq_false_iff] at hcl
    exact ⟨hits_false hcl.1, hits_false hcl.2⟩
  · intro i r hi
    have : es[i]? = some r.e := by rw [← g1, List.getElem?_map, hi]; rfl
    exact u3 i r.e this
  · intro β' a' w' hrel
    refine hQ β' a' w' ?_
    rw [g5, u2]
    exact hrel.weak (fun i => (g4 i).imp (fun q => q) (fun q => by rw [q]))
  · have : (fun i => !(Array.replicate ops.size false).getD i true) = fun i => decide (i < ops.size) := by
      funext i
      by_cases hi : i < ops.size <;> simp [hi]
    rw [this, List.filter_eq_self.2 (by intro x hx; simpa using hx), List.length_range]
  · rw [hX0]
    intro k o _ hX
    simp at hX
  · rw [hX0, ov_never, ov_never, ov_never]
    exact h.drawn _
  · rw [hX0, ov_never, ov_never]
    exact hI.mono (by simp)
end
end Rk
set_option linter.unusedVariables false
set_option linter.unusedSimpArgs false
namespace Rk
open Go
section
variable {C : Ctx} {ρ : Rho} {β : Nat → Option Nat} {a : Act} {w : World}
theorem clean_acc (S : St) : S.clean.acc.ks = S.acc.ks ∧ ∀ i, S.clean.acc.sl i = cleanS (S.acc.sl i) := by
  refine ⟨rfl, fun i => ?_⟩
  simp only [St.clean, St.acc, Tab.get, Tab.get_map]
  cases S.sl.getF 40 i <;> rfl
theorem Rel.clean {S : St} (h : Rel C S.acc.sl S.acc.ks ρ β a w) : Rel C S.clean.acc.sl S.clean.acc.ks ρ β a w ∧ InReg S.clean.acc.sl ρ a [] := by
  obtain ⟨e1, e2⟩ := clean_acc S
  have hc : ∀ i, (S.clean.acc.sl i).cond = [] := by
    intro i
    rw [e2]
    unfold cleanS
    split
    · rename_i hh; simpa using hh
    · rfl
  refine ⟨?_, ⟨fun i y hy => by rw [hc i] at hy; simp at hy, fun i hno => absurd (fun y hy => by rw [hc i] at hy; simp at hy) hno⟩⟩
  rw [e1]
  refine h.weak (fun i => ?_)
  rw [e2]
  unfold cleanS
  split
  · exact .inl rfl
  · exact .inr rfl
theorem tr_ok {F : Fe} (hmp : F.mp = none) {call : CallF} {fuel : Nat} (hS : StepSound F.E C call) (hP : C.P = F.E.P) (hnt : C.nt = F.nt) (hrt : C.rts = F.rt) {RetP : List Dyn → Act → World → Prop}
    (hret : ∀ (S : St) o ρ β a w, trRet F S.acc = some o → Rel C S.acc.sl S.acc.ks ρ β a w → RetP (dyns ρ o) a w) :
    ∀ (c : Code) (S : St) (X : Xs) (r : Option Nf) (tc : TC) (S' : Option St), tr F c S X = some (r, tc, S') → ∀ (κn : Rho → Res) (κx : Nat → Rho → Res) (ρ : Rho) (β : Nat → Option Nat) (a : Act) (w : World) (res : List Dyn),
      Rel C S.acc.sl S.acc.ks ρ β a w → den call fuel tc κn κx ρ = some res → ∀ (Q : Exit → Act → World → Prop),
      (∀ S1 ρ' β' a' w', S' = some S1 → Rel C S1.acc.sl S1.acc.ks ρ' β' a' w' → κn ρ' = some res → Q .normal a' w') →
      (∀ id p ρ' β' a' w', X.find? (·.1 == id) = some p → Rel C p.2.st.acc.sl p.2.st.acc.ks ρ' β' a' w' → κx id ρ' = some res → Q (.exit id) a' w') →
      (∀ a' w', RetP res a' w' → Q .ret a' w') → c.wp C.P Q a w := by
  intro c
  induction c with
  | skip =>
    intro S X r tc S' ht κn κx ρ β a w res h hd Q hn hx hr
    simp only [tr, Option.some.injEq, Prod.mk.injEq] at ht
    obtain ⟨rfl, rfl, rfl⟩ := ht
    exact wp_skip (hn S ρ β a w rfl h hd)
  | label l =>
    intro S X r tc S' ht κn κx ρ β a w res h hd Q hn hx hr
    simp only [tr, Option.some.injEq, Prod.mk.injEq] at ht
    obtain ⟨rfl, rfl, rfl⟩ := ht
    exact wp_label (hn S ρ β a w rfl h hd)
  | region id ops draw =>
    intro S X r tc S' ht κn κx ρ β a w res h hd Q hn hx hr
    simp only [tr, trRegion, regOps, hmp, Option.isSome_none, Bool.false_or, Option.bind_eq_bind, Option.bind_eq_some_iff, Option.some.injEq, Prod.mk.injEq] at ht
    obtain ⟨⟨S1, tc1⟩, ⟨⟨S2, es⟩, ho, h2⟩, rfl, rfl, rfl⟩ := ht
    split at h2
    · simp at h2
    rename_i hdok
    simp only [Option.some.injEq, Prod.mk.injEq] at h2
    obtain ⟨rfl, rfl⟩ := h2
    simp only [den, Option.bind_eq_some_iff] at hd
    obtain ⟨ρ1, hd1, hd2⟩ := hd
    obtain ⟨q1, q2⟩ := h.clean
    rw [← hnt] at ho
    cases draw with
    | true =>
      simp only [Bool.true_and, Bool.not_eq_true', Bool.not_eq_false] at hdok
      exact draw_ok hS hP ho hdok q1 q2 hd1 (fun β' a' w' h' => hn S2 ρ1 β' a' w' rfl h' hd2) id
    | false =>
      exact wp_region_list (trOps_ok hS ops.toList [] S.clean S2 es ρ ρ1 β a w ho q1 q2 hd1 Q (fun β' a' w' h' => hn S2 ρ1 β' a' w' rfl h' hd2))
  | seq x y ihx ihy =>
    intro S X r tc S' ht κn κx ρ β a w res h hd Q hn hx hr
    simp only [tr, Option.bind_eq_bind, Option.bind_eq_some_iff] at ht
    obtain ⟨⟨r1, ca, s1⟩, h1, ht⟩ := ht
    cases s1 with
    | none =>
      simp only [Option.some.injEq, Prod.mk.injEq] at ht
      obtain ⟨rfl, rfl, rfl⟩ := ht
      refine wp_seq (ihx S X r1 ca none h1 κn κx ρ β a w res h hd _ (fun S1 ρ' β' a' w' he => by simp at he) hx hr)
    | some S1 =>
      simp only [Option.bind_eq_some_iff, Option.some.injEq, Prod.mk.injEq] at ht
      obtain ⟨⟨r2, cb, s2⟩, h2, rfl, rfl, rfl⟩ := ht
      simp only [den] at hd
      refine wp_seq (ihx S X r1 ca (some S1) h1 _ κx ρ β a w res h hd _ (fun S1' ρ' β' a' w' he hrel hk => ?_) hx hr)
      simp only [Option.some.injEq] at he
      subst he
      exact ihy S1 X r2 cb s2 h2 κn κx ρ' β' a' w' res hrel hk Q hn hx hr
  | cond o x y ihx ihy =>
    intro S X r tc S' ht κn κx ρ β a w res h hd Q hn hx hr
    simp only [tr, Option.bind_eq_bind, Option.bind_eq_some_iff] at ht
    obtain ⟨e, he, ⟨r1, ca, s⟩, h1, ⟨r2, cb, t⟩, h2, ht⟩ := ht
    have hb : a.eval o = .bool (e.evB ρ) := by
      have := opT_ok h (cond := []) (fun y hy => by simp at hy) he
      simp only [RepC, Option.some.injEq] at this
      exact this
    refine wp_cond_split hb (fun hv => ?_) (fun hv => ?_)
    · cases s with
      | none =>
        simp only [Option.some.injEq, Prod.mk.injEq] at ht
        obtain ⟨rfl, rfl, rfl⟩ := ht
        simp only [den, hv, cond_true] at hd
        exact ihx S X r1 ca none h1 κn κx ρ β a w res h hd Q (fun S1 ρ' β' a' w' he => by simp at he) hx hr
      | some s1 =>
        cases t with
        | none =>
          simp only [Option.some.injEq, Prod.mk.injEq] at ht
          obtain ⟨rfl, rfl, rfl⟩ := ht
          simp only [den, hv, cond_true] at hd
          exact ihx S X r1 ca (some s1) h1 κn κx ρ β a w res h hd Q hn hx hr
        | some t1 =>
          simp only [Option.bind_eq_some_iff, Option.some.injEq, Prod.mk.injEq] at ht
          obtain ⟨ma, hma, mb, hmb, rfl, rfl, rfl⟩ := ht
          simp only [den, hv, cond_true] at hd
          refine ihx S X r1 ca (some s1) h1 _ κx ρ β a w res h hd Q (fun S1 ρ' β' a' w' he hrel hk => ?_) hx hr
          simp only [Option.some.injEq] at he
          subst he
          rw [← hrt] at hma
          obtain ⟨β2, hrel2⟩ := coerce_ok hrel hma
          rw [hrt] at hrel2
          exact hn _ _ β2 a' w' rfl hrel2 hk
    · cases t with
      | none =>
        cases s with
        | none =>
          simp only [Option.some.injEq, Prod.mk.injEq] at ht
          obtain ⟨rfl, rfl, rfl⟩ := ht
          simp only [den, hv, cond_false] at hd
          exact ihy S X r2 cb none h2 κn κx ρ β a w res h hd Q (fun S1 ρ' β' a' w' he => by simp at he) hx hr
        | some s1 =>
          simp only [Option.some.injEq, Prod.mk.injEq] at ht
          obtain ⟨rfl, rfl, rfl⟩ := ht
          simp only [den, hv, cond_false] at hd
          exact ihy S X r2 cb none h2 κn κx ρ β a w res h hd Q (fun S1 ρ' β' a' w' he => by simp at he) hx hr
      | some t1 =>
        cases s with
        | none =>
          simp only [Option.some.injEq, Prod.mk.injEq] at ht
          obtain ⟨rfl, rfl, rfl⟩ := ht
          simp only [den, hv, cond_false] at hd
          exact ihy S X r2 cb (some t1) h2 κn κx ρ β a w res h hd Q hn hx hr
        | some s1 =>
          simp only [Option.bind_eq_some_iff, Option.some.injEq, Prod.mk.injEq] at ht
          obtain ⟨ma, hma, mb, hmb, rfl, rfl, rfl⟩ := ht
          simp only [den, hv, cond_false] at hd
          refine ihy S X r2 cb (some t1) h2 _ κx ρ β a w res h hd Q (fun S1 ρ' β' a' w' he hrel hk => ?_) hx hr
          simp only [Option.some.injEq] at he
          subst he
          rw [← hrt] at hmb
          obtain ⟨β2, hrel2⟩ := coerce_ok hrel hmb
          rw [hrt] at hrel2
          exact hn _ _ β2 a' w' rfl hrel2 hk
  | block id x ih =>
    intro S X r tc S' ht κn κx ρ β a w res h hd Q hn hx hr
    simp only [tr, Option.bind_eq_bind, Option.bind_eq_some_iff] at ht
    obtain ⟨⟨xs, s⟩, hfl, ht⟩ := ht
    simp only at ht
    split at ht
    · simp only [Option.bind_eq_some_iff] at ht
      obtain ⟨⟨r1, cc, s1⟩, h1, ht⟩ := ht
      cases s1 with
      | some _ => simp at ht
      | none =>
        simp only [Option.some.injEq, Prod.mk.injEq] at ht
        obtain ⟨rfl, rfl, rfl⟩ := ht
        simp only [den] at hd
        refine wp_block (ih S _ r1 cc none h1 _ _ ρ β a w res h hd _ (fun S1 ρ' β' a' w' he => by simp at he) (fun id' p ρ' β' a' w' hf hrel hk => ?_) hr)
        have hp := List.find?_some hf
        have hm := List.mem_of_find?_eq_some hf
        simp only [List.mem_filter] at hm
        have hne : id' ≠ id := by
          intro e
          have h1 : p.1 = id' := by simpa using hp
          have h2 : p.1 ≠ id := by simpa using hm.2
          exact h2 (by rw [h1, e])
        have hne' : (id' == id) = false := by simpa using hne
        simp only [hne', cond_false] at hk
        simp only [Exit.inBlock, hne, if_false]
        refine hx id' p ρ' β' a' w' ?_ hrel hk
        have gen : ∀ (X : Xs), (X.filter (·.1 != id)).find? (·.1 == id') = some p → X.find? (·.1 == id') = some p := by
          intro X
          induction X with
          | nil => intro hh; exact hh
          | cons q X ihX =>
            intro hh
            by_cases hq : q.1 = id
            · have : ((q :: X).filter (·.1 != id)) = X.filter (·.1 != id) := by simp [List.filter_cons, hq]
              rw [this] at hh
              rw [List.find?_cons_of_neg (by simp [hq]; exact fun e => hne e.symm)]
              exact ihX hh
            · have : ((q :: X).filter (·.1 != id)) = q :: X.filter (·.1 != id) := by simp [List.filter_cons, hq]
              rw [this] at hh
              by_cases hq2 : q.1 = id'
              · rw [List.find?_cons_of_pos (by simpa using hq2)] at hh ⊢
                exact hh
              · rw [List.find?_cons_of_neg (by simpa using hq2)] at hh ⊢
                exact ihX hh
        exact gen X hf
    · rename_i hd0 tl0 heq
      simp only [Option.bind_eq_some_iff] at ht
      obtain ⟨⟨r1, cc, s1⟩, h1, ht⟩ := ht
      have exits : ∀ (N : Nf) (S1 : St), S' = some S1 → S1 = N.st → (∀ id' p ρ' β' a' w', List.find? (fun x : Nat × Nf => x.1 == id') ((id, N) :: X) = some p → Rel C p.2.st.acc.sl p.2.st.acc.ks ρ' β' a' w' →
          (bif id' == id then κn ρ' else κx id' ρ') = some res → Exit.inBlock id Q (.exit id') a' w') := by
        intro N S1 hS1 hN id' p ρ' β' a' w' hf hrel hk
        by_cases hid : id' = id
        · subst hid
          rw [List.find?_cons_of_pos (by simp)] at hf
          simp only [Option.some.injEq] at hf
          subst hf
          simp only [beq_self_eq_true, cond_true] at hk
          simp only [Exit.inBlock, if_true]
          exact hn S1 ρ' β' a' w' hS1 (by rw [hN]; exact hrel) hk
        · rw [List.find?_cons_of_neg (by simp; exact fun e => hid e.symm)] at hf
          have hid' : (id' == id) = false := by simpa using hid
          simp only [hid', cond_false] at hk
          simp only [Exit.inBlock, hid, if_false]
          exact hx id' p ρ' β' a' w' hf hrel hk
      cases s1 with
      | none =>
        simp only [Option.some.injEq, Prod.mk.injEq] at ht
        obtain ⟨rfl, rfl, rfl⟩ := ht
        simp only [den] at hd
        exact wp_block (ih S _ r1 cc none h1 _ _ ρ β a w res h hd _ (fun S1 ρ' β' a' w' he => by simp at he) (exits _ _ rfl rfl) hr)
      | some s1 =>
        simp only [Option.bind_eq_some_iff, Option.some.injEq, Prod.mk.injEq] at ht
        obtain ⟨m, hm, rfl, rfl, rfl⟩ := ht
        simp only [den] at hd
        refine wp_block (ih S _ r1 cc (some s1) h1 _ _ ρ β a w res h hd _ (fun S1 ρ' β' a' w' he hrel hk => ?_) (exits _ _ rfl rfl) hr)
        simp only [Option.some.injEq] at he
        subst he
        rw [← hrt] at hm
        obtain ⟨β2, hrel2⟩ := coerce_ok hrel hm
        rw [hrt] at hrel2
        exact hn _ _ β2 a' w' rfl hrel2 hk
  | loop x ih =>
    intro S X r tc S' ht κn κx ρ β a w res h hd Q hn hx hr
    simp only [tr, Option.bind_eq_bind, Option.bind_eq_some_iff] at ht
    obtain ⟨N, hN, m0, hm0, ⟨r1, cc, s⟩, h1, ht⟩ := ht
    rw [← hrt] at hm0
    obtain ⟨β0, hrel0⟩ := coerce_ok h hm0
    cases s with
    | none =>
      simp only [Option.some.injEq, Prod.mk.injEq] at ht
      obtain ⟨rfl, rfl, rfl⟩ := ht
      simp only [den] at hd
      have key : ∀ (k : Nat) (ρ : Rho) (β : Nat → Option Nat) (a : Act) (w : World), Rel C N.st.acc.sl N.st.acc.ks ρ β a w → iter k (fun self => den call fuel cc self κx) ρ = some res → Code.rounds C.P x Q k a w := by
        intro k
        induction k with
        | zero => intro ρ β a w _ hd; simp [iter] at hd
        | succ k ihk =>
          intro ρ β a w h hd
          simp only [iter] at hd
          rw [rounds_succ]
          exact ih N.st X r1 cc none h1 _ κx ρ β a w res h hd _ (fun S1 ρ' β' a' w' he => by simp at he) hx hr
      exact wp_loop_rounds fuel (key fuel _ β0 a w hrel0 hd)
    | some s1 =>
      simp only [Option.bind_eq_some_iff, Option.some.injEq, Prod.mk.injEq] at ht
      obtain ⟨m, hm, rfl, rfl, rfl⟩ := ht
      simp only [den] at hd
      have key : ∀ (k : Nat) (ρ : Rho) (β : Nat → Option Nat) (a : Act) (w : World), Rel C N.st.acc.sl N.st.acc.ks ρ β a w → iter k (fun self => den call fuel cc (fun ρ => self (updS ρ (evs ρ m))) κx) ρ = some res → Code.rounds C.P x Q k a w := by
        intro k
        induction k with
        | zero => intro ρ β a w _ hd; simp [iter] at hd
        | succ k ihk =>
          intro ρ β a w h hd
          simp only [iter] at hd
          rw [rounds_succ]
          refine ih N.st X r1 cc (some s1) h1 _ κx ρ β a w res h hd _ (fun S1 ρ' β' a' w' he hrel hk => ?_) hx hr
          simp only [Option.some.injEq] at he
          subst he
          rw [← hrt] at hm
          obtain ⟨β2, hrel2⟩ := coerce_ok hrel hm
          exact ihk _ β2 a' w' hrel2 hk
      exact wp_loop_rounds fuel (key fuel _ β0 a w hrel0 hd)
  | exit id =>
    intro S X r tc S' ht κn κx ρ β a w res h hd Q hn hx hr
    simp only [tr, Option.bind_eq_bind, Option.bind_eq_some_iff, Option.some.injEq, Prod.mk.injEq] at ht
    obtain ⟨p, hp, m, hm, rfl, rfl, rfl⟩ := ht
    simp only [den] at hd
    rw [← hrt] at hm
    obtain ⟨β2, hrel2⟩ := coerce_ok h hm
    exact wp_exit (hx id p _ β2 a w hp hrel2 hd)
  | ret =>
    intro S X r tc S' ht κn κx ρ β a w res h hd Q hn hx hr
    simp only [tr, Option.bind_eq_bind, Option.bind_eq_some_iff, Option.some.injEq, Prod.mk.injEq] at ht
    obtain ⟨o, ho, rfl, rfl, rfl⟩ := ht
    simp only [den, Option.some.injEq] at hd
    subst hd
    exact wp_ret (hr a w (hret S o ρ β a w ho h))
  | scope x ih =>
    intro S X r tc S' ht κn κx ρ β a w res h hd Q hn hx hr
    simp only [tr] at ht
    exact wp_scope_straight (ih S X r tc S' ht κn κx ρ β a w res h hd _ hn hx hr)
  | _ => intros; simp_all [tr]
end
end Rk
set_option linter.unusedVariables false
set_option linter.unusedSimpArgs false
namespace Rk
open Go
structure Entry (E : Env) (C : Ctx) (sg : Sig) (ρ : Rho) (β : Nat → Option Nat) (args : List Value) : Prop where
  tabs : TabsOk E C
  inj : ∀ κ κ' b, Priv (tgtT sg.inKs) κ → Priv (tgtT sg.inKs) κ' → β κ = some b → β κ' = some b → κ = κ'
  own : ∀ κ b, Priv (tgtT sg.inKs) κ → β κ = some b → C.T b
  keys : ∀ x ∈ sg.inKs, KeyOk (memOf C (tgtT sg.inKs) β ρ C.w0) x.1 x.2
  slots : SKsOk (memOf C (tgtT sg.inKs) β ρ C.w0) sg.inSl args
  jt : ∀ b, C.J b → b < C.w0.heap.size ∧ ¬ C.T b
  tt : ∀ b, C.T b → b < C.w0.heap.size
  tab : ∀ g, ρ (.g g) = C.tabs g
structure OutOk (C : Ctx) (sg : Sig) (ρ : Rho) (β : Nat → Option Nat) (v : Value) (w : World) : Prop where
  inj : ∀ κ κ' b, Priv (tgtT sg.outKs) κ → Priv (tgtT sg.outKs) κ' → β κ = some b → β κ' = some b → κ = κ'
  own : ∀ κ b, Priv (tgtT sg.outKs) κ → β κ = some b → C.own b ∧ b < w.heap.size
  keys : ∀ x ∈ sg.outKs, KeyOk (memOf C (tgtT sg.outKs) β ρ w) x.1 x.2
  slot : SKOk (memOf C (tgtT sg.outKs) β ρ w) 0 sg.outSK v
  fr : Keep C w
  root : ∀ κ ∈ sg.roots, β κ = C.β0 κ
def Sound (G : Prg) (call : CallF) : Prop :=
  ∀ (f : FuncId) (i : Nat) (xs r : List Dyn) (sg : Sig), call f i xs = some r → (G.E.sig f)[i]? = some sg → ∀ (C : Ctx) (β : Nat → Option Nat) (args : List Value),
    C.tabs = G.tabs → C.β0 = β → C.rts = sg.roots → Entry G.E C sg (G.init sg xs) β args →
    Calls G.E.P f args.toArray C.w0 (fun e w' => ∃ v, e = .returned v ∧ r.length = sg.outLocs.length ∧ ∃ β', OutOk C sg (updS (baseRho G.tabs) ((sg.outLocs.map (·.1)).zip r)) β' v w')
section
variable {C : Ctx} {ρ : Rho} {β : Nat → Option Nat} {a : Act} {w : World}
theorem roots_ge {sg : Sig} (hl : sg.iks.length ≤ 100000) : ∀ κ ∈ sg.roots, 100000 ≤ κ ∧ κ < 200000 := by
  intro κ hκ
  simp only [Sig.roots, List.mem_filterMap] at hκ
  obtain ⟨⟨k, i⟩, hm, h⟩ := hκ
  have hi : i < sg.iks.length := by
    have := List.mem_zipIdx hm
    omega
  split at h
  · simp only [Option.some.injEq] at h
    rw [← h]
    unfold inKey
    omega
  · simp at h
theorem SKsOk.length {M : Mem} : ∀ (l : List (Nat × SK)) (vs : List Value), SKsOk M l vs → l.length = vs.length
  | [], [], _ => rfl
  | (i, k) :: r, v :: vs, h => by simp [SKsOk.length r vs h.2]
  | [], _ :: _, h => h.elim
  | _ :: _, [], h => h.elim
theorem SKsOk.at {M : Mem} : ∀ (l : List (Nat × SK)) (vs : List Value), SKsOk M l vs → ∀ (q : Nat) (x : Nat × SK), l[q]? = some x → ∃ v, vs[q]? = some v ∧ SKOk M x.1 x.2 v
  | (i, k) :: r, v :: vs, h, 0, x, hq => by simp at hq; subst hq; exact ⟨v, rfl, h.1⟩
  | (i, k) :: r, v :: vs, h, q + 1, x, hq => by simpa using SKsOk.at r vs h.2 q x (by simpa using hq)
  | [], [], h, q, x, hq => by simp at hq
  | [], _ :: _, h, _, _, _ => h.elim
  | _ :: _, [], h, _, _, _ => h.elim
theorem inSl_at (sg : Sig) (q : Nat) (x : Nat × SK) (h : sg.inSl[q]? = some x) : x.1 = q := by
  simp only [Sig.inSl, List.getElem?_map, Option.map_eq_some_iff] at h
  obtain ⟨y, hy, rfl⟩ := h
  simp only [List.getElem?_zipIdx, Option.map_eq_some_iff] at hy
  obtain ⟨k, _, rfl⟩ := hy
  simp
theorem inSl_length (sg : Sig) : sg.inSl.length = sg.ins.length := by simp [Sig.inSl]
theorem Entry.rel {E : Env} {sg : Sig} {args : List Value} (h : Entry E C sg ρ β args) (hβ : C.β0 = β) (hn : sg.ins.length ≤ C.nt) (hok : (entryN sg).ok = true) :
    Rel C (entry sg).acc.sl (entry sg).acc.ks ρ β { tmps := args.toArray ++ Array.replicate (C.nt - args.toArray.size) undef, defers := [] } C.w0 := by
  obtain ⟨e1, e2⟩ := Nf_acc hok
  have e1' : (entry sg).acc.ks = tgtT sg.inKs := e1
  have hlen : args.length = sg.ins.length := by rw [← SKsOk.length _ _ h.slots, inSl_length]
  rw [e1']
  refine ⟨h.inj, fun κ b hp hb => ⟨.inl (h.own κ b hp hb), h.tt b (h.own κ b hp hb)⟩, fun κ k hk => h.keys (κ, k) (find_mem hk), fun i => ?_, ?_, rfl, ⟨rfl, rfl, rfl, Nat.le_refl _, fun _ _ _ => rfl⟩, h.jt, h.tt, h.tab, fun κ _ => by rw [hβ]⟩
  · have := e2 i
    unfold entry
    rw [this]
    rcases putSl_find (entryN sg).sl (fun _ => ⟨[], .dead⟩) i with ⟨s, q1, q2⟩ | q
    · rw [q2]
      intro _
      simp only [entryN, List.mem_map] at q1
      obtain ⟨y, hy, hye⟩ := q1
      simp only [Prod.mk.injEq] at hye
      obtain ⟨rfl, rfl⟩ := hye
      obtain ⟨q, hq⟩ := List.getElem?_of_mem hy
      obtain ⟨v, hv1, hv2⟩ := SKsOk.at _ _ h.slots q y hq
      have hyq := inSl_at sg q y hq
      have hqlt : q < args.length := by
        rcases Nat.lt_or_ge q args.length with h' | h'
        · exact h'
        · simp [List.getElem?_eq_none h'] at hv1
      have : (args.toArray ++ Array.replicate (C.nt - args.toArray.size) undef).getD y.1 undef = v := by
        rw [hyq, Array.getD_eq_getD_getElem?, Array.getElem?_append_left (by simpa using hqlt), List.getElem?_toArray, hv1]
        rfl
      simp only
      rw [this]
      exact hv2
    · rw [q]; intro _; trivial
  · simp only [Array.size_append, Array.size_replicate, List.size_toArray]
    omega
def resM (a : Act) : ResultVar → Sem Value
  | .tmp t => pure (a.tmps.getD t undef)
  | .cell c t => do loadVar t (← asAddr (a.tmps.getD c undef))
theorem results_eq (fn : Func) (a : Act) : results fn a.tmps = (do let vs ← fn.results.mapM (resM a); pure (if h : vs.size = 1 then vs[0] else .tuple vs)) := by
  have : (fun x : ResultVar => match x with | .tmp t => (pure (a.tmps.getD t undef) : Sem Value) | .cell c t => do loadVar t (← asAddr (a.tmps.getD c undef))) = resM a := by
    funext x; cases x <;> rfl
  unfold results
  rw [← this]
  rfl
theorem resV_ok {E : Env} {S : St} (hP : C.P = E.P) (h : Rel C S.acc.sl S.acc.ks ρ β a w) : ∀ (rs : List ResultVar) (vs : List (Bool × List CE)), rs.mapM (resV E S.acc) = some vs →
    ∃ vals : List Value, (rs.mapM (resM a)).run C.P w = .ok vals w ∧ VsOk (memOf C S.acc.ks β ρ w) vs vals
  | [], vs, hm => by
    simp at hm; subst hm
    exact ⟨[], by simp, trivial⟩
  | r :: rs, vs, hm => by
    simp only [List.mapM_cons, Option.bind_eq_bind, Option.bind_eq_some_iff, Option.pure_def, Option.some.injEq] at hm
    obtain ⟨v, h1, ws, h2, rfl⟩ := hm
    obtain ⟨vals, q1, q2⟩ := resV_ok hP h rs ws h2
    cases r with
    | cell c t =>
      simp only [resV, Option.bind_eq_bind, Option.bind_eq_some_iff] at h1
      obtain ⟨⟨s, e0⟩, hc, g, hg, n, hn, h1⟩ := h1
      rw [← hP] at hg hn
      have hv := op1_ok h (cond := []) (fun y hy => by simp at hy) hc
      dsimp only at h1
      split at h1
      · rename_i κ j
        simp only [Option.bind_eq_some_iff] at h1
        obtain ⟨k, hk, h1⟩ := h1
        split at h1
        · rename_i cs
          split at h1
          · rename_i hcond
            simp only [Option.some.injEq] at h1
            subst h1
            simp only [Bool.and_eq_true, Bool.or_eq_true, decide_eq_true_eq, beq_iff_eq] at hcond
            have hcell := hv.2
            simp only [CellOk, memOf, hk] at hcell
            obtain ⟨b, hb, hvb⟩ := hcell
            obtain ⟨b', cc, h0, h1, h2'⟩ := h.keys κ _ hk
            simp only [memOf] at h0
            rw [hb] at h0; simp only [Option.some.injEq] at h0; subst h0
            have hlen := h2'.length
            have h3 := (CellsOk.take n _ _ _ (CellsOk.drop j _ _ _ h2'))
            rw [Nat.zero_add] at h3
            have hl : ((cc.toList.drop j).take n).length = n := by simp only [List.length_take, List.length_drop]; omega
            have hrun := run_loadVar_cells (P := C.P) (w := w) (b := b) (o := j) hg hn hcond.2 hl (fun i hi => by
              have := h1.cell (j + i)
              simp only [memOf] at this
              rw [this, List.getElem?_take, if_pos hi, List.getElem?_drop, Array.getElem?_toList])
            have hvb' : a.tmps.getD c undef = .pointer (some ⟨b, j, none⟩) := hvb
            refine ⟨mkV g ((cc.toList.drop j).take n) :: vals, ?_, ⟨_, rfl, fun hg' => ?_, CEsOk.of_cells _ _ _ h3⟩, q2⟩
            · simp only [List.mapM_cons, Sem.run_bind, resM, hvb', asAddr, Sem.run_pure, Result.andThen_ok, hrun, q1]
            · rw [hl]
              rcases hcond.2 with hq | hq
              · simp only at hg'; rw [hg'] at hq; simp at hq
              · exact hq
          · simp at h1
        · simp at h1
      · rename_i κ
        simp only [Option.bind_eq_some_iff] at h1
        obtain ⟨k, hk, h1⟩ := h1
        split at h1
        · rename_i u m
          split at h1
          · rename_i hcond
            simp only [Option.some.injEq] at h1
            subst h1
            simp only [Bool.and_eq_true, beq_iff_eq] at hcond
            obtain ⟨⟨rfl, rfl⟩, hu⟩ := hcond
            have hcell := hv.2
            simp only [CellOk, memOf, hk] at hcell
            obtain ⟨b, hb, hvb⟩ := hcell
            obtain ⟨b', cc, h0, hblk, hm, hrows⟩ := h.keys κ _ hk
            simp only [memOf] at h0 hm
            rw [hb] at h0; simp only [Option.some.injEq] at h0; subst h0
            obtain ⟨vs, r1, r2, r3⟩ := arrCs_ok (M := memOf C S.acc.ks β ρ w) (e := .loc (.k κ 0)) (c := cc) hu hrows n 0 (by
              show 0 + n ≤ (content ρ κ u).length
              omega)
            have hrun := run_loadVar_cells (P := C.P) (w := w) (b := b) (o := 0) hg hn (.inl rfl) r1 (fun i hi => by
              have := hblk.cell (0 + i)
              simp only [memOf] at this
              rw [this]
              have := r2 i hi
              rw [← this])
            have hvb' : a.tmps.getD c undef = .pointer (some ⟨b, 0, none⟩) := hvb
            refine ⟨mkV true vs :: vals, ?_, ⟨_, rfl, fun hg' => by simp at hg', r3⟩, q2⟩
            simp only [List.mapM_cons, Sem.run_bind, resM, hvb', asAddr, Sem.run_pure, Result.andThen_ok, hrun, q1]
          · simp at h1
        · simp at h1
      · simp at h1
    | tmp t =>
      simp only [resV] at h1
      have hv := opC_ok h (cond := []) (fun y hy => by simp at hy) h1
      refine ⟨a.tmps.getD t undef :: vals, ?_, hv, q2⟩
      simp only [List.mapM_cons, Sem.run_bind, resM, Sem.run_pure, Result.andThen_ok, q1]
theorem VsOk.length {M : Mem} : ∀ (Vs : List (Bool × List CE)) (vs : List Value), VsOk M Vs vs → Vs.length = vs.length
  | [], [], _ => rfl
  | V :: Vs, v :: vs, h => by simp [VsOk.length Vs vs h.2]
  | [], _ :: _, h => h.elim
  | _ :: _, [], h => h.elim
theorem inj_roots (rt : List Nat) : Inj1 (rt.map fun κ => (κ, some κ)) := by
  have key : ∀ (rt : List Nat) κ κ', lookK (rt.map fun κ => (κ, some κ)) κ = some (some κ') → κ = κ' := by
    intro rt
    induction rt with
    | nil => intro κ κ' hh; simp [lookK] at hh
    | cons r rt ih =>
      intro κ κ' hh
      simp only [List.map_cons, lookK] at hh
      split at hh
      · rename_i hr
        have hr' : r = κ := by simpa using hr
        simp only [Option.some.injEq] at hh
        rw [← hr', hh]
      · exact ih κ κ' hh
  intro κ1 κ2 κ' q1 q2
  rw [key rt _ _ q1, key rt _ _ q2]
theorem look_roots {κ : Nat} : ∀ (rt : List Nat), κ ∈ rt → lookK (rt.map fun κ => (κ, some κ)) κ = some (some κ)
  | [], hh => by simp at hh
  | r :: rt, hh => by
    simp only [List.map_cons, lookK]
    by_cases hr : r = κ
    · simp [hr]
    · have hr' : (r == κ) = false := by simpa using hr
      rw [hr']
      simp only [Bool.false_eq_true, if_false]
      exact look_roots rt (by rcases List.mem_cons.1 hh with hh | hh; exact absurd hh.symm hr; exact hh)
theorem zip_evs (ρ : Rho) : ∀ (l : List (Loc × Ty × PE)), ((l.map fun x => (x.1, x.2.1)).map (·.1)).zip (dyns ρ (l.map (·.2))) = evs ρ l
  | [] => rfl
  | x :: r => by
    simp only [List.map_cons, dyns, evs, List.zip_cons_cons]
    congr 1
    exact zip_evs ρ r
theorem trRet_ok {F : Fe} {S : St} {o : List (Ty × PE)} {tabs : Nat → Dyn} (hP : C.P = F.E.P) (hrt : C.rts = F.rt) (hrs : F.rt = F.sg.roots) (ho : trRet F S.acc = some o) (h : Rel C S.acc.sl S.acc.ks ρ β a w) :
    a.defers = [] ∧ (dyns ρ o).length = F.sg.outLocs.length ∧ ∃ v, (results F.fn a.tmps).run C.P w = .ok v w ∧ ∃ β', OutOk C F.sg (updS (baseRho tabs) ((F.sg.outLocs.map (·.1)).zip (dyns ρ o))) β' v w := by
  refine ⟨h.dfr, ?_⟩
  simp only [trRet, Option.bind_eq_bind, Option.bind_eq_some_iff] at ho
  obtain ⟨vs, hvs, c, hcv, ho⟩ := ho
  split at ho
  · simp at ho
  rename_i hcond
  simp only [Bool.or_eq_true, bne_iff_ne, ne_eq, Bool.not_eq_true', not_or, Decidable.not_not, Bool.not_eq_false] at hcond
  obtain ⟨⟨hlocs, hnd⟩, hnk⟩ := hcond
  simp only [Option.some.injEq] at ho
  subst ho
  have hnd' := nodupB_ok _ hnd
  have hnk' := nodupB_ok _ hnk
  obtain ⟨vals, q1, q2⟩ := resV_ok hP h _ _ hvs
  have hvl := VsOk.length _ _ q2
  have hres : ∃ v, (results F.fn a.tmps).run C.P w = .ok v w ∧ OpVOk (memOf C S.acc.ks β ρ w) (retV vs) v := by
    clear hvs hcv
    have hm : (F.fn.results.mapM (resM a)).run C.P w = .ok vals.toArray w := by
      rw [Array.mapM_eq_mapM_toList, Sem.run_map, q1]
      rfl
    have hrun : (results F.fn a.tmps).run C.P w = .ok (if h : vals.toArray.size = 1 then vals.toArray[0] else .tuple vals.toArray) w := by
      rw [results_eq]
      simp only [Sem.run_bind, hm, Result.andThen_ok, Sem.run_pure]
    refine ⟨_, hrun, ?_⟩
    match vs, vals, q2 with
    | [], [], _ => exact ⟨[], rfl, trivial⟩
    | [v], [x], q2 => exact q2.1
    | v :: v2 :: vs, x :: x2 :: xs, q2 =>
      refine ⟨x :: x2 :: xs, ?_, q2⟩
      have : ¬ ((x :: x2 :: xs).toArray.size = 1) := by simp
      rw [dif_neg this]
    | [], _ :: _, q2 => exact q2.elim
    | [_], [], q2 => exact q2.elim
    | [_], _ :: _ :: _, q2 => exact q2.2.elim
    | _ :: _ :: _, [], q2 => exact q2.elim
    | _ :: _ :: _, [_], q2 => exact q2.2.elim
  obtain ⟨v, hrun, hv⟩ := hres
  refine ⟨by rw [← hlocs]; simp [dyns], v, hrun, tgtβ c.km β, ?_⟩
  have hmv : ∀ x ∈ c.mvs, ((updS (baseRho tabs) ((F.sg.outLocs.map (·.1)).zip (dyns ρ (c.mvs.map (·.2))))) x.1).get x.2.1 = x.2.2.ev ρ x.2.1 := by
    intro x hx
    rw [← hlocs, zip_evs]
    have hm2 : (x.1, (⟨x.2.1, x.2.2.ev ρ x.2.1⟩ : Dyn)) ∈ evs ρ c.mvs := List.mem_map.2 ⟨x, hx, rfl⟩
    have := updS_mem (ρ := baseRho tabs) (evs ρ c.mvs) (by
      rw [← hlocs] at hnd'
      simpa [evs, Function.comp_def] using hnd') _ hm2
    simp only at this
    rw [this, Dyn.get_mk]
  obtain ⟨k1, k2, k3⟩ := conv_imms h hcv
  have hF := conv_fits (I := imms C (tgtT F.sg.outKs) (tgtβ c.km β) w) (β' := tgtβ c.km β) h hcv hnk' (fun κ o hk => by simp only [tgtβ, hk]; cases o <;> rfl) hmv k3
  obtain ⟨c1, h1, h2, h3⟩ := conv_spec hcv
  have hinj : Inj1 c.km := (cvKs_le _ _ _ h2).2 ((cvSl_le _ _ _ _ h1).2 (inj_roots F.rt))
  have hsk := cvSl_ok h _ _ [v] _ _ h1 (hF.le (cvKs_le _ _ _ h2).1) ⟨hv, trivial⟩
  have hkk := cvKs_ok h _ _ _ h2 hF (fun x hx => mem_find hnk' hx)
  refine ⟨fun κ κ' b p1 p2 b1 b2 => ?_, fun κ b p1 b1 => ?_, hkk, hsk.1, h.fr, fun κ hκ => ?_⟩
  · obtain ⟨κ1, q1, q2, q3⟩ := k1 κ b p1 b1
    obtain ⟨κ2, r1, r2, r3⟩ := k1 κ' b p2 b2
    have : κ1 = κ2 := h.inj κ1 κ2 b q2 r2 q3 r3
    subst this
    exact hinj _ _ _ q1 r1
  · obtain ⟨κ1, q1, q2, q3⟩ := k1 κ b p1 b1
    exact h.own κ1 b q2 q3
  · rw [← hrs] at hκ
    have := (cvKs_le _ _ _ h2).1.km _ _ ((cvSl_le _ _ _ _ h1).1.km _ _ (look_roots F.rt hκ))
    simp only [tgtβ, this]
    exact h.rt κ (by rw [hrt]; exact hκ)
end
theorem fn_ok {G : Prg} {call : CallF} {fuel : Nat} (hS : ∀ C : Ctx, TabsOk G.E C → C.tabs = G.tabs → StepSound G.E C call) {f : FuncId} {i : Nat} {tc : TC} {sg : Sig} (hc : G.code f i = some (tc, sg)) (hfm : ∀ fn body, G.E.P.funcs[f]? = some fn → fn.body = some body → findMap body = none) {xs r : List Dyn}
    (hr : den call fuel tc (fun _ => none) (fun _ _ => none) (G.init sg xs) = some r) {C : Ctx} {β : Nat → Option Nat} {args : List Value} (htb : C.tabs = G.tabs) (hβ : C.β0 = β) (hrt : C.rts = sg.roots) (he : Entry G.E C sg (G.init sg xs) β args) :
    Calls G.E.P f args.toArray C.w0 (fun e w' => ∃ v, e = .returned v ∧ r.length = sg.outLocs.length ∧ ∃ β', OutOk C sg (updS (baseRho G.tabs) ((sg.outLocs.map (·.1)).zip r)) β' v w') := by
  obtain ⟨fn, tc', hfn, hsg, htc, rfl, _⟩ := Prg.code_spec hc
  rw [den_ann] at hr
  simp only [trFn, Option.bind_eq_bind, Option.bind_eq_some_iff] at htc
  obtain ⟨body, hbody, htc⟩ := htc
  split at htc
  · simp at htc
  rename_i hcond
  simp only [Bool.or_eq_true, decide_eq_true_eq, Bool.not_eq_true', not_or, Nat.not_lt, Bool.not_eq_false] at hcond
  obtain ⟨⟨⟨hn1, hn2⟩, hok⟩, hik⟩ := hcond
  have hfm := hfm fn body hfn hbody
  rw [hfm] at htc
  simp only [Option.isSome_none, Bool.false_and, Bool.false_eq_true, if_false] at htc
  let C2 : Ctx := { C with nt := fn.ntmps, hrt := fun κ hκ => by have := roots_ge hik κ (by rw [← hrt]; exact hκ); omega }
  have he2 : Entry G.E C2 sg (G.init sg xs) β args := ⟨⟨he.tabs.P, he.tabs.tab⟩, he.inj, he.own, he.keys, he.slots, he.jt, he.tt, he.tab⟩
  have hrel := he2.rel hβ hn2 hok
  have hP : C2.P = G.E.P := he.tabs.P
  have hlen : args.length = sg.ins.length := by rw [← SKsOk.length _ _ he.slots, inSl_length]
  have hSS : StepSound G.E C2 call := @hS C2 ⟨he.tabs.P, he.tabs.tab⟩ htb
  refine calls_of_wp hfn hbody ?_
  have toQ : ∀ (res : List Dyn) (a' : Act) (w' : World), (a'.defers = [] ∧ res.length = sg.outLocs.length ∧ ∃ v, (results fn a'.tmps).run C2.P w' = .ok v w' ∧ ∃ β', OutOk C2 sg (updS (baseRho G.tabs) ((sg.outLocs.map (·.1)).zip res)) β' v w') → res = r →
      (a'.defers = [] ∧ ∃ v, (results fn a'.tmps).run G.E.P w' = .ok v w' ∧ ∃ v', Ending.returned v = .returned v' ∧ r.length = sg.outLocs.length ∧ ∃ β', OutOk C sg (updS (baseRho G.tabs) ((sg.outLocs.map (·.1)).zip r)) β' v' w') := by
    rintro res a' w' ⟨h1, h0, v, h2, β', h3⟩ rfl
    rw [hP] at h2
    exact ⟨h1, v, h2, v, rfl, h0, β', ⟨h3.inj, h3.own, h3.keys, h3.slot, ⟨h3.fr.os, h3.fr.tape, h3.fr.output, h3.fr.size, h3.fr.block⟩, h3.root⟩⟩
  simp only [Option.bind_eq_some_iff] at htc
  obtain ⟨⟨r1, cc, s⟩, ht, htc⟩ := htc
  have hret : ∀ (S : St) o ρ β a w, trRet ⟨G.E, fn, sg, fn.ntmps, sg.roots, none⟩ S.acc = some o → Rel C2 S.acc.sl S.acc.ks ρ β a w →
      (a.defers = [] ∧ (dyns ρ o).length = sg.outLocs.length ∧ ∃ v, (results fn a.tmps).run C2.P w = .ok v w ∧ ∃ β', OutOk C2 sg (updS (baseRho G.tabs) ((sg.outLocs.map (·.1)).zip (dyns ρ o))) β' v w) :=
    fun S o ρ β a w ho hr => trRet_ok (C := C2) (F := ⟨G.E, fn, sg, fn.ntmps, sg.roots, none⟩) hP hrt rfl ho hr
  have base := tr_ok (hmp := rfl) (C := C2) (F := ⟨G.E, fn, sg, fn.ntmps, sg.roots, none⟩) (call := call) (fuel := fuel) (@hSS) hP rfl hrt
    (RetP := fun res a' w' => a'.defers = [] ∧ res.length = sg.outLocs.length ∧ ∃ v, (results fn a'.tmps).run C2.P w' = .ok v w' ∧ ∃ β', OutOk C2 sg (updS (baseRho G.tabs) ((sg.outLocs.map (·.1)).zip res)) β' v w') hret body (entry sg) [] r1 cc s ht
  rw [← hP]
  cases s with
  | none =>
    simp only [Option.some.injEq] at htc
    subst htc
    refine base _ _ _ β _ _ r hrel hr _ (fun S1 ρ' β' a' w' he => by simp at he) (fun id p ρ' β' a' w' hf => by simp at hf) (fun a' w' hret => ?_)
    rw [hP]
    exact toQ r a' w' hret rfl
  | some S1 =>
    simp only [Option.bind_eq_some_iff, Option.some.injEq] at htc
    obtain ⟨o, ho, rfl⟩ := htc
    simp only [den] at hr
    refine base _ _ _ β _ _ r hrel hr _ (fun S2 ρ' β' a' w' he hrel' hk => ?_) (fun id p ρ' β' a' w' hf => by simp at hf) (fun a' w' hret => ?_)
    · simp only [Option.some.injEq] at he hk
      subst he
      rw [hP]
      exact toQ _ a' w' (hret S1 o ρ' β' a' w' ho hrel') hk
    · rw [hP]
      exact toQ r a' w' hret rfl
end Rk
set_option linter.unusedVariables false
set_option linter.unusedSimpArgs false
namespace Rk
open Go
theorem find1 {α : Type} {l : List (Nat × α)} {κ : Nat} {k : α} (h : (l.find? (·.1 == κ)).map (·.2) = some k) : (κ, k) ∈ l := by
  simp only [Option.map_eq_some_iff] at h
  obtain ⟨x, hx, rfl⟩ := h
  have h1 := List.mem_of_find?_eq_some hx
  have h2 := List.find?_some hx
  have h2' : x.1 = κ := by simpa using h2
  subst h2'
  exact h1
theorem find2 {l : List (Nat × Nat)} {n κ : Nat} (h : (l.find? (·.2 == n)).map (·.1) = some κ) : (κ, n) ∈ l := by
  simp only [Option.map_eq_some_iff] at h
  obtain ⟨x, hx, rfl⟩ := h
  have h1 := List.mem_of_find?_eq_some hx
  have h2 := List.find?_some hx
  have h2' : x.2 = n := by simpa using h2
  subst h2'
  exact h1
theorem nodup_fst {α : Type} : ∀ {l : List (Nat × α)} {κ : Nat} {a b : α}, (l.map (·.1)).Nodup → (κ, a) ∈ l → (κ, b) ∈ l → a = b
  | x :: r, κ, a, b, hn, h1, h2 => by
    simp only [List.map_cons, List.nodup_cons] at hn
    rcases List.mem_cons.1 h1 with e1 | e1 <;> rcases List.mem_cons.1 h2 with e2 | e2
    · rw [← e1] at e2; simpa using e2.symm
    · exact absurd (List.mem_map.2 ⟨_, e2, by rw [← e1]⟩) hn.1
    · exact absurd (List.mem_map.2 ⟨_, e1, by rw [← e2]⟩) hn.1
    · exact nodup_fst hn.2 e1 e2
theorem nodup_snd : ∀ {l : List (Nat × Nat)} {n a b : Nat}, (l.map (·.2)).Nodup → (a, n) ∈ l → (b, n) ∈ l → a = b
  | x :: r, κ, a, b, hn, h1, h2 => by
    simp only [List.map_cons, List.nodup_cons] at hn
    rcases List.mem_cons.1 h1 with e1 | e1 <;> rcases List.mem_cons.1 h2 with e2 | e2
    · rw [← e1] at e2; simpa using e2.symm
    · exact absurd (List.mem_map.2 ⟨_, e2, by rw [← e1]⟩) hn.1
    · exact absurd (List.mem_map.2 ⟨_, e1, by rw [← e2]⟩) hn.1
    · exact nodup_snd hn.2 e1 e2
def invOf (nms : List (Nat × Nat)) (n : Nat) : Option Nat := (nms.find? (·.2 == n)).map (·.1)
theorem nameOf_iff {nms : List (Nat × Nat)} (h : (nms.map (·.1)).Nodup) {κ n : Nat} : nameOf nms κ = some n ↔ (κ, n) ∈ nms := by
  constructor
  · exact find1
  · intro hm
    unfold nameOf
    cases hq : nms.find? (·.1 == κ) with
    | none =>
      rw [List.find?_eq_none] at hq
      exact absurd (by simp) (hq _ hm)
    | some x =>
      have h1 := List.mem_of_find?_eq_some hq
      have h2 := List.find?_some hq
      have h2' : x.1 = κ := by simpa using h2
      have : x.2 = n := nodup_fst (κ := κ) h (by rw [← h2']; exact h1) hm
      simp [this]
theorem invOf_iff {nms : List (Nat × Nat)} (h : (nms.map (·.2)).Nodup) {κ n : Nat} : invOf nms n = some κ ↔ (κ, n) ∈ nms := by
  constructor
  · exact find2
  · intro hm
    unfold invOf
    cases hq : nms.find? (·.2 == n) with
    | none =>
      rw [List.find?_eq_none] at hq
      exact absurd (by simp) (hq _ hm)
    | some x =>
      have h1 := List.mem_of_find?_eq_some hq
      have h2 := List.find?_some hq
      have h2' : x.2 = n := by simpa using h2
      have : x.1 = κ := nodup_snd (n := n) h (by rw [← h2']; exact h1) hm
      simp [this]
theorem namesFit_mem {A : Acc} {sg : Sig} {km : List (Nat × Option Nat)} : ∀ (nms : List (Nat × Nat)) (ks : List (Nat × KSh)), namesFit A sg km nms ks = true →
    (∀ κ n, (κ, n) ∈ nms → ∃ k, (κ, k) ∈ ks ∧ nameFits A sg km κ n k = true) ∧ (∀ κ k, (κ, k) ∈ ks → ∃ n, (κ, n) ∈ nms ∧ nameFits A sg km κ n k = true)
  | [], [], _ => ⟨by simp, by simp⟩
  | (κ, n) :: r, (κ', k) :: r', h => by
    simp only [namesFit, Bool.and_eq_true, beq_iff_eq] at h
    obtain ⟨⟨h1, h2⟩, h3⟩ := h
    subst h1
    obtain ⟨q1, q2⟩ := namesFit_mem r r' h3
    refine ⟨fun κ1 n1 hm => ?_, fun κ1 k1 hm => ?_⟩
    · rcases List.mem_cons.1 hm with hm | hm
      · simp only [Prod.mk.injEq] at hm
        obtain ⟨rfl, rfl⟩ := hm
        exact ⟨k, by simp, h2⟩
      · obtain ⟨k, p1, p2⟩ := q1 κ1 n1 hm
        exact ⟨k, by simp [p1], p2⟩
    · rcases List.mem_cons.1 hm with hm | hm
      · simp only [Prod.mk.injEq] at hm
        obtain ⟨rfl, rfl⟩ := hm
        exact ⟨n, by simp, h2⟩
      · obtain ⟨n, p1, p2⟩ := q2 κ1 k1 hm
        exact ⟨n, by simp [p1], p2⟩
  | [], _ :: _, h => by simp [namesFit] at h
  | _ :: _, [], h => by simp [namesFit] at h
theorem renameKs_mem {nms : List (Nat × Nat)} : ∀ (ks rk : List (Nat × KSh)), renameKs nms ks = some rk → (∀ x ∈ rk, ∃ κ k, (κ, k) ∈ ks ∧ nameOf nms κ = some x.1 ∧ renameK (nameOf nms) k = some x.2) ∧
    ∀ κ k, (κ, k) ∈ ks → ∃ n k', nameOf nms κ = some n ∧ renameK (nameOf nms) k = some k' ∧ (n, k') ∈ rk
  | [], rk, h => by simp only [renameKs, Option.some.injEq] at h; subst h; exact ⟨by simp, by simp⟩
  | (κ, k) :: r, rk, h => by
    simp only [renameKs, Option.bind_eq_bind, Option.bind_eq_some_iff, Option.some.injEq] at h
    obtain ⟨n, hn, k', hk, rk', hr, rfl⟩ := h
    obtain ⟨q1, q2⟩ := renameKs_mem r rk' hr
    refine ⟨fun x hx => ?_, fun κ1 k1 hm => ?_⟩
    · rcases List.mem_cons.1 hx with hx | hx
      · subst hx; exact ⟨κ, k, by simp, hn, hk⟩
      · obtain ⟨κ1, k1, p1, p2, p3⟩ := q1 x hx
        exact ⟨κ1, k1, by simp [p1], p2, p3⟩
    · rcases List.mem_cons.1 hm with hm | hm
      · simp only [Prod.mk.injEq] at hm
        obtain ⟨rfl, rfl⟩ := hm
        exact ⟨n, k', hn, hk, by simp⟩
      · obtain ⟨n1, k2, p1, p2, p3⟩ := q2 κ1 k1 hm
        exact ⟨n1, k2, p1, p2, by simp [p3]⟩
theorem putKs_fun : ∀ (l : List (Nat × KSh)) (ks : Nat → Option KSh), (∀ x ∈ l, ∀ y ∈ l, x.1 = y.1 → x.2 = y.2) → ∀ x ∈ l, putKs ks l x.1 = some x.2
  | (κ, k) :: r, ks, hf, x, hx => by
    simp only [putKs]
    by_cases hr : ∃ y ∈ r, y.1 = x.1
    · obtain ⟨y, hy, hyx⟩ := hr
      have := putKs_fun r (fun z => if z = κ then some k else ks z) (fun a ha b hb => hf a (by simp [ha]) b (by simp [hb])) y hy
      rw [hyx] at this
      rw [this, hf y (by simp [hy]) x hx hyx]
    · have hnr : ∀ y ∈ r, y.1 ≠ x.1 := fun y hy e => hr ⟨y, hy, e⟩
      rw [putKs_not r _ x.1 hnr]
      rcases List.mem_cons.1 hx with hx | hx
      · subst hx; simp
      · exact absurd rfl (hnr x hx)
theorem goneKs_mem {sg : Sig} {km : List (Nat × Option Nat)} : ∀ (ks : List (Nat × KSh)) (x : Nat × KSh), x ∈ goneKs sg km ks → x.2 = .gone
  | [], x, h => by simp [goneKs] at h
  | (κ, k) :: r, x, h => by
    simp only [goneKs] at h
    split at h
    · exact goneKs_mem r x h
    · split at h
      · rcases List.mem_cons.1 h with h | h
        · rw [h]
        · exact goneKs_mem r x h
      · exact goneKs_mem r x h
section
variable {M M' : Mem} {nm : Nat → Option Nat}
structure Named (M M' : Mem) (nm : Nat → Option Nat) : Prop where
  w : M'.w = M.w
  I : ∀ b, M.I b → M'.I b
  key : ∀ κ n, nm κ = some n → ∃ k k', M.ks κ = some k ∧ renameK nm k = some k' ∧ M'.ks n = some k' ∧ M'.β n = M.β κ ∧ ∀ t, k = .row t → content M'.ρ n t = content M.ρ κ t
theorem Named.cell (h : Named M M' nm) {s s' : Sh} {v : Value} {d d' : Dyn} (hs : rename nm s = some s') (hd : ∀ t, s = .dyn t → d'.get t = d.get t) (hc : CellOk M s v d) : CellOk M' s' v d' := by
  cases s with
  | dyn t =>
    simp only [rename, Option.some.injEq] at hs
    subst hs
    simp only [CellOk] at hc ⊢
    rw [hd t rfl]
    exact RepC.ext h.I (fun b _ o => by rw [h.w]) _ _ _ hc
  | nil => simp only [rename, Option.some.injEq] at hs; subst hs; exact hc
  | nilp => simp only [rename, Option.some.injEq] at hs; subst hs; exact hc
  | gone => simp only [rename, Option.some.injEq] at hs; subst hs; trivial
  | full κ =>
    simp only [rename, Option.bind_eq_bind, Option.bind_eq_some_iff, Option.some.injEq] at hs
    obtain ⟨n, hn, rfl⟩ := hs
    obtain ⟨k, k', h1, h2, h3, h4, h5⟩ := h.key κ n hn
    simp only [CellOk, h1] at hc
    simp only [CellOk, h3]
    cases k with
    | row t =>
      simp only [renameK, Option.some.injEq] at h2
      subst h2
      simp only
      rw [h5 t rfl]
      exact RowV.ext (M := ⟨M.ks, fun x => if x = n then M.β κ else M.β x, M.ρ, M.w, M.I⟩) (by simp [h4]) (fun b _ => by rw [h.w]) (by
        obtain ⟨base, cap, g1, g2, g3⟩ := hc
        exact ⟨base, cap, g1, g2, by simpa using g3⟩)
    | gone =>
      simp only [renameK, Option.some.injEq] at h2
      subst h2
      trivial
    | imm t => simp [renameK] at h2
    | arr t m => exact hc.elim
    | box cs => exact hc.elim
  | ptr κ j =>
    simp only [rename, Option.bind_eq_bind, Option.bind_eq_some_iff, Option.some.injEq] at hs
    obtain ⟨n, hn, rfl⟩ := hs
    obtain ⟨k, k', h1, h2, h3, h4, h5⟩ := h.key κ n hn
    simp only [CellOk, h1] at hc
    simp only [CellOk, h3]
    cases k with
    | box cs =>
      simp only [renameK, Option.bind_eq_bind, Option.bind_eq_some_iff, Option.some.injEq] at h2
      obtain ⟨cs', _, rfl⟩ := h2
      simp only
      rw [h4]
      exact hc
    | gone =>
      simp only [renameK, Option.some.injEq] at h2
      subst h2
      trivial
    | row t => exact hc.elim
    | imm t => exact hc.elim
    | arr t m => exact hc.elim
  | _ => simp [rename] at hs
theorem Named.cells (h : Named M M' nm) {mk mk' : Nat → Loc} : ∀ (ss ss' : List Sh) (j : Nat) (vs : List Value), renameCs nm ss = some ss' → (∀ x ∈ cellLocs mk j ss, ∀ i, x.1 = mk i → M'.ρ (mk' i) = M.ρ x.1) → CellsOk M mk j ss vs → CellsOk M' mk' j ss' vs
  | [], ss', j, [], hs, hl, hc => by simp only [renameCs, Option.some.injEq] at hs; subst hs; trivial
  | s :: ss, ss', j, v :: vs, hs, hl, hc => by
    simp only [renameCs, Option.bind_eq_bind, Option.bind_eq_some_iff, Option.some.injEq] at hs
    obtain ⟨s1, h1, r1, h2, rfl⟩ := hs
    refine ⟨hc.1, h.cell h1 (fun t ht => ?_) hc.2.1, Named.cells h ss r1 (j + 1) vs h2 (fun x hx => hl x ?_) hc.2.2⟩
    · subst ht
      rw [hl (mk j, t) (by simp [cellLocs]) j rfl]
    · cases s <;> simp [cellLocs, hx]
  | [], ss', j, _ :: _, hs, hl, hc => hc.elim
  | _ :: _, ss', j, [], hs, hl, hc => hc.elim
theorem Named.vals (h : Named M M' nm) {mk mk' : Nat → Loc} : ∀ (Vs Vs' : List Val) (j : Nat) (vs : List Value), renameVs nm Vs = some Vs' → (∀ x ∈ valLocs mk j Vs, ∀ i, x.1 = mk i → M'.ρ (mk' i) = M.ρ x.1) → ValsOk M mk j Vs vs → ValsOk M' mk' j Vs' vs
  | [], Vs', j, [], hs, hl, hc => by simp only [renameVs, Option.some.injEq] at hs; subst hs; trivial
  | V :: Vs, Vs', j, v :: vs, hs, hl, hc => by
    simp only [renameVs, renameV, Option.bind_eq_bind, Option.bind_eq_some_iff, Option.some.injEq] at hs
    obtain ⟨V1, ⟨cs1, h1, rfl⟩, r1, h2, rfl⟩ := hs
    obtain ⟨⟨cells, g1, g2, g3⟩, g4⟩ := hc
    have hlen : cs1.length = V.cs.length := by
      have gen : ∀ (a b : List Sh), renameCs nm a = some b → b.length = a.length := by
        intro a
        induction a with
        | nil => intro b hb; simp only [renameCs, Option.some.injEq] at hb; subst hb; rfl
        | cons x r ih =>
          intro b hb
          simp only [renameCs, Option.bind_eq_bind, Option.bind_eq_some_iff, Option.some.injEq] at hb
          obtain ⟨_, _, r1, hr, rfl⟩ := hb
          simp [ih r1 hr]
      exact gen _ _ h1
    refine ⟨⟨cells, g1, g2, h.cells _ _ j _ h1 (fun x hx => hl x (by simp [valLocs, hx])) g3⟩, ?_⟩
    rw [hlen]
    exact Named.vals h Vs r1 _ vs h2 (fun x hx => hl x (by simp [valLocs, hx])) g4
  | [], Vs', j, _ :: _, hs, hl, hc => hc.elim
  | _ :: _, Vs', j, [], hs, hl, hc => hc.elim
theorem Named.sk (h : Named M M' nm) {i d : Nat} {k k' : SK} {v : Value} (hs : renameSK nm k = some k') (hl : ∀ x ∈ skLocs i k, ∀ j, x.1 = .s i j → M'.ρ (.s d j) = M.ρ x.1) (hc : SKOk M i k v) : SKOk M' d k' v := by
  cases k with
  | dead => simp [renameSK] at hs
  | val V =>
    simp only [renameSK, renameV, Option.bind_eq_bind, Option.bind_eq_some_iff, Option.some.injEq] at hs
    obtain ⟨V1, ⟨cs1, h1, rfl⟩, rfl⟩ := hs
    obtain ⟨cells, g1, g2, g3⟩ := hc
    exact ⟨cells, g1, g2, h.cells (mk := .s i) (mk' := .s d) _ _ 0 _ h1 (fun x hx => hl x hx) g3⟩
  | tup Vs =>
    simp only [renameSK, Option.bind_eq_bind, Option.bind_eq_some_iff, Option.some.injEq] at hs
    obtain ⟨V1, h1, rfl⟩ := hs
    obtain ⟨xs, g1, g2⟩ := hc
    exact ⟨xs, g1, h.vals (mk := .s i) (mk' := .s d) _ _ 0 _ h1 (fun x hx => hl x hx) g2⟩
  | clo f nf vs => simp [renameSK] at hs
theorem Named.keyOk (h : Named M M' nm) {κ n : Nat} {k k' : KSh} (hn : nm κ = some n) (hk : M.ks κ = some k) (hr : renameK nm k = some k') (hl : ∀ x ∈ keyLocs [(κ, k)], ∀ j, x.1 = .k κ j → M'.ρ (.k n j) = M.ρ x.1)
    (hc : KeyOk M κ k) : KeyOk M' n k' := by
  obtain ⟨k0, k1, h1, h2, h3, h4, h5⟩ := h.key κ n hn
  rw [hk] at h1
  simp only [Option.some.injEq] at h1
  subst h1
  cases k with
  | row t =>
    simp only [renameK, Option.some.injEq] at hr
    subst hr
    simp only [KeyOk] at hc ⊢
    rw [h4, h5 t rfl, h.w]
    cases hb : M.β κ with
    | none => rw [hb] at hc; exact hc
    | some b =>
      rw [hb] at hc
      obtain ⟨c, g1, g2⟩ := hc
      exact ⟨c, g1, g2.1, g2.2.1, fun i hi => RepC.ext h.I (fun b _ o => by rw [h.w]) _ _ _ (g2.2.2 i hi)⟩
  | box cs =>
    simp only [renameK, Option.bind_eq_bind, Option.bind_eq_some_iff, Option.some.injEq] at hr
    obtain ⟨cs', g1, rfl⟩ := hr
    obtain ⟨b, c, g2, g3, g4⟩ := hc
    exact ⟨b, c, by rw [h4]; exact g2, by rw [h.w]; exact g3, h.cells (mk := .k κ) (mk' := .k n) _ _ 0 _ g1 (fun x hx => hl x (by simp [keyLocs, hx])) g4⟩
  | gone =>
    simp only [renameK, Option.some.injEq] at hr
    subst hr
    trivial
  | imm t => simp [renameK] at hr
  | arr t m => simp [renameK] at hr
theorem mapLocs_mem {dd : Nat} : ∀ (L L' : List (Loc × Ty)), mapLocs nm dd L = some L' → ∀ x ∈ L, ∃ l', mapLoc nm dd x.1 = some l' ∧ (l', x.2) ∈ L'
  | [], L', h, x, hx => by simp at hx
  | (l, t) :: r, L', h, x, hx => by
    simp only [mapLocs, Option.bind_eq_bind, Option.bind_eq_some_iff, Option.some.injEq] at h
    obtain ⟨l1, h1, r1, h2, rfl⟩ := h
    rcases List.mem_cons.1 hx with hx | hx
    · subst hx; exact ⟨l1, h1, by simp⟩
    · obtain ⟨l', q1, q2⟩ := mapLocs_mem r r1 h2 x hx
      exact ⟨l', q1, by simp [q2]⟩
theorem mapLocs_from {dd : Nat} : ∀ (L L' : List (Loc × Ty)), mapLocs nm dd L = some L' → ∀ y ∈ L', ∃ x ∈ L, mapLoc nm dd x.1 = some y.1
  | [], L', h, y, hy => by simp only [mapLocs, Option.some.injEq] at h; subst h; simp at hy
  | (l, t) :: r, L', h, y, hy => by
    simp only [mapLocs, Option.bind_eq_bind, Option.bind_eq_some_iff, Option.some.injEq] at h
    obtain ⟨l1, h1, r1, h2, rfl⟩ := h
    rcases List.mem_cons.1 hy with hy | hy
    · subst hy; exact ⟨(l, t), by simp, h1⟩
    · obtain ⟨x, q1, q2⟩ := mapLocs_from r r1 h2 y hy
      exact ⟨x, by simp [q1], q2⟩
theorem mapLocs_ok {dd : Nat} {ρ ρ0 : Rho} : ∀ (L L' : List (Loc × Ty)) (o : List Dyn), mapLocs nm dd L = some L' → (L.map (·.1)).Nodup → (L'.map (·.1)).Nodup → o.length = L.length → ∀ x ∈ L, ∀ l', mapLoc nm dd x.1 = some l' →
    updS ρ ((L'.map (·.1)).zip o) l' = updS ρ0 ((L.map (·.1)).zip o) x.1
  | [], L', o, h, _, _, _, x, hx, _, _ => by simp at hx
  | (l, t) :: r, L', [], h, _, _, hl, _, _, _, _ => by simp at hl
  | (l, t) :: r, L', d :: o, h, h1, h2, hl, x, hx, l', hm => by
    simp only [mapLocs, Option.bind_eq_bind, Option.bind_eq_some_iff, Option.some.injEq] at h
    obtain ⟨l1, g1, r1, g2, rfl⟩ := h
    simp only [List.map_cons, List.nodup_cons] at h1 h2
    simp only [List.map_cons, List.zip_cons_cons, updS]
    rcases List.mem_cons.1 hx with hx | hx
    · subst hx
      rw [g1] at hm
      simp only [Option.some.injEq] at hm
      subst hm
      simp
    · obtain ⟨l2, q1, q2⟩ := mapLocs_mem r r1 g2 x hx
      rw [q1] at hm
      simp only [Option.some.injEq] at hm
      subst hm
      have n1 : l2 ≠ l1 := fun e => h2.1 (List.mem_map.2 ⟨_, q2, e⟩)
      have n2 : x.1 ≠ l := fun e => h1.1 (List.mem_map.2 ⟨_, hx, e⟩)
      rw [if_neg n1, if_neg n2]
      exact mapLocs_ok r r1 o g2 h1.2 h2.2 (by simpa using hl) x hx l2 q1
end
end Rk
set_option linter.unusedVariables false
set_option linter.unusedSimpArgs false
namespace Rk
open Go
theorem cellLocs_notG {mk : Nat → Loc} (hmk : ∀ j, notG (mk j) = true) : ∀ (ss : List Sh) (j : Nat), ∀ x ∈ cellLocs mk j ss, notG x.1 = true
  | [], j, x, hx => by simp [cellLocs] at hx
  | s :: r, j, x, hx => by
    have ih := cellLocs_notG hmk r (j + 1)
    cases s <;> simp only [cellLocs, List.mem_cons] at hx <;> first
      | exact ih x hx
      | (rcases hx with hx | hx
         · rw [hx]; exact hmk j
         · exact ih x hx)
theorem valLocs_notG {mk : Nat → Loc} (hmk : ∀ j, notG (mk j) = true) : ∀ (vs : List Val) (j : Nat), ∀ x ∈ valLocs mk j vs, notG x.1 = true
  | [], j, x, hx => by simp [valLocs] at hx
  | v :: r, j, x, hx => by
    simp only [valLocs, List.mem_append] at hx
    rcases hx with hx | hx
    · exact cellLocs_notG hmk _ _ x hx
    · exact valLocs_notG hmk r _ x hx
theorem keyLocs_notG : ∀ (ks : List (Nat × KSh)), ∀ x ∈ keyLocs ks, notG x.1 = true
  | [], x, hx => by simp [keyLocs] at hx
  | (κ, k) :: r, x, hx => by
    have ih := keyLocs_notG r
    cases k with
    | row t =>
      simp only [keyLocs, List.mem_cons] at hx
      rcases hx with hx | hx
      · rw [hx]; rfl
      · exact ih x hx
    | arr t n =>
      simp only [keyLocs, List.mem_cons] at hx
      rcases hx with hx | hx
      · rw [hx]; rfl
      · exact ih x hx
    | box cs =>
      simp only [keyLocs, List.mem_append] at hx
      rcases hx with hx | hx
      · exact cellLocs_notG (fun _ => rfl) _ _ x hx
      · exact ih x hx
    | imm t => exact ih x (by simpa [keyLocs] using hx)
    | gone => exact ih x (by simpa [keyLocs] using hx)
theorem stLocs_notG (sl : List (Nat × SK)) (ks : List (Nat × KSh)) : ∀ x ∈ stLocs sl ks, notG x.1 = true := by
  intro x hx
  simp only [stLocs, List.mem_append, List.mem_flatMap] at hx
  rcases hx with ⟨⟨i, s⟩, _, hx⟩ | hx
  · cases s with
    | dead => simp [skLocs] at hx
    | val v => exact cellLocs_notG (fun _ => rfl) _ _ x hx
    | tup vs => exact valLocs_notG (fun _ => rfl) _ _ x hx
    | clo f nf vs => exact valLocs_notG (fun _ => rfl) _ _ x hx
  · exact keyLocs_notG _ x hx
section
variable {C : Ctx} {sl : Nat → Slot} {ks : Nat → Option KSh} {ρ : Rho} {β : Nat → Option Nat} {a : Act} {w : World}
def calleeCtx (C : Ctx) (ks : Nat → Option KSh) (β : Nat → Option Nat) (w : World) (sg : Sig) (c : Cv) (hs : sg.iks.length ≤ 100000) : Ctx where
  P := C.P
  J := fun b => imms C ks β w b ∨ ∃ κ k, (κ, k) ∈ c.fz ∧ β κ = some b
  T := fun b => ∃ κ, Priv (tgtT sg.inKs) κ ∧ tgtβ c.km β κ = some b
  w0 := w
  nt := 0
  tabs := C.tabs
  rts := sg.roots
  β0 := tgtβ c.km β
  hrt := fun κ hκ => ⟨Nat.zero_le _, (roots_ge hs κ hκ).2⟩
theorem call_entry {G : Prg} (hT : TabsOk G.E C) (htb : C.tabs = G.tabs) (h : Rel C sl ks ρ β a w) {cond : Cond} {d : Option Tmp} {f : FuncId} {i : Nat} {sg : Sig} {args : List OpV} {e : Eff} {c : Cv} {nms : List (Nat × Nat)} {rk : List (Nat × KSh)} {sk : SK} {outs : List (Loc × Ty)}
    (hi : CallIs ⟨sl, ks⟩ cond d f i sg args e c nms rk sk outs) {vals : List Value} (hv : OpsOk (memOf C ks β ρ w) args vals) :
    Entry G.E (calleeCtx C ks β w sg c hi.small) sg (G.init sg (dyns ρ (c.mvs.map (·.2)))) (tgtβ c.km β) vals := by
  have hnk := nodupB_ok _ hi.ndI
  have hnl := nodupB_ok _ hi.ndL
  obtain ⟨k1, k2, k3⟩ := conv_imms (A := ⟨sl, ks⟩) h hi.cv
  have hinit : G.init sg (dyns ρ (c.mvs.map (·.2))) = updS (baseRho G.tabs) (evs ρ c.mvs) := by
    unfold Prg.init
    rw [← hi.locs, zip_evs]
  have hmv : ∀ x ∈ c.mvs, ((G.init sg (dyns ρ (c.mvs.map (·.2)))) x.1).get x.2.1 = x.2.2.ev ρ x.2.1 := by
    intro x hx
    rw [hinit]
    have hm2 : (x.1, (⟨x.2.1, x.2.2.ev ρ x.2.1⟩ : Dyn)) ∈ evs ρ c.mvs := List.mem_map.2 ⟨x, hx, rfl⟩
    have := updS_mem (ρ := baseRho G.tabs) (evs ρ c.mvs) (by
      rw [← hi.locs] at hnl
      simpa [evs, Function.comp_def] using hnl) _ hm2
    simp only at this
    rw [this, Dyn.get_mk]
  have hJI : ∀ b, (imms C ks β w b ∨ ∃ κ k, (κ, k) ∈ c.fz ∧ β κ = some b) → imms (calleeCtx C ks β w sg c hi.small) (tgtT sg.inKs) (tgtβ c.km β) w b := by
    intro b hb
    obtain ⟨q1, q2, q3⟩ := k3 b hb
    exact ⟨.inl hb, q2, q3⟩
  have hF := conv_fits (A := ⟨sl, ks⟩) (ρ' := G.init sg (dyns ρ (c.mvs.map (·.2)))) (I := imms (calleeCtx C ks β w sg c hi.small) (tgtT sg.inKs) (tgtβ c.km β) w) (β' := tgtβ c.km β) h hi.cv hnk (fun κ o hk => by simp only [tgtβ, hk]; cases o <;> rfl) hmv hJI
  obtain ⟨c1, h1, h2, h3⟩ := conv_spec hi.cv
  have hinj : Inj1 c.km := (cvKs_le _ _ _ h2).2 ((cvSl_le _ _ _ _ h1).2 (by intro κ1 κ2 κ' hh; simp [lookK] at hh))
  have hbJ : ∀ b, C.J b → ∀ o, cellAt w b o = cellAt C.w0 b o := fun b hb o => cellAt_congr (h.fr.block b (h.jt b hb).1 (h.jt b hb).2) o
  refine ⟨⟨hT.P, fun g u m hg => ?_⟩, fun κ κ' b p1 p2 b1 b2 => ?_, fun κ b p1 b1 => ⟨κ, p1, b1⟩, cvKs_ok (A := ⟨sl, ks⟩) h _ _ _ h2 hF (fun x hx => mem_find hnk hx), cvSl_ok (A := ⟨sl, ks⟩) h _ _ _ _ _ h1 (hF.le (cvKs_le _ _ _ h2).1) hv, fun b hb => ?_, fun b hb => ?_, fun g => ?_⟩
  · obtain ⟨g1, g2, g3⟩ := hT.tab g u m hg
    refine ⟨.inl (imms_J h g1), g2, fun i hi' => ?_⟩
    have := RepC.ext (fun b hb => (.inl (imms_J h hb) : imms C ks β w b ∨ ∃ κ k, (κ, k) ∈ c.fz ∧ β κ = some b)) hbJ _ _ _ (g3 i hi')
    have e : (fun j => cellAt w g (i * u.n + j)) = (fun j => cellAt C.w0 g (i * u.n + j)) := funext fun j => hbJ g g1 _
    show RepC w _ u (fun j => cellAt w g (i * u.n + j)) _
    rw [e]
    exact this
  · obtain ⟨κ1, q1, q2, q3⟩ := k1 κ b p1 b1
    obtain ⟨κ2, r1, r2, r3⟩ := k1 κ' b p2 b2
    have : κ1 = κ2 := h.inj κ1 κ2 b q2 r2 q3 r3
    subst this
    exact hinj _ _ _ q1 r1
  · obtain ⟨q1, q2, q3⟩ := k3 b hb
    exact ⟨q2, fun ⟨κ, hp, hb'⟩ => q3 κ hp hb'⟩
  · obtain ⟨κ, hp, hb'⟩ := hb
    obtain ⟨κ1, q1, q2, q3⟩ := k1 κ b hp hb'
    exact (h.own κ1 b q2 q3).2
  · rw [hinit]
    rw [updS_not]
    · exact congrFun htb.symm g
    · intro y hy e
      obtain ⟨z, hz, hzy⟩ := mem_evs hy
      have hz2 : (z.1, z.2.1) ∈ sg.inLocs := by rw [← hi.locs]; exact List.mem_map.2 ⟨z, hz, rfl⟩
      have := stLocs_notG _ _ _ hz2
      rw [← hzy, e] at this
      simp [notG] at this
theorem OpsOk.append {M : Mem} : ∀ (a b : List OpV) (x y : List Value), OpsOk M a x → OpsOk M b y → OpsOk M (a ++ b) (x ++ y)
  | [], b, [], y, _, h => h
  | p :: a, b, v :: x, y, h, h' => ⟨h.1, OpsOk.append a b x y h.2 h'⟩
  | [], _, _ :: _, _, h, _ => h.elim
  | _ :: _, _, [], _, h, _ => h.elim
theorem OpsOk.take {M : Mem} : ∀ (n : Nat) (a : List OpV) (x : List Value), OpsOk M a x → OpsOk M (a.take n) (x.take n) ∧ OpsOk M (a.drop n) (x.drop n)
  | 0, a, x, h => ⟨by simp [OpsOk], h⟩
  | n + 1, [], [], h => ⟨trivial, trivial⟩
  | n + 1, p :: a, v :: x, h => ⟨⟨h.1, (OpsOk.take n a x h.2).1⟩, (OpsOk.take n a x h.2).2⟩
  | n + 1, [], _ :: _, h => h.elim
  | n + 1, _ :: _, [], h => h.elim
theorem OpsOk.ofVs {M : Mem} : ∀ (vs : List (Bool × List CE)) (x : List Value), VsOk M vs x → OpsOk M (vs.map fun v => OpV.val v.1 v.2) x
  | [], [], _ => trivial
  | V :: vs, v :: x, h => ⟨h.1, OpsOk.ofVs vs x h.2⟩
  | [], _ :: _, h => h.elim
  | _ :: _, [], h => h.elim
theorem mapM_opV (h : Rel C sl ks ρ β a w) {cond : Cond} (hc : condOk ρ cond) : ∀ (xs : List Operand) (vs : List OpV), xs.mapM (opV ⟨sl, ks⟩ cond) = some vs → OpsOk (memOf C ks β ρ w) vs (xs.map a.eval)
  | [], vs, hm => by simp at hm; subst hm; trivial
  | x :: xs, vs, hm => by
    simp only [List.mapM_cons, Option.bind_eq_bind, Option.bind_eq_some_iff, Option.pure_def, Option.some.injEq] at hm
    obtain ⟨v, h1, ws, h2, rfl⟩ := hm
    exact ⟨opV_ok h hc h1, mapM_opV h hc xs ws h2⟩
theorem call_run {E : Env} (hP : C.P = E.P) (h : Rel C sl ks ρ β a w) {cond : Cond} (hc : condOk ρ cond) {o : Oper} {c : Call} {g : Operand} {f : FuncId} {nf : Nat} {vs : List (Bool × List CE)} {as : List OpV}
    (ho : o.op = .call c) (hg : c.callee = .value g) (hgv : opV ⟨sl, ks⟩ cond g = some (.clo f nf vs)) (has : c.args.toList.mapM (opV ⟨sl, ks⟩ cond) = some as) (he : enters E.P f = true) :
    ∃ vals : List Value, (execOp a.eval o).run C.P w = .ok (.enter f vals.toArray) w ∧ OpsOk (memOf C ks β ρ w) ((vs.map fun v => OpV.val v.1 v.2).take nf ++ as ++ (vs.map fun v => OpV.val v.1 v.2).drop nf) vals := by
  obtain ⟨xs, ys, h1, h2, h3⟩ := opV_ok h hc hgv
  have h4 := mapM_opV h hc _ _ has
  have h5 := OpsOk.ofVs _ _ h3
  obtain ⟨h6, h7⟩ := OpsOk.take nf _ _ h5
  rw [List.take_left' h2] at h6
  rw [List.drop_left' h2] at h7
  refine ⟨xs ++ c.args.toList.map a.eval ++ ys, ?_, OpsOk.append _ _ _ _ (OpsOk.append _ _ _ _ h6 h4) h7⟩
  rw [← hP] at he
  unfold enters at he
  split at he
  · rename_i fn hfn
    simp only [Bool.and_eq_true, bne_iff_ne, ne_eq] at he
    unfold execOp
    rw [ho]
    have hb : fn.body.isNone = false := by
      cases hq : fn.body with
      | none => rw [hq] at he; simp at he
      | some b => rfl
    have hn : (fn.name == "runtime.NumGoroutine") = false := by simpa using he.1
    simp only [Sem.run_bind, resolve, hg, h1, Deferred.ofValue, Sem.run_pure, Result.andThen_ok, invoke, callFunc, run_program, hfn, hn, hb, Bool.false_eq_true, if_false]
    congr 2
    apply Array.ext'
    simp
  · simp at he
end
end Rk
set_option linter.unusedVariables false
set_option linter.unusedSimpArgs false
namespace Rk
open Go
section
variable {C : Ctx} {sl : Nat → Slot} {ks : Nat → Option KSh} {ρ : Rho} {β : Nat → Option Nat} {a : Act} {w : World}
theorem keyLocs_sub : ∀ (ks : List (Nat × KSh)) (κ : Nat) (k : KSh), (κ, k) ∈ ks → ∀ x ∈ keyLocs [(κ, k)], x ∈ keyLocs ks
  | (κ0, k0) :: r, κ, k, hm, x, hx => by
    have split : keyLocs ((κ0, k0) :: r) = keyLocs [(κ0, k0)] ++ keyLocs r := by cases k0 <;> simp [keyLocs]
    rw [split, List.mem_append]
    rcases List.mem_cons.1 hm with hm | hm
    · rw [← hm]; exact .inl hx
    · exact .inr (keyLocs_sub r κ k hm x hx)
theorem keyLoc_k : ∀ (κ : Nat) (k : KSh), ∀ x ∈ keyLocs [(κ, k)], ∃ j, x.1 = .k κ j := by
  have cl : ∀ (κ : Nat) (ss : List Sh) (j : Nat), ∀ x ∈ cellLocs (.k κ) j ss, ∃ i, x.1 = .k κ i := by
    intro κ ss
    induction ss with
    | nil => intro j x hx; simp [cellLocs] at hx
    | cons s r ih =>
      intro j x hx
      cases s <;> simp only [cellLocs, List.mem_cons] at hx <;> first
        | exact ih _ x hx
        | (rcases hx with hx | hx
           · exact ⟨j, by rw [hx]⟩
           · exact ih _ x hx)
  intro κ k x hx
  cases k with
  | row t => simp [keyLocs] at hx; exact ⟨0, by rw [hx]⟩
  | arr t n => simp [keyLocs] at hx; exact ⟨0, by rw [hx]⟩
  | box cs => exact cl κ cs 0 x (by simpa [keyLocs] using hx)
  | imm t => simp [keyLocs] at hx
  | gone => simp [keyLocs] at hx
theorem renameK_priv {nm : Nat → Option Nat} {k k' : KSh} (h : renameK nm k = some k') : k'.priv = k.priv := by
  cases k with
  | row t => simp only [renameK, Option.some.injEq] at h; subst h; rfl
  | gone => simp only [renameK, Option.some.injEq] at h; subst h; rfl
  | box cs =>
    simp only [renameK, Option.bind_eq_bind, Option.bind_eq_some_iff, Option.some.injEq] at h
    obtain ⟨_, _, rfl⟩ := h
    rfl
  | imm t => simp [renameK] at h
  | arr t n => simp [renameK] at h
theorem namesKs_mem {sg : Sig} {d : Nat} {km : List (Nat × Option Nat)} : ∀ (ks : List (Nat × KSh)) (nms : List (Nat × Nat)), namesKs sg d km ks = some nms → ∀ κ n, (κ, n) ∈ nms → keyName sg d km κ = some n
  | [], nms, h, κ, n, hm => by simp only [namesKs, Option.some.injEq] at h; subst h; simp at hm
  | (κ0, k0) :: r, nms, h, κ, n, hm => by
    simp only [namesKs, Option.bind_eq_bind, Option.bind_eq_some_iff, Option.some.injEq] at h
    obtain ⟨n0, h1, r1, h2, rfl⟩ := h
    rcases List.mem_cons.1 hm with hm | hm
    · simp only [Prod.mk.injEq] at hm
      obtain ⟨rfl, rfl⟩ := hm
      exact h1
    · exact namesKs_mem r r1 h2 κ n hm
theorem RepC.reI {w : World} {I I' : Nat → Prop} : ∀ (t : Ty) (f : Nat → Option Value) (x : t.D), t.flat = true → RepC w I t f x → RepC w I' t f x
  | .int _, _, _, _, h => h
  | .bool, _, _, _, h => h
  | .str, _, _, _, h => h
  | .unit, _, _, _, h => h
  | .pair a b, f, x, hf, h => by
    simp only [Ty.flat, Bool.and_eq_true] at hf
    exact ⟨RepC.reI a f x.1 hf.1 h.1, RepC.reI b _ x.2 hf.2 h.2⟩
  | .lst t, _, _, hf, _ => by simp [Ty.flat] at hf
def flatC (s : Sh) : Bool := match s with | .dyn t => t.flat | _ => false
theorem CellsOk.reI {ks : Nat → Option KSh} {β : Nat → Option Nat} {ρ : Rho} {w : World} {I I' : Nat → Prop} {mk : Nat → Loc} : ∀ (ss : List Sh) (j : Nat) (vs : List Value), ss.all flatC = true →
    CellsOk ⟨ks, β, ρ, w, I⟩ mk j ss vs → CellsOk ⟨ks, β, ρ, w, I'⟩ mk j ss vs
  | [], _, [], _, _ => trivial
  | s :: ss, j, v :: vs, hf, h => by
    simp only [List.all_cons, Bool.and_eq_true] at hf
    refine ⟨h.1, ?_, CellsOk.reI ss (j + 1) vs hf.2 h.2.2⟩
    obtain ⟨h1, h2, _⟩ := h
    have hs := hf.1
    unfold flatC at hs
    split at hs
    · exact RepC.reI _ _ _ hs h2
    · simp at hs
  | [], _, _ :: _, _, h => h.elim
  | _ :: _, _, [], _, h => h.elim
theorem renCs_flat : ∀ (l : List Sh), l.all flatC = true → (l.map renIn).all flatC = true
  | [], _ => rfl
  | s :: r, h => by
    simp only [List.all_cons, Bool.and_eq_true] at h
    simp only [List.map_cons, List.all_cons, Bool.and_eq_true]
    refine ⟨?_, renCs_flat r h.2⟩
    have hs := h.1
    cases s <;> first | exact hs | simp [flatC] at hs
theorem ValsOk.reI {ks : Nat → Option KSh} {β : Nat → Option Nat} {ρ : Rho} {w : World} {I I' : Nat → Prop} {mk : Nat → Loc} : ∀ (Vs : List Val) (j : Nat) (vs : List Value), (Vs.all fun v => v.cs.all flatC) = true →
    ValsOk ⟨ks, β, ρ, w, I⟩ mk j (Vs.map renVal) vs → ValsOk ⟨ks, β, ρ, w, I'⟩ mk j (Vs.map renVal) vs
  | [], _, [], _, _ => trivial
  | V :: Vs, j, v :: vs, hf, h => by
    simp only [List.all_cons, Bool.and_eq_true] at hf
    obtain ⟨⟨cells, g1, g2, g3⟩, g4⟩ := h
    exact ⟨⟨cells, g1, g2, CellsOk.reI _ _ _ (renCs_flat _ hf.1) g3⟩, ValsOk.reI Vs _ vs hf.2 g4⟩
  | [], _, _ :: _, _, h => h.elim
  | _ :: _, _, [], _, h => h.elim
theorem SKOk.reI {ks : Nat → Option KSh} {β : Nat → Option Nat} {ρ : Rho} {w : World} {I I' : Nat → Prop} {sg : Sig} (hf : sg.flat = true) {i : Nat} {v : Value} (h : SKOk ⟨ks, β, ρ, w, I⟩ i sg.outSK v) : SKOk ⟨ks, β, ρ, w, I'⟩ i sg.outSK v := by
  simp only [Sig.flat, Bool.and_eq_true] at hf
  have hf2 : (sg.outs.all fun v => v.cs.all flatC) = true := hf.2
  unfold Sig.outSK at h ⊢
  split at h
  · rename_i V hV
    obtain ⟨cells, g1, g2, g3⟩ := h
    rw [hV] at hf2
    simp only [List.all_cons, List.all_nil, Bool.and_true] at hf2
    exact ⟨cells, g1, g2, CellsOk.reI _ _ _ (renCs_flat _ hf2) g3⟩
  · rename_i hV
    obtain ⟨xs, g1, g2⟩ := h
    exact ⟨xs, g1, ValsOk.reI _ _ _ hf2 g2⟩
theorem call_after (h : Rel C sl ks ρ β a w) {cond : Cond} {d : Option Tmp} (hd : DstOk C sl d) {f : FuncId} {i : Nat} {sg : Sig} {args : List OpV} {e : Eff} {c : Cv} {nms : List (Nat × Nat)} {rk : List (Nat × KSh)} {sk : SK} {outs : List (Loc × Ty)}
    (hi : CallIs ⟨sl, ks⟩ cond d f i sg args e c nms rk sk outs) {base : Rho} {o : List Dyn} (hlen : o.length = sg.outLocs.length) {β2 : Nat → Option Nat} {v : Value} {w' : World}
    (hout : OutOk (calleeCtx C ks β w sg c hi.small) sg (updS base ((sg.outLocs.map (·.1)).zip o)) β2 v w') :
    ∃ β', Rel C (putSl sl e.sl) (putKs ks e.ks) (updS ρ ((outs.map (·.1)).zip o)) β' (a.put d v) w' := by
  obtain ⟨k1, k2, k3⟩ := conv_imms (A := ⟨sl, ks⟩) h hi.cv
  have hfr0 : FrzRows ks c.fz := k2
  let fz := if sg.flat then [] else c.fz
  have hsub : ∀ x ∈ fz, x ∈ c.fz := by
    intro x hx
    show x ∈ c.fz
    have hx' : x ∈ (if sg.flat then [] else c.fz) := hx
    split at hx'
    · simp at hx'
    · exact hx'
  have hfr : FrzRows ks fz := fun x hx => hfr0 x (hsub x hx)
  obtain ⟨f1, f2, f3, f4⟩ := h.freeze fz hfr.ok
  have n1 := nodupB_ok _ hi.nd1
  have n2 := nodupB_ok _ hi.nd2
  have nO := nodupB_ok _ hi.ndO
  obtain ⟨fit1, fit2⟩ := namesFit_mem _ _ hi.fit
  obtain ⟨rk1, rk2⟩ := renameKs_mem _ _ hi.hrk
  have houtk : e.ks = fz ++ (goneKs sg c.km sg.inKs ++ rk) := by rw [hi.he]
  let gn := goneKs sg c.km sg.inKs
  let ks1 := putKs ks fz
  let ks' := putKs (putKs ks1 gn) rk
  have hks' : putKs ks e.ks = ks' := by rw [houtk, putKs_append, putKs_append]
  let β' : Nat → Option Nat := fun κ => match invOf nms κ with | some κo => β2 κo | none => β κ
  let ρo := updS base ((sg.outLocs.map (·.1)).zip o)
  let ρ' := updS ρ ((outs.map (·.1)).zip o)
  -- keys by name
  have rkfun : ∀ x ∈ rk, ∀ y ∈ rk, x.1 = y.1 → x.2 = y.2 := by
    intro x hx y hy hxy
    obtain ⟨κ1, q1, a1, a2, a3⟩ := rk1 x hx
    obtain ⟨κ2, q2, b1, b2, b3⟩ := rk1 y hy
    have e1 := (nameOf_iff n1).1 a2
    have e2 := (nameOf_iff n1).1 b2
    rw [hxy] at e1
    have : κ1 = κ2 := nodup_snd n2 e1 e2
    subst this
    have : q1 = q2 := nodup_fst nO a1 b1
    subst this
    rw [a3] at b3
    simpa using b3
  have F1 : ∀ x ∈ rk, ks' x.1 = some x.2 := fun x hx => putKs_fun rk _ rkfun x hx
  have rkname : ∀ x ∈ rk, ∃ κ k, (κ, k) ∈ sg.outKs ∧ (κ, x.1) ∈ nms ∧ renameK (nameOf nms) k = some x.2 := by
    intro x hx
    obtain ⟨κ, k, a1, a2, a3⟩ := rk1 x hx
    exact ⟨κ, k, a1, (nameOf_iff n1).1 a2, a3⟩
  have namerk : ∀ κ n, (κ, n) ∈ nms → ∃ k k', (κ, k) ∈ sg.outKs ∧ renameK (nameOf nms) k = some k' ∧ (n, k') ∈ rk := by
    intro κ n hm
    obtain ⟨k, a1, _⟩ := fit1 κ n hm
    obtain ⟨n', k', b1, b2, b3⟩ := rk2 κ k a1
    rw [(nameOf_iff n1).2 hm] at b1
    simp only [Option.some.injEq] at b1
    subst b1
    exact ⟨k, k', a1, b2, b3⟩
  have gnval : ∀ x ∈ gn, x.2 = .gone := fun x hx => goneKs_mem _ x hx
  have gnfun : ∀ x ∈ gn, ∀ y ∈ gn, x.1 = y.1 → x.2 = y.2 := fun x hx y hy _ => by rw [gnval x hx, gnval y hy]
  have F2 : ∀ x ∈ gn, (∀ y ∈ rk, y.1 ≠ x.1) → ks' x.1 = some .gone := by
    intro x hx hn
    show putKs (putKs ks1 gn) rk x.1 = _
    rw [putKs_not rk _ x.1 hn, putKs_fun gn ks1 gnfun x hx, gnval x hx]
  have F3 : ∀ κ, (∀ y ∈ gn, y.1 ≠ κ) → (∀ y ∈ rk, y.1 ≠ κ) → ks' κ = ks1 κ := by
    intro κ h1 h2
    show putKs (putKs ks1 gn) rk κ = _
    rw [putKs_not rk _ κ h2, putKs_not gn _ κ h1]
  let K : Nat → Prop := fun κ => (∃ y ∈ gn, y.1 = κ) ∨ ∃ y ∈ rk, y.1 = κ
  obtain ⟨c1, cv1, cv2, cv3⟩ := conv_spec hi.cv
  have bound1 : ∀ κ κ', lookK c.km κ = some (some κ') → ∀ x ∈ fz, x.1 ≠ κ' := by
    intro κ κ' hk x hx e
    have h1 := cv3 x (hsub x hx)
    have : usedK c.km x.1 = true := List.any_eq_true.2 ⟨(κ, some κ'), lookK_mem _ _ _ hk, by simp [e]⟩
    rw [this] at h1
    simp at h1
  -- what was handed on is told of
  have P1 : ∀ b, (calleeCtx C ks β w sg c hi.small).T b → ∃ κ', K κ' ∧ Priv ks1 κ' ∧ β κ' = some b := by
    rintro b ⟨κ, hp, hb⟩
    obtain ⟨κ', q1, q2, q3⟩ := k1 κ b hp hb
    obtain ⟨k, hk, _⟩ := hp
    obtain ⟨y, hy, hyκ⟩ := hi.given (κ, k) (find_mem hk) κ' q1
    refine ⟨κ', ?_, ?_, q3⟩
    · rcases List.mem_append.1 hy with hy | hy
      · exact .inl ⟨y, hy, hyκ⟩
      · exact .inr ⟨y, hy, hyκ⟩
    · obtain ⟨k2, r1, r2⟩ := q2
      exact ⟨k2, by show putKs ks fz κ' = _; rw [putKs_not _ _ _ (bound1 κ κ' q1)]; exact r1, r2⟩
  -- names
  have P2 : ∀ κo n, (κo, n) ∈ nms → (ks1 n = none ∧ 200000 ≤ n) ∨ ((∃ cs, ks1 n = some (.box cs)) ∧ β2 κo = β n ∧ ∀ k', (n, k') ∈ rk → (∃ cs, k' = .box cs) ∨ k' = .gone) := by
    intro κo n hm
    obtain ⟨k, a1, a2⟩ := fit1 κo n hm
    unfold nameFits at a2
    split at a2
    · rename_i hbx
      right
      simp only [Bool.and_eq_true, List.contains_eq_mem, decide_eq_true_eq] at a2
      obtain ⟨⟨b1, b2⟩, b3⟩ := a2
      have hks : ∃ cs, ks n = some (.box cs) := by
        split at b1
        · rename_i cs hq; exact ⟨cs, hq⟩
        · simp at b1
      obtain ⟨cs, hks⟩ := hks
      have hnf : ∀ x ∈ fz, x.1 ≠ n := by
        intro x hx e
        obtain ⟨t, _, ht⟩ := hfr x hx
        rw [e, hks] at ht
        simp at ht
      have hname := namesKs_mem _ _ hi.hnms κo n hm
      unfold keyName at hname
      rw [if_pos hbx] at hname
      have hlk : lookK c.km κo = some (some n) := by
        split at hname
        · rename_i κ' hq; simp only [Option.some.injEq] at hname; rw [← hname]; exact hq
        · simp at hname
      refine ⟨⟨cs, by show putKs ks fz n = _; rw [putKs_not _ _ _ hnf]; exact hks⟩, ?_, fun k' hk' => ?_⟩
      · rw [hout.root κo b3]
        show tgtβ c.km β κo = β n
        simp only [tgtβ, hlk]
      · obtain ⟨κ2, q2, c1, c2, c3⟩ := rkname _ hk'
        have : κ2 = κo := nodup_snd n2 c2 hm
        subst this
        have : q2 = k := nodup_fst nO c1 a1
        subst this
        cases q2 with
        | box cs2 =>
          simp only [renameK, Option.bind_eq_bind, Option.bind_eq_some_iff, Option.some.injEq] at c3
          obtain ⟨cs3, _, rfl⟩ := c3
          exact .inl ⟨cs3, rfl⟩
        | gone => simp only [renameK, Option.some.injEq] at c3; exact .inr c3.symm
        | row t => simp at b2
        | imm t => simp at b2
        | arr t m => simp at b2
    · left
      simp only [Bool.and_eq_true, Option.isNone_iff_eq_none, decide_eq_true_eq] at a2
      obtain ⟨b1, b2⟩ := a2
      have b1 : ks n = none := b1
      exact ⟨by show putKs ks fz n = _; rw [putKs_not _ _ _ (hfr.not b1)]; exact b1, b2⟩
  have invK : ∀ κ κo, invOf nms κ = some κo → K κ := by
    intro κ κo hq
    obtain ⟨k, k', _, _, a3⟩ := namerk κo κ ((invOf_iff n2).1 hq)
    exact .inr ⟨_, a3, rfl⟩
  have βnot : ∀ κ, ¬ K κ → β' κ = β κ := by
    intro κ hk
    show (match invOf nms κ with | some κo => β2 κo | none => β κ) = β κ
    cases hq : invOf nms κ with
    | none => rfl
    | some κo => exact absurd (invK κ κo hq) hk
  have βname : ∀ κo n, (κo, n) ∈ nms → β' n = β2 κo := by
    intro κo n hm
    show (match invOf nms n with | some κo => β2 κo | none => β n) = β2 κo
    rw [(invOf_iff n2).2 hm]
  have ksnot : ∀ κ, ¬ K κ → ks' κ = ks1 κ := fun κ hk => F3 κ (fun y hy e => hk (.inl ⟨y, hy, e⟩)) (fun y hy e => hk (.inr ⟨y, hy, e⟩))
  -- a key that is told of, and is the call's own, has a name
  have privname : ∀ κ, K κ → Priv ks' κ → ∃ κo, (κo, κ) ∈ nms ∧ Priv (tgtT sg.outKs) κo := by
    intro κ hK hp
    by_cases hr : ∃ y ∈ rk, y.1 = κ
    · obtain ⟨y, hy, rfl⟩ := hr
      obtain ⟨κo, k, a1, a2, a3⟩ := rkname y hy
      obtain ⟨k2, b1, b2⟩ := hp
      rw [F1 y hy] at b1
      simp only [Option.some.injEq] at b1
      subst b1
      exact ⟨κo, a2, k, mem_find nO a1, by rw [← renameK_priv a3]; exact b2⟩
    · rcases hK with ⟨y, hy, rfl⟩ | hr'
      · obtain ⟨k2, b1, b2⟩ := hp
        rw [F2 y hy (fun z hz e => hr ⟨z, hz, e⟩)] at b1
        simp only [Option.some.injEq] at b1
        subst b1
        simp [KSh.priv] at b2
      · exact absurd hr' hr
  have locs : ∀ x ∈ sg.outLocs, ∀ l', mapLoc (nameOf nms) (d.getD 1000000) x.1 = some l' → ρ' l' = ρo x.1 :=
    mapLocs_ok _ _ o hi.houts (nodupB_ok _ hi.ndOL) (nodupB_ok _ hi.ndOS) hlen
  have ρnot : ∀ l, (∀ x ∈ sg.outLocs, mapLoc (nameOf nms) (d.getD 1000000) x.1 ≠ some l) → ρ' l = ρ l := by
    intro l hl
    refine updS_not _ (fun y hy e => ?_)
    obtain ⟨z, hz, hzy⟩ := List.mem_map.1 (List.of_mem_zip hy).1
    obtain ⟨x, hx, hxm⟩ := mapLocs_from _ _ hi.houts z hz
    exact hl x hx (by rw [hxm, hzy, e])
  let Icut : Nat → Prop := fun b => imms (calleeCtx C ks β w sg c hi.small) (tgtT sg.outKs) β2 w' b ∧ (sg.flat = true → ∀ κ k, (κ, k) ∈ c.fz → β κ ≠ some b)
  have hI : ∀ b, Icut b → imms C ks' β' w' b := by
    rintro b ⟨⟨g1, g2, g3⟩, gcut⟩
    have hown : C.J b ∨ C.own b := by
      rcases g1 with (g1 | g1) | (g1 | g1)
      · exact g1.1
      · exact (k3 b (.inr g1)).1
      · obtain ⟨κ', _, q2, q3⟩ := P1 b g1
        exact .inr (f1.own κ' b q2 q3).1
      · exact .inr (.inr (Nat.le_trans h.fr.size g1))
    refine ⟨hown, g2, fun κ hp hb => ?_⟩
    by_cases hK : K κ
    · obtain ⟨κo, a1, a2⟩ := privname κ hK hp
      rw [βname κo κ a1] at hb
      exact g3 κo a2 hb
    · rw [βnot κ hK] at hb
      have hp1 : Priv ks1 κ := by obtain ⟨k, q1, q2⟩ := hp; exact ⟨k, by rw [← ksnot κ hK]; exact q1, q2⟩
      rcases g1 with (g1 | ⟨κf, kf, hm, hβf⟩) | (g1 | g1)
      · exact (f2 b g1).2.2 κ hp1 hb
      · cases hfl : sg.flat with
        | true => exact gcut hfl κf kf hm hβf
        | false =>
          have hmz : (κf, kf) ∈ fz := by
            show (κf, kf) ∈ (if sg.flat then [] else c.fz)
            rw [hfl]; simpa using hm
          exact (f3 κf kf b hmz hβf).2.2 κ hp1 hb
      · obtain ⟨κ', q1, q2, q3⟩ := P1 b g1
        have := f1.inj κ κ' b hp1 q2 hb q3
        rw [this] at hK
        exact hK q1
      · have h1 := (f1.own κ b hp1 hb).2
        have h2 : w.heap.size ≤ b := g1
        omega
  have hN : Named ⟨tgtT sg.outKs, β2, ρo, w', Icut⟩ (memOf C ks' β' ρ' w') (nameOf nms) := by
    refine ⟨rfl, hI, fun κ n hn => ?_⟩
    have hm := (nameOf_iff n1).1 hn
    obtain ⟨k, k', a1, a2, a3⟩ := namerk κ n hm
    refine ⟨k, k', mem_find nO a1, a2, F1 _ a3, βname κ n hm, fun t ht => ?_⟩
    subst ht
    have hx : (Loc.k κ 0, Ty.lst t) ∈ sg.outLocs := by
      refine List.mem_append_right _ (keyLocs_sub _ κ _ a1 _ (by simp [keyLocs]))
    have := locs _ hx (.k n 0) (by simp [mapLoc, hn])
    simp only [content, memOf]
    rw [this]
  have hIeq : sg.flat = false → (⟨tgtT sg.outKs, β2, ρo, w', Icut⟩ : Mem) = memOf (calleeCtx C ks β w sg c hi.small) (tgtT sg.outKs) β2 ρo w' := by
    intro hfl
    have : Icut = imms (calleeCtx C ks β w sg c hi.small) (tgtT sg.outKs) β2 w' := by
      funext b
      apply propext
      exact ⟨fun hb => hb.1, fun hb => ⟨hb, fun hf => by rw [hfl] at hf; simp at hf⟩⟩
    simp only [memOf, this]
  have hslot2 : SKOk ⟨tgtT sg.outKs, β2, ρo, w', Icut⟩ 0 sg.outSK v := by
    cases hfl : sg.flat with
    | true => exact SKOk.reI hfl hout.slot
    | false => rw [hIeq hfl]; exact hout.slot
  have hkeys2 : ∀ x ∈ sg.outKs, KeyOk ⟨tgtT sg.outKs, β2, ρo, w', Icut⟩ x.1 x.2 := by
    intro x hx
    cases hfl : sg.flat with
    | true =>
      have hg : x.2 = .gone := by
        simp only [Sig.flat, Bool.and_eq_true] at hfl
        simp only [Sig.outKs, numK, List.mem_map] at hx
        obtain ⟨⟨k, i⟩, hm, rfl⟩ := hx
        have hk : k ∈ sg.oks := by
          have := List.mem_zipIdx hm
          simp only [Nat.zero_add] at this
          rw [this.2.2]
          exact List.getElem_mem _
        have := List.all_eq_true.1 hfl.1 k hk
        have : k = .gone := by simpa using this
        rw [this]; rfl
      rw [hg]; trivial
    | false => rw [hIeq hfl]; exact hout.keys x hx
  refine ⟨β', ?_⟩
  rw [hks']
  refine f1.upd K (fun i => d = some i) (fun κ hκ => ⟨ksnot κ hκ, βnot κ hκ, fun j => ρnot _ (fun x hx hm => ?_)⟩) (fun i hi' => ⟨?_, fun j => ρnot _ (fun x hx hm => ?_), ?_⟩)
    (fun i _ y hy hD => (hd y.1 hD).2 i y hy rfl) (fun κ hκ => ?_) (fun b hb hK => ?_) hout.fr.size hout.fr.os hout.fr.tape hout.fr.output
    (fun κ b hK hp hb => ?_) (fun κ κ' b h1 h2 p1 p2 b1 b2 => ?_) (fun κ k hK hk => ?_) (fun i hD => ?_) (put_size _ _ _) (put_defers _ _ _) (fun g => ρnot _ (fun x hx hm => ?_)) (fun κ hκ hK => ?_)
  · -- keys' data
    cases hx1 : x.1 with
    | s i j' => rw [hx1] at hm; simp only [mapLoc] at hm; split at hm <;> simp at hm
    | g q => rw [hx1] at hm; simp [mapLoc] at hm
    | k κ2 j' =>
      rw [hx1] at hm
      simp only [mapLoc, Option.bind_eq_bind, Option.bind_eq_some_iff, Option.some.injEq, Loc.k.injEq] at hm
      obtain ⟨n, hn, rfl, _⟩ := hm
      obtain ⟨k, k', _, _, a3⟩ := namerk κ2 n ((nameOf_iff n1).1 hn)
      exact hκ (.inr ⟨_, a3, rfl⟩)
  · rw [hi.he]
    cases hdd : d with
    | none => rfl
    | some d' =>
      have : i ≠ d' := fun e => hi' (by rw [hdd, e])
      simp [putSl, this]
  · cases hx1 : x.1 with
    | k κ2 j' => rw [hx1] at hm; simp only [mapLoc, Option.bind_eq_bind, Option.bind_eq_some_iff, Option.some.injEq, reduceCtorEq, and_false, exists_false] at hm
    | g q => rw [hx1] at hm; simp [mapLoc] at hm
    | s i2 j' =>
      rw [hx1] at hm
      simp only [mapLoc] at hm
      split at hm
      · simp only [Option.some.injEq, Loc.s.injEq] at hm
        cases hdd : d with
        | none =>
          have hdst := hi.dst
          rw [hdd] at hdst
          simp only [dstOkB, Option.isSome_none, Bool.false_or] at hdst
          have := List.all_eq_true.1 hdst x hx
          rw [hx1] at this
          simp at this
        | some d' =>
          rw [hdd] at hm
          exact hi' (by rw [hdd]; simpa using hm.1)
      · simp at hm
  · cases hdd : d with
    | none => rfl
    | some d' => exact put_other a d' v i (fun e => hi' (by rw [hdd, e]))
  · -- keys read on
    by_cases hr : ∃ y ∈ rk, y.1 = κ
    · obtain ⟨y, hy, rfl⟩ := hr
      obtain ⟨κo, k, a1, a2, a3⟩ := rkname y hy
      rcases P2 κo y.1 a2 with ⟨q1, _⟩ | ⟨⟨cs, q1⟩, q2, q3⟩
      · right
        simp only [memOf]
        rw [show putKs ks fz y.1 = none from q1]
        trivial
      · rcases q3 y.2 hy with ⟨cs', q3⟩ | q3
        · right
          simp only [memOf]
          rw [show putKs ks fz y.1 = some (.box cs) from q1]
          exact ⟨⟨cs', by rw [F1 y hy, q3]⟩, by rw [βname κo y.1 a2]; exact q2⟩
        · left
          simp only [memOf]
          rw [F1 y hy, q3]
    · rcases hκ with ⟨y, hy, rfl⟩ | hr'
      · left
        simp only [memOf]
        exact F2 y hy (fun z hz e => hr ⟨z, hz, e⟩)
      · exact absurd hr' hr
  · refine hout.fr.block b hb (fun hTb => ?_)
    obtain ⟨κ', q1, q2, q3⟩ := P1 b hTb
    exact hK κ' q1 q2 q3
  · obtain ⟨κo, a1, a2⟩ := privname κ hK hp
    rw [βname κo κ a1] at hb
    obtain ⟨r1, r2⟩ := hout.own κo b a2 hb
    rcases r1 with r1 | r1
    · exact .inr (P1 b r1)
    · exact .inl ⟨r1, r2⟩
  · obtain ⟨κo, a1, a2⟩ := privname κ h1 p1
    obtain ⟨κo', a1', a2'⟩ := privname κ' h2 p2
    rw [βname κo κ a1] at b1
    rw [βname κo' κ' a1'] at b2
    have := hout.inj κo κo' b a2 a2' b1 b2
    subst this
    have e1 := (nameOf_iff n1).2 a1
    have e2 := (nameOf_iff n1).2 a1'
    rw [e1] at e2
    simpa using e2
  · by_cases hr : ∃ y ∈ rk, y.1 = κ
    · obtain ⟨y, hy, rfl⟩ := hr
      rw [F1 y hy] at hk
      simp only [Option.some.injEq] at hk
      subst hk
      obtain ⟨κo, k0, a1, a2, a3⟩ := rkname y hy
      refine hN.keyOk ((nameOf_iff n1).2 a2) (mem_find nO a1) a3 (fun x hx j hj => ?_) (hkeys2 _ a1)
      refine locs x (List.mem_append_right _ (keyLocs_sub _ κo _ a1 x hx)) _ ?_
      rw [hj]
      simp [mapLoc, (nameOf_iff n1).2 a2]
    · rcases hK with ⟨y, hy, rfl⟩ | hr'
      · rw [F2 y hy (fun z hz e => hr ⟨z, hz, e⟩)] at hk
        simp only [Option.some.injEq] at hk
        subst hk
        trivial
      · exact absurd hr' hr
  · -- the result
    have hdi : d = some i := hD
    rw [hi.he, hdi]
    simp only [Option.isSome_some, if_true, Option.getD_some, putSl]
    rw [put_same a i v (by rw [h.tmps]; exact (hd i hdi).1)]
    intro _
    refine hN.sk hi.hsk (fun x hx j hj => ?_) hslot2
    refine locs x (List.mem_append_left _ (by simpa [stLocs] using hx)) _ ?_
    rw [hj, hdi]
    simp [mapLoc]
  · cases hx1 : x.1 with
    | s i2 j' => rw [hx1] at hm; simp only [mapLoc] at hm; split at hm <;> simp at hm
    | g q => rw [hx1] at hm; simp [mapLoc] at hm
    | k κ2 j' => rw [hx1] at hm; simp only [mapLoc, Option.bind_eq_bind, Option.bind_eq_some_iff, Option.some.injEq, reduceCtorEq, and_false, exists_false] at hm
  · show (match invOf nms κ with | some κo => β2 κo | none => β κ) = β κ
    cases hq : invOf nms κ with
    | none => rfl
    | some κo =>
      rcases P2 κo κ ((invOf_iff n2).1 hq) with ⟨_, q2⟩ | ⟨_, q2, _⟩
      · have := (C.hrt κ hκ).2
        omega
      · exact q2
end
end Rk
set_option linter.unusedVariables false
set_option linter.unusedSimpArgs false
namespace Rk
open Go
theorem trG_ok {F : Fe} {call : CallF} {fuel : Nat} {P : Program} {R : St → Rho → Act → World → Prop} {RetP : List Dyn → Act → World → Prop}
    (hreg : ∀ id ops draw S S1 tc κn κx ρ a w res, trRegion F ops draw S = some (S1, tc) → R S ρ a w → den call fuel tc κn κx ρ = some res → ∀ (Q : Exit → Act → World → Prop),
      (∀ ρ' a' w', R S1 ρ' a' w' → κn ρ' = some res → Q .normal a' w') → (Code.region id ops draw).wp P Q a w)
    (hcnd : ∀ S o e ρ a w, R S ρ a w → opT S.acc [] o .bool = some e → a.eval o = .bool (e.evB ρ))
    (hco : ∀ S N mv ρ a w, R S ρ a w → coerce F.rt S.acc N = some mv → R N.st (updS ρ (evs ρ mv)) a w)
    (hret : ∀ (S : St) o ρ a w, trRet F S.acc = some o → R S ρ a w → RetP (dyns ρ o) a w) :
    ∀ (c : Code) (S : St) (X : Xs) (r : Option Nf) (tc : TC) (S' : Option St), tr F c S X = some (r, tc, S') → ∀ (κn : Rho → Res) (κx : Nat → Rho → Res) (ρ : Rho) (a : Act) (w : World) (res : List Dyn),
      R S ρ a w → den call fuel tc κn κx ρ = some res → ∀ (Q : Exit → Act → World → Prop),
      (∀ S1 ρ' a' w', S' = some S1 → R S1 ρ' a' w' → κn ρ' = some res → Q .normal a' w') →
      (∀ id p ρ' a' w', X.find? (·.1 == id) = some p → R p.2.st ρ' a' w' → κx id ρ' = some res → Q (.exit id) a' w') →
      (∀ a' w', RetP res a' w' → Q .ret a' w') → c.wp P Q a w := by
  intro c
  induction c with
  | skip =>
    intro S X r tc S' ht κn κx ρ a w res h hd Q hn hx hr
    simp only [tr, Option.some.injEq, Prod.mk.injEq] at ht
    obtain ⟨rfl, rfl, rfl⟩ := ht
    exact wp_skip (hn S ρ a w rfl h hd)
  | label l =>
    intro S X r tc S' ht κn κx ρ a w res h hd Q hn hx hr
    simp only [tr, Option.some.injEq, Prod.mk.injEq] at ht
    obtain ⟨rfl, rfl, rfl⟩ := ht
    exact wp_label (hn S ρ a w rfl h hd)
  | region id ops draw =>
    intro S X r tc S' ht κn κx ρ a w res h hd Q hn hx hr
    simp only [tr, Option.bind_eq_bind, Option.bind_eq_some_iff, Option.some.injEq, Prod.mk.injEq] at ht
    obtain ⟨⟨S1, tc1⟩, ho, rfl, rfl, rfl⟩ := ht
    exact hreg id ops draw S S1 tc1 κn κx ρ a w res ho h hd Q (fun ρ' a' w' h' hk => hn S1 ρ' a' w' rfl h' hk)
  | seq x y ihx ihy =>
    intro S X r tc S' ht κn κx ρ a w res h hd Q hn hx hr
    simp only [tr, Option.bind_eq_bind, Option.bind_eq_some_iff] at ht
    obtain ⟨⟨r1, ca, s1⟩, h1, ht⟩ := ht
    cases s1 with
    | none =>
      simp only [Option.some.injEq, Prod.mk.injEq] at ht
      obtain ⟨rfl, rfl, rfl⟩ := ht
      refine wp_seq (ihx S X r1 ca none h1 κn κx ρ a w res h hd _ (fun S1 ρ' a' w' he => by simp at he) hx hr)
    | some S1 =>
      simp only [Option.bind_eq_some_iff, Option.some.injEq, Prod.mk.injEq] at ht
      obtain ⟨⟨r2, cb, s2⟩, h2, rfl, rfl, rfl⟩ := ht
      simp only [den] at hd
      refine wp_seq (ihx S X r1 ca (some S1) h1 _ κx ρ a w res h hd _ (fun S1' ρ' a' w' he hrel hk => ?_) hx hr)
      simp only [Option.some.injEq] at he
      subst he
      exact ihy S1 X r2 cb s2 h2 κn κx ρ' a' w' res hrel hk Q hn hx hr
  | cond o x y ihx ihy =>
    intro S X r tc S' ht κn κx ρ a w res h hd Q hn hx hr
    simp only [tr, Option.bind_eq_bind, Option.bind_eq_some_iff] at ht
    obtain ⟨e, he, ⟨r1, ca, s⟩, h1, ⟨r2, cb, t⟩, h2, ht⟩ := ht
    have hb : a.eval o = .bool (e.evB ρ) := by
      exact hcnd S o e ρ a w h he
    refine wp_cond_split hb (fun hv => ?_) (fun hv => ?_)
    · cases s with
      | none =>
        simp only [Option.some.injEq, Prod.mk.injEq] at ht
        obtain ⟨rfl, rfl, rfl⟩ := ht
        simp only [den, hv, cond_true] at hd
        exact ihx S X r1 ca none h1 κn κx ρ a w res h hd Q (fun S1 ρ' a' w' he => by simp at he) hx hr
      | some s1 =>
        cases t with
        | none =>
          simp only [Option.some.injEq, Prod.mk.injEq] at ht
          obtain ⟨rfl, rfl, rfl⟩ := ht
          simp only [den, hv, cond_true] at hd
          exact ihx S X r1 ca (some s1) h1 κn κx ρ a w res h hd Q hn hx hr
        | some t1 =>
          simp only [Option.bind_eq_some_iff, Option.some.injEq, Prod.mk.injEq] at ht
          obtain ⟨ma, hma, mb, hmb, rfl, rfl, rfl⟩ := ht
          simp only [den, hv, cond_true] at hd
          refine ihx S X r1 ca (some s1) h1 _ κx ρ a w res h hd Q (fun S1 ρ' a' w' he hrel hk => ?_) hx hr
          simp only [Option.some.injEq] at he
          subst he
          exact hn _ _ a' w' rfl (hco _ _ _ _ _ _ hrel hma) hk
    · cases t with
      | none =>
        cases s with
        | none =>
          simp only [Option.some.injEq, Prod.mk.injEq] at ht
          obtain ⟨rfl, rfl, rfl⟩ := ht
          simp only [den, hv, cond_false] at hd
          exact ihy S X r2 cb none h2 κn κx ρ a w res h hd Q (fun S1 ρ' a' w' he => by simp at he) hx hr
        | some s1 =>
          simp only [Option.some.injEq, Prod.mk.injEq] at ht
          obtain ⟨rfl, rfl, rfl⟩ := ht
          simp only [den, hv, cond_false] at hd
          exact ihy S X r2 cb none h2 κn κx ρ a w res h hd Q (fun S1 ρ' a' w' he => by simp at he) hx hr
      | some t1 =>
        cases s with
        | none =>
          simp only [Option.some.injEq, Prod.mk.injEq] at ht
          obtain ⟨rfl, rfl, rfl⟩ := ht
          simp only [den, hv, cond_false] at hd
          exact ihy S X r2 cb (some t1) h2 κn κx ρ a w res h hd Q hn hx hr
        | some s1 =>
          simp only [Option.bind_eq_some_iff, Option.some.injEq, Prod.mk.injEq] at ht
          obtain ⟨ma, hma, mb, hmb, rfl, rfl, rfl⟩ := ht
          simp only [den, hv, cond_false] at hd
          refine ihy S X r2 cb (some t1) h2 _ κx ρ a w res h hd Q (fun S1 ρ' a' w' he hrel hk => ?_) hx hr
          simp only [Option.some.injEq] at he
          subst he
          exact hn _ _ a' w' rfl (hco _ _ _ _ _ _ hrel hmb) hk
  | block id x ih =>
    intro S X r tc S' ht κn κx ρ a w res h hd Q hn hx hr
    simp only [tr, Option.bind_eq_bind, Option.bind_eq_some_iff] at ht
    obtain ⟨⟨xs, s⟩, hfl, ht⟩ := ht
    simp only at ht
    split at ht
    · simp only [Option.bind_eq_some_iff] at ht
      obtain ⟨⟨r1, cc, s1⟩, h1, ht⟩ := ht
      cases s1 with
      | some _ => simp at ht
      | none =>
        simp only [Option.some.injEq, Prod.mk.injEq] at ht
        obtain ⟨rfl, rfl, rfl⟩ := ht
        simp only [den] at hd
        refine wp_block (ih S _ r1 cc none h1 _ _ ρ a w res h hd _ (fun S1 ρ' a' w' he => by simp at he) (fun id' p ρ' a' w' hf hrel hk => ?_) hr)
        have hp := List.find?_some hf
        have hm := List.mem_of_find?_eq_some hf
        simp only [List.mem_filter] at hm
        have hne : id' ≠ id := by
          intro e
          have h1 : p.1 = id' := by simpa using hp
          have h2 : p.1 ≠ id := by simpa using hm.2
          exact h2 (by rw [h1, e])
        have hne' : (id' == id) = false := by simpa using hne
        simp only [hne', cond_false] at hk
        simp only [Exit.inBlock, hne, if_false]
        refine hx id' p ρ' a' w' ?_ hrel hk
        have gen : ∀ (X : Xs), (X.filter (·.1 != id)).find? (·.1 == id') = some p → X.find? (·.1 == id') = some p := by
          intro X
          induction X with
          | nil => intro hh; exact hh
          | cons q X ihX =>
            intro hh
            by_cases hq : q.1 = id
            · have : ((q :: X).filter (·.1 != id)) = X.filter (·.1 != id) := by simp [List.filter_cons, hq]
              rw [this] at hh
              rw [List.find?_cons_of_neg (by simp [hq]; exact fun e => hne e.symm)]
              exact ihX hh
            · have : ((q :: X).filter (·.1 != id)) = q :: X.filter (·.1 != id) := by simp [List.filter_cons, hq]
              rw [this] at hh
              by_cases hq2 : q.1 = id'
              · rw [List.find?_cons_of_pos (by simpa using hq2)] at hh ⊢
                exact hh
              · rw [List.find?_cons_of_neg (by simpa using hq2)] at hh ⊢
                exact ihX hh
        exact gen X hf
    · rename_i hd0 tl0 heq
      simp only [Option.bind_eq_some_iff] at ht
      obtain ⟨⟨r1, cc, s1⟩, h1, ht⟩ := ht
      have exits : ∀ (N : Nf) (S1 : St), S' = some S1 → S1 = N.st → (∀ id' p ρ' a' w', List.find? (fun x : Nat × Nf => x.1 == id') ((id, N) :: X) = some p → R p.2.st ρ' a' w' →
          (bif id' == id then κn ρ' else κx id' ρ') = some res → Exit.inBlock id Q (.exit id') a' w') := by
        intro N S1 hS1 hN id' p ρ' a' w' hf hrel hk
        by_cases hid : id' = id
        · subst hid
          rw [List.find?_cons_of_pos (by simp)] at hf
          simp only [Option.some.injEq] at hf
          subst hf
          simp only [beq_self_eq_true, cond_true] at hk
          simp only [Exit.inBlock, if_true]
          exact hn S1 ρ' a' w' hS1 (by rw [hN]; exact hrel) hk
        · rw [List.find?_cons_of_neg (by simp; exact fun e => hid e.symm)] at hf
          have hid' : (id' == id) = false := by simpa using hid
          simp only [hid', cond_false] at hk
          simp only [Exit.inBlock, hid, if_false]
          exact hx id' p ρ' a' w' hf hrel hk
      cases s1 with
      | none =>
        simp only [Option.some.injEq, Prod.mk.injEq] at ht
        obtain ⟨rfl, rfl, rfl⟩ := ht
        simp only [den] at hd
        exact wp_block (ih S _ r1 cc none h1 _ _ ρ a w res h hd _ (fun S1 ρ' a' w' he => by simp at he) (exits _ _ rfl rfl) hr)
      | some s1 =>
        simp only [Option.bind_eq_some_iff, Option.some.injEq, Prod.mk.injEq] at ht
        obtain ⟨m, hm, rfl, rfl, rfl⟩ := ht
        simp only [den] at hd
        refine wp_block (ih S _ r1 cc (some s1) h1 _ _ ρ a w res h hd _ (fun S1 ρ' a' w' he hrel hk => ?_) (exits _ _ rfl rfl) hr)
        simp only [Option.some.injEq] at he
        subst he
        exact hn _ _ a' w' rfl (hco _ _ _ _ _ _ hrel hm) hk
  | loop x ih =>
    intro S X r tc S' ht κn κx ρ a w res h hd Q hn hx hr
    simp only [tr, Option.bind_eq_bind, Option.bind_eq_some_iff] at ht
    obtain ⟨N, hN, m0, hm0, ⟨r1, cc, s⟩, h1, ht⟩ := ht
    have hrel0 := hco _ _ _ _ _ _ h hm0
    cases s with
    | none =>
      simp only [Option.some.injEq, Prod.mk.injEq] at ht
      obtain ⟨rfl, rfl, rfl⟩ := ht
      simp only [den] at hd
      have key : ∀ (k : Nat) (ρ : Rho) (a : Act) (w : World), R N.st ρ a w → iter k (fun self => den call fuel cc self κx) ρ = some res → Code.rounds P x Q k a w := by
        intro k
        induction k with
        | zero => intro ρ a w _ hd; simp [iter] at hd
        | succ k ihk =>
          intro ρ a w h hd
          simp only [iter] at hd
          rw [rounds_succ]
          exact ih N.st X r1 cc none h1 _ κx ρ a w res h hd _ (fun S1 ρ' a' w' he => by simp at he) hx hr
      exact wp_loop_rounds fuel (key fuel _ a w hrel0 hd)
    | some s1 =>
      simp only [Option.bind_eq_some_iff, Option.some.injEq, Prod.mk.injEq] at ht
      obtain ⟨m, hm, rfl, rfl, rfl⟩ := ht
      simp only [den] at hd
      have key : ∀ (k : Nat) (ρ : Rho) (a : Act) (w : World), R N.st ρ a w → iter k (fun self => den call fuel cc (fun ρ => self (updS ρ (evs ρ m))) κx) ρ = some res → Code.rounds P x Q k a w := by
        intro k
        induction k with
        | zero => intro ρ a w _ hd; simp [iter] at hd
        | succ k ihk =>
          intro ρ a w h hd
          simp only [iter] at hd
          rw [rounds_succ]
          refine ih N.st X r1 cc (some s1) h1 _ κx ρ a w res h hd _ (fun S1 ρ' a' w' he hrel hk => ?_) hx hr
          simp only [Option.some.injEq] at he
          subst he
          exact ihk _ a' w' (hco _ _ _ _ _ _ hrel hm) hk
      exact wp_loop_rounds fuel (key fuel _ a w hrel0 hd)
  | exit id =>
    intro S X r tc S' ht κn κx ρ a w res h hd Q hn hx hr
    simp only [tr, Option.bind_eq_bind, Option.bind_eq_some_iff, Option.some.injEq, Prod.mk.injEq] at ht
    obtain ⟨p, hp, m, hm, rfl, rfl, rfl⟩ := ht
    simp only [den] at hd
    exact wp_exit (hx id p _ a w hp (hco _ _ _ _ _ _ h hm) hd)
  | ret =>
    intro S X r tc S' ht κn κx ρ a w res h hd Q hn hx hr
    simp only [tr, Option.bind_eq_bind, Option.bind_eq_some_iff, Option.some.injEq, Prod.mk.injEq] at ht
    obtain ⟨o, ho, rfl, rfl, rfl⟩ := ht
    simp only [den, Option.some.injEq] at hd
    subst hd
    exact wp_ret (hr a w (hret S o ρ a w ho h))
  | scope x ih =>
    intro S X r tc S' ht κn κx ρ a w res h hd Q hn hx hr
    simp only [tr] at ht
    exact wp_scope_straight (ih S X r tc S' ht κn κx ρ a w res h hd _ hn hx hr)
  | _ => intros; simp_all [tr]
end Rk
set_option linter.unusedVariables false
set_option linter.unusedSimpArgs false
namespace Rk
open Go
abbrev MapM := List (List UInt8 × List Int)
def lookM : MapM → List UInt8 → List Int
  | [], _ => []
  | x :: r, k => if k = x.1 then x.2 else lookM r k
def appM : MapM → List UInt8 → List Int → MapM
  | [], k, r => [(k, r)]
  | x :: t, k, r => if k = x.1 then (x.1, x.2 ++ r) :: t else x :: appM t k r
def gI (d : Dyn) : Int := d.get (.int .i64)
def gS (d : Dyn) : List UInt8 := d.get .str
def gMp (d : Dyn) : MapM := d.get mapD
def gLi (d : Dyn) : List Int := d.get (.lst (.int .i64))
def dI (n : Int) : Dyn := ⟨.int .i64, n⟩
def dMp (M : MapM) : Dyn := ⟨mapD, M⟩
def dLi (l : List Int) : Dyn := ⟨.lst (.int .i64), l⟩
def mapF (f : FuncId) (xs : List Dyn) : Res :=
  if f = fLen then
    match xs with
    | [m, M, k] => if 0 < gI m then some [dI ((lookM (gMp M) (gS k)).length : Nat)] else none
    | _ => none
  else if f = fApp then
    match xs with
    | [m, M, k, k2, r] => if gI m = 1 ∧ gS k = gS k2 ∧ (lookM (gMp M) (gS k)).length + (gLi r).length ≤ 2 ^ 40 then some [dMp (appM (gMp M) (gS k) (gLi r))] else none
    | _ => none
  else if f = fGet then
    match xs with
    | [m, M, k] => if 0 < gI m then some [dLi (lookM (gMp M) (gS k)), dI 2] else none
    | _ => none
  else none
theorem lookM_not (k : List UInt8) : ∀ (M : MapM), (∀ x ∈ M, x.1 ≠ k) → lookM M k = [] ∧ ∀ r, appM M k r = M ++ [(k, r)]
  | [], _ => ⟨rfl, fun _ => rfl⟩
  | x :: M, h => by
    obtain ⟨h1, h2⟩ := lookM_not k M (fun y hy => h y (by simp [hy]))
    have hx : ¬ k = x.1 := fun e => h x (by simp) e.symm
    exact ⟨by simp [lookM, hx, h1], fun r => by simp [appM, hx, h2]⟩
theorem lookM_at (k : List UInt8) : ∀ (M : MapM) (j : Nat) (x : List UInt8 × List Int), M[j]? = some x → x.1 = k → (∀ j' y, j' < j → M[j']? = some y → y.1 ≠ k) → lookM M k = x.2 ∧ ∀ r, appM M k r = M.set j (x.1, x.2 ++ r)
  | [], j, x, h, _, _ => by simp at h
  | y :: M, 0, x, h, hx, _ => by
    simp only [List.getElem?_cons_zero, Option.some.injEq] at h
    subst h
    exact ⟨by simp [lookM, hx], fun r => by simp [appM, hx]⟩
  | y :: M, j + 1, x, h, hx, hn => by
    simp only [List.getElem?_cons_succ] at h
    obtain ⟨h1, h2⟩ := lookM_at k M j x h hx (fun j' z hj hz => hn (j' + 1) z (by omega) (by simpa using hz))
    have hy : ¬ k = y.1 := fun e => hn 0 y (by omega) (by simp) e.symm
    exact ⟨by simp [lookM, hy, h1], fun r => by simp [appM, hy, h2]⟩
theorem bytes_ext {a b : ByteArray} (h : a.data.toList = b.data.toList) : a = b := by
  obtain ⟨x⟩ := a
  obtain ⟨y⟩ := b
  congr 1
  exact Array.ext' h
theorem findNow_first (k : ByteArray) : ∀ (l : List MapEntry) (i : Nat), (∀ x ∈ l, ∃ s, x.key = .string s) →
    (Instr.findNow .string (.string k) l i = some none ∧ ∀ x ∈ l, x.key ≠ .string k) ∨ ∃ j e, Instr.findNow .string (.string k) l i = some (some (i + j, e.val)) ∧ l[j]? = some e ∧ e.key = .string k ∧ ∀ j' e', j' < j → l[j']? = some e' → e'.key ≠ .string k
  | [], _, _ => .inl ⟨rfl, by simp⟩
  | e :: es, i, h => by
    obtain ⟨s, hs⟩ := h e (by simp)
    by_cases hk : k = s
    · right
      refine ⟨0, e, ?_, rfl, by rw [hs, hk], fun j' _ hj => by omega⟩
      have : (k == s) = true := (MapKept.bytes_beq k s).2 hk
      simp [Instr.findNow, hs, Instr.sameNow, this]
    · have hb : (k == s) = false := by
        cases hq : (k == s) with
        | false => rfl
        | true => exact absurd ((MapKept.bytes_beq k s).1 hq) hk
      have hne : e.key ≠ .string k := by rw [hs]; intro q; exact hk (by simpa using q.symm)
      have hstep : Instr.findNow .string (.string k) (e :: es) i = Instr.findNow .string (.string k) es (i + 1) := by
        simp [Instr.findNow, hs, Instr.sameNow, hb]
      rw [hstep]
      rcases findNow_first k es (i + 1) (fun x hx => h x (by simp [hx])) with ⟨h1, h2⟩ | ⟨j, e', h1, h2, h3, h4⟩
      · left
        refine ⟨h1, fun x hx => ?_⟩
        rcases List.mem_cons.1 hx with hx | hx
        · rw [hx]; exact hne
        · exact h2 x hx
      · right
        refine ⟨j + 1, e', by rw [h1]; congr 3; omega, by simpa using h2, h3, fun j' e2 hj he => ?_⟩
        cases j' with
        | zero => simp only [List.getElem?_cons_zero, Option.some.injEq] at he; rw [← he]; exact hne
        | succ j' => exact h4 j' e2 (by omega) (by simpa using he)
def HdrOk (w : World) (b : Nat) (l : List Int) (v : Value) : Prop :=
  ∃ cap c el fz, v = .slice (some ⟨b, 0, none⟩) l.length cap ∧ l.length ≤ cap ∧ cap ≤ c.size ∧ w.heap[b]? = some (.cells c el fz) ∧ Unfz c fz ∧ (∀ v ∈ c.toList, leafV v) ∧ ∀ j (h : j < l.length), c[j]? = some (.int .i64 l[j])
structure EntOk (w : World) (e : MapEntry) (b : Nat) (x : List UInt8 × List Int) : Prop where
  key : ∃ s : ByteArray, e.key = .string s ∧ s.data.toList = x.1
  val : HdrOk w b x.2 e.val
structure MapIs (w : World) (bm : Nat) (bs : List Nat) (M : MapM) : Prop where
  at_ : ∃ es clock, w.heap[bm]? = some (.map es clock) ∧ es.size = M.length ∧ bs.length = M.length ∧ ∀ (i : Nat) (e : MapEntry) (b : Nat) (x : List UInt8 × List Int), es[i]? = some e → bs[i]? = some b → M[i]? = some x → EntOk w e b x
  nd : (bm :: bs).Nodup
theorem EntOk.congr {w w' : World} {e : MapEntry} {b : Nat} {x : List UInt8 × List Int} (h : EntOk w e b x) (hb : w'.heap[b]? = w.heap[b]?) : EntOk w' e b x := by
  obtain ⟨h1, cap, c, el, fz, g1, g2, g3, g4, g5⟩ := h
  exact ⟨h1, cap, c, el, fz, g1, g2, g3, by rw [hb]; exact g4, g5⟩
theorem MapIs.congr {w w' : World} {bm : Nat} {bs : List Nat} {M : MapM} (h : MapIs w bm bs M) (hb : ∀ b ∈ bm :: bs, w'.heap[b]? = w.heap[b]?) : MapIs w' bm bs M := by
  obtain ⟨⟨es, clock, g1, g2, g3, g4⟩, g5⟩ := h
  exact ⟨⟨es, clock, by rw [hb bm (by simp)]; exact g1, g2, g3, fun i e b x he hbb hx => (g4 i e b x he hbb hx).congr (hb b (List.mem_cons_of_mem _ (List.mem_of_getElem? hbb)))⟩, g5⟩
inductive At (es : Array MapEntry) (bs : List Nat) (M : MapM) (k : ByteArray) (P : Program) : Prop
  | none (h1 : Instr.findNow .string (.string k) es.toList 0 = some none) (h2 : lookM M k.data.toList = []) (h3 : ∀ r, appM M k.data.toList r = M ++ [(k.data.toList, r)])
  | some (j : Nat) (e : MapEntry) (b : Nat) (x : List UInt8 × List Int) (h1 : Instr.findNow .string (.string k) es.toList 0 = some (some (j, e.val))) (he : es[j]? = some e) (hb : bs[j]? = some b) (hx : M[j]? = some x)
      (hk : e.key = .string k) (h2 : lookM M k.data.toList = x.2) (h3 : ∀ r, appM M k.data.toList r = M.set j (x.1, x.2 ++ r))
theorem MapIs.find {w : World} {bs : List Nat} {M : MapM} {es : Array MapEntry} (h2 : es.size = M.length) (h3 : bs.length = M.length)
    (h4 : ∀ (i : Nat) (e : MapEntry) (b : Nat) (x : List UInt8 × List Int), es[i]? = some e → bs[i]? = some b → M[i]? = some x → EntOk w e b x) (k : ByteArray) (P : Program) : At es bs M k P := by
  have hall : ∀ (i : Nat) (e : MapEntry), es.toList[i]? = some e → ∃ (b : Nat) (x : List UInt8 × List Int), bs[i]? = some b ∧ M[i]? = some x ∧ EntOk w e b x := by
    intro i e he
    have hlt : i < es.size := by
      rcases Nat.lt_or_ge i es.size with q | q
      · exact q
      · rw [List.getElem?_eq_none (by simpa using q)] at he; simp at he
    have hb : bs[i]? = some bs[i] := List.getElem?_eq_getElem (by omega)
    have hx : M[i]? = some M[i] := List.getElem?_eq_getElem (by omega)
    exact ⟨_, _, hb, hx, h4 i e _ _ (by rw [← Array.getElem?_toList]; exact he) hb hx⟩
  have hkeys : ∀ x ∈ es.toList, ∃ s, x.key = .string s := by
    intro x hx
    obtain ⟨i, hi⟩ := List.getElem?_of_mem hx
    obtain ⟨_, _, _, _, hE⟩ := hall i x hi
    obtain ⟨s, hs, _⟩ := hE.key
    exact ⟨s, hs⟩
  have hMe : ∀ (i : Nat) (y : List UInt8 × List Int), M[i]? = some y → ∃ e, es.toList[i]? = some e ∧ ∃ s : ByteArray, e.key = .string s ∧ s.data.toList = y.1 := by
    intro i y hy
    have hlt : i < M.length := by
      rcases Nat.lt_or_ge i M.length with q | q
      · exact q
      · rw [List.getElem?_eq_none q] at hy; simp at hy
    have hlt2 : i < es.toList.length := by have : es.toList.length = es.size := by simp
                                           have h2' : es.size = List.length M := h2
                                           omega
    have he : es.toList[i]? = some (es.toList[i]'hlt2) := List.getElem?_eq_getElem hlt2
    obtain ⟨b, x, _, hx, hE⟩ := hall i _ he
    rw [hy] at hx
    simp only [Option.some.injEq] at hx
    subst hx
    exact ⟨_, he, hE.key⟩
  rcases findNow_first k es.toList 0 hkeys with ⟨q1, q2⟩ | ⟨j, e, q1, q2, q3, q4⟩
  · have hn : ∀ x ∈ M, x.1 ≠ k.data.toList := by
      intro x hx e
      obtain ⟨i, hi⟩ := List.getElem?_of_mem hx
      obtain ⟨en, he, s, hs1, hs2⟩ := hMe i x hi
      refine q2 en (List.mem_of_getElem? he) ?_
      rw [hs1, bytes_ext (hs2.trans e)]
    obtain ⟨r1, r2⟩ := lookM_not _ _ hn
    exact .none q1 r1 r2
  · obtain ⟨b, x, hb, hx, hE⟩ := hall j e q2
    obtain ⟨s, hs1, hs2⟩ := hE.key
    rw [q3] at hs1
    simp only [Value.string.injEq] at hs1
    subst hs1
    obtain ⟨r1, r2⟩ := lookM_at k.data.toList M j x hx hs2.symm (fun j' y hj hy e' => by
      obtain ⟨en, he, s', hs1', hs2'⟩ := hMe j' y hy
      refine q4 j' en hj he ?_
      rw [hs1', bytes_ext (hs2'.trans e')])
    exact .some j e b x (by simpa using q1) (by rw [← Array.getElem?_toList]; exact q2) hb hx q3 r1 r2
section
variable {P : Program} {w : World} {t kt et : TypeId}
theorem run_lookup (ht : P.underlying t = some (.map kt et)) (hk : P.underlying kt = some .string) {bm clock : Nat} {es : Array MapEntry} (hm : w.heap[bm]? = some (.map es clock)) (k : ByteArray) {z : Value} {r : Option (Nat × Value)}
    (hf : Instr.findNow .string (.string k) es.toList 0 = some r) (hz : (zeroValue et).run P w = .ok z w) :
    (Instr.lookup t (.map (some bm)) (.string k) false).run P w = .ok ((r.map (·.2)).getD z) w := by
  have h1 : (Instr.checkKey es.isEmpty 10000 kt (.string k)).run P w = .ok () w := MapKept.run_checkKey (k := .string k) hk (by simp [MapKept.IsKey]) _ 9999
  have h2 := MapKept.run_findKey (P := P) (w := w) hk hf
  cases r with
  | none => simp [Instr.lookup, run_und ht, MapKept.run_getObj_map hm, h1, h2, hz, Result.andThen]
  | some x => simp [Instr.lookup, run_und ht, MapKept.run_getObj_map hm, h1, h2, Result.andThen]
theorem run_mapUpdate (ht : P.underlying t = some (.map kt et)) (hk : P.underlying kt = some .string) {bm clock : Nat} {es : Array MapEntry} (hm : w.heap[bm]? = some (.map es clock)) (k : ByteArray) (v : Value) {r : Option (Nat × Value)}
    (hf : Instr.findNow .string (.string k) es.toList 0 = some r) (hr : ∀ j u, r = some (j, u) → ∃ e, es[j]? = some e ∧ e.key = .string k) :
    ∃ clock', (Instr.mapUpdate t (.map (some bm)) (.string k) v).run P w =
      .ok () { w with heap := w.heap.setIfInBounds bm (.map (match r with | some (j, _) => es.modify j fun e => { e with key := .string k, val := v } | none => es.push { key := .string k, val := v, born := clock }) clock') } := by
  have h1 : (Instr.checkKey false 10000 kt (.string k)).run P w = .ok () w := MapKept.run_checkKey (k := .string k) hk (by simp [MapKept.IsKey]) _ 9999
  have h2 := MapKept.run_findKey (P := P) (w := w) hk hf
  cases r with
  | none => exact ⟨clock + 1, by simp [Instr.mapUpdate, run_und ht, MapKept.run_getObj_map hm, h1, h2, MapKept.run_setObj_map _ hm, Result.andThen]⟩
  | some x =>
    obtain ⟨j, u⟩ := x
    obtain ⟨e, he, hek⟩ := hr j u rfl
    have h3 : (Instr.keyThatStays (.string k) (.string k)).run P w = .ok (.string k) w := MapKept.run_keyThatStays (d := .string) (by simp [MapKept.IsKey])
    exact ⟨clock, by simp [Instr.mapUpdate, run_und ht, MapKept.run_getObj_map hm, h1, h2, he, hek, h3, MapKept.run_setObj_map _ hm, Result.andThen]⟩
end
end Rk
set_option linter.unusedVariables false
set_option linter.unusedSimpArgs false
namespace Rk
open Go
structure CtxTo (C0 C : Ctx) : Prop where
  P : C.P = C0.P
  nt : C.nt = C0.nt
  tabs : C.tabs = C0.tabs
  rts : C.rts = []
  J : ∀ b, C.J b → C0.J b ∨ C0.own b
  T : ∀ b, C.T b → C0.own b
  os : C.w0.os = C0.w0.os
  tape : C.w0.tape = C0.w0.tape
  output : C.w0.output = C0.w0.output
  size : C0.w0.heap.size ≤ C.w0.heap.size
  block : ∀ b, b < C0.w0.heap.size → ¬ C0.T b → C.w0.heap[b]? = C0.w0.heap[b]?
section
variable {E : Env} {C C0 : Ctx} {sl : Nat → Slot} {ks : Nat → Option KSh} {ρ : Rho} {β : Nat → Option Nat} {a : Act} {w : World}
theorem CtxTo.own (h : CtxTo C0 C) {b : Nat} (hb : C.own b) : C0.own b := by
  rcases hb with hb | hb
  · exact h.T b hb
  · exact .inr (Nat.le_trans h.size hb)
theorem CtxTo.keep (h : CtxTo C0 C) (hk : Keep C w) : Keep C0 w := by
  refine ⟨hk.os.trans h.os, hk.tape.trans h.tape, hk.output.trans h.output, Nat.le_trans h.size hk.size, fun b hb hT => ?_⟩
  rw [hk.block b (Nat.lt_of_lt_of_le hb h.size) (fun hT' => ?_), h.block b hb hT]
  rcases h.T b hT' with q | q
  · exact hT q
  · omega
theorem CtxTo.refl (h : C.rts = []) : CtxTo C C :=
  ⟨rfl, rfl, rfl, h, fun b hb => .inl hb, fun b hb => .inl hb, rfl, rfl, rfl, Nat.le_refl _, fun _ _ _ => rfl⟩
structure Out (C0 C : Ctx) (b : Nat) : Prop where
  own : C0.own b
  lt : b < C.w0.heap.size
  J : ¬ C.J b
  T : ¬ C.T b
theorem Out.not_imms {b : Nat} (h : Out C0 C b) : ¬ imms C ks β w b := by
  rintro ⟨q | q, _⟩
  · exact h.J q
  · rcases q with q | q
    · exact h.T q
    · have := h.lt; omega
theorem Out.not_priv {b : Nat} (h : Out C0 C b) (hr : Rel C sl ks ρ β a w) {κ : Nat} (hp : Priv ks κ) : β κ ≠ some b := by
  intro hb
  rcases (hr.own κ b hp hb).1 with q | q
  · exact h.T q
  · have := h.lt; omega
theorem Out.heap {b : Nat} (h : Out C0 C b) (hr : Rel C sl ks ρ β a w) : w.heap[b]? = C.w0.heap[b]? := hr.fr.block b h.lt h.T
theorem J_heap {b : Nat} (h : C.J b) (hr : Rel C sl ks ρ β a w) : w.heap[b]? = C.w0.heap[b]? := hr.fr.block b (hr.jt b h).1 (hr.jt b h).2
theorem Rel.ghost (h : Rel C sl ks ρ β a w) (hk : ks gk = none) {ρ' : Rho} (hρ : ∀ l, (∀ j, l ≠ .k gk j) → ρ' l = ρ l) : Rel C sl ks ρ' β a w := by
  refine h.upd (fun κ => κ = gk) (fun _ => False) (fun κ hκ => ⟨rfl, rfl, fun j => hρ _ (by intro i; simp [hκ])⟩) (fun i _ => ⟨rfl, fun j => hρ _ (by simp), rfl⟩) (fun i _ x _ => id)
    (fun κ hκ => by subst hκ; right; simp only [memOf, hk]) (fun b _ _ => rfl) (Nat.le_refl _) rfl rfl rfl (fun κ b hκ hp => ?_) (fun κ κ' b h1 h2 _ _ _ _ => by rw [h1, h2]) (fun κ k hκ hkk => ?_)
    (fun i hi => hi.elim) rfl rfl (fun g => hρ _ (by simp)) (fun κ hκ h2 => rfl)
  · subst hκ
    obtain ⟨k, hk', _⟩ := hp
    rw [hk] at hk'
    simp at hk'
  · subst hκ
    rw [hk] at hkk
    simp at hkk
theorem Rel.rebase (h : Rel C sl ks ρ β a w) (hT : TabsOk E C) (hch : CtxTo C0 C) {w' : World} (X J2 : Nat → Prop) (hX : ∀ b, X b → b < C.w0.heap.size ∧ ¬ C.J b ∧ ¬ C.T b)
    (hJ2 : ∀ b, J2 b → X b ∧ C0.own b) (hw : ∀ b, b < w.heap.size → ¬ X b → w'.heap[b]? = w.heap[b]?) (hXo : ∀ b, X b → C0.own b) (hsz : w.heap.size ≤ w'.heap.size) (hos : w'.os = w.os) (htape : w'.tape = w.tape) (hout : w'.output = w.output) :
    ∃ C' : Ctx, CtxTo C0 C' ∧ TabsOk E C' ∧ Rel C' sl ks ρ β a w' ∧ C'.w0 = w' ∧ (∀ b, X b → ¬ J2 b → Out C0 C' b) ∧ (∀ b, J2 b → C'.J b) ∧ ∀ b, w.heap.size ≤ b → b < w'.heap.size → Out C0 C' b := by
  have hXi : ∀ b, X b → ¬ imms C ks β w b := by
    intro b hb
    obtain ⟨x1, x2, x3⟩ := hX b hb
    rintro ⟨q | q, _⟩
    · exact x2 q
    · rcases q with q | q
      · exact x3 q
      · omega
  have hXp : ∀ b, X b → ∀ κ, Priv ks κ → β κ ≠ some b := by
    intro b hb κ hp hbb
    obtain ⟨x1, x2, x3⟩ := hX b hb
    rcases (h.own κ b hp hbb).1 with q | q
    · exact x3 q
    · omega
  have hIw : ∀ b, imms C ks β w b → w'.heap[b]? = w.heap[b]? := fun b hb => hw b hb.2.1 (fun hx => hXi b hx hb)
  have hPw : ∀ κ b, Priv ks κ → β κ = some b → w'.heap[b]? = w.heap[b]? := fun κ b hp hb => hw b (h.own κ b hp hb).2 (fun hx => hXp b hx κ hp hb)
  have hbX : ∀ b, X b → b < w.heap.size := fun b hb => Nat.lt_of_lt_of_le (hX b hb).1 h.fr.size
  let C' : Ctx := { C with J := fun b => imms C ks β w b ∨ J2 b, T := fun b => ∃ κ, Priv ks κ ∧ β κ = some b, w0 := w' }
  have hII : ∀ b, imms C ks β w b → imms C' ks β w' b := fun b hb => ⟨.inl (.inl hb), Nat.lt_of_lt_of_le hb.2.1 hsz, hb.2.2⟩
  have hcell : ∀ b, imms C ks β w b → ∀ o, cellAt w' b o = cellAt w b o := fun b hb o => cellAt_congr (hIw b hb) o
  have hblk : ∀ κ k, ks κ = some k → ∀ b, β κ = some b → k ≠ .gone → w'.heap[b]? = w.heap[b]? := by
    intro κ k hk b hb hg
    by_cases hp : k.priv = true
    · exact hPw κ b ⟨k, hk, hp⟩ hb
    · cases k with
      | imm t =>
        have hok := h.keys κ _ hk
        simp only [KeyOk, memOf] at hok
        rw [hb] at hok
        exact hIw b hok.1
      | gone => exact absurd rfl hg
      | row t => exact absurd rfl hp
      | arr t n => exact absurd rfl hp
      | box cs => exact absurd rfl hp
  have hKC : ∀ κ, KC (memOf C ks β ρ w) (memOf C' ks β ρ w') κ := by
    intro κ
    by_cases hg : ks κ = some .gone
    · left; exact hg
    · have : KC (memOf C ks β ρ w) (memOf C ks β ρ w') κ := KC.same (fun k hk' => h.keys κ k hk') rfl rfl (fun _ => rfl) (fun b hb hs => by
        cases hm : ks κ with
        | none => simp [hm] at hs
        | some k => exact hblk κ k hm b hb (fun e => hg (by rw [hm, e])))
      exact this
  have hJlt : ∀ b, (imms C ks β w b ∨ J2 b) → b < w'.heap.size ∧ ¬ ∃ κ, Priv ks κ ∧ β κ = some b := by
    rintro b (hb | hb)
    · exact ⟨Nat.lt_of_lt_of_le hb.2.1 hsz, fun ⟨κ, hp, hbb⟩ => hb.2.2 κ hp hbb⟩
    · have hx := (hJ2 b hb).1
      exact ⟨Nat.lt_of_lt_of_le (hbX b hx) hsz, fun ⟨κ, hp, hbb⟩ => hXp b hx κ hp hbb⟩
  have hoX : ∀ b, X b → ¬ J2 b → Out C0 C' b := fun b hb hj => ⟨hXo b hb, Nat.lt_of_lt_of_le (hbX b hb) hsz, fun q => by
    rcases q with q | q
    · exact hXi b hb q
    · exact hj q, fun ⟨κ, hp, hbb⟩ => hXp b hb κ hp hbb⟩
  refine ⟨C', ⟨hch.P, hch.nt, hch.tabs, hch.rts, fun b hb => ?_, fun b hb => ?_, hos.trans (h.fr.os.trans hch.os), htape.trans (h.fr.tape.trans hch.tape), hout.trans (h.fr.output.trans hch.output), ?_, fun b hb hTb => ?_⟩,
    ⟨hT.P, fun g u m hg => ?_⟩, ⟨h.inj, fun κ b hp hb => ⟨.inl ⟨κ, hp, hb⟩, Nat.lt_of_lt_of_le (h.own κ b hp hb).2 hsz⟩, fun κ k hk => ?_, fun i hc => ?_, h.tmps, h.dfr, ⟨rfl, rfl, rfl, Nat.le_refl _, fun _ _ _ => rfl⟩, hJlt, ?_, h.tab, fun κ hκ => ?_⟩,
    rfl, hoX, fun b hb => .inr hb, fun b h1 h2 => ⟨?_, h2, fun q => ?_, ?_⟩⟩
  · rcases hb with hb | hb
    · rcases hb.1 with q | q
      · exact hch.J b q
      · exact .inr (hch.own q)
    · exact .inr (hJ2 b hb).2
  · obtain ⟨κ, hp, hbb⟩ := hb
    exact hch.own (h.own κ b hp hbb).1
  · exact Nat.le_trans hch.size (Nat.le_trans h.fr.size hsz)
  · have hb2 : b < C.w0.heap.size := Nat.lt_of_lt_of_le hb hch.size
    have hnX : ¬ X b := by
      intro hx
      rcases hXo b hx with q | q
      · exact hTb q
      · omega
    have hnT : ¬ C.T b := by
      intro q
      rcases hch.T b q with q | q
      · exact hTb q
      · omega
    show w'.heap[b]? = _
    rw [hw b (Nat.lt_of_lt_of_le hb2 h.fr.size) hnX, h.fr.block b hb2 hnT, hch.block b hb hTb]
  · obtain ⟨g1, g2, g3⟩ := hT.tab g u m hg
    have hgi := imms_J h g1
    have hgw : ∀ b, C.J b → ∀ o, cellAt w' b o = cellAt C.w0 b o := fun b hb o => by
      rw [hcell b (imms_J h hb) o]
      exact cellAt_congr (J_heap hb h) o
    refine ⟨.inl hgi, g2, fun i hi => ?_⟩
    have := RepC.ext (fun b hb => (.inl (imms_J h hb) : imms C ks β w b ∨ J2 b)) hgw _ _ _ (g3 i hi)
    have e : (fun j => cellAt w' g (i * u.n + j)) = (fun j => cellAt C.w0 g (i * u.n + j)) := funext fun j => hgw g g1 _
    show RepC w' _ u (fun j => cellAt w' g (i * u.n + j)) _
    rw [e]
    exact this
  · by_cases hg : k = .gone
    · subst hg; trivial
    · exact KeyOk.ext (M := memOf C ks β ρ w) (M' := memOf C' ks β ρ w') hII hcell rfl (fun _ => rfl) (fun b hb => hblk κ k hk b hb hg) (fun κ' _ => hKC κ') (h.keys κ k hk)
  · exact SKOk.ext (M := memOf C ks β ρ w) (M' := memOf C' ks β ρ w') hII hcell (fun κ _ => hKC κ) (fun _ => rfl) (h.slots i hc)
  · rintro b ⟨κ, hp, hb⟩
    exact Nat.lt_of_lt_of_le (h.own κ b hp hb).2 hsz
  · have : C.rts = [] := hch.rts
    rw [show C'.rts = [] from this] at hκ
    simp at hκ
  · exact .inr (Nat.le_trans hch.size (Nat.le_trans h.fr.size h1))
  · rcases q with q | q
    · have := q.2.1; omega
    · have := hbX b (hJ2 b q).1; omega
  · rintro ⟨κ, hp, hb⟩
    have := (h.own κ b hp hb).2
    omega
end
def modeOf (ρ : Rho) : Int := gI (ρ (gL 1))
def dataOf (ρ : Rho) : MapM := gMp (ρ (gL 0))
def MapSt (C0 C : Ctx) (m : Nat) (ρ : Rho) (a : Act) (w : World) : Prop :=
  modeOf ρ ≤ 0 ∨ ∃ bm bs, a.tmps.getD m undef = .map (some bm) ∧ MapIs w bm bs (dataOf ρ) ∧ Out C0 C bm ∧ ((modeOf ρ = 1 ∧ ∀ b ∈ bs, Out C0 C b) ∨ (modeOf ρ = 2 ∧ ∀ b ∈ bs, C.J b))
def RM (E : Env) (C0 : Ctx) (m : Nat) (S : St) (ρ : Rho) (a : Act) (w : World) : Prop :=
  ∃ C β, CtxTo C0 C ∧ TabsOk E C ∧ Rel C S.acc.sl S.acc.ks ρ β a w ∧ MapSt C0 C m ρ a w
section
variable {E : Env} {C C0 : Ctx} {S S' : St} {m : Nat} {ρ ρ' : Rho} {β β' : Nat → Option Nat} {a a' : Act} {w w' : World}
theorem MapSt.step (h : MapSt C0 C m ρ a w) {sl sl' : Nat → Slot} {ks ks' : Nat → Option KSh} (h1 : Rel C sl ks ρ β a w) (h2 : Rel C sl' ks' ρ' β' a' w') (ha : a'.tmps.getD m undef = a.tmps.getD m undef) (h0 : ρ' (gL 0) = ρ (gL 0)) (h1' : ρ' (gL 1) = ρ (gL 1)) :
    MapSt C0 C m ρ' a' w' := by
  have em : modeOf ρ' = modeOf ρ := by unfold modeOf; rw [h1']
  have ed : dataOf ρ' = dataOf ρ := by unfold dataOf; rw [h0]
  rcases h with h | ⟨bm, bs, g1, g2, g3, g4⟩
  · left; rw [em]; exact h
  · right
    refine ⟨bm, bs, by rw [ha]; exact g1, ?_, g3, by rw [em]; exact g4⟩
    rw [ed]
    refine g2.congr (fun b hb => ?_)
    rcases List.mem_cons.1 hb with hb | hb
    · rw [hb, g3.heap h2, g3.heap h1]
    · rcases g4 with ⟨_, g4⟩ | ⟨_, g4⟩
      · rw [(g4 b hb).heap h2, (g4 b hb).heap h1]
      · rw [J_heap (g4 b hb) h2, J_heap (g4 b hb) h1]
theorem Tab.big {α : Type} : ∀ (f : Nat) (t : Tab α) (i : Nat), 2 ^ f ≤ i + 1 → t.getF f i = none
  | 0, t, i, _ => rfl
  | f + 1, .nil, i, _ => rfl
  | f + 1, .node l r v, 0, h => by
    have : 0 < 2 ^ f := Nat.pow_pos (by omega)
    rw [Nat.pow_succ] at h
    omega
  | f + 1, .node l r v, i + 1, h => by
    have h2 : 2 ^ f ≤ i / 2 + 1 := by rw [Nat.pow_succ] at h; omega
    simp only [Tab.getF]
    split
    · exact Tab.big f l _ h2
    · exact Tab.big f r _ h2
theorem ks_gk (S : St) : S.acc.ks gk = none := by
  simp only [St.acc, Tab.get]
  exact Tab.big 40 _ _ (by unfold gk; omega)
theorem RM.co {F : Fe} (hrt : F.rt = []) {N : Nf} {mv : List (Loc × Ty × PE)} (h : RM E C0 m S ρ a w) (hc : coerce F.rt S.acc N = some mv) : RM E C0 m N.st (updS ρ (evs ρ mv)) a w := by
  obtain ⟨C, β, h1, h2, h3, h4⟩ := h
  have hlow : ∀ x ∈ mv, lowL x.1 = true := by
    simp only [coerce] at hc
    split at hc
    · simp at hc
    · simp only [Option.bind_eq_bind, Option.bind_eq_some_iff] at hc
      obtain ⟨xs, _, c, _, hc⟩ := hc
      split at hc
      · rename_i hcond
        simp only [Option.some.injEq] at hc
        subst hc
        simp only [Bool.and_eq_true] at hcond
        intro x hx
        exact List.all_eq_true.1 hcond.2 x.1 (List.mem_map.2 ⟨x, hx, rfl⟩)
      · simp at hc
  have hg : ∀ j, updS ρ (evs ρ mv) (gL j) = ρ (gL j) := by
    intro j
    refine updS_not _ (fun y hy e => ?_)
    obtain ⟨z, hz, hzy⟩ := mem_evs hy
    have := hlow z hz
    rw [← hzy, e] at this
    simp only [gL, lowL, gk, decide_eq_true_eq] at this
    omega
  rw [hrt, ← h1.rts] at hc
  obtain ⟨β2, hr⟩ := coerce_ok h3 hc
  exact ⟨C, β2, h1, h2, hr, h4.step h3 hr rfl (hg 0) (hg 1)⟩
theorem RM.cnd {o : Operand} {e : PE} (h : RM E C0 m S ρ a w) (he : opT S.acc [] o .bool = some e) : a.eval o = .bool (e.evB ρ) := by
  obtain ⟨C, β, _, _, h3, _⟩ := h
  have := opT_ok h3 (cond := []) (fun y hy => by simp at hy) he
  simp only [RepC, Option.some.injEq] at this
  exact this
theorem OutOk.chain {sg : Sig} {v : Value} (hch : CtxTo C0 C) (hrts : C0.rts = []) (hsr : sg.roots = []) (h : OutOk C sg ρ β v w) : OutOk C0 sg ρ β v w := by
  have hI : ∀ b, imms C (tgtT sg.outKs) β w b → imms C0 (tgtT sg.outKs) β w b := by
    rintro b ⟨q, h1, h2⟩
    refine ⟨?_, h1, h2⟩
    rcases q with q | q
    · exact hch.J b q
    · exact .inr (hch.own q)
  have hKC : ∀ κ, KC (memOf C (tgtT sg.outKs) β ρ w) (memOf C0 (tgtT sg.outKs) β ρ w) κ := by
    intro κ
    by_cases hg : tgtT sg.outKs κ = some .gone
    · left; exact hg
    · right
      simp only [memOf]
      cases hm : tgtT sg.outKs κ with
      | none => trivial
      | some k =>
        cases k with
        | row t => exact ⟨.inl rfl, trivial, trivial, fun _ _ => trivial⟩
        | imm t => exact ⟨rfl, trivial, trivial, fun _ _ => trivial⟩
        | arr t n => exact ⟨rfl, trivial, trivial⟩
        | box cs => exact ⟨⟨cs, rfl⟩, trivial⟩
        | gone => exact absurd hm hg
  refine ⟨h.inj, fun κ b hp hb => ⟨hch.own (h.own κ b hp hb).1, (h.own κ b hp hb).2⟩, fun x hx => ?_, ?_, hch.keep h.fr, fun κ hκ => by rw [hsr] at hκ; simp at hκ⟩
  · exact KeyOk.ext (M := memOf C (tgtT sg.outKs) β ρ w) (M' := memOf C0 (tgtT sg.outKs) β ρ w) hI (fun _ _ _ => rfl) rfl (fun _ => rfl) (fun _ _ => rfl) (fun κ _ => hKC κ) (h.keys x hx)
  · exact SKOk.ext (M := memOf C (tgtT sg.outKs) β ρ w) (M' := memOf C0 (tgtT sg.outKs) β ρ w) hI (fun _ _ _ => rfl) (fun κ _ => hKC κ) (fun _ => rfl) h.slot
end
end Rk
set_option linter.unusedVariables false
set_option linter.unusedSimpArgs false
namespace Rk
open Go
section
variable {P : Program} {w : World}
theorem HdrOk.list {b : Nat} {l : List Int} {v : Value} (h : HdrOk w b l v) : ListAt w (fun _ => True) (.int .i64) v l (fun _ _ => True) := by
  obtain ⟨cap, c, el, fz, h1, h2, h3, h4, h5, h6, h7⟩ := h
  refine ⟨some ⟨b, 0, none⟩, cap, h1, h2, .inr ⟨b, 0, rfl, trivial, fun i hi => ?_⟩⟩
  show cellAt w b (0 + i * 1 + 0) = some (.int .i64 l[i])
  rw [← h7 i hi]
  simp [cellAt, World.cell?, h4]
theorem HdrOk.congr {w' : World} {b : Nat} {l : List Int} {v : Value} (h : HdrOk w b l v) (hb : w'.heap[b]? = w.heap[b]?) : HdrOk w' b l v := by
  obtain ⟨cap, c, el, fz, h1, h2, h3, h4, h5⟩ := h
  exact ⟨cap, c, el, fz, h1, h2, h3, by rw [hb]; exact h4, h5⟩
def HandOk (w : World) (ob : Option Nat) (l : List Int) (v : Value) : Prop :=
  match ob with
  | none => l = [] ∧ v = .slice none 0 0
  | some b => HdrOk w b l v
theorem cells_ints {I : Nat → Prop} {l : List Int} {news : List Value} (h : Cells w I (.int .i64) l news) : ∀ j (hj : j < l.length), news[j]? = some (.int .i64 l[j]) := by
  intro j hj
  have := h.rep j hj
  have e : j * Ty.n (.int .i64) + 0 = j := by show j * 1 + 0 = j; omega
  simp only [RepC, e] at this
  exact this
theorem append_hand {t t2 el : TypeId} {d2 : TypeDesc} {ts : List TypeId} {ty : TypeId} {bts : Nat} {y : Value} {ob : Option Nat} {l r : List Int} {v : Value} {I : Nat → Prop} {news : List Value}
    (ht : P.underlying t = some (.slice el)) (hlv : lvs P el = some [.int .i64]) (hz : zeroCs P el = some (false, [(.dyn (.int .i64), .int 0)])) (hb : bytesT P el = some bts) (hb64 : bts ≤ 64) (ht2 : P.underlying t2 = some d2) (hd2 : isIntD d2 = false)
    (hv : HandOk w ob l v) (hsrc : SrcOk P w I (.int .i64) 1 y r news) (hr : 0 < r.length) (hlen : l.length + r.length ≤ 2 ^ 40) :
    ∃ v' b' w', (Builtin.append_ (t :: t2 :: ts).toArray ty #[v, y]).run P w = .ok v' w' ∧ HdrOk w' b' (l ++ r) v' ∧ (ob = some b' ∨ b' = w.heap.size) ∧ (∀ b, b < w.heap.size → ob ≠ some b → w'.heap[b]? = w.heap[b]?) ∧
      w.heap.size ≤ w'.heap.size ∧ b' < w'.heap.size ∧ w'.os = w.os ∧ w'.tape = w.tape ∧ w'.output = w.output := by
  obtain ⟨hsz, hleaf⟩ := lvs_size hlv
  have hsz1 : sizeT P el = some 1 := hsz
  obtain ⟨z, hz1, hz2⟩ := run_zero (w := w) hz
  have hz3 : CEsOk ⟨fun _ => none, fun _ => none, fun _ => default, w, fun _ => False⟩ [(.dyn (.int .i64), .int 0)] z.cells.toList := VOk.cells (constV_ok hz2)
  have hz4 : z.cells.size = 1 := by have := CEsOk.length _ _ hz3; simp only [Array.length_toList] at this; exact this.symm
  have hz5 : ∀ v ∈ z.cells.toList, leafV v := CEsOk.leafs _ _ hz3
  obtain ⟨i, hi, hisz, hibt, hizr⟩ : ∃ i, P.info? el = some i ∧ i.size = 1 ∧ i.bytes = bts ∧ i.zero = some z := by
    simp only [sizeT, bytesT, zeroCs, Option.bind_eq_bind, Option.bind_eq_some_iff, Option.some.injEq] at hsz1 hb hz
    obtain ⟨i, h1, h2⟩ := hsz1
    obtain ⟨i2, h3, h4⟩ := hb
    obtain ⟨i3, h5, z', h6, h7⟩ := hz
    rw [h1] at h3 h5
    simp only [Option.some.injEq] at h3 h5
    subst h3 h5
    refine ⟨i, h1, h2, h4, ?_⟩
    simp only [zeroValue, Sem.run_bind, run_ti h1, Result.andThen_ok, h6, Sem.run_pure, Result.ok.injEq, and_true] at hz1
    rw [h6, hz1]
  -- what is there
  obtain ⟨base, cap, olds, hve, hle, hob, holds, hread⟩ : ∃ base cap olds, v = .slice base l.length cap ∧ l.length ≤ cap ∧ (base = match ob with | none => none | some b => some ⟨b, 0, none⟩) ∧ Cells w (fun _ => True) (.int .i64) l olds ∧
      ∀ w1 : World, w1.heap = w.heap → (Builtin.firstCells 1 l.length v).run P w1 = .ok olds.toArray w1 := by
    cases ob with
    | none =>
      obtain ⟨rfl, rfl⟩ := hv
      exact ⟨none, 0, [], rfl, Nat.le_refl _, rfl, Cells.nil, fun w1 _ => rfl⟩
    | some b =>
      have hv : HdrOk w b l v := hv
      obtain ⟨olds, hs⟩ := src_list (P := P) (lv := [.int .i64]) rfl hv.list
      obtain ⟨cap, c, el, fz, h1, h2, _⟩ := hv
      exact ⟨some ⟨b, 0, none⟩, cap, olds, h1, h2, rfl, hs.cells, hs.read⟩
  have hnl : news.length = r.length := by have := hsrc.cells.len; rw [this]; exact Nat.mul_one _
  have hol : olds.length = l.length := by have := holds.len; rw [this]; exact Nat.mul_one _
  by_cases hroom : l.length + r.length ≤ cap
  · cases ob with
    | none =>
      obtain ⟨rfl, hvn⟩ := hv
      rw [hve] at hvn
      simp only [Value.slice.injEq] at hvn
      omega
    | some b =>
      obtain ⟨cap', c, el', fz, h1, h2, h3, h4, h5, h6, h7⟩ := (hv : HdrOk w b l v)
      have hbase : base = some ⟨b, 0, none⟩ := hob
      subst hbase
      have hcc : cap' = cap := by rw [h1] at hve; simp only [Value.slice.injEq] at hve; omega
      subst hcc
      obtain ⟨w', c', s1, s2, s3⟩ := run_storeCells' (P := P) (b := b) (o := l.length) news 0 w c h4 h5 (by omega) hsrc.cells.leaf
      rw [Nat.add_zero] at s3
      have hin := run_append_in (P := P) (w := w) (t := t) (t2 := t2) (el := el) (ty := ty) (ts := ts) (base := some ⟨b, 0, none⟩) (len := l.length) (cap := cap') (w' := w') ht hsz1 ht2 hd2 hsrc hroom
        (fun ad had => by simp only [Option.some.injEq] at had; subst had; rw [addr_add, Nat.zero_add, Nat.mul_one]; exact s1) (by simp)
      have hsize : c'.size = c.size := wrote_size s3 (by omega)
      refine ⟨.slice (some ⟨b, 0, none⟩) (l.length + r.length) cap', b, w', by rw [hve]; exact hin, ⟨cap', c', el', fz, by rw [List.length_append], by rw [List.length_append]; exact hroom, by rw [hsize]; exact h3, s2.here, h5.of_size hsize, fun u hu => ?_, fun j hj => ?_⟩, .inl rfl, fun b0 hb0 hne => s2.other b0 (fun e => hne (by rw [e])), by rw [s2.size]; exact Nat.le_refl _, ?_, s2.os, s2.tape, s2.output⟩
      · rw [s3] at hu
        rcases List.mem_append.1 hu with hu | hu
        · rcases List.mem_append.1 hu with hu | hu
          · exact h6 u (List.mem_of_mem_take hu)
          · exact hsrc.cells.leaf u hu
        · exact h6 u (List.mem_of_mem_drop hu)
      · rw [← Array.getElem?_toList, s3]
        have hct : c.toList.length = c.size := by simp
        have htl : (c.toList.take l.length).length = l.length := by rw [List.length_take]; omega
        by_cases hjl : j < l.length
        · rw [app3_left (by rw [htl]; exact hjl), List.getElem?_take, if_pos hjl, Array.getElem?_toList, h7 j hjl, List.getElem_append_left hjl]
        · have hj2 : j - l.length < r.length := by rw [List.length_append] at hj; omega
          rw [app3_mid (by rw [htl]; omega) (by rw [htl, hnl]; rw [List.length_append] at hj; exact hj), htl, cells_ints hsrc.cells _ hj2, List.getElem_append_right (by omega)]
      · have := s2.here
        rcases Nat.lt_or_ge b w'.heap.size with q | q
        · exact q
        · rw [Array.getElem?_eq_none q] at this; simp at this
  · have hgrow : cap < l.length + r.length := by omega
    have hx2 : SrcOk P w I (.int .i64) i.size y r news := by rw [hisz]; exact hsrc
    have hrn := run_append_new (P := P) (w := w) (t := t) (t2 := t2) (el := el) (ty := ty) (ts := ts) (i := i) (z := z) (olds := olds) (base := base) (len := l.length) (cap := cap) ht hi hizr ht2 hd2 hx2
      (by rw [hisz]; rw [← hve]; exact hread) hgrow (show l.length + r.length ≤ 9223372036854775807 by omega) (growslice_fits hgrow (by
        rw [hibt]
        have : (l.length + r.length) * bts ≤ 2 ^ 40 * 64 := Nat.mul_le_mul hlen hb64
        show (l.length + r.length) * bts ≤ _
        omega))
    have hge := cap_ge w (l.length + r.length) cap el
    have hrn : (Builtin.append_ (t :: t2 :: ts).toArray ty #[Value.slice base l.length cap, y]).run P w = .ok (.slice (some ⟨w.heap.size, 0, none⟩) (l.length + r.length) (grownCap w (l.length + r.length) cap el))
        (w.drew.alloc (.cells (olds.toArray ++ news.toArray ++ Builtin.zeroCells z.cells (grownCap w (l.length + r.length) cap el - (l.length + r.length))) el)) := hrn
    generalize hcap : grownCap w (l.length + r.length) cap el = cap2 at hrn hge
    have htl : (olds.toArray ++ news.toArray ++ Builtin.zeroCells z.cells (cap2 - (l.length + r.length))).toList = olds ++ news ++ (Builtin.zeroCells z.cells (cap2 - (l.length + r.length))).toList := by simp
    have hcs : cap2 ≤ (olds.toArray ++ news.toArray ++ Builtin.zeroCells z.cells (cap2 - (l.length + r.length))).size := by
      have : (olds.toArray ++ news.toArray ++ Builtin.zeroCells z.cells (cap2 - (l.length + r.length))).size = olds.length + news.length + (Builtin.zeroCells z.cells (cap2 - (l.length + r.length))).size := by simp
      rw [this, size_zero, hz4]
      omega
    refine ⟨.slice (some ⟨w.heap.size, 0, none⟩) (l.length + r.length) cap2, w.heap.size, w.drew.alloc (.cells (olds.toArray ++ news.toArray ++ Builtin.zeroCells z.cells (cap2 - (l.length + r.length))) el), by rw [hve]; exact hrn, ⟨cap2, _, el, (0, 0), by rw [List.length_append], by rw [List.length_append]; exact hge, hcs, ?_, .inl rfl, fun u hu => ?_, fun j hj => ?_⟩, .inr rfl, fun b0 hb0 _ => ?_, ?_, ?_, rfl, rfl, rfl⟩
    · exact (MapKept.heap_alloc w.drew _).1
    · rw [htl] at hu
      rcases List.mem_append.1 hu with hu | hu
      · rcases List.mem_append.1 hu with hu | hu
        · exact holds.leaf u hu
        · exact hsrc.cells.leaf u hu
      · exact zeroCells_leaf hz5 _ u hu
    · rw [← Array.getElem?_toList, htl]
      by_cases hjl : j < l.length
      · rw [app3_left (by omega), cells_ints holds j hjl, List.getElem_append_left hjl]
      · have hj2 : j - l.length < r.length := by rw [List.length_append] at hj; omega
        rw [app3_mid (by omega) (by rw [List.length_append] at hj; omega), hol, cells_ints hsrc.cells _ hj2, List.getElem_append_right (by omega)]
    · exact (MapKept.heap_alloc w.drew _).2 b0 hb0
    · show w.heap.size ≤ (w.heap.push _).size
      simp
    · show w.heap.size < (w.heap.push _).size
      simp
end
end Rk
set_option linter.unusedVariables false
set_option linter.unusedSimpArgs false
namespace Rk
open Go
def LookV (w : World) (bm : Nat) (key : List UInt8) (v : Value) : Prop :=
  ∀ (es : Array MapEntry) (clock : Nat) (kb : ByteArray), w.heap[bm]? = some (.map es clock) → kb.data.toList = key → ∃ r, Instr.findNow .string (.string kb) es.toList 0 = some r ∧ v = (r.map (·.2)).getD (.slice none 0 0)
def LocOk (m : Nat) (L : Ml) (seen : List Nat) (ρ : Rho) (a : Act) (w : World) : Prop :=
  (∀ x ∈ L.mps, x ∈ seen ∧ a.tmps.getD x undef = a.tmps.getD m undef) ∧
  ∀ y ∈ L.ents, y.1 ∈ seen ∧ y.2 ∈ seen ∧ 0 < modeOf ρ ∧ ∀ bm, a.tmps.getD m undef = .map (some bm) → LookV w bm (gS (ρ (.s y.2 0))) (a.tmps.getD y.1 undef)
def RL (E : Env) (C0 : Ctx) (m : Nat) (L : Ml) (seen : List Nat) (S : St) (ρ : Rho) (a : Act) (w : World) : Prop :=
  ∃ C β, CtxTo C0 C ∧ TabsOk E C ∧ Rel C S.acc.sl S.acc.ks ρ β a w ∧ MapSt C0 C m ρ a w ∧ (∀ i, (S.acc.sl i).cond = []) ∧ LocOk m L seen ρ a w
section
variable {E : Env} {C C0 : Ctx} {S S' : St} {m : Nat} {L : Ml} {seen : List Nat} {ρ ρ' ρ1 : Rho} {β β' : Nat → Option Nat} {a a' : Act} {w w' : World} {sl : Nat → Slot} {ks : Nat → Option KSh}
theorem LocOk.step (h : LocOk m L seen ρ a w) {seen' : List Nat} (ha : ∀ x, x ∈ seen ∨ x = m → a'.tmps.getD x undef = a.tmps.getD x undef) (hρ : ∀ x ∈ seen, ρ' (.s x 0) = ρ (.s x 0)) (hm : 0 < modeOf ρ → 0 < modeOf ρ')
    (hw : ∀ bm, a.tmps.getD m undef = .map (some bm) → 0 < modeOf ρ → w'.heap[bm]? = w.heap[bm]?) (hs : ∀ x ∈ seen, x ∈ seen') : LocOk m L seen' ρ' a' w' := by
  refine ⟨fun x hx => ?_, fun y hy => ?_⟩
  · obtain ⟨h1, h2⟩ := h.1 x hx
    exact ⟨hs x h1, by rw [ha x (.inl h1), ha m (.inr rfl)]; exact h2⟩
  · obtain ⟨h1, h2, h3, h4⟩ := h.2 y hy
    refine ⟨hs _ h1, hs _ h2, hm h3, fun bm hbm => ?_⟩
    rw [ha m (.inr rfl)] at hbm
    intro es clock kb he hk
    rw [hw bm hbm h3] at he
    rw [hρ _ h2] at hk
    rw [ha _ (.inl h1)]
    exact h4 bm hbm es clock kb he hk
theorem Rel.putDead (h : Rel C sl ks ρ β a w) {d : Nat} (v : Value) (hd : d < C.nt) (hcd : ∀ i, ∀ y ∈ (sl i).cond, y.1 ≠ d) : Rel C (putSl sl [(d, ⟨[], .dead⟩)]) ks ρ β (a.put (some d) v) w := by
  refine h.upd (fun _ => False) (fun i => i = d) (fun κ _ => ⟨rfl, rfl, fun _ => rfl⟩) (fun i hi => ⟨by simp [putSl, hi], fun _ => rfl, put_other a d v i hi⟩)
    (fun i _ y hy => hcd i y hy) (fun κ hk => hk.elim) (fun b _ _ => rfl) (Nat.le_refl _) rfl rfl rfl (fun κ b hk => hk.elim) (fun κ κ' b hk => hk.elim) (fun κ k hk => hk.elim)
    (fun i hi => ?_) (put_size _ _ _) (put_defers _ _ _) (fun g => rfl) (fun _ _ hk => hk.elim)
  subst hi
  simp only [putSl, if_true]
  intro _
  trivial
theorem wpList_step {P : Program} {ops : Array Oper} {Q : Exit → Act → World → Prop} {o : Oper} {rest : List Oper} {R : Act → World → Prop} (hg : o.guard = none) (hgood : Good P o a w R) (h : ∀ a' w', R a' w' → wpList P ops Q rest a' w') :
    wpList P ops Q (o :: rest) a w := by
  unfold wpList
  have : Region.wanted o (yielded ops a.tmps) = true := by simp [Region.wanted, hg]
  rw [if_pos this]
  exact .inl (hgood _ _ h)
theorem runE_low {call : CallF} {e : Eff} (hl : lowE e = true) (hr : runE call e ρ = some ρ1) (j : Nat) : ρ1 (gL j) = ρ (gL j) := by
  have hno : ∀ l, lowL l = true → l ≠ gL j := by
    intro l hl e
    rw [e] at hl
    simp only [gL, lowL, gk, decide_eq_true_eq] at hl
    omega
  simp only [lowE, Bool.and_eq_true] at hl
  unfold runE at hr
  cases hb : allB ρ e.chk with
  | false => simp [hb] at hr
  | true =>
    simp only [hb, cond_true] at hr
    cases hc : e.call with
    | none =>
      simp only [hc, Option.some.injEq] at hr
      subst hr
      refine updS_not _ (fun y hy he => ?_)
      obtain ⟨x, hx, hxy⟩ := mem_evs hy
      exact hno x.1 (List.all_eq_true.1 hl.1 x hx) (by rw [← hxy]; exact he)
    | some k =>
      have hl2 := hl.2
      rw [hc] at hl2
      simp only at hl2
      simp only [hc] at hr
      cases hcc : allB ρ k.cond with
      | false =>
        simp only [hcc, cond_false, Option.some.injEq] at hr
        subst hr
        refine updS_not _ (fun y hy he => ?_)
        obtain ⟨x, hx, rfl⟩ := List.mem_map.1 hy
        exact hno x.1 (List.all_eq_true.1 hl2 x hx) he
      | true =>
        simp only [hcc, cond_true, Option.bind_eq_some_iff, Option.some.injEq] at hr
        obtain ⟨o, _, rfl⟩ := hr
        refine updS_not _ (fun y hy he => ?_)
        have hm := mem_zipP _ _ _ hy
        obtain ⟨x, hx, hxe⟩ := List.mem_map.1 hm
        exact hno x.1 (List.all_eq_true.1 hl2 x hx) (by rw [hxe]; exact he)
theorem runE_call {call : CallF} {e : Eff} {f : FuncId} {args : List (Ty × PE)} {outs : List (Loc × Ty)} (hc : e.call = some ⟨[], f, 0, args, outs⟩) (hr : runE call e ρ = some ρ1) :
    allB ρ e.chk = true ∧ ∃ o, call f 0 (dyns ρ args) = some o ∧ ρ1 = updS ρ (zipP outs o) := by
  unfold runE at hr
  cases hb : allB ρ e.chk with
  | false => simp [hb] at hr
  | true =>
    simp only [hb, cond_true, hc, allB, Option.bind_eq_some_iff, Option.some.injEq] at hr
    obtain ⟨o, h1, h2⟩ := hr
    exact ⟨rfl, o, h1, h2.symm⟩
theorem runE_sets {call : CallF} {e : Eff} (hc : e.call = none) (hr : runE call e ρ = some ρ1) : allB ρ e.chk = true ∧ ρ1 = updS ρ (evs ρ e.sets) := by
  unfold runE at hr
  cases hb : allB ρ e.chk with
  | false => simp [hb] at hr
  | true =>
    simp only [hb, cond_true, hc, Option.some.injEq] at hr
    exact ⟨rfl, hr.symm⟩
theorem isStrS_ok {s : Slot} (h : isStrS s = true) : s = ⟨[], .val ⟨false, [.dyn .str]⟩⟩ := by
  unfold isStrS at h
  split at h
  · rfl
  · simp at h
theorem key_ok (h : Rel C S.acc.sl S.acc.ks ρ β a w) {k : Nat} (hs : isStrS (S.acc.sl k) = true) : ∃ kb : ByteArray, a.tmps.getD k undef = .string kb ∧ kb.data.toList = gS (ρ (.s k 0)) := by
  have h1 : op1 S.acc [] (.tmp k) = some (.dyn .str, .loc (.s k 0)) := by
    simp [op1, opV, opTmp, isStrS_ok hs, subCond, skV, cellsAt]
  have := op1_ok h (cond := []) (fun y hy => by simp at hy) h1
  obtain ⟨s, h2, h3⟩ := CEOk.strV this
  exact ⟨s, h2, h3⟩
structure MapTy (P : Program) (t el : TypeId) : Prop where
  ex : ∃ kt et, P.underlying t = some (.map kt et) ∧ P.underlying kt = some .string ∧ P.underlying et = some (.slice el) ∧ ∀ w : World, (zeroValue et).run P w = .ok (.slice none 0 0) w
  lv : lvs P el = some [.int .i64]
  z : zeroCs P el = some (false, [(.dyn (.int .i64), .int 0)])
theorem mapT_ok {P : Program} {t el : TypeId} (h : mapT P t = some el) : MapTy P t el := by
  simp only [mapT, Option.bind_eq_bind, Option.bind_eq_some_iff] at h
  obtain ⟨d, hd, h⟩ := h
  split at h
  · rename_i kt et
    simp only [Option.bind_eq_some_iff] at h
    obtain ⟨d1, h1, d2, h2, h⟩ := h
    split at h
    · rename_i el'
      split at h
      · rename_i hc
        simp only [Option.some.injEq] at h
        subst h
        simp only [Bool.and_eq_true, beq_iff_eq] at hc
        refine ⟨⟨kt, et, hd, h1, h2, fun w => ?_⟩, hc.1.1, hc.2⟩
        obtain ⟨z, hz1, hz2⟩ := run_zero (w := w) hc.1.2
        have := (constV_ok (M := ⟨fun _ => none, fun _ => none, fun _ => default, w, fun _ => False⟩) hz2).one
        have hz : z = .slice none 0 0 := this.2
        rw [← hz]; exact hz1
      · simp at h
    · simp at h
  · simp at h
theorem isM_ok (h : LocOk m L seen ρ a w) {x : Nat} (hx : isM m L x = true) : a.tmps.getD x undef = a.tmps.getD m undef := by
  simp only [isM, Bool.or_eq_true, beq_iff_eq, List.contains_eq_mem, decide_eq_true_eq] at hx
  rcases hx with hx | hx
  · rw [hx]
  · exact (h.1 x hx).2
theorem look_hand {bm : Nat} {bs : List Nat} {M : MapM} (h : MapIs w bm bs M) {key : List UInt8} {v : Value} (hv : LookV w bm key v) {kb : ByteArray} (hkb : kb.data.toList = key) (P : Program) :
    ∃ ob, HandOk w ob (lookM M key) v ∧ (∀ b, ob = some b → b ∈ bs) := by
  obtain ⟨es, clock, h1, h2, h3, h4⟩ := h.at_
  obtain ⟨r, q1, q2⟩ := hv es clock kb h1 hkb
  cases MapIs.find h2 h3 h4 kb P with
  | none r1 r2 _ =>
    rw [r1] at q1
    simp only [Option.some.injEq] at q1
    subst q1
    refine ⟨none, ⟨by rw [← hkb]; exact r2, q2⟩, by simp⟩
  | some j e b x r1 he hb hx hk r2 _ =>
    rw [r1] at q1
    simp only [Option.some.injEq] at q1
    subst q1
    refine ⟨some b, ?_, fun b' hb' => ?_⟩
    · show HdrOk w b _ v
      rw [← hkb, r2, q2]
      exact (h4 j e b x he hb hx).val
    · simp only [Option.some.injEq] at hb'
      rw [← hb']; exact List.mem_of_getElem? hb
theorem look_run {P : Program} {t el : TypeId} (hT : MapTy P t el) {bm : Nat} {bs : List Nat} {M : MapM} (h : MapIs w bm bs M) (kb : ByteArray) :
    ∃ v, (Instr.lookup t (.map (some bm)) (.string kb) false).run P w = .ok v w ∧ LookV w bm kb.data.toList v := by
  obtain ⟨kt, et, t1, t2, t3, t4⟩ := hT.ex
  obtain ⟨es, clock, h1, h2, h3, h4⟩ := h.at_
  obtain ⟨r, hr⟩ : ∃ r, Instr.findNow .string (.string kb) es.toList 0 = some r := by
    cases MapIs.find h2 h3 h4 kb P with
    | none r1 _ _ => exact ⟨_, r1⟩
    | some j e b x r1 _ _ _ _ _ _ => exact ⟨_, r1⟩
  refine ⟨_, run_lookup t1 t2 h1 kb hr (t4 w), fun es' clock' kb' he hk => ?_⟩
  rw [h1] at he
  simp only [Option.some.injEq, Obj.map.injEq] at he
  obtain ⟨rfl, rfl⟩ := he
  have := bytes_ext hk
  subst this
  exact ⟨r, hr, rfl⟩
end
end Rk
set_option linter.unusedVariables false
set_option linter.unusedSimpArgs false
namespace Rk
open Go
section
variable {E : Env} {C C0 : Ctx} {S S' : St} {m : Nat} {L L' : Ml} {seen : List Nat} {ρ ρ' ρ1 : Rho} {β β' : Nat → Option Nat} {a a' : Act} {w w' : World} {sl : Nat → Slot} {ks : Nat → Option KSh} {call : CallF}
  {ops : Array Oper} {Q : Exit → Act → World → Prop} {o o2 : Oper} {rest : List Oper} {e : Eff}
def MapCalls (call : CallF) : Prop := ∀ f, (f = fLen ∨ f = fApp ∨ f = fGet) → ∀ xs r, call f 0 xs = some r → mapF f xs = some r
theorem dstFree_ok {nt : Nat} (h : dstFree nt m seen o = true) : o.guard = none ∧ ∀ d, o.dst = some d → d < nt ∧ d ∉ seen ∧ d ≠ m := by
  simp only [dstFree, Bool.and_eq_true, Option.isNone_iff_eq_none] at h
  refine ⟨h.1, fun d hd => ?_⟩
  have := h.2
  rw [hd] at this
  simp only [Bool.and_eq_true, decide_eq_true_eq, Bool.not_eq_true', List.contains_eq_mem, decide_eq_false_iff_not, bne_iff_ne, ne_eq] at this
  exact ⟨this.1.1, this.1.2, this.2⟩
theorem put_keeps {d : Option Nat} (v : Value) (hd : ∀ i, d = some i → i ∉ seen ∧ i ≠ m) : ∀ x, x ∈ seen ∨ x = m → (a.put d v).tmps.getD x undef = a.tmps.getD x undef := by
  intro x hx
  cases hdd : d with
  | none => rfl
  | some i =>
    obtain ⟨h1, h2⟩ := hd i hdd
    refine put_other a i v x (fun e => ?_)
    rcases hx with hx | hx
    · exact h1 (by rw [← e]; exact hx)
    · exact h2 (by rw [← e]; exact hx)
theorem conds_put {l : List (Nat × Slot)} (h : ∀ i, (sl i).cond = []) (hl : ∀ x ∈ l, x.2.cond = []) : ∀ i, (putSl sl l i).cond = [] := by
  induction l generalizing sl with
  | nil => exact h
  | cons x r ih =>
    obtain ⟨j, s⟩ := x
    refine ih (fun i => ?_) (fun y hy => hl y (by simp [hy]))
    show (if i = j then s else sl i).cond = []
    split
    · exact hl (j, s) (by simp)
    · exact h i
theorem mapSt_heap (h : MapSt C0 C m ρ a w) {sl' : Nat → Slot} {ks' : Nat → Option KSh} (h1 : Rel C sl ks ρ β a w) (h2 : Rel C sl' ks' ρ' β' a' w') : ∀ bm, a.tmps.getD m undef = .map (some bm) → 0 < modeOf ρ → w'.heap[bm]? = w.heap[bm]? := by
  intro bm hbm hmo
  rcases h with h | ⟨bm', bs, g1, g2, g3, g4⟩
  · omega
  · rw [hbm] at g1
    simp only [Value.map.injEq, Option.some.injEq] at g1
    rw [g1, g3.heap h2, g3.heap h1]
theorem reg_step (hS : ∀ C, TabsOk E C → C.tabs = C0.tabs → StepSound E C call) (h : RL E C0 m L seen S ρ a w) (hd : dstFree C0.nt m seen o = true) (he : stat E S.acc [] o = some e) (hok : okEff C0.nt seen S.acc [] o e = true) (hl : lowE e = true)
    (hr : runE call e ρ = some ρ1) (hn : ∀ a' w', RL E C0 m L (o.dst.toList ++ seen) (S.put e) ρ1 a' w' → wpList C0.P ops Q rest a' w') : wpList C0.P ops Q (o :: rest) a w := by
  obtain ⟨C, β, h1, h2, h3, h4, h5, h6⟩ := h
  obtain ⟨hg, hdst⟩ := dstFree_ok hd
  rw [← h1.nt] at hok hdst
  obtain ⟨k1, k2, k3, k4, k5, k6, k7, k8⟩ := okEff_spec hok
  have hD : DstOk C S.acc.sl o.dst := fun d hdd => ⟨(hdst d hdd).1, fun j y hy => by rw [h5 j] at hy; simp at hy⟩
  have hgood := hS C h2 h1.tabs (e := e) h3 hD (fun y hy => by simp at hy) he hr k8
  rw [← h1.P]
  refine wpList_step hg (Good.form hgood (fun a' w' ⟨β', hrel⟩ => hrel.dfr)) (fun a' w' => ?_)
  rintro ⟨⟨v, rfl⟩, β', hrel⟩
  rw [h1.P]
  refine hn _ _ ⟨C, β', h1, h2, ?_, ?_, ?_, ?_⟩
  · rw [put_acc (fun x hx => (k3 x hx).2.2) k4]; exact hrel
  · refine h4.step h3 hrel ?_ (runE_low hl hr 0) (runE_low hl hr 1)
    exact put_keeps v (fun i hi => ⟨(hdst i hi).2.1, (hdst i hi).2.2⟩) m (.inr rfl)
  · rw [put_acc (fun x hx => (k3 x hx).2.2) k4]
    exact conds_put h5 (fun x hx => (k3 x hx).1)
  · refine h6.step (put_keeps v (fun i hi => ⟨(hdst i hi).2.1, (hdst i hi).2.2⟩)) (fun x hx => ?_) (fun hm => ?_) (mapSt_heap h4 h3 hrel) (fun x hx => by simp [hx])
    · exact runE_other hr k5 k6 (fun hdd => (hdst _ hdd).2.1 hx) 0
    · have : modeOf ρ1 = modeOf ρ := by unfold modeOf; rw [runE_low hl hr 1]
      rw [this]; exact hm
theorem getD_size {l : Array Value} {i : Nat} {v : Value} (h : l.getD i undef = v) (hv : v ≠ undef) : i < l.size := by
  rcases Nat.lt_or_ge i l.size with q | q
  · exact q
  · rw [Array.getD_eq_getD_getElem?, Array.getElem?_eq_none q] at h
    exact absurd h.symm hv
theorem acc_put1 {d : Nat} {s : Slot} (hd : d < 2 ^ 39) {e : Eff} (h1 : e.sl = [(d, s)]) (h2 : e.ks = []) : (S.put e).acc = ⟨putSl S.acc.sl [(d, s)], S.acc.ks⟩ := by
  rw [put_acc (fun x hx => by rw [h1] at hx; simp only [List.mem_singleton] at hx; rw [hx]; exact hd) (fun x hx => by rw [h2] at hx; simp at hx), h1, h2]
  rfl
theorem dead_step (hnt : C0.nt ≤ 100000) (h : RL E C0 m L seen S ρ a w) {d : Nat} {v : Value} (hdd : o.dst = some d) (hd : dstFree C0.nt m seen o = true) (hsl : e.sl = [(d, ⟨[], .dead⟩)]) (hks : e.ks = [])
    (hex : (execOp a.eval o).run C0.P w = .ok (.value v) w) (hL : LocOk m L seen ρ a w → LocOk m L (d :: seen) ρ (a.put (some d) v) w → LocOk m L' (d :: seen) ρ (a.put (some d) v) w)
    (hn : ∀ a' w', RL E C0 m L' (o.dst.toList ++ seen) (S.put e) ρ a' w' → wpList C0.P ops Q rest a' w') : wpList C0.P ops Q (o :: rest) a w := by
  obtain ⟨C, β, h1, h2, h3, h4, h5, h6⟩ := h
  obtain ⟨hg, hdst⟩ := dstFree_ok hd
  obtain ⟨d1, d2, d3⟩ := hdst d hdd
  refine wpList_step (R := fun a' w' => a' = a.put o.dst v ∧ w = w') hg (Good.value hex ⟨rfl, rfl⟩) (fun a' w' => ?_)
  rintro ⟨rfl, rfl⟩
  rw [hdd]
  have hkeep := put_keeps (a := a) (seen := seen) (m := m) (d := some d) v (fun i hi => by simp only [Option.some.injEq] at hi; subst hi; exact ⟨d2, d3⟩)
  have hrel := h3.putDead v (by rw [h1.nt]; exact d1) (fun i y hy => by rw [h5 i] at hy; simp at hy)
  have hacc := acc_put1 (S := S) (d := d) (e := e) (Nat.lt_of_lt_of_le d1 (by omega)) hsl hks
  refine hn _ _ ⟨C, β, h1, h2, by rw [hacc]; exact hrel, h4.step h3 hrel (hkeep m (.inr rfl)) rfl rfl, by rw [hacc]; exact conds_put h5 (fun x hx => by simp only [List.mem_singleton] at hx; rw [hx]), ?_⟩
  rw [hdd]
  exact hL h6 (h6.step hkeep (fun _ _ => rfl) id (fun _ _ _ => rfl) (fun x hx => List.mem_cons_of_mem _ hx))
theorem put_at (h : Rel C sl ks ρ β a w) {d : Nat} (hd : d < C.nt) (v : Value) : (a.put (some d) v).tmps.getD d undef = v := put_same a d v (by rw [h.tmps]; exact hd)
theorem sp1_step (hnt : C0.nt ≤ 100000) (hpc : MapCalls call) (h : RL E C0 m L seen S ρ a w) (hd : dstFree C0.nt m seen o = true) {rr : List Oper} (he : mapOp1 E m rr L S.acc seen o = some (e, L'))
    (hr : runE call e ρ = some ρ1) (hn : ∀ a' w', RL E C0 m L' (o.dst.toList ++ seen) (S.put e) ρ1 a' w' → wpList C0.P ops Q rest a' w') : wpList C0.P ops Q (o :: rest) a w := by
  have h0 := h
  obtain ⟨C, β, h1, h2, h3, h4, h5, h6⟩ := h
  have hP : C0.P = E.P := by rw [← h1.P]; exact h2.P
  obtain ⟨hg, hdst⟩ := dstFree_ok hd
  unfold mapOp1 at he
  split at he
  · -- the map, moved
    rename_i x d hop hdd
    split at he
    · rename_i hx
      simp only [Option.some.injEq, Prod.mk.injEq] at he
      obtain ⟨rfl, rfl⟩ := he
      obtain ⟨_, hρ⟩ := runE_sets (e := goneE d) rfl hr
      have hρ : ρ1 = ρ := hρ
      subst hρ
      obtain ⟨d1, d2, d3⟩ := hdst d hdd
      refine dead_step (L' := { L with mps := d :: L.mps }) (e := goneE d) hnt h0 hdd hd rfl rfl (v := a.tmps.getD x undef) ?_ (fun hl hl2 => ⟨fun y hy => ?_, hl2.2⟩) hn
      · unfold execOp; rw [hop]; rfl
      · rcases List.mem_cons.1 hy with hy | hy
        · subst hy
          refine ⟨by simp, ?_⟩
          rw [put_at h3 (by rw [h1.nt]; exact d1), put_other a y _ m (fun e => d3 e.symm)]
          exact isM_ok hl hx
        · exact hl2.1 y hy
    · simp at he
  · -- a look
    rename_i t x k d hop hdd
    obtain ⟨d1, d2, d3⟩ := hdst d hdd
    split at he
    · rename_i hcc
      simp only [Bool.and_eq_true, List.contains_eq_mem, decide_eq_true_eq, Option.isSome_iff_exists] at hcc
      obtain ⟨⟨⟨hx, hk⟩, el, hmt⟩, hks⟩ := hcc
      have hTy := mapT_ok hmt
      rw [← hP] at hTy
      obtain ⟨kb, hkb, hkd⟩ := key_ok h3 hks
      have hxm := isM_ok h6 hx
      have run : ∀ bm bs, a.tmps.getD m undef = .map (some bm) → MapIs w bm bs (dataOf ρ) → ∃ v, (execOp a.eval o).run C0.P w = .ok (.value v) w ∧ LookV w bm (gS (ρ (.s k 0))) v := by
        intro bm bs hbm hM
        obtain ⟨v, q1, q2⟩ := look_run (P := C0.P) hTy hM kb
        refine ⟨v, ?_, by rw [← hkd]; exact q2⟩
        unfold execOp
        rw [hop]
        refine run_v ?_
        show (Instr.lookup t (a.tmps.getD x undef) (a.tmps.getD k undef) false).run C0.P w = _
        rw [hxm, hbm, hkb]
        exact q1
      split at he
      · -- for its length, or to append
        simp only [Option.some.injEq, Prod.mk.injEq] at he
        obtain ⟨rfl, rfl⟩ := he
        obtain ⟨hchk, hρ⟩ := runE_sets (e := { goneE d with chk := [lt (.int 0) (.loc (gL 1))] }) rfl hr
        have hρ : ρ1 = ρ := hρ
        subst hρ
        have hmo : 0 < modeOf ρ1 := by
          have := ev_lt (allB_mem hchk _ (List.mem_singleton.2 rfl))
          exact this
        rcases h4 with h4 | ⟨bm, bs, g1, g2, g3, g4⟩
        · omega
        · obtain ⟨v, q1, q2⟩ := run bm bs g1 g2
          refine dead_step (L' := { L with ents := (d, k) :: L.ents }) (e := { goneE d with chk := [lt (.int 0) (.loc (gL 1))] }) hnt h0 hdd hd rfl rfl (v := v) q1 (fun hl hl2 => ⟨hl2.1, fun y hy => ?_⟩) hn
          rcases List.mem_cons.1 hy with hy | hy
          · subst hy
            refine ⟨by simp, by simp [hk], hmo, fun bm' hbm' => ?_⟩
            rw [put_other a d _ m (fun e => d3 e.symm), g1] at hbm'
            simp only [Value.map.injEq, Option.some.injEq] at hbm'
            subst hbm'
            rw [put_at h3 (by rw [h1.nt]; exact d1)]
            exact q2
          · exact hl2.2 y hy
      · -- as data
        simp only [Option.some.injEq, Prod.mk.injEq] at he
        obtain ⟨rfl, rfl⟩ := he
        obtain ⟨_, oo, hcall, hρ⟩ := runE_call rfl hr
        have hmf := hpc fGet (.inr (.inr rfl)) _ _ hcall
        have hval : 0 < modeOf ρ ∧ oo = [dLi (lookM (dataOf ρ) (gS (ρ (.s k 0)))), dI 2] := by
          have hunf : mapF fGet (dyns ρ [(.int .i64, .loc (gL 1)), (mapD, .loc (gL 0)), (.str, .loc (.s k 0))]) = if 0 < modeOf ρ then some [dLi (lookM (dataOf ρ) (gS (ρ (.s k 0)))), dI 2] else none := by
            show (if 0 < gI ⟨.int .i64, _⟩ then some [dLi (lookM (gMp ⟨mapD, _⟩) (gS ⟨.str, _⟩)), dI 2] else none) = _
            simp only [gI, gMp, gS, Dyn.get_mk]
            rfl
          rw [hunf] at hmf
          split at hmf
          · rename_i hp
            simp only [Option.some.injEq] at hmf
            exact ⟨hp, hmf.symm⟩
          · simp at hmf
        obtain ⟨hmo, rfl⟩ := hval
        rcases h4 with h4 | ⟨bm, bs, g1, g2, g3, g4⟩
        · omega
        · obtain ⟨v, q1, q2⟩ := run bm bs g1 g2
          -- the entries' blocks become data
          obtain ⟨C', c1, c2, c3, c4, c5⟩ : ∃ C' : Ctx, CtxTo C0 C' ∧ TabsOk E C' ∧ Rel C' S.acc.sl S.acc.ks ρ β a w ∧ Out C0 C' bm ∧ ∀ b ∈ bs, C'.J b := by
            rcases g4 with ⟨_, g4⟩ | ⟨_, g4⟩
            · obtain ⟨C', r1, r2, r3, r4, r5, r6, r7⟩ := h3.rebase h2 h1 (w' := w) (fun b => b ∈ bm :: bs) (fun b => b ∈ bs)
                (fun b hb => by rcases List.mem_cons.1 hb with hb | hb; rw [hb]; exact ⟨g3.lt, g3.J, g3.T⟩; exact ⟨(g4 b hb).lt, (g4 b hb).J, (g4 b hb).T⟩)
                (fun b hb => ⟨List.mem_cons_of_mem _ hb, (g4 b hb).own⟩) (fun b _ _ => rfl) (fun b hb => by rcases List.mem_cons.1 hb with hb | hb; rw [hb]; exact g3.own; exact (g4 b hb).own) (Nat.le_refl _) rfl rfl rfl
              exact ⟨C', r1, r2, r3, r5 bm (by simp) (List.nodup_cons.1 g2.nd).1, r6⟩
            · exact ⟨C, h1, h2, h3, g3, g4⟩
          obtain ⟨ob, hh, hob⟩ := look_hand g2 q2 hkd C0.P
          refine wpList_step (R := fun a' w' => a' = a.put o.dst v ∧ w = w') hg (Good.value q1 ⟨rfl, rfl⟩) (fun a' w' => ?_)
          rintro ⟨rfl, rfl⟩
          rw [hdd]
          have hkeep := put_keeps (a := a) (seen := seen) (m := m) (d := some d) v (fun i hi => by simp only [Option.some.injEq] at hi; subst hi; exact ⟨d2, d3⟩)
          -- the list lies at a place of the map's, then at the temporary's
          let lst := lookM (dataOf ρ) (gS (ρ (.s k 0)))
          let ρa : Rho := fun l => if l = gL 7 then dLi lst else ρ l
          have hra : Rel C' S.acc.sl S.acc.ks ρa β a w := c3.ghost (ks_gk S) (fun l hl => by show (if l = gL 7 then _ else _) = _; rw [if_neg (show ¬ l = gL 7 from hl 7)])
          have hleaf : leafV v := by
            cases ob with
            | none => rw [hh.2]; trivial
            | some b => obtain ⟨cap, c, el, fz, e1, _⟩ := (hh : HdrOk w b _ v); rw [e1]; trivial
          have hcell : CEOk (memOf C' S.acc.ks β ρa w) (.dyn (.lst (.int .i64)), .loc (gL 7)) v := by
            refine CEOk.mkDyn hleaf ?_
            have hev : (PE.loc (gL 7)).ev ρa (.lst (.int .i64)) = lst := by
              show (ρa (gL 7)).get _ = _
              show (if gL 7 = gL 7 then dLi lst else ρ (gL 7)).get _ = _
              rw [if_pos rfl]
              exact Dyn.get_mk _ _
            show RepC w (imms C' S.acc.ks β w) (.lst (.int .i64)) (fun _ => some v) ((PE.loc (gL 7)).ev ρa (.lst (.int .i64)))
            rw [hev]
            cases ob with
            | none =>
              obtain ⟨e1, e2⟩ := hh
              rw [e2]
              exact ⟨none, 0, 0, rfl, by show List.length lst = 0; rw [show lst = [] from e1]; rfl, Nat.le_refl _, .inl rfl⟩
            | some b =>
              obtain ⟨cap, c, el, fz, e1, e2, e3, e4, e5, e6, e7⟩ := (hh : HdrOk w b _ v)
              refine ⟨some ⟨b, 0, none⟩, lst.length, cap, by show some v = _; rw [e1], rfl, e2, .inr ⟨b, 0, rfl, imms_J c3 (c5 b (hob b rfl)), fun i hi => ?_⟩⟩
              show cellAt w b (0 + i * 1 + 0) = some (.int .i64 lst[i])
              rw [← e7 i hi]
              simp [cellAt, World.cell?, e4]
          have hput := hra.put (x := .val false [(.dyn (.lst (.int .i64)), .loc (gL 7))]) (cond := []) (d := d) (by rw [c1.nt]; exact d1) (fun i y hy => by rw [h5 i] at hy; simp at hy) (VOk.mk1 hcell)
          have hacc := acc_put1 (S := S) (d := d) (s := ⟨[], .val ⟨false, [.dyn (.lst (.int .i64))]⟩⟩) (e := { sl := [(d, ⟨[], .val ⟨false, [.dyn (.lst (.int .i64))]⟩⟩)], call := some ⟨[], fGet, 0, [(.int .i64, .loc (gL 1)), (mapD, .loc (gL 0)), (.str, .loc (.s k 0))], [(.s d 0, .lst (.int .i64)), (gL 1, .int .i64)]⟩ }) (Nat.lt_of_lt_of_le d1 (by omega)) rfl rfl
          have hρ1 : ∀ l, (∀ j, l ≠ .k gk j) → ρ1 l = updS ρa (evs ρa ((OpV.val false [(.dyn (.lst (.int .i64)), .loc (gL 7))]).sets d)) l := by
            intro l hl
            rw [hρ]
            show (if l = .s d 0 then dLi lst else if l = gL 1 then dI 2 else ρ l) = (if l = .s d 0 then (⟨.lst (.int .i64), (PE.loc (gL 7)).ev ρa (.lst (.int .i64))⟩ : Dyn) else ρa l)
            rw [if_neg (show ¬ l = gL 1 from hl 1)]
            by_cases hls : l = .s d 0
            · rw [if_pos hls, if_pos hls]
              show dLi lst = ⟨_, (ρa (gL 7)).get _⟩
              show dLi lst = ⟨_, (if gL 7 = gL 7 then dLi lst else ρ (gL 7)).get _⟩
              rw [if_pos rfl]
              unfold dLi
              congr 1
            · rw [if_neg hls, if_neg hls]
              show ρ l = if l = gL 7 then _ else ρ l
              rw [if_neg (show ¬ l = gL 7 from hl 7)]
          have hrel : Rel C' (putSl S.acc.sl [(d, ⟨[], .val ⟨false, [.dyn (.lst (.int .i64))]⟩⟩)]) S.acc.ks ρ1 β (a.put (some d) v) w := hput.ghost (ks_gk S) hρ1
          have e0 : ρ1 (gL 0) = ρ (gL 0) := by rw [hρ]; rfl
          have e1 : ρ1 (gL 1) = dI 2 := by rw [hρ]; rfl
          have hm2 : modeOf ρ1 = 2 := by unfold modeOf; rw [e1]; exact Dyn.get_mk _ _
          refine hn _ _ ⟨C', β, c1, c2, by rw [hacc]; exact hrel, .inr ⟨bm, bs, by rw [hkeep m (.inr rfl)]; exact g1, by unfold dataOf; rw [e0]; exact g2, c4, .inr ⟨hm2, c5⟩⟩, by rw [hacc]; exact conds_put h5 (fun x hx => by simp only [List.mem_singleton] at hx; rw [hx]), ?_⟩
          refine h6.step hkeep (fun x hx => ?_) (fun _ => by rw [hm2]; decide) (fun _ _ _ => rfl) (fun x hx => by simp [hx])
          rw [hρ]
          refine updS_not _ (fun y hy e => ?_)
          simp only [zipP, List.mem_cons, List.not_mem_nil, or_false] at hy
          rcases hy with rfl | rfl
          · simp only [Loc.s.injEq, and_true] at e
            exact d2 (by rw [e]; exact hx)
          · simp [gL] at e
    · simp at he
  · -- its length
    rename_i c d hop hdd
    obtain ⟨d1, d2, d3⟩ := hdst d hdd
    split at he
    · rename_i x t ts hb ha ht
      split at he
      · rename_i y k el hfind hund
        simp only [Option.some.injEq, Prod.mk.injEq] at he
        obtain ⟨rfl, rfl⟩ := he
        have hmem := List.mem_of_find?_eq_some hfind
        have hyx : y = x := by have := List.find?_some hfind; simpa using this
        subst hyx
        obtain ⟨l1, l2, l3, l4⟩ := h6.2 _ hmem
        simp only at l1 l2 l4
        obtain ⟨_, oo, hcall, hρ⟩ := runE_call rfl hr
        have hmf := hpc fLen (.inl rfl) _ _ hcall
        have hval : oo = [dI ((lookM (dataOf ρ) (gS (ρ (.s k 0)))).length : Nat)] := by
          have hunf : mapF fLen (dyns ρ [(.int .i64, .loc (gL 1)), (mapD, .loc (gL 0)), (.str, .loc (.s k 0))]) = if 0 < modeOf ρ then some [dI ((lookM (dataOf ρ) (gS (ρ (.s k 0)))).length : Nat)] else none := by
            show (if 0 < gI ⟨.int .i64, _⟩ then some [dI ((lookM (gMp ⟨mapD, _⟩) (gS ⟨.str, _⟩)).length : Nat)] else none) = _
            simp only [gI, gMp, gS, Dyn.get_mk]
            rfl
          rw [hunf, if_pos l3] at hmf
          simp only [Option.some.injEq] at hmf
          exact hmf.symm
        subst hval
        rcases h4 with h4' | ⟨bm, bs, g1, g2, g3, g4⟩
        · omega
        · have hv := l4 bm g1
          have hkb : ∃ kb : ByteArray, kb.data.toList = gS (ρ (.s k 0)) := ⟨⟨(gS (ρ (.s k 0))).toArray⟩, by simp⟩
          obtain ⟨kb, hkd⟩ := hkb
          obtain ⟨ob, hh, _⟩ := look_hand g2 hv hkd C0.P
          generalize hn' : lookM (dataOf ρ) (gS (ρ (.s k 0))) = lst at hh hρ
          have hlen : ∃ base cap, a.tmps.getD y undef = .slice base lst.length cap := by
            cases ob with
            | none => exact ⟨none, 0, by rw [hh.2, hh.1]; rfl⟩
            | some b => obtain ⟨cap, c, el, fz, e1, _⟩ := (hh : HdrOk w b _ _); exact ⟨_, cap, e1⟩
          obtain ⟨base, cap, hsl⟩ := hlen
          have hex : (execOp a.eval o).run C0.P w = .ok (.value (goInt (lst.length : Nat))) w := by
            have ha' : c.args = #[.tmp y] := by apply Array.ext'; simpa using ha
            have ht' : c.argTypes[0]? = some t := by rw [← Array.getElem?_toList, ht]; rfl
            refine run_call_builtin hop hb ?_
            rw [ha', show Array.map a.eval #[.tmp y] = #[a.eval (.tmp y)] by simp]
            refine run_v ?_
            rw [← hP] at hund
            simp only [Builtin.len_, ht', show a.eval (.tmp y) = _ from hsl]
            simp [run_und hund]
          refine wpList_step (R := fun a' w' => a' = a.put o.dst (goInt (lst.length : Nat)) ∧ w = w') hg (Good.value hex ⟨rfl, rfl⟩) (fun a' w' => ?_)
          rintro ⟨rfl, rfl⟩
          rw [hdd]
          have hkeep := put_keeps (a := a) (seen := seen) (m := m) (d := some d) (goInt (lst.length : Nat)) (fun i hi => by simp only [Option.some.injEq] at hi; subst hi; exact ⟨d2, d3⟩)
          have hput := h3.put (x := .val false [(.dyn (.int .i64), .int ((lst.length : Nat) : Int))]) (cond := []) (d := d) (v := goInt (lst.length : Nat)) (by rw [h1.nt]; exact d1) (fun i y hy => by rw [h5 i] at hy; simp at hy) (VOk.mk1 (CEOk.mkInt (k := .i64) rfl))
          have hacc := acc_put1 (S := S) (d := d) (s := ⟨[], .val ⟨false, [.dyn (.int .i64)]⟩⟩) (e := { sl := [(d, ⟨[], .val ⟨false, [.dyn (.int .i64)]⟩⟩)], call := some ⟨[], fLen, 0, [(.int .i64, .loc (gL 1)), (mapD, .loc (gL 0)), (.str, .loc (.s k 0))], [(.s d 0, .int .i64)]⟩ }) (Nat.lt_of_lt_of_le d1 (by omega)) rfl rfl
          have hρ2 : ρ1 = updS ρ (evs ρ ((OpV.val false [(.dyn (.int .i64), .int ((lst.length : Nat) : Int))]).sets d)) := by rw [hρ]; rfl
          rw [← hρ2] at hput
          have hg0 : ∀ j, ρ1 (gL j) = ρ (gL j) := fun j => by rw [hρ]; rfl
          refine hn _ _ ⟨C, β, h1, h2, by rw [hacc]; exact hput, ?_, by rw [hacc]; exact conds_put h5 (fun x hx => by simp only [List.mem_singleton] at hx; rw [hx]), ?_⟩
          · exact MapSt.step (.inr ⟨bm, bs, g1, g2, g3, g4⟩) h3 hput (hkeep m (.inr rfl)) (hg0 0) (hg0 1)
          · refine h6.step hkeep (fun x hx => ?_) (fun hm => ?_) (fun _ _ _ => rfl) (fun x hx => by simp [hx])
            · rw [hρ]
              refine updS_not _ (fun y hy e => ?_)
              simp only [zipP, List.mem_cons, List.not_mem_nil, or_false] at hy
              subst hy
              simp only [Loc.s.injEq, and_true] at e
              exact d2 (by rw [e]; exact hx)
            · unfold modeOf at hm ⊢; rw [hg0 1]; exact hm
      · simp at he
    · simp at he
  · simp at he
end
end Rk
