/- The framework: a translation of the program that is verified in Lean, part 2. No condition. -/
import Derived.Laws.Append
import Derived.Laws.IdiomStrings
import Derived.Tactics
import Derived.Test.YtfmdnoljlbfjbaaDoorF0
set_option linter.unusedVariables false
set_option linter.unusedSimpArgs false
set_option linter.unusedVariables false
set_option linter.unusedSimpArgs false
namespace Rk
open Go
section
variable {E : Env} {C : Ctx} {sl : Nat → Slot} {ks : Nat → Option KSh} {ρ : Rho} {β : Nat → Option Nat} {a : Act} {w : World}
theorem leafV_cells {v : Value} (h : leafV v) : v.cells = #[v] := by
  cases v <;> first | rfl | exact h.elim
theorem VOk.cells {M : Mem} {g : Bool} {xs : List CE} {v : Value} (h : VOk M (g, xs) v) : CEsOk M xs v.cells.toList := by
  obtain ⟨cells, h1, h2, h3⟩ := h
  cases g with
  | true => rw [h1]; exact h3
  | false =>
    have hl := h2 rfl
    match cells, hl with
    | [x], _ =>
      have hx : v = x := h1
      subst hx
      match xs, h3 with
      | [c], h3 =>
        rw [leafV_cells h3.1.1]
        exact h3
theorem set_cells (off : Nat) : ∀ (l : List Value) (k : Nat) (cs : Array Value), off + k + l.length ≤ cs.size →
    ((l.zipIdx k).foldl (fun cs x => cs.setIfInBounds (off + x.2) x.1) cs).toList = cs.toList.take (off + k) ++ l ++ cs.toList.drop (off + k + l.length)
  | [], k, cs, h => by simp
  | c :: r, k, cs, h => by
    simp only [List.length_cons] at h
    rw [List.zipIdx_cons, List.foldl_cons, set_cells off r (k + 1) _ (by simp; omega)]
    have hlt : off + k < cs.toList.length := by simp; omega
    simp only [Array.toList_setIfInBounds]
    rw [List.set_eq_take_append_cons_drop, if_pos hlt]
    have e1 : (cs.toList.take (off + k) ++ [c]).length = off + k + 1 := by simp; omega
    have e2 : cs.toList.take (off + k) ++ c :: cs.toList.drop (off + k + 1) = (cs.toList.take (off + k) ++ [c]) ++ cs.toList.drop (off + k + 1) := by simp
    rw [e2, show off + (k + 1) = off + k + 1 from by omega, List.take_left' e1, List.drop_append, e1, List.drop_of_length_le (by omega), List.drop_drop]
    simp only [List.nil_append, List.length_cons, List.append_assoc, List.cons_append]
    congr 4
    omega
theorem fill_cons {place : Nat → Option (Nat × Nat)} {cells : Array Value} {i : Nat} {v : Value} {rest : List (Nat × Value)} {off size : Nat} (hp : place i = some (off, size))
    (h1 : v.cells.size = size) (h2 : off + size ≤ cells.size) :
    ∃ cells' : Array Value, Instr.fill place cells ((i, v) :: rest) = Instr.fill place cells' rest ∧ cells'.toList = cells.toList.take off ++ v.cells.toList ++ cells.toList.drop (off + size) := by
  refine ⟨v.cells.zipIdx.foldl (fun cs (c, j) => cs.setIfInBounds (off + j) c) cells, ?_, ?_⟩
  · simp only [Instr.fill, hp]
    have : ¬ ((decide (v.cells.size ≠ size) || decide (off + v.cells.size > cells.size)) = true) := by
      simp; omega
    rw [if_neg this]
  · have := set_cells off v.cells.toList 0 cells (by simp; omega)
    rw [← Array.foldl_toList, Array.toList_zipIdx]
    simp only [Nat.add_zero, Array.length_toList, h1] at this
    exact this
theorem buildCs_ok (h : Rel C sl ks ρ β a w) {cond : Cond} (hc : condOk ρ cond) {t : TypeId} {place : Nat → Option (Nat × Nat)} (hp : ∀ i r, placeOf E.P t i = some r → place i = some r) :
    ∀ (parts : List (Nat × Operand)) (cs cs' : List CE) (cells : Array Value), buildCs E ⟨sl, ks⟩ cond t parts cs = some cs' → CEsOk (memOf C ks β ρ w) cs cells.toList →
      ∃ cells' : Array Value, Instr.fill place cells (parts.map fun p => (p.1, a.eval p.2)) = some cells' ∧ CEsOk (memOf C ks β ρ w) cs' cells'.toList
  | [], cs, cs', cells, hb, hcs => by
    simp only [buildCs, Option.some.injEq] at hb
    subst hb
    exact ⟨cells, rfl, hcs⟩
  | p :: r, cs, cs', cells, hb, hcs => by
    simp only [buildCs, Option.bind_eq_bind, Option.bind_eq_some_iff] at hb
    obtain ⟨⟨g, xs⟩, hx, ⟨off, n⟩, hpl, hb⟩ := hb
    split at hb
    · simp at hb
    · rename_i hn
      have hn' : n = xs.length := by simpa using hn
      split at hb
      · rename_i hl
        have hv := VOk.cells (opC_ok h hc hx)
        have hlen := CEsOk.length _ _ hv
        have hlen2 := CEsOk.length _ _ hcs
        simp only [Array.length_toList] at hlen hlen2
        dsimp only at hl
        obtain ⟨cells1, q1, q2⟩ := fill_cons (place := place) (cells := cells) (i := p.1) (v := a.eval p.2) (rest := r.map fun p => (p.1, a.eval p.2)) (hp _ _ hpl) (by omega) (by omega)
        obtain ⟨cells', q3, q4⟩ := buildCs_ok h hc hp r _ cs' cells1 hb (by
          rw [q2]
          refine CEsOk.append _ _ _ _ (CEsOk.append _ _ _ _ (CEsOk.take _ _ _ hcs) hv) ?_
          rw [hn']
          exact CEsOk.drop _ _ _ hcs)
        refine ⟨cells', ?_, q4⟩
        rw [List.map_cons, q1, q3]
      · simp at hb
theorem run_mapM {α γ : Type} {P : Program} {f : α → Sem γ} {g : α → γ} : ∀ (l : List α), (∀ x ∈ l, (f x).run P w = .ok (g x) w) → (l.mapM f).run P w = .ok (l.map g) w
  | [], _ => by simp
  | x :: r, h => by
    simp only [List.mapM_cons, Sem.run_bind, h x (by simp), Result.andThen_ok, run_mapM r (fun y hy => h y (by simp [hy])), Sem.run_pure, List.map_cons]
theorem build_ok (hT : TabsOk E C) (h : Rel C sl ks ρ β a w) {cond : Cond} (hc : condOk ρ cond) {o : Oper} {t : TypeId} {parts : Array (Nat × Operand)} {g : Bool} {zs cs : List CE} (ho : o.op = .build t parts)
    (hz : zeroCs E.P t = some (g, zs)) (hsz : sized E.P t = true) (hb : buildCs E ⟨sl, ks⟩ cond t parts.toList zs = some cs) : ValOp C ks ρ β a w o cond (putV cond o.dst (.val true cs)) := by
  have hP := hT.P
  rw [← hP] at hz hsz
  obtain ⟨z, hz1, hz2⟩ := run_zero (w := w) hz
  have hz3 : CEsOk (memOf C ks β ρ w) zs z.cells.toList := VOk.cells (constV_ok hz2)
  have main : ∀ place : Nat → Option (Nat × Nat), (∀ i r, placeOf E.P t i = some r → place i = some r) →
      (∀ cells', Instr.fill place z.cells (parts.map fun p => (p.1, a.eval p.2)).toList = some cells' → (Instr.build t (parts.map fun (i, x) => (i, a.eval x))).run C.P w = .ok (.agg cells') w) →
      ValOp C ks ρ β a w o cond (putV cond o.dst (.val true cs)) := by
    intro place hp hr
    obtain ⟨cells', q1, q2⟩ := buildCs_ok h hc hp _ _ _ _ hb hz3
    refine ⟨.val true cs, .agg cells', IsPut.of _ _ _, exec_val (s := Instr.build t (parts.map fun (i, x) => (i, a.eval x))) (by unfold execOp; rw [ho]) (hr cells' ?_), cells'.toList, by simp [mkV], by simp, q2⟩
    rw [Array.toList_map]
    exact q1
  unfold sized at hsz
  split at hsz
  · rename_i fs hd
    have hall : ∀ f ∈ fs.toList, ∃ n, sizeT C.P f.type = some n := by
      intro f hf
      have := List.all_eq_true.1 hsz f hf
      exact Option.isSome_iff_exists.1 this
    let pl : Array (Nat × Nat) := fs.map fun f => (f.offset, (sizeT C.P f.type).getD 0)
    refine main (pl[·]?) (fun i r hr => ?_) (fun cells' hf => ?_)
    · rw [← hP] at hr
      simp only [placeOf, hd, Option.bind_eq_bind, Option.bind_some, Option.bind_eq_some_iff, Option.some.injEq] at hr
      obtain ⟨f, hf, n, hn, rfl⟩ := hr
      simp only [pl, Array.getElem?_map, hf, Option.map_some, hn, Option.getD_some]
    · have hm : (fs.mapM fun f => do pure (f.offset, ← Go.sizeOf f.type) : Sem (Array (Nat × Nat))).run C.P w = .ok pl w := by
        rw [Array.mapM_eq_mapM_toList, Sem.run_map, run_mapM (g := fun f : Field => (f.offset, (sizeT C.P f.type).getD 0)) fs.toList (fun f hf => by
          obtain ⟨n, hn⟩ := hall f hf
          simp [run_size hn, hn])]
        simp only [Result.andThen_ok, pl]
        congr 1
        apply Array.ext'
        simp
      simp only [Instr.build, Sem.run_bind, hz1, Result.andThen_ok, run_und hd, hm]
      rw [show (parts.map fun (i, x) => (i, a.eval x)).toList = (parts.map fun p => (p.1, a.eval p.2)).toList from rfl, hf]
      rfl
  · rename_i n el hd
    obtain ⟨m, hm⟩ := Option.isSome_iff_exists.1 hsz
    refine main (fun i => some (i * m, m)) (fun i r hr => ?_) (fun cells' hf => ?_)
    · rw [← hP] at hr
      simp only [placeOf, hd, hm, Option.bind_eq_bind, Option.bind_some, Option.some.injEq] at hr
      rw [← hr]
    · simp only [Instr.build, Sem.run_bind, hz1, Result.andThen_ok, run_und hd, run_size hm]
      rw [show (parts.map fun (i, x) => (i, a.eval x)).toList = (parts.map fun p => (p.1, a.eval p.2)).toList from rfl, hf]
      rfl
  · simp at hsz
theorem load_ok (hT : TabsOk E C) (h : Rel C sl ks ρ β a w) {cond : Cond} (hc : condOk ρ cond) {o : Oper} {t : TypeId} {x : Operand} {c : CE} {e : Eff} (ho : o.op = .load t x)
    (hx : op1 ⟨sl, ks⟩ cond x = some c) (hs : stLoad E ⟨sl, ks⟩ cond o.dst t c = some e) : ValOp C ks ρ β a w o cond e := by
  obtain ⟨v, r, q1, q2, q3⟩ := stLoad_ok hT.P h (op1_ok h hc hx) hs
  subst q1
  exact ⟨v, r, IsPut.of _ _ _, exec_val (s := Instr.loadAt t (a.eval x)) (by unfold execOp; rw [ho]) q2, q3⟩
theorem globCs_ok {M : Mem} {l : List Ty} {e : PE} {f : Nat → Option Value} (hl : l.all Ty.isLeaf = true) {n0 : Nat} (hn0 : (PE.evL M.ρ (tree l) e).length = n0)
    (h : ∀ i (hi : i < (PE.evL M.ρ (tree l) e).length), RepC M.w M.I (tree l) (fun j => f (i * l.length + j)) ((PE.evL M.ρ (tree l) e).get ⟨i, hi⟩)) :
    ∀ (n i : Nat), i + n ≤ n0 → ∃ vs : List Value, vs.length = n * l.length ∧ (∀ q, q < n * l.length → f (i * l.length + q) = vs[q]?) ∧ CEsOk M (globCs l e i n) vs
  | 0, i, _ => ⟨[], by simp, by simp, trivial⟩
  | n + 1, i, hi => by
    have hlt : i < (PE.evL M.ρ (tree l) e).length := by omega
    have hrep : RepC M.w M.I (tree l) (fun j => f (i * l.length + j)) ((PE.lidx e (.int (i : Int))).ev M.ρ (tree l)) := by
      rw [show (PE.lidx e (.int (i : Int))).ev M.ρ (tree l) = (PE.evL M.ρ (tree l) e).get ⟨i, hlt⟩ from ev_lidx (e := e) (i := .int (i : Int)) rfl hlt]
      exact h i hlt
    obtain ⟨vs, q1, q2, q3⟩ := leafCs_ok hl hrep l.length 0 (by omega)
    obtain ⟨ws, p1, p2, p3⟩ := globCs_ok hl hn0 h n (i + 1) (by omega)
    refine ⟨vs ++ ws, by simp [q1, p1, Nat.add_mul]; omega, fun q hq => ?_, CEsOk.append _ _ _ _ q3 p3⟩
    by_cases hq' : q < l.length
    · have := q2 q hq'
      simp only [Nat.zero_add] at this
      rw [this, List.getElem?_append_left (by omega)]
    · rw [List.getElem?_append_right (by omega), q1]
      have := p2 (q - l.length) (by rw [Nat.add_mul] at hq; omega)
      rw [← this]
      congr 1
      rw [Nat.add_mul]; omega
theorem loadGlob_ok (hT : TabsOk E C) (h : Rel C sl ks ρ β a w) {cond : Cond} (hc : condOk ρ cond) {o : Oper} {t el : TypeId} {g n m : Nat} {u : Ty} {l : List Ty} (ho : o.op = .load t (.global g))
    (hd : E.P.underlying t = some (.array n el)) (ht : E.tab g = some (u, m)) (hl : lvs E.P el = some l) (hnm : n = m) (hu : tree l = u) (hsz : sizeT E.P t = some (n * l.length)) :
    ValOp C ks ρ β a w o cond (putV cond o.dst (.val true (globCs l (.loc (.g g)) 0 n))) := by
  rw [← hT.P] at hd hl hsz
  obtain ⟨hsl, hleaf⟩ := lvs_size hl
  obtain ⟨g1, g2, g3⟩ := tabJ_ok hT h ht
  subst hu
  have hn : (tree l).n = l.length := tree_n _ hleaf
  obtain ⟨vs, q1, q2, q3⟩ := globCs_ok (M := memOf C ks β ρ w) (e := .loc (.g g)) (f := fun j => cellAt w g j) hleaf g2 (fun i hi => by
    have := g3 i hi
    rw [hn] at this
    exact this) n 0 (by omega)
  refine ⟨.val true (globCs l (.loc (.g g)) 0 n), .agg vs.toArray, IsPut.of _ _ _, exec_val (s := Instr.loadAt t (a.eval (.global g))) (by unfold execOp; rw [ho]) ?_, vs, rfl, by simp, q3⟩
  show (Instr.loadAt t (.pointer (some ⟨g, 0, none⟩))).run C.P w = _
  simp only [Instr.loadAt, Instr.sureAddr, Sem.run_bind, Sem.run_pure, Result.andThen_ok]
  refine run_loadVar_cells (g := true) (by simp [isAggT, hd]) hsz (.inl rfl) q1 (fun i hi => ?_)
  have := q2 i hi
  simpa using this
end
end Rk
set_option linter.unusedVariables false
set_option linter.unusedSimpArgs false
namespace Rk
open Go
section
variable {E : Env} {C : Ctx} {sl : Nat → Slot} {ks : Nat → Option KSh} {ρ : Rho} {β : Nat → Option Nat} {a : Act} {w : World}
theorem Rel.freeze1 (h : Rel C sl ks ρ β a w) {κ : Nat} {t : Ty} (hk : ks κ = some (.row t)) :
    Rel C sl (fun x => if x = κ then some (.imm t) else ks x) ρ β a w ∧
    (∀ b, imms C ks β w b → imms C (fun x => if x = κ then some (.imm t) else ks x) β w b) ∧
    (∀ b, β κ = some b → imms C (fun x => if x = κ then some (.imm t) else ks x) β w b) ∧
    ∀ κ', KC (memOf C ks β ρ w) (memOf C (fun x => if x = κ then some (.imm t) else ks x) β ρ w) κ' := by
  have hpk : Priv ks κ := ⟨_, hk, rfl⟩
  have hsub : ∀ κ', Priv (fun x => if x = κ then some (.imm t) else ks x) κ' → κ' ≠ κ ∧ Priv ks κ' := by
    intro κ' hp
    obtain ⟨k, h1, h2⟩ := hp
    by_cases hκ : κ' = κ
    · simp only [hκ, if_true, Option.some.injEq] at h1
      subst h1
      simp [KSh.priv] at h2
    · simp only [hκ, if_false] at h1
      exact ⟨hκ, k, h1, h2⟩
  have hI : ∀ b, imms C ks β w b → imms C (fun x => if x = κ then some (.imm t) else ks x) β w b := by
    rintro b ⟨g1, g2, g3⟩
    exact ⟨g1, g2, fun κ' hp => g3 κ' (hsub κ' hp).2⟩
  have hF : ∀ b, β κ = some b → imms C (fun x => if x = κ then some (.imm t) else ks x) β w b := by
    intro b hb
    obtain ⟨h1, h2⟩ := h.own κ b hpk hb
    refine ⟨.inr h1, h2, fun κ' hp hb' => ?_⟩
    obtain ⟨q1, q2⟩ := hsub κ' hp
    exact q1 (h.inj κ' κ b q2 hpk hb' hb)
  have hKCκ : KC (memOf C ks β ρ w) (memOf C (fun x => if x = κ then some (.imm t) else ks x) β ρ w) κ := by
    right
    simp only [memOf, hk, if_true]
    refine ⟨.inr ?_, ?_, ?_, ?_⟩ <;> simp
  refine ⟨?_, hI, hF, fun κ' => ?_⟩
  · refine h.upd (fun x => x = κ) (fun _ => False) (fun κ' hκ => ⟨by simp [hκ], rfl, fun _ => rfl⟩) (fun i _ => ⟨rfl, fun _ => rfl, rfl⟩) (fun i _ x _ => id)
      (fun κ' hκ => by subst hκ; exact hKCκ) (fun b _ _ => rfl) (Nat.le_refl _) rfl rfl rfl (fun κ' b hκ hp => by subst hκ; exact absurd rfl (hsub _ hp).1)
      (fun κ1 κ2 b h1 h2 _ _ _ _ => by rw [h1, h2]) (fun κ' k hκ hk' => ?_) (fun i hi => hi.elim) rfl rfl (fun g => rfl) (fun _ _ _ => rfl)
    subst hκ
    simp only [if_true, Option.some.injEq] at hk'
    subst hk'
    have hok := h.keys _ _ hk
    simp only [KeyOk, memOf] at hok ⊢
    cases hb : β κ' with
    | none => rw [hb] at hok; exact hok
    | some b =>
      rw [hb] at hok
      obtain ⟨c, h1, h2⟩ := hok
      exact ⟨hF b hb, c, h1, RowsIn.ext (M := memOf C ks β ρ w) (M' := memOf C _ β ρ w) hI (fun _ _ _ => rfl) h2⟩
  · by_cases hκ : κ' = κ
    · subst hκ; exact hKCκ
    · exact KC.same (fun k hk' => h.keys κ' k hk') (by simp [hκ]) rfl (fun _ => rfl) (fun _ _ _ => rfl)
def FrzOk (ks : Nat → Option KSh) : Frz → Prop
  | [] => True
  | (κ, k) :: r => (∃ t, k = .imm t ∧ ks κ = some (.row t) ∨ ∃ t, k = .imm t ∧ ks κ = some (.imm t)) ∧ FrzOk (fun x => if x = κ then some k else ks x) r
theorem Rel.freeze : ∀ (fz : Frz) {ks : Nat → Option KSh} (h : Rel C sl ks ρ β a w), FrzOk ks fz →
    Rel C sl (putKs ks fz) ρ β a w ∧ (∀ b, imms C ks β w b → imms C (putKs ks fz) β w b) ∧ (∀ κ k b, (κ, k) ∈ fz → β κ = some b → imms C (putKs ks fz) β w b) ∧
    ∀ s v d, CellOk (memOf C ks β ρ w) s v d → CellOk (memOf C (putKs ks fz) β ρ w) s v d
  | [], ks, h, _ => ⟨h, fun _ => id, fun _ _ _ hm => by simp at hm, fun _ _ _ => id⟩
  | (κ, k) :: r, ks, h, hf => by
    obtain ⟨⟨t, hk⟩, hr⟩ := hf
    rcases hk with ⟨rfl, hk⟩ | ⟨t', rfl, hk⟩
    · obtain ⟨g1, g2, g3, g4⟩ := h.freeze1 hk
      obtain ⟨q1, q2, q3, q4⟩ := Rel.freeze r g1 hr
      refine ⟨q1, fun b hb => q2 b (g2 b hb), fun κ' k' b hm hb => ?_, fun s v d hc => q4 s v d ?_⟩
      · rcases List.mem_cons.1 hm with hm | hm
        · simp only [Prod.mk.injEq] at hm
          obtain ⟨rfl, rfl⟩ := hm
          exact q2 b (g3 b hb)
        · exact q3 κ' k' b hm hb
      · exact CellOk.ext (M := memOf C ks β ρ w) (M' := memOf C _ β ρ w) g2 (fun _ _ _ => rfl) (fun κ' _ => g4 κ') hc
    · have he : (fun x => if x = κ then some (KSh.imm t') else ks x) = ks := by
        funext x
        by_cases hx : x = κ
        · simp [hx, hk]
        · simp [hx]
      rw [he] at hr
      obtain ⟨q1, q2, q3, q4⟩ := Rel.freeze r h hr
      have hp : putKs ks ((κ, .imm t') :: r) = putKs ks r := by simp only [putKs, he]
      rw [hp]
      refine ⟨q1, q2, fun κ' k' b hm hb => ?_, q4⟩
      rcases List.mem_cons.1 hm with hm | hm
      · simp only [Prod.mk.injEq] at hm
        obtain ⟨rfl, rfl⟩ := hm
        have hok := h.keys _ _ hk
        simp only [KeyOk, memOf, hb] at hok
        exact q2 b hok.1
      · exact q3 κ' k' b hm hb
theorem putKs_append (ks : Nat → Option KSh) : ∀ (a b : List (Nat × KSh)), putKs ks (a ++ b) = putKs (putKs ks a) b
  | [], b => rfl
  | (κ, k) :: r, b => by simp only [List.cons_append, putKs]; exact putKs_append _ r b
theorem frz_mem {A : Acc} {s : Sh} {x : Nat × KSh} (h : x ∈ frz A s) : ∃ t, x.2 = .imm t ∧ A.ks x.1 = some (.row t) := by
  cases s <;> simp [frz] at h
  all_goals
    split at h
    · rename_i t ht
      simp only [List.mem_singleton] at h
      subst h
      exact ⟨t, rfl, ht⟩
    · simp at h
theorem FrzOk.of_mem : ∀ (fz : Frz) (ks ks0 : Nat → Option KSh), (∀ x ∈ fz, ∃ t, x.2 = .imm t ∧ ks0 x.1 = some (.row t)) → (∀ κ t, ks0 κ = some (.row t) → ks κ = some (.row t) ∨ ks κ = some (.imm t)) → FrzOk ks fz
  | [], _, _, _, _ => trivial
  | (κ, k) :: r, ks, ks0, h, hk => by
    obtain ⟨t, h1, h2⟩ := h (κ, k) (by simp)
    simp only at h1 h2
    subst h1
    refine ⟨?_, FrzOk.of_mem r _ ks0 (fun x hx => h x (by simp [hx])) (fun κ' t' hκ' => ?_)⟩
    · rcases hk κ t h2 with q | q
      · exact ⟨t, .inl ⟨rfl, q⟩⟩
      · exact ⟨t, .inr ⟨t, rfl, q⟩⟩
    · by_cases hx : κ' = κ
      · subst hx
        rw [h2] at hκ'
        simp only [Option.some.injEq, KSh.row.injEq] at hκ'
        subst hκ'
        simp
      · simp only [hx, if_false]
        exact hk κ' t' hκ'
theorem asT_mem {A : Acc} {c : CE} {t : Ty} {e : PE} {fz : Frz} (h : asT A c t = some (e, fz)) : ∀ x ∈ fz, ∃ t, x.2 = .imm t ∧ A.ks x.1 = some (.row t) := by
  have key : ∀ u, (readL A c).bind (fun x => if x.1 == u then some (x.2, frz A c.1) else none) = some (e, fz) → ∀ x ∈ fz, ∃ t, x.2 = .imm t ∧ A.ks x.1 = some (.row t) := by
    intro u hb
    simp only [Option.bind_eq_some_iff] at hb
    obtain ⟨x, _, h2⟩ := hb
    split at h2
    · simp only [Option.some.injEq, Prod.mk.injEq] at h2
      obtain ⟨_, rfl⟩ := h2
      intro x hx
      exact frz_mem hx
    · simp at h2
  obtain ⟨s, e0⟩ := c
  cases s with
  | dyn u =>
    cases t <;>
    · simp only [asT] at h
      split at h
      · simp only [Option.some.injEq, Prod.mk.injEq] at h
        obtain ⟨_, rfl⟩ := h
        simp
      · simp at h
  | nil =>
    cases t <;> simp [asT] at h
    obtain ⟨_, rfl⟩ := h
    simp
  | _ =>
    cases t with
    | lst u => exact key u h
    | _ => simp [asT] at h
theorem asTs_mem {A : Acc} : ∀ (cs : List CE) (ts : List Ty) (es : List PE) (fz : Frz), asTs A cs ts = some (es, fz) → ∀ x ∈ fz, ∃ t, x.2 = .imm t ∧ A.ks x.1 = some (.row t)
  | [], [], es, fz, h => by simp only [asTs, Option.some.injEq, Prod.mk.injEq] at h; obtain ⟨_, rfl⟩ := h; simp
  | c :: cs, t :: ts, es, fz, h => by
    simp only [asTs, Option.bind_eq_bind, Option.bind_eq_some_iff, Option.some.injEq, Prod.mk.injEq] at h
    obtain ⟨⟨e, f⟩, h1, ⟨es', g⟩, h2, _, rfl⟩ := h
    intro x hx
    rcases List.mem_append.1 hx with hx | hx
    · exact asT_mem h1 x hx
    · exact asTs_mem cs ts es' g h2 x hx
  | [], _ :: _, _, _, h => by simp [asTs] at h
  | _ :: _, [], _, _, h => by simp [asTs] at h
theorem alloc_old (w : World) (o : Obj) {b : Nat} (h : b < w.heap.size) (w' : World) (hw : w'.heap = w.heap.push o) : w'.heap[b]? = w.heap[b]? := by
  rw [hw, Array.getElem?_push_lt (by exact h)]
  simp [h]
theorem alloc_new (w : World) (o : Obj) (w' : World) (hw : w'.heap = w.heap.push o) : w'.heap[w.heap.size]? = some o := by
  rw [hw]; simp
theorem new_ext {κ : Nat} {k : KSh} {ρ' : Rho} {w' : World} {o : Obj} (h : Rel C sl ks ρ β a w) (hk : ks κ = none) (hw : w'.heap = w.heap.push o) (hρ : ∀ l, (∀ j, l ≠ .k κ j) → (∀ j, l ≠ .s κ j) → ρ' l = ρ l) :
    (∀ b, imms C ks β w b → imms C (putKs ks [(κ, k)]) (fun x => if x = κ then some w.heap.size else β x) w' b) ∧
    (∀ b, imms C ks β w b → ∀ o, cellAt w' b o = cellAt w b o) ∧
    ∀ κ', KC (memOf C ks β ρ w) (memOf C (putKs ks [(κ, k)]) (fun x => if x = κ then some w.heap.size else β x) ρ' w') κ' := by
  have hI : ∀ b, imms C ks β w b → imms C (putKs ks [(κ, k)]) (fun x => if x = κ then some w.heap.size else β x) w' b := by
    rintro b ⟨g1, g2, g3⟩
    refine ⟨g1, by rw [hw]; simp; omega, fun κ' hp hb => ?_⟩
    by_cases hκ : κ' = κ
    · simp only [hκ, if_true, Option.some.injEq] at hb
      omega
    · obtain ⟨k', h1, h2⟩ := hp
      simp only [putKs, hκ, if_false] at h1 hb
      exact g3 κ' ⟨k', h1, h2⟩ hb
  refine ⟨hI, fun b hb o => cellAt_congr (alloc_old w _ hb.2.1 w' hw) o, fun κ' => ?_⟩
  by_cases hκ : κ' = κ
  · right
    subst hκ
    simp only [memOf, hk]
  · by_cases hg : ks κ' = some .gone
    · left
      simp [memOf, putKs, hκ, hg]
    refine KC.same (fun k hk' => h.keys κ' k hk') (by simp [putKs, hκ]) (by simp [hκ]) (fun j => hρ _ (by intro i; simp [hκ]) (by simp)) (fun b hb hs => ?_)
    cases hm : ks κ' with
    | none => simp [hm] at hs
    | some k' =>
      have hok := h.keys κ' k' hm
      have : b < w.heap.size := by
        cases k' with
        | row t => exact (h.own κ' b ⟨_, hm, rfl⟩ hb).2
        | arr t n => exact (h.own κ' b ⟨_, hm, rfl⟩ hb).2
        | box cs => exact (h.own κ' b ⟨_, hm, rfl⟩ hb).2
        | imm t => simp only [KeyOk, memOf, hb] at hok; exact hok.1.2.1
        | gone => exact absurd hm hg
      exact alloc_old w _ this w' hw
theorem Rel.new {d : Nat} {k : KSh} {cells : Array Value} {el : TypeId} {fz : Nat × Nat} {ρ' : Rho} {w' : World} {s : Slot} {v : Value} (h : Rel C sl ks ρ β a w) (hk : ks d = none) (hd : d < C.nt)
    (hcd : ∀ i, ∀ y ∈ (sl i).cond, y.1 ≠ d) (hw : w'.heap = w.heap.push (.cells cells el fz)) (hos : w'.os = w.os) (htape : w'.tape = w.tape) (hout : w'.output = w.output)
    (hρ : ∀ l, (∀ j, l ≠ .k d j) → ρ' l = ρ l)
    (hkey : KeyOk (memOf C (putKs ks [(d, k)]) (fun x => if x = d then some w.heap.size else β x) ρ' w') d k)
    (hslot : SlotOk (memOf C (putKs ks [(d, k)]) (fun x => if x = d then some w.heap.size else β x) ρ' w') d s v) :
    Rel C (putSl sl [(d, s)]) (putKs ks [(d, k)]) ρ' (fun x => if x = d then some w.heap.size else β x) (a.put (some d) v) w' := by
  obtain ⟨e1, e2, e3⟩ := new_ext (k := k) h hk hw (fun l h1 _ => hρ l h1)
  refine h.upd (fun x => x = d) (fun i => i = d) (fun κ hκ => ⟨by simp [putKs, hκ], by simp [hκ], fun j => hρ _ (by intro i; simp [hκ])⟩)
    (fun i hi => ⟨by simp [putSl, hi], fun j => hρ _ (by simp), put_other a d v i hi⟩) (fun i _ y hy => hcd i y hy) (fun κ _ => e3 κ)
    (fun b hb _ => alloc_old w _ hb w' hw) (by rw [hw]; simp) hos htape hout
    (fun κ b hκ _ hb => ?_) (fun κ κ' b h1 h2 _ _ _ _ => by rw [h1, h2]) (fun κ k' hκ hk' => ?_) (fun i hi => ?_) (put_size _ _ _) (put_defers _ _ _) (fun g => hρ _ (by simp)) (fun κ hκ e => absurd (C.hrt κ hκ).1 (by rw [e]; omega))
  · subst hκ
    simp only [if_true, Option.some.injEq] at hb
    subst hb
    exact .inl ⟨Nat.le_refl _, by rw [hw]; simp⟩
  · subst hκ
    simp only [putKs, if_true, Option.some.injEq] at hk'
    subst hk'
    exact hkey
  · subst hi
    rw [put_same a i v (by rw [h.tmps]; exact hd)]
    simp only [putSl, if_true]
    exact hslot
theorem Rel.newNone {d : Nat} {t : Ty} {ρ' : Rho} {s : Slot} {v : Value} (h : Rel C sl ks ρ β a w) (hk : ks d = none) (hd : d < C.nt)
    (hcd : ∀ i, ∀ y ∈ (sl i).cond, y.1 ≠ d) (hρ : ∀ l, (∀ j, l ≠ .k d j) → ρ' l = ρ l) (hcon : content ρ' d t = [])
    (hslot : SlotOk (memOf C (putKs ks [(d, .row t)]) (fun x => if x = d then none else β x) ρ' w) d s v) :
    Rel C (putSl sl [(d, s)]) (putKs ks [(d, .row t)]) ρ' (fun x => if x = d then none else β x) (a.put (some d) v) w := by
  refine h.upd (fun x => x = d) (fun i => i = d) (fun κ hκ => ⟨by simp [putKs, hκ], by simp [hκ], fun j => hρ _ (by intro i; simp [hκ])⟩)
    (fun i hi => ⟨by simp [putSl, hi], fun j => hρ _ (by simp), put_other a d v i hi⟩) (fun i _ y hy => hcd i y hy) (fun κ hκ => ?_)
    (fun b hb _ => rfl) (Nat.le_refl _) rfl rfl rfl
    (fun κ b hκ _ hb => ?_) (fun κ κ' b h1 h2 _ _ _ _ => by rw [h1, h2]) (fun κ k' hκ hk' => ?_) (fun i hi => ?_) (put_size _ _ _) (put_defers _ _ _) (fun g => hρ _ (by simp)) (fun κ hκ e => absurd (C.hrt κ hκ).1 (by rw [e]; omega))
  · subst hκ
    right
    simp only [memOf, hk]
  · subst hκ
    simp at hb
  · subst hκ
    simp only [putKs, if_true, Option.some.injEq] at hk'
    subst hk'
    simp only [KeyOk, memOf, if_true]
    exact hcon
  · subst hi
    rw [put_same a i v (by rw [h.tmps]; exact hd)]
    simp only [putSl, if_true]
    exact hslot
def StepOk (C : Ctx) (sl : Nat → Slot) (ks : Nat → Option KSh) (ρ : Rho) (e : Eff) : Act → World → Prop := fun a' w' =>
  ∃ β', Rel C (putSl sl e.sl) (putKs ks e.ks) (updS ρ (evs ρ e.sets)) β' a' w'
def DstOk (C : Ctx) (sl : Nat → Slot) (d : Option Tmp) : Prop := ∀ i, d = some i → i < C.nt ∧ ∀ j, ∀ y ∈ (sl j).cond, y.1 ≠ i
theorem ValOp.step (h : Rel C sl ks ρ β a w) {o : Oper} (hd : DstOk C sl o.dst) {cond : Cond} {e : Eff} (hv : ValOp C ks ρ β a w o cond e) : Good C.P o a w (StepOk C sl ks ρ e) := by
  obtain ⟨x, r, hp, hr, hx⟩ := hv
  refine Good.value hr ⟨β, ?_⟩
  rw [hp.sl, hp.ks, hp.sets]
  cases hdd : o.dst with
  | none => exact h
  | some d =>
    obtain ⟨q1, q2⟩ := hd d hdd
    rw [putV_some]
    exact h.put q1 q2 hx
end
end Rk
set_option linter.unusedVariables false
set_option linter.unusedSimpArgs false
namespace Rk
open Go
section
variable {E : Env} {C : Ctx} {sl : Nat → Slot} {ks : Nat → Option KSh} {ρ : Rho} {β : Nat → Option Nat} {a : Act} {w : World}
theorem putKs_not : ∀ (fz : List (Nat × KSh)) (ks : Nat → Option KSh) (d : Nat), (∀ x ∈ fz, x.1 ≠ d) → putKs ks fz d = ks d
  | [], _, _, _ => rfl
  | (κ, k) :: r, ks, d, h => by
    simp only [putKs]
    rw [putKs_not r _ d (fun x hx => h x (by simp [hx]))]
    have : d ≠ κ := fun e => h (κ, k) (by simp) e.symm
    simp [this]
def FrzRows (ks : Nat → Option KSh) (fz : Frz) : Prop := ∀ x ∈ fz, ∃ t, x.2 = .imm t ∧ ks x.1 = some (.row t)
theorem FrzRows.ok {fz : Frz} (h : FrzRows ks fz) : FrzOk ks fz := FrzOk.of_mem fz ks ks h (fun κ t hk => .inl hk)
theorem FrzRows.not {fz : Frz} (h : FrzRows ks fz) {d : Nat} (hd : ks d = none) : ∀ x ∈ fz, x.1 ≠ d := by
  intro x hx e
  obtain ⟨t, _, h2⟩ := h x hx
  rw [e, hd] at h2
  simp at h2
theorem val1_ok {M : Mem} {d j : Nat} {s : Sh} {v : Value} (hl : leafV v) (h : CellOk M s v (M.ρ (.s d 0))) : SKOk M d (.val ⟨false, [s]⟩) v :=
  ⟨[v], by simp [mkV], fun _ => rfl, hl, h, trivial⟩
structure MadeRow (C : Ctx) (ks : Nat → Option KSh) (β : Nat → Option Nat) (w w' : World) (fz : Frz) (u : Ty) (xs : List u.D) (v : Value) : Prop where
  ex : ∃ cells el mk cap, w'.heap = w.heap.push (.cells cells el mk) ∧ Unfz cells mk ∧ v = .slice (some ⟨w.heap.size, 0, none⟩) xs.length cap ∧ xs.length ≤ cap ∧ cap * u.n ≤ cells.size ∧
    (∀ (o : Nat) (v : Value), cells[o]? = some v → leafV v) ∧
    ∀ i (h : i < xs.length), RepC w (imms C (putKs ks fz) β w) u (fun j => cells[i * u.n + j]?) (xs.get ⟨i, h⟩)
  os : w'.os = w.os
  tape : w'.tape = w.tape
  output : w'.output = w.output
theorem MadeRow.step' {C : Ctx} {sl : Nat → Slot} {ks : Nat → Option KSh} {ρ : Rho} {β : Nat → Option Nat} {a : Act} {w : World} {o : Oper} (hd : DstOk C sl o.dst) {cond : Cond} (hc : condOk ρ cond) {u : Ty} {ce : PE} {fz : Frz} {chk : List PE} {e : Eff} {v : Value} {w' : World}
    (hn : newK ⟨sl, ks⟩ cond o.dst (.row u) [(.k (o.dst.getD 0) 0, .lst u, ce)] .full fz chk = some e) (g1 : Rel C sl (putKs ks fz) ρ β a w) (hkd0 : ∀ d, ks d = none → putKs ks fz d = none)
    (hr : (execOp a.eval o).run C.P w = .ok (.value v) w') (hm : MadeRow C ks β w w' fz u (ce.evL ρ u) v) : Good C.P o a w (StepOk C sl ks ρ e) := by
  simp only [newK, Option.bind_eq_bind, Option.bind_eq_some_iff] at hn
  obtain ⟨d, hdd, hn⟩ := hn
  obtain ⟨q1, q2⟩ := hd d hdd
  split at hn
  · simp at hn
  · rename_i hkd
    have hkd : ks d = none := hkd
    -- both ways it comes to the same
    have he : ∃ ex : PE, e.sl = [(d, ⟨cond, .val ⟨false, [.full d]⟩⟩)] ∧ e.ks = fz ++ [(d, .row u)] ∧ e.sets = [(.k d 0, .lst u, ex)] ∧ ex.evL ρ u = ce.evL ρ u := by
      split at hn
      · rename_i hce
        simp only [Option.some.injEq] at hn
        subst hn
        have hce' : cond = [] := by simpa using hce
        refine ⟨ce, by rw [hce'], rfl, by rw [hdd]; rfl, rfl⟩
      · simp only [Option.some.injEq] at hn
        subst hn
        refine ⟨.ite (andE (condE ⟨sl, ks⟩ cond)) ce .lnil, rfl, rfl, by rw [hdd]; rfl, ?_⟩
        show (if (andE (condE ⟨sl, ks⟩ cond)).evB ρ = true then ce.evL ρ u else []) = _
        rw [andE_ok _ (condE_ok cond hc)]
        rfl
    obtain ⟨ex, he1, he2, he3, he4⟩ := he
    have hkd1 : putKs ks fz d = none := hkd0 d hkd
    obtain ⟨cells, el, mk, cap, m1, m2, m3, m4, m5, m6, m7⟩ := hm.ex
    refine Good.value hr ⟨fun x => if x = d then some w.heap.size else β x, ?_⟩
    rw [he1, he2, he3, putKs_append, hdd]
    have hρ : ∀ l, (∀ j, l ≠ Loc.k d j) → updS ρ (evs ρ [(.k d 0, .lst u, ex)]) l = ρ l := by
      intro l hl
      simp only [evs, List.map_cons, List.map_nil, updS]
      rw [if_neg (hl 0)]
    have hcon : content (updS ρ (evs ρ [(.k d 0, .lst u, ex)])) d u = ce.evL ρ u := by
      rw [← he4]
      simp only [content, evs, List.map_cons, List.map_nil, updS, if_true, Dyn.get_mk]
      rfl
    obtain ⟨n1, n2, n3⟩ := new_ext (k := .row u) (ρ' := updS ρ (evs ρ [(.k d 0, .lst u, ex)])) g1 hkd1 m1 (fun l h1 _ => hρ l h1)
    refine Rel.new g1 hkd1 q1 q2 m1 hm.os hm.tape hm.output hρ ?_ ?_
    · simp only [KeyOk, memOf, if_true]
      refine ⟨cells, ⟨el, mk, alloc_new w _ w' m1, m2⟩, ?_⟩
      rw [hcon]
      refine ⟨Nat.le_trans (Nat.mul_le_mul_right _ m4) m5, m6, fun i hi => ?_⟩
      exact RepC.ext n1 n2 _ _ _ (m7 i hi)
    · intro _
      refine val1_ok (j := 0) (by rw [m3]; trivial) ?_
      simp only [CellOk, memOf, putKs, if_true]
      refine ⟨some ⟨w.heap.size, 0, none⟩, cap, ?_, ?_, ?_⟩
      · rw [hcon]; exact m3
      · rw [hcon]; exact m4
      · simp only [if_true]
        refine ⟨trivial, ?_⟩
        rw [blkSize_of (alloc_new w _ w' m1)]
        exact m5
theorem MadeRow.step (h : Rel C sl ks ρ β a w) {o : Oper} (hd : DstOk C sl o.dst) {cond : Cond} (hc : condOk ρ cond) {u : Ty} {ce : PE} {fz : Frz} {chk : List PE} {e : Eff} {v : Value} {w' : World}
    (hn : newK ⟨sl, ks⟩ cond o.dst (.row u) [(.k (o.dst.getD 0) 0, .lst u, ce)] .full fz chk = some e) (hf : FrzRows ks fz)
    (hr : (execOp a.eval o).run C.P w = .ok (.value v) w') (hm : MadeRow C ks β w w' fz u (ce.evL ρ u) v) : Good C.P o a w (StepOk C sl ks ρ e) :=
  MadeRow.step' hd hc hn (h.freeze fz hf.ok).1 (fun d hkd => by rw [putKs_not fz ks d (hf.not hkd)]; exact hkd) hr hm
theorem le_min {A : Acc} {ρ : Rho} {x y : PE} (h : (le x y).evB ρ = true) : x.evI ρ ≤ y.evI ρ := ev_le h
theorem newK_skip (h : Rel C sl ks ρ β a w) {d : Nat} (hd : d < C.nt) (hcd : ∀ i, ∀ y ∈ (sl i).cond, y.1 ≠ d) {cond : Cond} (hcc : ∀ y ∈ cond, y.1 ≠ d) (hno : ¬ condOk ρ cond) {u : Ty} {ce : PE} {fz : Frz} {chk : List PE} {e : Eff} {k : KSh} {content0 : List (Loc × Ty × PE)} {sh : Nat → Sh}
    (hn : newK ⟨sl, ks⟩ cond (some d) k content0 sh fz chk = some e) (hf : FrzRows ks fz) (hrow : ∀ u, k = .row u → ∃ ce, content0 = [(.k d 0, .lst u, ce)]) :
    ∃ β', Rel C (putSl sl e.sl) (putKs ks e.ks) (updS ρ (evs ρ e.sets)) β' (a.put (some d) undef) w := by
  simp only [newK, Option.bind_eq_bind, Option.bind_some] at hn
  split at hn
  · simp at hn
  · rename_i hkd
    have hkd : ks d = none := hkd
    split at hn
    · rename_i hce
      have hce' : cond = [] := by simpa using hce
      subst hce'
      exact absurd (fun x hx => by simp at hx) hno
    · split at hn
      · rename_i u
        simp only [Option.some.injEq] at hn
        obtain ⟨ce, rfl⟩ := hrow u rfl
        subst hn
        obtain ⟨g1, g2, g3, g4⟩ := h.freeze fz hf.ok
        have hkd1 : putKs ks fz d = none := by rw [putKs_not fz ks d (hf.not hkd)]; exact hkd
        refine ⟨fun x => if x = d then none else β x, ?_⟩
        rw [putKs_append]
        have hρ : ∀ l, (∀ j, l ≠ Loc.k d j) → updS ρ (evs ρ ([(Loc.k d 0, Ty.lst u, ce)].map fun x => (x.1, x.2.1, PE.ite (andE (condE ⟨sl, ks⟩ cond)) x.2.2 .lnil))) l = ρ l := by
          intro l hl
          simp only [evs, List.map_cons, List.map_nil, updS]
          rw [if_neg (hl 0)]
        have hb : (andE (condE ⟨sl, ks⟩ cond)).evB ρ = false := by
          cases hb : (andE (condE ⟨sl, ks⟩ cond)).evB ρ with
          | false => rfl
          | true => exact absurd (condE_of cond (andE_of _ hb)) hno
        refine Rel.newNone g1 hkd1 hd hcd hρ ?_ (fun hc => ?_)
        · simp only [content, evs, List.map_cons, List.map_nil, updS, if_true, Dyn.get_mk]
          show (if (andE (condE ⟨sl, ks⟩ cond)).evB ρ = true then _ else _) = _
          rw [hb]
          rfl
        · refine (hno fun y hy => ?_).elim
          have := hc y hy
          simp only [memOf] at this
          rw [hρ _ (by intro j; simp)] at this
          exact this
      · simp at hn
theorem box_step (h : Rel C sl ks ρ β a w) {o : Oper} (hd : DstOk C sl o.dst) {cond : Cond} {zs : List CE} {e : Eff} {cells : Array Value} {el : TypeId} {w' : World}
    (hn : newK ⟨sl, ks⟩ cond o.dst (.box (zs.map (·.1))) (setCs (.k (o.dst.getD 0)) 0 zs) (fun d => .ptr d 0) [] [] = some e)
    (hr : (execOp a.eval o).run C.P w = .ok (.value (.pointer (some ⟨w.heap.size, 0, none⟩))) w') (hw : w'.heap = w.heap.push (.cells cells el (0, 0))) (hos : w'.os = w.os) (htape : w'.tape = w.tape) (hout : w'.output = w.output)
    (hz : CEsOk (memOf C ks β ρ w) zs cells.toList) : Good C.P o a w (StepOk C sl ks ρ e) := by
  simp only [newK, Option.bind_eq_bind, Option.bind_eq_some_iff] at hn
  obtain ⟨d, hdd, hn⟩ := hn
  obtain ⟨q1, q2⟩ := hd d hdd
  split at hn
  · simp at hn
  · rename_i hkd
    have hkd : ks d = none := hkd
    split at hn
    · rename_i hce
      have hce' : cond = [] := by simpa using hce
      subst hce'
      simp only [Option.some.injEq] at hn
      subst hn
      refine Good.value hr ⟨fun x => if x = d then some w.heap.size else β x, ?_⟩
      simp only [List.nil_append, Option.getD_some, hdd]
      have hρ : ∀ l, (∀ j, l ≠ Loc.k d j) → updS ρ (evs ρ (setCs (.k d) 0 zs)) l = ρ l := by
        intro l hl
        refine updS_not _ (fun y hy e => ?_)
        obtain ⟨z, h1, h2⟩ := mem_evs hy
        obtain ⟨i, _, h3⟩ := mem_setCs _ _ _ h1
        exact hl i (by rw [← e, h2, h3])
      obtain ⟨n1, n2, n3⟩ := new_ext (k := .box (zs.map (·.1))) (ρ' := updS ρ (evs ρ (setCs (.k d) 0 zs))) h hkd hw (fun l h1 _ => hρ l h1)
      refine Rel.new h hkd q1 q2 hw hos htape hout hρ ?_ ?_
      · refine ⟨w.heap.size, cells, by simp [memOf], ⟨el, (0, 0), alloc_new w _ w' hw, .inl rfl⟩, ?_⟩
        refine CellsOk.of_wrote (M := memOf C ks β ρ w) 0 zs cells.toList ?_ (fun c _ v dd hc => CellOk.ext (M := memOf C ks β ρ w) (M' := memOf C (putKs ks [(d, .box (zs.map (fun x : CE => x.1)))]) (fun x => if x = d then some w.heap.size else β x) (updS ρ (evs ρ (setCs (.k d) 0 zs))) w') n1 n2 (fun κ _ => n3 κ) hc) hz
        have := wrote_setCs (ρ := ρ) (ρ0 := ρ) (locK_inj d) zs 0 []
        simpa [memOf] using this
      · intro _
        refine val1_ok (j := 0) trivial ?_
        simp only [CellOk, memOf, putKs, if_true]
        exact ⟨w.heap.size, rfl, rfl⟩
    · simp at hn
theorem arr_step (h : Rel C sl ks ρ β a w) {o : Oper} (hd : DstOk C sl o.dst) {cond : Cond} {u : Ty} {n : Nat} {ce : PE} {fz : Frz} {e : Eff} {cells : Array Value} {el : TypeId} {w' : World}
    (hn : newK ⟨sl, ks⟩ cond o.dst (.arr u n) [(.k (o.dst.getD 0) 0, .lst u, ce)] .arr fz [] = some e) (hf : FrzRows ks fz)
    (hr : (execOp a.eval o).run C.P w = .ok (.value (.pointer (some ⟨w.heap.size, 0, none⟩))) w') (hw : w'.heap = w.heap.push (.cells cells el (0, 0))) (hos : w'.os = w.os) (htape : w'.tape = w.tape) (hout : w'.output = w.output)
    (hlen : (ce.evL ρ u).length = n) (hsz : n * u.n ≤ cells.size) (hleaf : ∀ (o : Nat) (v : Value), cells[o]? = some v → leafV v)
    (hz : ∀ i (h : i < (ce.evL ρ u).length), RepC w (imms C (putKs ks fz) β w) u (fun j => cells[i * u.n + j]?) ((ce.evL ρ u).get ⟨i, h⟩)) : Good C.P o a w (StepOk C sl ks ρ e) := by
  simp only [newK, Option.bind_eq_bind, Option.bind_eq_some_iff] at hn
  obtain ⟨d, hdd, hn⟩ := hn
  obtain ⟨q1, q2⟩ := hd d hdd
  split at hn
  · simp at hn
  · rename_i hkd
    have hkd : ks d = none := hkd
    split at hn
    · rename_i hce
      have hce' : cond = [] := by simpa using hce
      subst hce'
      simp only [Option.some.injEq] at hn
      subst hn
      obtain ⟨g1, g2, g3, g4⟩ := h.freeze fz hf.ok
      have hkd1 : putKs ks fz d = none := by rw [putKs_not fz ks d (hf.not hkd)]; exact hkd
      refine Good.value hr ⟨fun x => if x = d then some w.heap.size else β x, ?_⟩
      simp only [Option.getD_some, putKs_append, hdd]
      have hρ : ∀ l, (∀ j, l ≠ Loc.k d j) → updS ρ (evs ρ [(.k d 0, .lst u, ce)]) l = ρ l := by
        intro l hl
        simp only [evs, List.map_cons, List.map_nil, updS]
        rw [if_neg (hl 0)]
      have hcon : content (updS ρ (evs ρ [(.k d 0, .lst u, ce)])) d u = ce.evL ρ u := by
        simp only [content, evs, List.map_cons, List.map_nil, updS, if_true, Dyn.get_mk]
        rfl
      obtain ⟨n1, n2, n3⟩ := new_ext (k := .arr u n) (ρ' := updS ρ (evs ρ [(.k d 0, .lst u, ce)])) g1 hkd1 hw (fun l h1 _ => hρ l h1)
      refine Rel.new g1 hkd1 q1 q2 hw hos htape hout hρ ?_ ?_
      · refine ⟨w.heap.size, cells, by simp [memOf], ⟨el, (0, 0), alloc_new w _ w' hw, .inl rfl⟩, ?_, ?_⟩
        · simp only [memOf]; rw [hcon]; exact hlen
        · simp only [memOf]
          rw [hcon]
          refine ⟨by rw [hlen]; exact hsz, hleaf, fun i hi => ?_⟩
          exact RepC.ext n1 n2 _ _ _ (hz i hi)
      · intro _
        refine val1_ok (j := 0) trivial ?_
        simp only [CellOk, memOf, putKs, if_true]
        exact ⟨w.heap.size, rfl, rfl⟩
    · simp at hn
end
end Rk
set_option linter.unusedVariables false
set_option linter.unusedSimpArgs false
namespace Rk
open Go
section
variable {E : Env} {C : Ctx} {sl : Nat → Slot} {ks : Nat → Option KSh} {ρ : Rho} {β : Nat → Option Nat} {a : Act} {w : World}
def RepsOk (w : World) (I : Nat → Prop) (ρ : Rho) : List Ty → List PE → List Value → Prop
  | [], [], [] => True
  | t :: ts, e :: es, v :: vs => leafV v ∧ RepC w I t (fun _ => some v) (e.ev ρ t) ∧ RepsOk w I ρ ts es vs
  | _, _, _ => False
theorem RepsOk.ext {w w' : World} {I I' : Nat → Prop} (hI : ∀ b, I b → I' b) (hw : ∀ b, I b → ∀ o, cellAt w' b o = cellAt w b o) : ∀ (ts : List Ty) (es : List PE) (vs : List Value), RepsOk w I ρ ts es vs → RepsOk w' I' ρ ts es vs
  | [], [], [], _ => trivial
  | t :: ts, e :: es, v :: vs, h => ⟨h.1, RepC.ext hI hw _ _ _ h.2.1, RepsOk.ext hI hw ts es vs h.2.2⟩
  | [], _ :: _, _, h => h.elim
  | [], [], _ :: _, h => h.elim
  | _ :: _, [], _, h => h.elim
  | _ :: _, _ :: _, [], h => h.elim
theorem RepsOk.length : ∀ {ts : List Ty} {es : List PE} {vs : List Value} {I : Nat → Prop}, RepsOk w I ρ ts es vs → es.length = ts.length ∧ vs.length = ts.length
  | [], [], [], _, _ => ⟨rfl, rfl⟩
  | t :: ts, e :: es, v :: vs, _, h => by have := RepsOk.length h.2.2; simp [this.1, this.2]
  | [], _ :: _, _, _, h => h.elim
  | [], [], _ :: _, _, h => h.elim
  | _ :: _, [], _, _, h => h.elim
  | _ :: _, _ :: _, [], _, h => h.elim
theorem RepsOk.leaf : ∀ {ts : List Ty} {es : List PE} {vs : List Value} {I : Nat → Prop}, RepsOk w I ρ ts es vs → ∀ v ∈ vs, leafV v
  | [], [], [], _, _ => by simp
  | t :: ts, e :: es, v :: vs, _, h => by
    intro x hx
    rcases List.mem_cons.1 hx with hx | hx
    · rw [hx]; exact h.1
    · exact RepsOk.leaf h.2.2 x hx
  | [], _ :: _, _, _, h => h.elim
  | [], [], _ :: _, _, h => h.elim
  | _ :: _, [], _, _, h => h.elim
  | _ :: _, _ :: _, [], _, h => h.elim
theorem RepsOk.tree {I : Nat → Prop} : ∀ {ts : List Ty} {es : List PE} {vs : List Value}, ts.all Ty.isLeaf = true → RepsOk w I ρ ts es vs → RepC w I (tree ts) (fun j => vs[j]?) ((treeE es).ev ρ (Rk.tree ts))
  | [], [], [], _, _ => trivial
  | [t], [e], [v], hl, h => by
    have hn : t.n = 1 := isLeaf_n (by simpa using hl)
    refine RepC.congr t (fun _ => some v) _ _ (fun j hj => ?_) h.2.1
    have : j = 0 := by omega
    subst this; rfl
  | t :: t2 :: ts, e :: e2 :: es, v :: v2 :: vs, hl, h => by
    simp only [List.all_cons, Bool.and_eq_true] at hl
    have hn : t.n = 1 := isLeaf_n hl.1
    have ih := RepsOk.tree (ts := t2 :: ts) (es := e2 :: es) (vs := v2 :: vs) (by simp only [List.all_cons, Bool.and_eq_true]; exact hl.2) h.2.2
    refine ⟨RepC.congr t (fun _ => some v) _ _ (fun j hj => ?_) h.2.1, ?_⟩
    · have : j = 0 := by omega
      subst this; rfl
    · have : (fun j => (v :: v2 :: vs)[t.n + j]?) = (fun j => (v2 :: vs)[j]?) := funext fun j => by rw [hn, Nat.add_comm]; rfl
      rw [this]
      exact ih
  | [], _ :: _, _, _, h => h.elim
  | [], [], _ :: _, _, h => h.elim
  | _ :: _, [], _, _, h => h.elim
  | _ :: _, _ :: _, [], _, h => h.elim
  | [_], _ :: _ :: _, [_], _, h => h.2.2.elim
  | [_], [_], _ :: _ :: _, _, h => h.2.2.elim
  | [_], _ :: _ :: _, _ :: _ :: _, _, h => h.2.2.elim
  | _ :: _ :: _, [_], _ :: _, _, h => h.2.2.elim
  | _ :: _ :: _, _ :: _ :: _, [_], _, h => h.2.2.elim
theorem asTs_ok (h : Rel C sl ks ρ β a w) : ∀ (cs : List CE) (ts : List Ty) (vs : List Value) (es : List PE) (fz : Frz), asTs ⟨sl, ks⟩ cs ts = some (es, fz) → CEsOk (memOf C ks β ρ w) cs vs →
    RepsOk w (fun b => imms C ks β w b ∨ ∃ κ k, (κ, k) ∈ fz ∧ β κ = some b) ρ ts es vs
  | [], [], [], es, fz, ht, _ => by simp only [asTs, Option.some.injEq, Prod.mk.injEq] at ht; obtain ⟨rfl, rfl⟩ := ht; trivial
  | c :: cs, t :: ts, v :: vs, es, fz, ht, hv => by
    simp only [asTs, Option.bind_eq_bind, Option.bind_eq_some_iff, Option.some.injEq, Prod.mk.injEq] at ht
    obtain ⟨⟨e, f⟩, h1, ⟨es', g⟩, h2, rfl, rfl⟩ := ht
    have r1 := asT_ok h hv.1 h1
    have r2 := asTs_ok h cs ts vs es' g h2 hv.2
    refine ⟨hv.1.1, RepC.ext ?_ (fun _ _ _ => rfl) _ _ _ r1, RepsOk.ext ?_ (fun _ _ _ => rfl) _ _ _ r2⟩
    · rintro b (hb | ⟨κ, k, hm, hb⟩)
      · exact .inl hb
      · exact .inr ⟨κ, k, by simp [hm], hb⟩
    · rintro b (hb | ⟨κ, k, hm, hb⟩)
      · exact .inl hb
      · exact .inr ⟨κ, k, by simp only [List.mem_append]; exact .inr hm, hb⟩
  | [], _ :: _, _, _, _, ht, _ => by simp [asTs] at ht
  | _ :: _, [], _, _, _, ht, _ => by simp [asTs] at ht
  | [], [], _ :: _, _, _, _, hv => hv.elim
  | _ :: _, _ :: _, [], _, _, _, hv => hv.elim
theorem frozen_imms (h : Rel C sl ks ρ β a w) {fz : Frz} (hf : FrzRows ks fz) : ∀ b, (imms C ks β w b ∨ ∃ κ k, (κ, k) ∈ fz ∧ β κ = some b) → imms C (putKs ks fz) β w b := by
  obtain ⟨_, g2, g3, _⟩ := h.freeze fz hf.ok
  rintro b (hb | ⟨κ, k, hm, hb⟩)
  · exact g2 b hb
  · exact g3 κ k b hm hb
theorem evL_listE (ρ : Rho) (u : Ty) : ∀ (es : List PE), (listE es).evL ρ u = es.map (fun e => e.ev ρ u)
  | [] => rfl
  | e :: es => by
    show appL (α := u.D) [e.ev ρ u] ((listE es).evL ρ u) = _
    rw [evL_listE ρ u es]
    rfl
theorem flatten_get {n : Nat} : ∀ (css : List (List Value)) (i j : Nat) (c : List Value), (∀ c ∈ css, c.length = n) → css[i]? = some c → j < n → css.flatten[i * n + j]? = c[j]?
  | [], i, j, c, _, hi, _ => by simp at hi
  | d :: r, 0, j, c, hl, hi, hj => by
    simp only [List.getElem?_cons_zero, Option.some.injEq] at hi
    subst hi
    rw [List.flatten_cons, Nat.zero_mul, Nat.zero_add, List.getElem?_append_left (by rw [hl d (by simp)]; exact hj)]
  | d :: r, i + 1, j, c, hl, hi, hj => by
    have hd := hl d (by simp)
    rw [List.flatten_cons, List.getElem?_append_right (by rw [hd, Nat.add_mul]; omega), hd, ← flatten_get r i j c (fun c hc => hl c (by simp [hc])) (by simpa using hi) hj]
    congr 1
    rw [Nat.add_mul]; omega
theorem run_newVar {P : Program} (t : TypeId) (v : Value) : (newVar t v).run P w = .ok ⟨w.heap.size, 0, none⟩ { w with heap := w.heap.push (.cells v.cells t) } := by
  simp [newVar, newRow, Sem.run_bind]
theorem run_newRow {P : Program} (t : TypeId) (c : Array Value) : (newRow t c).run P w = .ok ⟨w.heap.size, 0, none⟩ { w with heap := w.heap.push (.cells c t) } := by
  simp [newRow, Sem.run_bind]
theorem run_alloc {P : Program} {t : TypeId} {z : Value} (hz : (zeroValue t).run P w = .ok z w) :
    (Instr.alloc t true (.tuple #[])).run P w = .ok (.pointer (some ⟨w.heap.size, 0, none⟩)) { w with heap := w.heap.push (.cells z.cells t) } := by
  simp only [Instr.alloc, Sem.run_bind, hz, Result.andThen_ok, run_newVar, Sem.run_pure]
theorem run_box {P : Program} {t : TypeId} {z : Value} :
    (Instr.box t z).run P w = .ok (.pointer (some ⟨w.heap.size, 0, none⟩)) { w with heap := w.heap.push (.cells z.cells t) } := by
  simp only [Instr.box, Sem.run_bind, Result.andThen_ok, run_newVar, Sem.run_pure]
theorem CEsOk.leafs {M : Mem} : ∀ (cs : List CE) (vs : List Value), CEsOk M cs vs → ∀ v ∈ vs, leafV v
  | [], [], _ => by simp
  | c :: cs, v :: vs, h => by
    intro x hx
    rcases List.mem_cons.1 hx with hx | hx
    · rw [hx]; exact h.1.1
    · exact CEsOk.leafs cs vs h.2 x hx
  | [], _ :: _, h => h.elim
  | _ :: _, [], h => h.elim
theorem CEsOk.repl {M : Mem} {c : CE} : ∀ (n : Nat) (vs : List Value), CEsOk M (List.replicate n c) vs → ∀ (i : Nat) (v : Value), vs[i]? = some v → CEOk M c v
  | 0, [], _, i, v, hv => by simp at hv
  | 0, _ :: _, h, _, _, _ => h.elim
  | n + 1, [], h, _, _, _ => h.elim
  | n + 1, x :: vs, h, 0, v, hv => by simp at hv; subst hv; exact h.1
  | n + 1, x :: vs, h, i + 1, v, hv => CEsOk.repl n vs h.2 i v (by simpa using hv)
theorem alloc_ok (hT : TabsOk E C) (h : Rel C sl ks ρ β a w) {o : Oper} (hd : DstOk C sl o.dst) {cond : Cond} (hc : condOk ρ cond) {t : TypeId} {e : Eff} (ho : o.op = .alloc t)
    (hs : stat E ⟨sl, ks⟩ cond o = some e) : Good C.P o a w (StepOk C sl ks ρ e) := by
  have hP := hT.P
  have hrun : ∀ r w', (Instr.alloc t true (.tuple #[])).run C.P w = .ok r w' → (execOp a.eval o).run C.P w = .ok (.value r) w' := by
    intro r w' hr
    unfold execOp
    rw [ho]
    exact run_v hr
  unfold stat at hs
  simp only [ho, Option.bind_eq_bind, Option.bind_eq_some_iff] at hs
  obtain ⟨dd, hdd, hs⟩ := hs
  split at hs
  · rename_i n el
    simp only [Option.bind_eq_some_iff] at hs
    obtain ⟨lv, hlv, ⟨g, zs⟩, hzs, ⟨g2, all⟩, hall, hs⟩ := hs
    dsimp only at hs
    split at hs
    · rename_i v e0 t0
      split at hs
      · simp at hs
      · rename_i hcond
        simp only [Bool.or_eq_true, Bool.not_eq_true', bne_iff_ne, ne_eq, not_or, Bool.not_eq_false, Decidable.not_not] at hcond
        obtain ⟨⟨hu, hv⟩, hrep⟩ := hcond
        rw [← hP] at hall hlv
        obtain ⟨z, hz1, hz2⟩ := run_zero (w := w) hall
        have hz3 : CEsOk (memOf C ks β ρ w) all z.cells.toList := VOk.cells (constV_ok hz2)
        rw [hrep] at hz3
        have hlen := CEsOk.length _ _ hz3
        simp only [List.length_replicate, Array.length_toList] at hlen
        subst hv
        have hn1 : (tree [v]).n = 1 := isLeaf_n hu
        have hev : (PE.lrep (.int (n : Int)) e0).evL ρ (tree [v]) = List.replicate n (e0.ev ρ (tree [v])) := by
          show List.replicate (toI .i64 ((PE.int (n : Int)).ev ρ (.int .i64))).toNat (e0.ev ρ (tree [v])) = _
          rw [show toI .i64 ((PE.int (n : Int)).ev ρ (.int .i64)) = (n : Int) from rfl, Int.toNat_natCast]
        refine arr_step h hd hs (by intro x hx; simp at hx) (hrun _ _ (run_alloc hz1)) rfl rfl rfl rfl (by rw [hev]; simp) (by rw [hn1]; omega) (fun o v hv => CEsOk.leafs _ _ hz3 v (by
          have := Array.mem_of_getElem? hv; simpa using this)) (fun i hi => ?_)
        have hi' : i < n := by rw [hev] at hi; simpa using hi
        have hci : i < z.cells.size := by omega
        have hcell := CEsOk.repl _ _ hz3 i z.cells[i] (by simp [hci])
        have hrep' : RepC w (imms C ks β w) (tree [v]) (fun _ => some z.cells[i]) (e0.ev ρ (tree [v])) := by
          have := hcell.2
          simp only [CellOk, CE.dyn, Sh.ty] at this
          rw [Dyn.get_mk] at this
          exact this
        rw [get_eq hev i hi (by simpa using hi'), hn1]
        simp only [List.get_eq_getElem, List.getElem_replicate]
        refine RepC.congr _ (fun _ => some z.cells[i]) _ _ (fun j hj => ?_) hrep'
        have : j = 0 := by omega
        subst this
        simp [hci]
    · simp at hs
  · simp only [Option.bind_eq_some_iff] at hs
    obtain ⟨⟨g, zs⟩, hzs, hs⟩ := hs
    rw [← hP] at hzs
    obtain ⟨z, hz1, hz2⟩ := run_zero (w := w) hzs
    exact box_step h hd hs (hrun _ _ (run_alloc hz1)) rfl rfl rfl rfl (VOk.cells (constV_ok hz2))
end
end Rk
set_option linter.unusedVariables false
set_option linter.unusedSimpArgs false
namespace Rk
open Go
section
variable {E : Env} {C : Ctx} {sl : Nat → Slot} {ks : Nat → Option KSh} {ρ : Rho} {β : Nat → Option Nat} {a : Act} {w : World}
def ChunksOk (w : World) (I : Nat → Prop) (ρ : Rho) (lv : List Ty) : List PE → List (List Value) → Prop
  | [], [] => True
  | e :: es, c :: cs => c.length = lv.length ∧ (∀ v ∈ c, leafV v) ∧ RepC w I (tree lv) (fun j => c[j]?) (e.ev ρ (tree lv)) ∧ ChunksOk w I ρ lv es cs
  | _, _ => False
theorem ChunksOk.ext {w w' : World} {I I' : Nat → Prop} {lv : List Ty} (hI : ∀ b, I b → I' b) (hw : ∀ b, I b → ∀ o, cellAt w' b o = cellAt w b o) : ∀ (es : List PE) (css : List (List Value)), ChunksOk w I ρ lv es css → ChunksOk w' I' ρ lv es css
  | [], [], _ => trivial
  | e :: es, c :: cs, h => ⟨h.1, h.2.1, RepC.ext hI hw _ _ _ h.2.2.1, ChunksOk.ext hI hw es cs h.2.2.2⟩
  | [], _ :: _, h => h.elim
  | _ :: _, [], h => h.elim
theorem ChunksOk.length {I : Nat → Prop} {lv : List Ty} : ∀ (es : List PE) (css : List (List Value)), ChunksOk w I ρ lv es css → es.length = css.length ∧ (∀ c ∈ css, c.length = lv.length) ∧ ∀ v ∈ css.flatten, leafV v
  | [], [], _ => by simp
  | e :: es, c :: cs, h => by
    obtain ⟨h1, h2, h3⟩ := ChunksOk.length es cs h.2.2.2
    refine ⟨by simp [h1], fun d hd => ?_, fun v hv => ?_⟩
    · rcases List.mem_cons.1 hd with hd | hd
      · rw [hd]; exact h.1
      · exact h2 d hd
    · rw [List.flatten_cons] at hv
      rcases List.mem_append.1 hv with hv | hv
      · exact h.2.1 v hv
      · exact h3 v hv
  | [], _ :: _, h => h.elim
  | _ :: _, [], h => h.elim
theorem ChunksOk.get {I : Nat → Prop} {lv : List Ty} : ∀ (es : List PE) (css : List (List Value)), ChunksOk w I ρ lv es css → ∀ (i : Nat) (e : PE) (c : List Value), es[i]? = some e → css[i]? = some c → RepC w I (tree lv) (fun j => c[j]?) (e.ev ρ (tree lv))
  | e :: es, c :: cs, h, 0, e', c', h1, h2 => by
    simp only [List.getElem?_cons_zero, Option.some.injEq] at h1 h2
    subst h1 h2
    exact h.2.2.1
  | e :: es, c :: cs, h, i + 1, e', c', h1, h2 => ChunksOk.get es cs h.2.2.2 i e' c' (by simpa using h1) (by simpa using h2)
  | [], [], h, i, e', c', h1, h2 => by simp at h1
  | [], _ :: _, h, _, _, _, _, _ => h.elim
  | _ :: _, [], h, _, _, _, _, _ => h.elim
theorem ChunksOk.rows {I : Nat → Prop} {lv : List Ty} (hl : lv.all Ty.isLeaf = true) {es : List PE} {css : List (List Value)} (h : ChunksOk w I ρ lv es css) :
    ∀ i (hi : i < ((listE es).evL ρ (tree lv)).length), RepC w I (tree lv) (fun j => css.flatten[i * (tree lv).n + j]?) (((listE es).evL ρ (tree lv)).get ⟨i, hi⟩) := by
  intro i hi
  obtain ⟨h1, h2, _⟩ := ChunksOk.length _ _ h
  have hev := evL_listE ρ (tree lv) es
  have hi2 : i < (es.map (fun e => e.ev ρ (tree lv))).length := by rw [← hev]; exact hi
  have hi3 : i < es.length := by simpa using hi2
  have hi4 : i < css.length := by omega
  rw [get_eq hev i hi hi2]
  simp only [List.get_eq_getElem, List.getElem_map]
  have := ChunksOk.get _ _ h i es[i] css[i] (List.getElem?_eq_getElem hi3) (List.getElem?_eq_getElem hi4)
  refine RepC.congr _ (fun j => css[i][j]?) _ _ (fun j hj => ?_) this
  rw [tree_n _ hl] at hj ⊢
  exact (flatten_get css i j css[i] h2 (List.getElem?_eq_getElem hi4) hj).symm
theorem RepsOk.chunks {I : Nat → Prop} {u : Ty} (hu : u.isLeaf = true) : ∀ (n : Nat) (es : List PE) (vs : List Value), RepsOk w I ρ (List.replicate n u) es vs → ChunksOk w I ρ [u] es (vs.map fun v => [v])
  | 0, [], [], _ => trivial
  | n + 1, e :: es, v :: vs, h => by
    refine ⟨rfl, by intro x hx; simp at hx; rw [hx]; exact h.1, ?_, RepsOk.chunks hu n es vs h.2.2⟩
    refine RepC.congr u (fun _ => some v) _ _ (fun j hj => ?_) h.2.1
    rw [isLeaf_n hu] at hj
    have : j = 0 := by omega
    subst this; rfl
  | 0, _ :: _, _, h => h.elim
  | 0, [], _ :: _, h => h.elim
  | n + 1, [], _, h => h.elim
  | n + 1, _ :: _, [], h => h.elim
theorem flatten_ones {α : Type} : ∀ (l : List α), (l.map fun v => [v]).flatten = l
  | [] => rfl
  | a :: r => by simp only [List.map_cons, List.flatten_cons, List.singleton_append]; rw [flatten_ones r]
theorem RepsOk.rows {I : Nat → Prop} {u : Ty} (hu : u.isLeaf = true) {n : Nat} {es : List PE} {vs : List Value} (h : RepsOk w I ρ (List.replicate n u) es vs) :
    ((listE es).evL ρ u).length = n ∧ ∀ i (hi : i < ((listE es).evL ρ u).length), RepC w I u (fun j => vs[i * u.n + j]?) (((listE es).evL ρ u).get ⟨i, hi⟩) := by
  have hl := RepsOk.length h
  simp only [List.length_replicate] at hl
  refine ⟨by rw [evL_listE]; simp [hl.1], ?_⟩
  have := ChunksOk.rows (lv := [u]) (by simpa using hu) (RepsOk.chunks hu n es vs h)
  rw [flatten_ones] at this
  exact this
theorem box_ok (hT : TabsOk E C) (h : Rel C sl ks ρ β a w) {o : Oper} (hd : DstOk C sl o.dst) {cond : Cond} (hc : condOk ρ cond) {t : TypeId} {x : Operand} {e : Eff} (ho : o.op = .box t x)
    (hs : stat E ⟨sl, ks⟩ cond o = some e) : Good C.P o a w (StepOk C sl ks ρ e) := by
  have hrun : ∀ r w', (Instr.box t (a.eval x)).run C.P w = .ok r w' → (execOp a.eval o).run C.P w = .ok (.value r) w' := by
    intro r w' hr
    unfold execOp
    rw [ho]
    exact run_v hr
  unfold stat at hs
  simp only [ho, Option.bind_eq_bind, Option.bind_eq_some_iff] at hs
  obtain ⟨⟨g, cs⟩, hcs, dd, hdd, hs⟩ := hs
  have hv := VOk.cells (opC_ok h hc hcs)
  split at hs
  · rename_i n el
    simp only [Option.bind_eq_some_iff] at hs
    obtain ⟨lv, hlv, hs⟩ := hs
    split at hs
    · simp at hs
    · rename_i hu
      simp only [Option.bind_eq_some_iff] at hs
      obtain ⟨⟨es, fz⟩, hes, hs⟩ := hs
      have hu' : (tree lv).isLeaf = true := by simpa using hu
      have hr := asTs_ok h _ _ _ _ _ hes hv
      have hf : FrzRows ks fz := asTs_mem _ _ _ _ hes
      have hlen := RepsOk.length hr
      simp only [List.length_replicate, Array.length_toList] at hlen
      obtain ⟨q1, q2⟩ := RepsOk.rows hu' hr
      refine arr_step h hd hs hf (hrun _ _ run_box) rfl rfl rfl rfl q1 (by rw [isLeaf_n hu']; omega) (fun o v hv' => CEsOk.leafs _ _ hv v (by
          have := Array.mem_of_getElem? hv'; simpa using this)) (fun i hi => ?_)
      have := RepC.ext (frozen_imms h hf) (fun _ _ _ => rfl) _ _ _ (q2 i hi)
      simpa using this
  · exact box_step h hd hs (hrun _ _ run_box) rfl rfl rfl rfl hv
theorem sliceEs_ok (h : Rel C sl ks ρ β a w) {cond : Cond} (hc : condOk ρ cond) {lv : List Ty} (hl : lv.all Ty.isLeaf = true) : ∀ (parts : List (Nat × Operand)) (i : Nat) (es : List PE) (fz : Frz), sliceEs ⟨sl, ks⟩ cond lv i parts = some (es, fz) →
    ChunksOk w (fun b => imms C ks β w b ∨ ∃ κ k, (κ, k) ∈ fz ∧ β κ = some b) ρ lv es (parts.map fun p => (a.eval p.2).cells.toList) ∧ FrzRows ks fz ∧ ∀ (q : Nat) (p : Nat × Operand), parts[q]? = some p → p.1 = i + q
  | [], i, es, fz, hs => by
    simp only [sliceEs, Option.some.injEq, Prod.mk.injEq] at hs
    obtain ⟨rfl, rfl⟩ := hs
    exact ⟨trivial, by intro x hx; simp at hx, by simp⟩
  | p :: r, i, es, fz, hs => by
    simp only [sliceEs] at hs
    split at hs
    · simp at hs
    · rename_i hpi
      have hpi' : p.1 = i := by simpa using hpi
      simp only [Option.bind_eq_bind, Option.bind_eq_some_iff, Option.some.injEq, Prod.mk.injEq] at hs
      obtain ⟨⟨g, cs⟩, hcs, ⟨e, f⟩, he, ⟨es', g'⟩, hes, rfl, rfl⟩ := hs
      have hv := VOk.cells (opC_ok h hc hcs)
      have hr := asTs_ok h _ _ _ _ _ he hv
      obtain ⟨q1, q2, q3⟩ := sliceEs_ok h hc hl r (i + 1) es' g' hes
      have hlen := RepsOk.length hr
      refine ⟨⟨hlen.2, RepsOk.leaf hr, RepC.ext ?_ (fun _ _ _ => rfl) _ _ _ (RepsOk.tree hl hr), ChunksOk.ext ?_ (fun _ _ _ => rfl) _ _ q1⟩, ?_, ?_⟩
      · rintro b (hb | ⟨κ, k, hm, hb⟩)
        · exact .inl hb
        · exact .inr ⟨κ, k, by simp only [List.mem_append]; exact .inl hm, hb⟩
      · rintro b (hb | ⟨κ, k, hm, hb⟩)
        · exact .inl hb
        · exact .inr ⟨κ, k, by simp only [List.mem_append]; exact .inr hm, hb⟩
      · intro x hx
        rcases List.mem_append.1 hx with hx | hx
        · exact asTs_mem _ _ _ _ he x hx
        · exact q2 x hx
      · intro q p' hp'
        cases q with
        | zero => simp only [List.getElem?_cons_zero, Option.some.injEq] at hp'; subst hp'; simpa using hpi'
        | succ q => have := q3 q p' (by simpa using hp'); omega
theorem fill_all {place : Nat → Option (Nat × Nat)} {size : Nat} (hp : ∀ i, place i = some (i * size, size)) : ∀ (parts : List (Nat × Value)) (i : Nat) (cells : Array Value), (∀ (q : Nat) (p : Nat × Value), parts[q]? = some p → p.1 = i + q) →
    (∀ p ∈ parts, p.2.cells.size = size) → cells.size = (i + parts.length) * size →
    ∃ cells' : Array Value, Instr.fill place cells parts = some cells' ∧ cells'.toList = cells.toList.take (i * size) ++ (parts.map fun p => p.2.cells.toList).flatten
  | [], i, cells, _, _, hs => by
    refine ⟨cells, rfl, ?_⟩
    rw [List.take_of_length_le (by simp at hs ⊢; omega)]
    simp
  | p :: r, i, cells, hi, hz, hs => by
    have hpi : p.1 = i := by simpa using hi 0 p rfl
    have hle : (i + 1) * size ≤ cells.size := by rw [hs]; exact Nat.mul_le_mul_right _ (by simp)
    have hsz := hz p (by simp)
    obtain ⟨cells1, q1, q2⟩ := fill_cons (place := place) (cells := cells) (i := p.1) (v := p.2) (rest := r) (hp p.1) hsz (by rw [hpi, Nat.add_mul] at *; omega)
    have hl1 : cells1.size = cells.size := by
      have := congrArg List.length q2
      simp only [List.length_append, List.length_take, List.length_drop, Array.length_toList, hsz, hpi] at this
      rw [Nat.add_mul] at hle
      omega
    obtain ⟨cells', q3, q4⟩ := fill_all hp r (i + 1) cells1 (fun q p' hp' => by have := hi (q + 1) p' (by simpa using hp'); omega) (fun p hp => hz p (by simp [hp])) (by rw [hl1, hs]; congr 1; simp; omega)
    refine ⟨cells', by rw [q1, q3], ?_⟩
    rw [q4, q2, hpi]
    have e1 : (cells.toList.take (i * size) ++ p.2.cells.toList).length = (i + 1) * size := by
      simp only [List.length_append, List.length_take, Array.length_toList, hsz]
      rw [Nat.add_mul] at hle ⊢
      omega
    rw [List.take_left' e1]
    simp
theorem buildSlice_ok (hT : TabsOk E C) (h : Rel C sl ks ρ β a w) {o : Oper} (hd : DstOk C sl o.dst) {cond : Cond} (hc : condOk ρ cond) {t : TypeId} {len : Nat} {parts : Array (Nat × Operand)} {e : Eff} (ho : o.op = .buildSlice t len parts)
    (hs : stat E ⟨sl, ks⟩ cond o = some e) : Good C.P o a w (StepOk C sl ks ρ e) := by
  have hP := hT.P
  have hrun : ∀ r w', (Instr.buildSlice t len (parts.map fun (i, x) => (i, a.eval x))).run C.P w = .ok r w' → (execOp a.eval o).run C.P w = .ok (.value r) w' := by
    intro r w' hr
    unfold execOp
    rw [ho]
    exact run_v hr
  unfold stat at hs
  simp only [ho, Option.bind_eq_bind, Option.bind_eq_some_iff] at hs
  obtain ⟨dd, hdd, hs⟩ := hs
  split at hs
  · rename_i el
    simp only [Option.bind_eq_some_iff] at hs
    obtain ⟨lv, hlv, zz, hzz, hs⟩ := hs
    split at hs
    · simp at hs
    · rename_i hcond
      simp only [Bool.or_eq_true, bne_iff_ne, ne_eq, decide_eq_true_eq, not_or, Decidable.not_not, Nat.not_lt] at hcond
      obtain ⟨hpl, hbig⟩ := hcond
      simp only [Option.bind_eq_some_iff] at hs
      obtain ⟨⟨es, fz⟩, hes, hs⟩ := hs
      rw [← hP] at hdd hlv hzz
      obtain ⟨hsz, hleaf⟩ := lvs_size hlv
      obtain ⟨z, hz1, hz2⟩ := run_zero (w := w) hzz
      obtain ⟨q1, hf, q3⟩ := sliceEs_ok h hc hleaf _ _ _ _ hes
      obtain ⟨l1, l2, l3⟩ := ChunksOk.length _ _ q1
      let zero : Array Value := if len * lv.length = 0 then #[] else z.cells
      obtain ⟨cells, f1, f2⟩ := fill_all (place := fun i => some (i * lv.length, lv.length)) (size := lv.length) (fun i => rfl) (parts.map fun (i, x) => (i, a.eval x)).toList 0
        ((Array.range (len * lv.length)).map (zero[· % zero.size]!)) (fun q p hp => by
          simp only [Array.toList_map, List.getElem?_map, Option.map_eq_some_iff] at hp
          obtain ⟨p', hp', rfl⟩ := hp
          exact q3 q p' hp')
        (fun p hp => by
          simp only [Array.toList_map, List.mem_map] at hp
          obtain ⟨p', hp', rfl⟩ := hp
          have := l2 _ (List.mem_map.2 ⟨p', hp', rfl⟩)
          simpa using this) (by simp [hpl])
      simp only [Nat.zero_mul, List.take_zero, List.nil_append] at f2
      have hcells : cells.toList = (parts.toList.map fun p => (a.eval p.2).cells.toList).flatten := by
        rw [f2]; simp [Function.comp_def]
      have hlen : ((listE es).evL ρ (tree lv)).length = len := by
        rw [evL_listE, List.length_map, l1, List.length_map, Array.length_toList, hpl]
      have hsize : cells.size = len * lv.length := by
        rw [← Array.length_toList, hcells, List.length_flatten]
        have : (List.map List.length (parts.toList.map fun p => (a.eval p.2).cells.toList)) = List.replicate len lv.length := by
          apply List.eq_replicate_iff.2
          refine ⟨by simp [hpl], fun n hn => ?_⟩
          obtain ⟨c, hc, rfl⟩ := List.mem_map.1 hn
          exact l2 c hc
        rw [this]; simp
      refine MadeRow.step h hd hc hs hf (hrun (.slice (some ⟨w.heap.size, 0, none⟩) len len) { w with heap := w.heap.push (.cells cells el) } ?_) ⟨⟨cells, el, (0, 0), len, rfl, .inl rfl, by rw [hlen], by rw [hlen]; exact Nat.le_refl _, ?_, fun o v hv => ?_, fun i hi => ?_⟩, rfl, rfl, rfl⟩
      · simp only [Instr.buildSlice, Sem.run_bind, run_und hdd, Result.andThen_ok, run_size hsz]
        rw [if_neg (by omega)]
        by_cases h0 : len * lv.length = 0
        · simp only [zero, if_pos h0] at f1
          rw [if_pos h0]
          simp only [Sem.run_bind, Sem.run_pure, Result.andThen_ok, f1, run_newRow]
        · simp only [zero, if_neg h0] at f1
          rw [if_neg h0]
          simp only [Sem.run_bind, hz1, Sem.run_pure, Result.andThen_ok, f1, run_newRow]
      · rw [hsize, tree_n _ hleaf]; exact Nat.le_refl _
      · refine l3 v ?_
        rw [← hcells]
        have := Array.mem_of_getElem? hv
        simpa using this
      · have := ChunksOk.rows hleaf q1 i hi
        rw [← hcells] at this
        have := RepC.ext (frozen_imms h hf) (fun _ _ _ => rfl) _ _ _ this
        simpa using this
  · simp at hs
end
end Rk
set_option linter.unusedVariables false
set_option linter.unusedSimpArgs false
namespace Rk
open Go
section
variable {E : Env} {C : Ctx} {sl : Nat → Slot} {ks : Nat → Option KSh} {ρ : Rho} {β : Nat → Option Nat} {a : Act} {w : World}
structure Wrote1 (w w' : World) (b : Nat) (e : TypeId) (fz : Nat × Nat) (c' : Array Value) : Prop where
  here : w'.heap[b]? = some (.cells c' e fz)
  other : ∀ b', b' ≠ b → w'.heap[b']? = w.heap[b']?
  size : w'.heap.size = w.heap.size
  os : w'.os = w.os
  tape : w'.tape = w.tape
  output : w'.output = w.output
theorem leafV_one {v : Value} (h : leafV v) : v.oneCell' = true := by
  cases v <;> first | rfl | exact h.elim
theorem set_list {c : List Value} {k : Nat} {v : Value} {r : List Value} (h : k + (r.length + 1) ≤ c.length) :
    (c.set k v).take (k + 1) ++ r ++ (c.set k v).drop (k + 1 + r.length) = c.take k ++ (v :: r) ++ c.drop (k + (r.length + 1)) := by
  have hlt : k < c.length := by omega
  rw [List.set_eq_take_append_cons_drop, if_pos hlt]
  have e1 : (c.take k ++ [v]).length = k + 1 := by simp; omega
  have e2 : c.take k ++ v :: c.drop (k + 1) = (c.take k ++ [v]) ++ c.drop (k + 1) := by simp
  rw [e2, List.take_left' e1, List.drop_append, e1, List.drop_of_length_le (by omega), List.drop_drop]
  simp only [List.nil_append, List.append_assoc, List.cons_append]
  congr 4
  omega
theorem run_storeCells' {P : Program} {b o : Nat} {e : TypeId} {fz : Nat × Nat} : ∀ (vs : List Value) (i : Nat) (w : World) (c : Array Value), w.heap[b]? = some (.cells c e fz) → Unfz c fz → o + i + vs.length ≤ c.size → (∀ v ∈ vs, leafV v) →
    ∃ w' c', (storeCells ⟨b, o, none⟩ vs i).run P w = .ok () w' ∧ Wrote1 w w' b e fz c' ∧ c'.toList = c.toList.take (o + i) ++ vs ++ c.toList.drop (o + i + vs.length)
  | [], i, w, c, hc, hu, hl, hv => ⟨w, c, rfl, ⟨hc, fun _ _ => rfl, rfl, rfl, rfl, rfl⟩, by simp⟩
  | v :: r, i, w, c, hc, hu, hl, hv => by
    simp only [List.length_cons] at hl
    have hlt : o + i < c.size := by omega
    have hcell : w.cell? ⟨b, o + i, none⟩ = some c[o + i] := by simp [World.cell?, hc, hlt]
    have hfz : w.frozen? ⟨b, o + i, none⟩ = false := by
      simp only [World.frozen?, hc]
      rcases hu with hu | hu
      · simp only [Bool.and_eq_false_iff, decide_eq_false_iff_not]; omega
      · simp only [Bool.and_eq_false_iff, decide_eq_false_iff_not]; omega
    have hst : (store ((⟨b, o, none⟩ : Addr).add i) v).run P w = .ok () (w.setCell ⟨b, o + i, none⟩ v) := by
      rw [addr_add, run_store P w _ v _ (leafV_one (hv v (by simp))), hcell]
      simp [hfz]
    have hc1 : (w.setCell ⟨b, o + i, none⟩ v).heap[b]? = some (.cells (c.setIfInBounds (o + i) v) e fz) := by
      simp [World.setCell, Array.getElem?_modify, hc]
    have ho1 : ∀ b', b' ≠ b → (w.setCell ⟨b, o + i, none⟩ v).heap[b']? = w.heap[b']? := by
      intro b' hb
      simp only [World.setCell, Array.getElem?_modify]
      rw [if_neg (fun e => hb e.symm)]
    obtain ⟨w', c', q1, q2, q3⟩ := run_storeCells' (P := P) (o := o) r (i + 1) _ _ hc1 (by rcases hu with hu | hu; exact .inl hu; exact .inr (by simpa using hu)) (by simp; omega) (fun x hx => hv x (by simp [hx]))
    refine ⟨w', c', ?_, ⟨q2.here, fun b' hb => (q2.other b' hb).trans (ho1 b' hb), q2.size.trans (by simp), q2.os.trans rfl, q2.tape.trans (by simp), q2.output.trans rfl⟩, ?_⟩
    · simp only [storeCells, Sem.run_bind, hst, Result.andThen_ok, q1]
    · rw [q3]
      simp only [Array.toList_setIfInBounds, List.length_cons]
      rw [← Nat.add_assoc]
      exact set_list (by simp; omega)
theorem CellsOk.append {M : Mem} {mk : Nat → Loc} : ∀ (ss : List Sh) (j : Nat) (vs : List Value) (ss' : List Sh) (vs' : List Value), CellsOk M mk j ss vs → CellsOk M mk (j + ss.length) ss' vs' → CellsOk M mk j (ss ++ ss') (vs ++ vs')
  | [], j, [], _, _, _, h => h
  | s :: ss, j, v :: vs, ss', vs', h, h' => ⟨h.1, h.2.1, CellsOk.append ss (j + 1) vs ss' vs' h.2.2 (by simpa [Nat.add_assoc, Nat.add_comm 1] using h')⟩
  | [], _, _ :: _, _, _, h, _ => h.elim
  | _ :: _, _, [], _, _, h, _ => h.elim
theorem CellsOk.same {M M' : Mem} {mk : Nat → Loc} (hx : ∀ s v d, CellOk M s v d → CellOk M' s v d) : ∀ (ss : List Sh) (j : Nat) (vs : List Value), (∀ i, j ≤ i → i < j + ss.length → M'.ρ (mk i) = M.ρ (mk i)) → CellsOk M mk j ss vs → CellsOk M' mk j ss vs
  | [], j, [], _, _ => trivial
  | s :: ss, j, v :: vs, hρ, h => ⟨h.1, by rw [hρ j (Nat.le_refl _) (by simp)]; exact hx _ _ _ h.2.1, CellsOk.same hx ss (j + 1) vs (fun i h1 h2 => hρ i (by omega) (by simp; omega)) h.2.2⟩
  | [], _, _ :: _, _, h => h.elim
  | _ :: _, _, [], _, h => h.elim
theorem mem_setCs_lt {mk : Nat → Loc} : ∀ (j : Nat) (cs : List CE) (x : Loc × Ty × PE), x ∈ setCs mk j cs → ∃ i, j ≤ i ∧ i < j + cs.length ∧ x.1 = mk i
  | _, [], _, h => by simp [setCs] at h
  | j, c :: r, x, h => by
    simp only [setCs] at h
    split at h
    · rcases List.mem_cons.1 h with h | h
      · exact ⟨j, Nat.le_refl _, by simp, by rw [h]⟩
      · obtain ⟨i, h1, h2, h3⟩ := mem_setCs_lt (j + 1) r x h; exact ⟨i, by omega, by simp; omega, h3⟩
    · obtain ⟨i, h1, h2, h3⟩ := mem_setCs_lt (j + 1) r x h; exact ⟨i, by omega, by simp; omega, h3⟩
theorem Rel.write {κ b : Nat} {k k' : KSh} {ρ' : Rho} {w' : World} {el : TypeId} {fz : Nat × Nat} {c' : Array Value} (h : Rel C sl ks ρ β a w) (hk : ks κ = some k) (hp : k.priv = true) (hb : β κ = some b) (hw : Wrote1 w w' b el fz c')
    (hρ : ∀ l, (∀ j, l ≠ .k κ j) → ρ' l = ρ l)
    (hkc : KC (memOf C ks β ρ w) (memOf C (fun x => if x = κ then some k' else ks x) β ρ' w') κ)
    (hp' : k'.priv = true)
    (hkey : (∀ s v d, CellOk (memOf C ks β ρ w) s v d → CellOk (memOf C (fun x => if x = κ then some k' else ks x) β ρ' w') s v d) →
      (∀ b', imms C ks β w b' → imms C (fun x => if x = κ then some k' else ks x) β w' b') → (∀ b', imms C ks β w b' → ∀ o, cellAt w' b' o = cellAt w b' o) → KeyOk (memOf C (fun x => if x = κ then some k' else ks x) β ρ' w') κ k') :
    Rel C sl (fun x => if x = κ then some k' else ks x) ρ' β a w' := by
  have hpk : Priv ks κ := ⟨k, hk, hp⟩
  have hpr : ∀ κ', Priv (fun x => if x = κ then some k' else ks x) κ' → Priv ks κ' := by
    intro κ' hp'
    by_cases hκ : κ' = κ
    · rw [hκ]; exact hpk
    · obtain ⟨k2, h1, h2⟩ := hp'
      simp only [hκ, if_false] at h1
      exact ⟨k2, h1, h2⟩
  have hI : ∀ b', imms C ks β w b' → imms C (fun x => if x = κ then some k' else ks x) β w' b' := by
    rintro b' ⟨g1, g2, g3⟩
    exact ⟨g1, by rw [hw.size]; exact g2, fun κ' hp => g3 κ' (hpr κ' hp)⟩
  have hne : ∀ b', imms C ks β w b' → b' ≠ b := fun b' hb' e => hb'.2.2 κ hpk (by rw [e]; exact hb)
  have hWI : ∀ b', imms C ks β w b' → ∀ o, cellAt w' b' o = cellAt w b' o := fun b' hb' o => cellAt_congr (hw.other b' (hne b' hb')) o
  have hKC : ∀ κ', KC (memOf C ks β ρ w) (memOf C (fun x => if x = κ then some k' else ks x) β ρ' w') κ' := by
    intro κ'
    by_cases hκ : κ' = κ
    · rw [hκ]; exact hkc
    · by_cases hg : ks κ' = some .gone
      · left
        simp [memOf, hκ, hg]
      · refine KC.same (fun k hk' => h.keys κ' k hk') (by simp [hκ]) rfl (fun j => hρ _ (by intro i; simp [hκ])) (fun b2 hb2 hs => ?_)
        refine hw.other b2 (fun e => ?_)
        subst e
        cases hm : ks κ' with
        | none => simp [hm] at hs
        | some k2 =>
          cases hk2 : k2.priv with
          | true => exact hκ (h.inj κ' κ b2 ⟨k2, hm, hk2⟩ hpk hb2 hb)
          | false =>
            cases k2 with
            | imm t =>
              have hok := h.keys κ' _ hm
              simp only [KeyOk, memOf, hb2] at hok
              exact hne b2 hok.1 rfl
            | gone => exact hg hm
            | row t => simp [KSh.priv] at hk2
            | arr t n => simp [KSh.priv] at hk2
            | box cs => simp [KSh.priv] at hk2
  refine h.upd (fun x => x = κ) (fun _ => False) (fun κ' hκ => ⟨by simp [hκ], rfl, fun j => hρ _ (by intro i; simp [hκ])⟩) (fun i _ => ⟨rfl, fun j => hρ _ (by simp), rfl⟩) (fun i _ x _ => id)
    (fun κ' _ => hKC κ') (fun b' hb' hK => hw.other b' (fun e => hK κ rfl hpk (by rw [e]; exact hb))) (by rw [hw.size]; exact Nat.le_refl _) hw.os hw.tape hw.output
    (fun κ' b' hκ _ hb' => .inr ⟨κ, rfl, hpk, by rw [hκ] at hb'; exact hb'⟩) (fun κ1 κ2 b' h1 h2 _ _ _ _ => by rw [h1, h2]) (fun κ' k2 hκ hk2 => ?_) (fun i hi => hi.elim) rfl rfl (fun g => hρ _ (by simp)) (fun _ _ _ => rfl)
  subst hκ
  simp only [if_true, Option.some.injEq] at hk2
  subst hk2
  exact hkey (fun s v d hc => CellOk.ext (M := memOf C ks β ρ w) (M' := memOf C (fun x => if x = κ' then some k' else ks x) β ρ' w') hI hWI (fun κ2 _ => hKC κ2) hc) hI hWI
theorem run_storeVar {P : Program} {t : TypeId} {n : Nat} (hn : sizeT P t = some n) {v : Value} (hv : v.cells.size = n) {b o : Nat} {r : World} (h : (storeCells ⟨b, o, none⟩ v.cells.toList).run P w = .ok () r) :
    (storeVar t ⟨b, o, none⟩ v).run P w = .ok () r := by
  unfold storeVar
  simp only [Sem.run_bind, run_size hn, Result.andThen_ok]
  rw [if_neg (by omega)]
  exact h
theorem put_none (a : Act) (v : Value) : a.put none v = a := rfl
theorem storeBox_ok (hT : TabsOk E C) (h : Rel C sl ks ρ β a w) {o : Oper} {cond : Cond} (hc : condOk ρ cond) (hdn : o.dst = none) {t : TypeId} {x y : Operand} {κ j n : Nat} {p : PE} {cs : List Sh} {g : Bool} {xs : List CE}
    (ho : o.op = .store t x y) (hx : op1 ⟨sl, ks⟩ cond x = some (.ptr κ j, p)) (hy : opC ⟨sl, ks⟩ cond y = some (g, xs)) (hk : ks κ = some (.box cs)) (hn : sizeT E.P t = some n) (hl : xs.length = n) (hj : j + n ≤ cs.length) :
    Good C.P o a w (StepOk C sl ks ρ { ks := [(κ, .box (cs.take j ++ xs.map (·.1) ++ cs.drop (j + n)))], sets := setCs (.k κ) j xs }) := by
  rw [← hT.P] at hn
  have hv := op1_ok h hc hx
  have hz := VOk.cells (opC_ok h hc hy)
  have hcell := hv.2
  simp only [CellOk, memOf, hk] at hcell
  obtain ⟨b, hb, hvb⟩ := hcell
  obtain ⟨b', c, h0, ⟨el, fz, h1, hu⟩, h2⟩ := h.keys κ _ hk
  simp only [memOf] at h0 h1
  rw [hb] at h0; simp only [Option.some.injEq] at h0; subst h0
  have hlen := h2.length
  simp only [Array.length_toList] at hlen
  have hzl := CEsOk.length _ _ hz
  simp only [Array.length_toList] at hzl
  obtain ⟨w', c', q1, q2, q3⟩ := run_storeCells' (P := C.P) (b := b) (o := j) (a.eval y).cells.toList 0 w c h1 hu (by simp; omega) (CEsOk.leafs _ _ hz)
  refine Good.skip (w' := w') ?_ ⟨β, ?_⟩
  · unfold execOp
    rw [ho]
    have : (Instr.storeAt t (a.eval x) (a.eval y)).run C.P w = .ok () w' := by
      rw [hvb]
      simp only [Instr.storeAt, Instr.sureAddr, Sem.run_bind, Sem.run_pure, Result.andThen_ok]
      exact run_storeVar hn (by omega) q1
    simp only [Sem.run_bind, this, Result.andThen_ok, Sem.run_pure]
  · rw [hdn, put_none]
    have hρ : ∀ l, (∀ i, j ≤ i → i < j + xs.length → l ≠ .k κ i) → updS ρ (evs ρ (setCs (.k κ) j xs)) l = ρ l := by
      intro l hl
      refine updS_not _ (fun y hy e => ?_)
      obtain ⟨z, g1, g2⟩ := mem_evs hy
      obtain ⟨i, g3, g4, g5⟩ := mem_setCs_lt _ _ _ g1
      exact hl i g3 g4 (by rw [← e, g2, g5])
    refine Rel.write (k' := .box (cs.take j ++ xs.map (·.1) ++ cs.drop (j + n))) h hk rfl hb q2 (fun l hl => hρ l (fun i _ _ => hl i)) (.inr ?_) rfl (fun hx _ _ => ?_)
    · simp only [memOf, hk, if_true]
      exact ⟨⟨_, rfl⟩, trivial⟩
    · refine ⟨b, c', hb, ⟨el, fz, q2.here, ?_⟩, ?_⟩
      · have : c'.size = c.size := by
          have := congrArg List.length q3
          simp only [List.length_append, List.length_take, List.length_drop, Array.length_toList] at this
          omega
        rcases hu with hu | hu
        · exact .inl hu
        · exact .inr (by rw [this]; exact hu)
      · rw [q3, Nat.add_zero]
        have e1 : (a.eval y).cells.toList.length = n := by simp; omega
        rw [e1]
        have t1 := CellsOk.take j _ _ _ h2
        have t2 := CellsOk.drop (j + n) _ _ _ h2
        have lt1 : (cs.take j).length = j := by simp; omega
        refine CellsOk.append _ _ _ _ _ (CellsOk.append _ _ _ _ _ (CellsOk.same hx _ _ _ (fun i _ h2 => ?_) t1) ?_) (CellsOk.same hx _ _ _ (fun i h1 _ => ?_) (by
          simp only [List.length_append, lt1, List.length_map, hl]; exact t2))
        · simp only [memOf]
          refine hρ _ (fun i' h3 _ => ?_)
          rw [lt1] at h2
          simp; omega
        · rw [lt1, Nat.zero_add]
          refine CellsOk.of_wrote (M := memOf C ks β ρ w) j xs _ ?_ (fun c _ v d hc => hx _ _ _ hc) hz
          have := wrote_setCs (ρ := ρ) (ρ0 := ρ) (locK_inj κ) xs j []
          simpa [memOf] using this
        · simp only [memOf]
          refine hρ _ (fun i' _ h3 => ?_)
          simp only [List.length_append, lt1, List.length_map, hl] at h1
          simp; omega
end
end Rk
set_option linter.unusedVariables false
set_option linter.unusedSimpArgs false
namespace Rk
open Go
section
variable {E : Env} {C : Ctx} {sl : Nat → Slot} {ks : Nat → Option KSh} {ρ : Rho} {β : Nat → Option Nat} {a : Act} {w : World}
theorem RepC.cell {I : Nat → Prop} {lv : List Ty} (hl : lv.all Ty.isLeaf = true) {f : Nat → Option Value} {x : (tree lv).D} (h : RepC w I (tree lv) f x) {j : Nat} (hj : j < lv.length) :
    ∃ v, f j = some v ∧ leafV v := by
  have key : ∀ (l : List Ty) (f : Nat → Option Value) (x : (tree l).D), l.all Ty.isLeaf = true → RepC w I (tree l) f x → ∀ j, j < l.length → ∃ v, f j = some v ∧ leafV v := by
    intro l
    induction l with
    | nil => intro f x _ _ j hj; simp at hj
    | cons t r ih =>
      intro f x hl h j hj
      cases r with
      | nil =>
        have : j = 0 := by simp at hj; exact hj
        subst this
        obtain ⟨v, h1, h2, _⟩ := RepC.leaf (t := t) (by simpa using hl) h
        exact ⟨v, h1, h2⟩
      | cons t2 r =>
        simp only [List.all_cons, Bool.and_eq_true] at hl
        cases j with
        | zero =>
          obtain ⟨v, h1, h2, _⟩ := RepC.leaf (t := t) hl.1 h.1
          exact ⟨v, h1, h2⟩
        | succ j =>
          obtain ⟨v, h1, h2⟩ := ih (fun j => f (t.n + j)) _ (by simp only [List.all_cons, Bool.and_eq_true]; exact hl.2) h.2 j (by simp at hj ⊢; omega)
          rw [isLeaf_n hl.1, Nat.add_comm] at h1
          exact ⟨v, h1, h2⟩
  exact key lv f x hl h j hj
structure Cells (w : World) (I : Nat → Prop) (u : Ty) (xs : List u.D) (news : List Value) : Prop where
  len : news.length = xs.length * u.n
  leaf : ∀ v ∈ news, leafV v
  rep : ∀ i (h : i < xs.length), RepC w I u (fun j => news[i * u.n + j]?) (xs.get ⟨i, h⟩)
theorem cells_of {I : Nat → Prop} {lv : List Ty} (hl : lv.all Ty.isLeaf = true) {xs : List (tree lv).D} {g : Nat → Option Value}
    (h : ∀ i (hi : i < xs.length), RepC w I (tree lv) (fun j => g (i * (tree lv).n + j)) (xs.get ⟨i, hi⟩)) :
    Cells w I (tree lv) xs ((List.range (xs.length * (tree lv).n)).map fun q => (g q).getD undef) ∧ ∀ q, q < xs.length * (tree lv).n → g q = some ((g q).getD undef) := by
  have hn : (tree lv).n = lv.length := tree_n _ hl
  have hcell : ∀ q, q < xs.length * (tree lv).n → ∃ v, g q = some v ∧ leafV v := by
    intro q hq
    have h0 : 0 < (tree lv).n := by rcases Nat.eq_zero_or_pos (tree lv).n with h0 | h0; rw [h0] at hq; omega; exact h0
    have hi : q / (tree lv).n < xs.length := (Nat.div_lt_iff_lt_mul h0).2 hq
    have hj : q % (tree lv).n < lv.length := by rw [← hn]; exact Nat.mod_lt _ h0
    obtain ⟨v, h1, h2⟩ := RepC.cell hl (h _ hi) hj
    refine ⟨v, ?_, h2⟩
    have : q / (tree lv).n * (tree lv).n + q % (tree lv).n = q := by rw [Nat.mul_comm]; exact Nat.div_add_mod q _
    rw [← this]; exact h1
  refine ⟨⟨by simp, fun v hv => ?_, fun i hi => ?_⟩, fun q hq => ?_⟩
  · obtain ⟨q, hq, rfl⟩ := List.mem_map.1 hv
    obtain ⟨v, h1, h2⟩ := hcell q (by simpa using hq)
    rw [h1]; exact h2
  · refine RepC.congr _ (fun j => g (i * (tree lv).n + j)) _ _ (fun j hj => ?_) (h i hi)
    have hq : i * (tree lv).n + j < xs.length * (tree lv).n := by
      have := Nat.mul_le_mul_right (tree lv).n (show i + 1 ≤ xs.length from hi)
      rw [Nat.add_mul] at this
      omega
    obtain ⟨v, h1, _⟩ := hcell _ hq
    simp [hq, h1]
  · obtain ⟨v, h1, _⟩ := hcell q hq
    rw [h1]; rfl
structure SrcOk (P : Program) (w : World) (I : Nat → Prop) (u : Ty) (size : Nat) (v : Value) (xs : List u.D) (news : List Value) : Prop where
  len : ∀ w1, (Builtin.lenOf v).run P w1 = .ok xs.length w1
  read : ∀ w1 : World, w1.heap = w.heap → (Builtin.firstCells size xs.length v).run P w1 = .ok news.toArray w1
  cells : Cells w I u xs news
theorem src_list {P : Program} {I : Nat → Prop} {J : Nat → Nat → Prop} {lv : List Ty} (hl : lv.all Ty.isLeaf = true) {v : Value} {xs : List (tree lv).D} (h : ListAt w I (tree lv) v xs J) :
    ∃ news, SrcOk P w I (tree lv) lv.length v xs news := by
  have hn : (tree lv).n = lv.length := tree_n _ hl
  obtain ⟨base, cap, h1, h2, h3⟩ := h
  subst h1
  rcases h3 with h3 | ⟨b, off, q1, q2, q3⟩
  · refine ⟨[], fun w1 => rfl, fun w1 hw => ?_, ⟨by simp [h3], by simp, fun i hi => absurd hi (by omega)⟩⟩
    rw [h3]
    cases base with
    | none => rfl
    | some ad => simp [Builtin.firstCells, loadCells, loadCellsFrom]
  · subst q1
    obtain ⟨c1, c2⟩ := cells_of hl (g := fun q => cellAt w b (off + q)) (fun i hi => by
      have := q3 i hi
      have e : (fun j => cellAt w b (off + (i * (tree lv).n + j))) = (fun j => cellAt w b (off + i * (tree lv).n + j)) := funext fun j => by rw [Nat.add_assoc]
      rw [e]; exact this)
    refine ⟨_, fun w1 => rfl, fun w1 hw => ?_, c1⟩
    simp only [Builtin.firstCells]
    rw [hn] at c2 ⊢
    refine run_loadCells w1 ⟨b, off, none⟩ (xs.length * lv.length) _ (fun j hj => ?_)
    have := c2 j hj
    rw [addr_add]
    simp only [cellAt, World.cell?] at this ⊢
    rw [hw]
    exact this
theorem src_str {P : Program} {I : Nat → Prop} (s : ByteArray) : SrcOk P w I (.int .u8) 1 (.string s) s.data.toList (s.data.toList.map fun b => Value.int .u8 b.toNat) := by
  refine ⟨fun w1 => ?_, fun w1 hw => ?_, ⟨by rw [List.length_map]; exact (Nat.mul_one _).symm, fun v hv => ?_, fun i hi => ?_⟩⟩
  · show (Builtin.lenOf (Value.string s)).run P w1 = .ok (List.length (α := UInt8) s.data.toList) w1
    rw [size_data]; rfl
  · show (Builtin.firstCells 1 (List.length (α := UInt8) s.data.toList) (Value.string s)).run P w1 = _
    rw [size_data]
    simp only [Builtin.firstCells, Sem.run_pure]
    congr 1
    apply Array.ext'
    have : (s.extract 0 s.size) = s := by simp
    rw [this]
    simp
  · obtain ⟨b, _, rfl⟩ := List.mem_map.1 hv; trivial
  · have hi' : i < s.data.toList.length := hi
    show _ = _
    simp only [Ty.n, Nat.mul_one, Nat.add_zero, List.getElem?_map, List.getElem?_eq_getElem hi', Option.map_some]
    rfl
theorem appSrc_ok {P : Program} (h : Rel C sl ks ρ β a w) {lv : List Ty} (hl : lv.all Ty.isLeaf = true) {z : CE} {v : Value} (hv : CEOk (memOf C ks β ρ w) z v) {r : PE} (hr : appSrc ⟨sl, ks⟩ (tree lv) z = some r) :
    ∃ news, SrcOk P w (imms C ks β w) (tree lv) lv.length v (r.evL ρ (tree lv)) news := by
  unfold appSrc at hr
  split at hr
  · rename_i e
    split at hr
    · rename_i hu
      have hu' : tree lv = .int .u8 := by simpa using hu
      simp only [Option.some.injEq] at hr
      subst hr
      obtain ⟨s, hs1, hs2⟩ := CEOk.strV hv
      have hln : lv.length = 1 := by rw [← tree_n _ hl, hu']; rfl
      have := src_str (P := P) (w := w) (I := imms C ks β w) s
      rw [hs2] at this
      rw [hs1, hln, hu']
      exact ⟨_, this⟩
    · simp at hr
  · simp only [Option.some.injEq] at hr
    subst hr
    have hx : v = .slice none 0 0 := hv.2
    refine ⟨[], fun w1 => by rw [hx]; rfl, fun w1 hw => by rw [hx]; rfl, ⟨by show 0 = 0 * _; simp, by simp, fun i hi => absurd hi (by show ¬ i < 0; omega)⟩⟩
  · simp only [Option.bind_eq_bind, Option.bind_eq_some_iff] at hr
    obtain ⟨⟨u, r'⟩, h1, h2⟩ := hr
    split at h2
    · rename_i hu
      simp only [Option.some.injEq] at h2
      subst h2
      have hu' : u = tree lv := by simpa using hu
      subst hu'
      exact src_list hl (readL_ok h hv h1)
    · simp at h2
section
variable {P : Program} {t t2 el : TypeId} {d2 : TypeDesc} {size bytes len cap m : Nat} {base : Option Addr} {x : Value} {ty : TypeId} {u : Ty} {I : Nat → Prop} {xs : List u.D} {news : List Value} {ts : List TypeId}
set_option maxHeartbeats 1000000 in
theorem run_append_in (ht : P.underlying t = some (.slice el)) (hs : sizeT P el = some size) (ht2 : P.underlying t2 = some d2) (hd2 : isIntD d2 = false) (hx : SrcOk P w I u size x xs news)
    (hroom : len + xs.length ≤ cap) {w' : World} (hst : ∀ ad, base = some ad → (storeCells (ad.add (len * size)) news).run P w = .ok () w') (hn : base = none → w' = w) :
    (Builtin.append_ (t :: t2 :: ts).toArray ty #[.slice base len cap, x]).run P w = .ok (.slice base (len + xs.length) cap) w' := by
  have hl := hx.len w
  have hr := hx.read w rfl
  cases base with
  | none =>
    have hn := hn rfl
    subst hn
    cases d2 <;> first
      | (simp [isIntD] at hd2; done)
      | simp [Builtin.append_, run_und ht, run_size hs, run_und ht2, hl, hr, hroom]
  | some ad =>
    have hst := hst ad rfl
    cases d2 <;> first
      | (simp [isIntD] at hd2; done)
      | simp [Builtin.append_, run_und ht, run_size hs, run_und ht2, hl, hr, hroom, hst]
set_option maxHeartbeats 1000000 in
theorem run_append_new {i : TypeInfo} {z : Value} {olds : List Value} (ht : P.underlying t = some (.slice el)) (hi : P.info? el = some i) (hz : i.zero = some z) (ht2 : P.underlying t2 = some d2) (hd2 : isIntD d2 = false) (hx : SrcOk P w I u i.size x xs news)
    (ho : ∀ w1 : World, w1.heap = w.heap → (Builtin.firstCells i.size len (.slice base len cap)).run P w1 = .ok olds.toArray w1)
    (hroom : cap < len + xs.length) (h63 : len + xs.length ≤ 9223372036854775807) (hfit : Builtin.nextslicecap (len + xs.length) cap * i.bytes ≤ 281474976710656) :
    (Builtin.append_ (t :: t2 :: ts).toArray ty #[.slice base len cap, x]).run P w =
      .ok (.slice (some ⟨w.heap.size, 0, none⟩) (len + xs.length) (grownCap w (len + xs.length) cap el))
        (w.drew.alloc (.cells (olds.toArray ++ news.toArray ++ Builtin.zeroCells z.cells (grownCap w (len + xs.length) cap el - (len + xs.length))) el)) := by
  have hl := hx.len w
  have hr := hx.read w.drew rfl
  have ho := ho w.drew rfl
  have hn : ¬ (len + xs.length ≤ cap) := by omega
  have h63' : ¬ (9223372036854775807 < ((len : Int) + (xs.length : Int))) := by omega
  have h48' : ¬ (281474976710656 < Builtin.nextslicecap (len + xs.length) cap * i.bytes) := by omega
  cases d2 <;> first
    | (simp [isIntD] at hd2; done)
    | (simp [Builtin.append_, run_und ht, Go.sizeOf, typeInfo, zeroValue, hi, hz, run_und ht2, hl, hr, ho, hn, h63', h48', Question.forced, newRow, grownCap]
       congr 2
       apply Array.ext'
       simp)
end
theorem Cells.append {I : Nat → Prop} {u : Ty} {xs ys : List u.D} {as bs : List Value} (h1 : Cells w I u xs as) (h2 : Cells w I u ys bs) : Cells w I u (xs ++ ys) (as ++ bs) := by
  refine ⟨by rw [List.length_append, List.length_append, h1.len, h2.len, Nat.add_mul], fun v hv => ?_, fun i hi => ?_⟩
  · rcases List.mem_append.1 hv with hv | hv
    · exact h1.leaf v hv
    · exact h2.leaf v hv
  · by_cases hlt : i < xs.length
    · have e : (xs ++ ys).get ⟨i, hi⟩ = xs.get ⟨i, hlt⟩ := by simp [List.getElem_append, hlt]
      rw [e]
      refine RepC.congr u (fun j => as[i * u.n + j]?) _ _ (fun j hj => ?_) (h1.rep i hlt)
      rw [List.getElem?_append_left]
      rw [h1.len]
      have := Nat.mul_le_mul_right u.n (show i + 1 ≤ xs.length from hlt)
      rw [Nat.add_mul] at this
      omega
    · have hi2 : i - xs.length < ys.length := by simp at hi; omega
      have e : (xs ++ ys).get ⟨i, hi⟩ = ys.get ⟨i - xs.length, hi2⟩ := by simp [List.getElem_append, hlt]
      rw [e]
      have e2 : (fun j => (as ++ bs)[i * u.n + j]?) = (fun j => bs[(i - xs.length) * u.n + j]?) := funext fun j => by
        have hm : i * u.n = xs.length * u.n + (i - xs.length) * u.n := by rw [← Nat.add_mul]; congr 1; omega
        rw [List.getElem?_append_right (by rw [h1.len]; omega), h1.len]
        congr 1
        omega
      rw [e2]
      exact h2.rep _ hi2
theorem Cells.nil {I : Nat → Prop} {u : Ty} : Cells w I u [] [] := ⟨by simp, by simp, fun i hi => absurd hi (by simp)⟩
theorem Cells.prefix_rows {I : Nat → Prop} {u : Ty} {xs : List u.D} {as : List Value} (h : Cells w I u xs as) {cells : Array Value} {rest : List Value} (hc : cells.toList = as ++ rest) :
    ∀ i (hi : i < xs.length), RepC w I u (fun j => cells[i * u.n + j]?) (xs.get ⟨i, hi⟩) := by
  intro i hi
  refine RepC.congr u (fun j => as[i * u.n + j]?) _ _ (fun j hj => ?_) (h.rep i hi)
  rw [← Array.getElem?_toList, hc, List.getElem?_append_left]
  rw [h.len]
  have := Nat.mul_le_mul_right u.n (show i + 1 ≤ xs.length from hi)
  rw [Nat.add_mul] at this
  omega
theorem zeroCells_leaf {z : Array Value} (hz : ∀ v ∈ z.toList, leafV v) (n : Nat) : ∀ v ∈ (Builtin.zeroCells z n).toList, leafV v := by
  intro v hv
  simp only [Builtin.zeroCells, Array.toList_map, List.mem_map, Array.toList_range, List.mem_range] at hv
  obtain ⟨q, hq, rfl⟩ := hv
  have h0 : 0 < z.size := by rcases Nat.eq_zero_or_pos z.size with h0 | h0; rw [h0] at hq; omega; exact h0
  have hlt : q % z.size < z.size := Nat.mod_lt _ h0
  rw [getElem!_pos z (q % z.size) hlt]
  exact hz _ (by simp)
theorem size_zero (z : Array Value) (n : Nat) : (Builtin.zeroCells z n).size = n * z.size := by simp [Builtin.zeroCells]
theorem cap_ge (w : World) (need old : Nat) (e : TypeId) : need ≤ grownCap w need old e := by
  simp [grownCap, Question.cut]
theorem app_made {I : Nat → Prop} {lv : List Ty} (hl : lv.all Ty.isLeaf = true) {xs : List (tree lv).D} {as : List Value} (h : Cells w I (tree lv) xs as) {z : Array Value} (hzl : ∀ v ∈ z.toList, leafV v) (hzs : z.size = lv.length) {olds news : List Value} (has : as = olds ++ news)
    {cap : Nat} (hcap : xs.length ≤ cap) {fz : Frz} (hI : ∀ b, I b → imms C (putKs ks fz) β w b) {el : TypeId} :
    MadeRow C ks β w (w.drew.alloc (.cells (olds.toArray ++ news.toArray ++ Builtin.zeroCells z (cap - xs.length)) el)) fz (tree lv) xs (.slice (some ⟨w.heap.size, 0, none⟩) xs.length cap) := by
  have hn : (tree lv).n = lv.length := tree_n _ hl
  have ht : (olds.toArray ++ news.toArray ++ Builtin.zeroCells z (cap - xs.length)).toList = as ++ (Builtin.zeroCells z (cap - xs.length)).toList := by
    rw [has]; simp
  refine ⟨⟨_, el, (0, 0), cap, rfl, .inl rfl, rfl, hcap, ?_, fun o v hv => ?_, fun i hi => ?_⟩, rfl, rfl, rfl⟩
  · have h1 : (olds.toArray ++ news.toArray ++ Builtin.zeroCells z (cap - xs.length)).size = as.length + (Builtin.zeroCells z (cap - xs.length)).size := by
      rw [has]; simp
    rw [h1, size_zero, hzs, h.len, hn, ← Nat.add_mul]
    have : xs.length + (cap - xs.length) = cap := by omega
    rw [this]; exact Nat.le_refl _
  · have hv' := Array.mem_of_getElem? hv
    have hm : v ∈ as ++ (Builtin.zeroCells z (cap - xs.length)).toList := by
      rw [← ht]; simpa [or_assoc] using hv'
    rcases List.mem_append.1 hm with hm | hm
    · exact h.leaf v hm
    · exact zeroCells_leaf hzl _ v hm
  · exact RepC.ext hI (fun _ _ _ => rfl) _ _ _ (Cells.prefix_rows h ht i hi)
theorem Rel.gone1 (h : Rel C sl ks ρ β a w) {κ : Nat} : Rel C sl (fun x => if x = κ then some .gone else ks x) ρ β a w ∧ ∀ b, imms C ks β w b → imms C (fun x => if x = κ then some .gone else ks x) β w b := by
  have hsub : ∀ κ', Priv (fun x => if x = κ then some .gone else ks x) κ' → κ' ≠ κ ∧ Priv ks κ' := by
    intro κ' hp
    obtain ⟨k, h1, h2⟩ := hp
    by_cases hκ : κ' = κ
    · simp only [hκ, if_true, Option.some.injEq] at h1
      subst h1
      simp [KSh.priv] at h2
    · simp only [hκ, if_false] at h1
      exact ⟨hκ, k, h1, h2⟩
  refine ⟨?_, fun b ⟨g1, g2, g3⟩ => ⟨g1, g2, fun κ' hp => g3 κ' (hsub κ' hp).2⟩⟩
  refine h.upd (fun x => x = κ) (fun _ => False) (fun κ' hκ => ⟨by simp [hκ], rfl, fun _ => rfl⟩) (fun i _ => ⟨rfl, fun _ => rfl, rfl⟩) (fun i _ x _ => id)
    (fun κ' hκ => by subst hκ; left; simp [memOf]) (fun b _ _ => rfl) (Nat.le_refl _) rfl rfl rfl (fun κ' b hκ hp => by subst hκ; exact absurd rfl (hsub _ hp).1)
    (fun κ1 κ2 b h1 h2 _ _ _ _ => by rw [h1, h2]) (fun κ' k hκ hk' => ?_) (fun i hi => hi.elim) rfl rfl (fun g => rfl) (fun _ _ _ => rfl)
  subst hκ
  simp only [if_true, Option.some.injEq] at hk'
  subst hk'
  trivial
theorem Rel.moved {κ d b : Nat} {u : Ty} {ρ' : Rho} {w' : World} {el : TypeId} {fz : Nat × Nat} {c' : Array Value} {s : Slot} {v : Value} (h : Rel C sl ks ρ β a w) (hk : ks κ = some (.row u)) (hb : β κ = some b) (hkd : ks d = none) (hd : d < C.nt) (hcd : ∀ i, ∀ y ∈ (sl i).cond, y.1 ≠ d)
    (hw : Wrote1 w w' b el fz c') (hu : Unfz c' fz) (hρ : ∀ l, (∀ j, l ≠ .k d j) → ρ' l = ρ l)
    (hrows : RowsIn (memOf C ks β ρ w) u c' (content ρ' d u))
    (hslot : SlotOk (memOf C (putKs ks [(κ, .gone), (d, .row u)]) (fun x => if x = d then some b else β x) ρ' w') d s v) :
    Rel C (putSl sl [(d, s)]) (putKs ks [(κ, .gone), (d, .row u)]) ρ' (fun x => if x = d then some b else β x) (a.put (some d) v) w' := by
  have hpk : Priv ks κ := ⟨_, hk, rfl⟩
  have hdk : d ≠ κ := fun e => by rw [e, hk] at hkd; simp at hkd
  have hsub : ∀ κ', Priv (putKs ks [(κ, .gone), (d, .row u)]) κ' → κ' = d ∨ (κ' ≠ κ ∧ κ' ≠ d ∧ Priv ks κ') := by
    intro κ' hp
    obtain ⟨k, h1, h2⟩ := hp
    simp only [putKs] at h1
    by_cases hd' : κ' = d
    · exact .inl hd'
    · right
      simp only [hd', if_false] at h1
      by_cases hκ : κ' = κ
      · simp only [hκ, if_true, Option.some.injEq] at h1
        subst h1
        simp [KSh.priv] at h2
      · simp only [hκ, if_false] at h1
        exact ⟨hκ, hd', k, h1, h2⟩
  have hne : ∀ b', imms C ks β w b' → b' ≠ b := fun b' hb' e => hb'.2.2 κ hpk (by rw [e]; exact hb)
  have hI : ∀ b', imms C ks β w b' → imms C (putKs ks [(κ, .gone), (d, .row u)]) (fun x => if x = d then some b else β x) w' b' := by
    rintro b' hb'
    obtain ⟨g1, g2, g3⟩ := hb'
    refine ⟨g1, by rw [hw.size]; exact g2, fun κ' hp hbb => ?_⟩
    rcases hsub κ' hp with q | ⟨q1, q2, q3⟩
    · simp only [q, if_true, Option.some.injEq] at hbb
      exact hne b' ⟨g1, g2, g3⟩ hbb.symm
    · simp only [q2, if_false] at hbb
      exact g3 κ' q3 hbb
  have hWI : ∀ b', imms C ks β w b' → ∀ o, cellAt w' b' o = cellAt w b' o := fun b' hb' o => cellAt_congr (hw.other b' (hne b' hb')) o
  refine h.upd (fun x => x = κ ∨ x = d) (fun i => i = d) (fun κ' hκ => ?_) (fun i hi => ⟨by simp [putSl, hi], fun j => hρ _ (by simp), put_other a d v i hi⟩) (fun i _ y hy => hcd i y hy)
    (fun κ' hκ => ?_) (fun b' hb' hK => hw.other b' (fun e => hK κ (.inl rfl) hpk (by rw [e]; exact hb))) (by rw [hw.size]; exact Nat.le_refl _) hw.os hw.tape hw.output
    (fun κ' b' hκ hp hb' => ?_) (fun κ1 κ2 b' h1 h2 p1 p2 _ _ => ?_) (fun κ' k2 hκ hk2 => ?_) (fun i hi => ?_) (put_size _ _ _) (put_defers _ _ _) (fun g => hρ _ (by simp)) (fun κ2 hκ2 _ => by
      have h1 := (C.hrt κ2 hκ2).1
      have h2 : κ2 ≠ d := by omega
      simp [h2])
  · have h1 : κ' ≠ κ := fun e => hκ (.inl e)
    have h2 : κ' ≠ d := fun e => hκ (.inr e)
    exact ⟨by simp [putKs, h1, h2], by simp [h2], fun j => hρ _ (by intro i; simp [h2])⟩
  · rcases hκ with rfl | rfl
    · left
      have h2 : κ' ≠ d := fun e => hdk e.symm
      simp [memOf, putKs, h2]
    · right
      simp only [memOf, hkd]
  · rcases hsub κ' hp with q | ⟨q1, q2, q3⟩
    · simp only [q, if_true, Option.some.injEq] at hb'
      exact .inr ⟨κ, .inl rfl, hpk, by rw [hb, hb']⟩
    · rcases hκ with hκ | hκ
      · exact absurd hκ q1
      · exact absurd hκ q2
  · have e1 : κ1 = d := by
      rcases hsub κ1 p1 with q | ⟨q1, q2, _⟩
      · exact q
      · rcases h1 with h1 | h1
        · exact absurd h1 q1
        · exact h1
    have e2 : κ2 = d := by
      rcases hsub κ2 p2 with q | ⟨q1, q2, _⟩
      · exact q
      · rcases h2 with h2 | h2
        · exact absurd h2 q1
        · exact h2
    rw [e1, e2]
  · by_cases hd' : κ' = d
    · subst hd'
      simp only [putKs, if_true, Option.some.injEq] at hk2
      subst hk2
      simp only [KeyOk, memOf, if_true]
      exact ⟨c', ⟨el, fz, hw.here, hu⟩, hrows.1, hrows.2.1, fun i hi => RepC.ext hI hWI _ _ _ (hrows.2.2 i hi)⟩
    · rcases hκ with rfl | hκ
      · simp only [putKs, hd', if_false, if_true, Option.some.injEq] at hk2
        subst hk2
        trivial
      · exact absurd hκ hd'
  · subst hi
    rw [put_same a i v (by rw [h.tmps]; exact hd)]
    simp only [putSl, if_true]
    exact hslot
end
end Rk
set_option linter.unusedVariables false
set_option linter.unusedSimpArgs false
namespace Rk
open Go
section
variable {E : Env} {C : Ctx} {sl : Nat → Slot} {ks : Nat → Option KSh} {ρ : Rho} {β : Nat → Option Nat} {a : Act} {w : World}
theorem room_ok {u : Ty} {b : Nat} {e : PE} (h : (room u (max b 1) e).evB ρ = true) : (e.evL ρ u).length ≤ 70368744177664 ∧ (e.evL ρ u).length * b ≤ 70368744177664 := by
  have h1 := ev_le h
  rw [evI_llen, evI_int] at h1
  have hm : most = 70368744177664 := by decide
  have hpos : (0 : Int) < ((max b 1 : Nat) : Int) := by have : 1 ≤ max b 1 := Nat.le_max_right _ _; omega
  have h2 := (Int.le_ediv_iff_mul_le hpos).1 h1
  rw [hm] at h2
  have h3 : (e.evL ρ u).length * max b 1 ≤ 70368744177664 := by
    have h3 : (((e.evL ρ u).length * max b 1 : Nat) : Int) ≤ 70368744177664 := by rw [Int.natCast_mul]; exact h2
    generalize (e.evL ρ u).length * max b 1 = M at h3
    omega
  have h4 : (e.evL ρ u).length * 1 ≤ (e.evL ρ u).length * max b 1 := Nat.mul_le_mul_left _ (Nat.le_max_right _ _)
  have h5 : (e.evL ρ u).length * b ≤ (e.evL ρ u).length * max b 1 := Nat.mul_le_mul_left _ (Nat.le_max_left _ _)
  omega
theorem evL_lapp (u : Ty) (l r : PE) : (PE.lapp l r).evL ρ u = l.evL ρ u ++ r.evL ρ u := rfl
theorem append_ok (hT : TabsOk E C) (h : Rel C sl ks ρ β a w) {o : Oper} (hd : DstOk C sl o.dst) {cond : Cond} (hc : condOk ρ cond) {c : Call} {x y : Operand} {t t2 : TypeId} {ts : List TypeId} {e : Eff}
    (ho : o.op = .call c) (hb : c.callee = .builtin .append) (ha : c.args.toList = [x, y]) (hts : c.argTypes.toList = t :: t2 :: ts) (hs : stAppend E ⟨sl, ks⟩ cond o.dst t t2 x y = some e) (hk : allB ρ e.chk = true) :
    Good C.P o a w (StepOk C sl ks ρ e) := by
  have hP := hT.P
  have ha' : c.args = #[x, y] := by apply Array.ext'; simpa using ha
  have ht' : c.argTypes = (t :: t2 :: ts).toArray := by apply Array.ext'; simpa using hts
  have hrun : ∀ r w', (Builtin.append_ (t :: t2 :: ts).toArray o.type #[a.eval x, a.eval y]).run C.P w = .ok r w' → (execOp a.eval o).run C.P w = .ok (.value r) w' := by
    intro r w' hr
    refine run_call_builtin ho hb ?_
    rw [ha', ht', show Array.map a.eval #[x, y] = #[a.eval x, a.eval y] by simp]
    exact run_v hr
  simp only [stAppend] at hs
  split at hs
  · simp at hs
  rename_i hcond
  have hce : cond = [] := by simpa using hcond
  subst hce
  simp only [Option.bind_eq_bind, Option.bind_eq_some_iff] at hs
  obtain ⟨d, hdd, hs⟩ := hs
  split at hs
  · rename_i el
    simp only [Option.bind_eq_some_iff] at hs
    obtain ⟨lv, hlv, bts, hbts, ⟨zg, zs⟩, hzs, ca, hca, cz, hcz, d2, hd2, hs⟩ := hs
    split at hs
    · simp at hs
    rename_i hcc
    simp only [Bool.or_eq_true, bne_iff_ne, ne_eq, not_or, Bool.not_eq_true, Decidable.not_not] at hcc
    obtain ⟨hint, hzl⟩ := hcc
    simp only [Option.bind_eq_some_iff] at hs
    obtain ⟨r, hr, hs⟩ := hs
    rw [← hP] at hdd hlv hbts hzs hd2
    obtain ⟨hsz, hleaf⟩ := lvs_size hlv
    obtain ⟨z, hz1, hz2⟩ := run_zero (w := w) hzs
    have hz3 : CEsOk (memOf C ks β ρ w) zs z.cells.toList := VOk.cells (constV_ok hz2)
    have hz4 : z.cells.size = lv.length := by have := CEsOk.length _ _ hz3; simp only [Array.length_toList] at this; omega
    have hz5 : ∀ v ∈ z.cells.toList, leafV v := CEsOk.leafs _ _ hz3
    -- what the type's row says
    obtain ⟨i, hi, hisz, hibt, hizr⟩ : ∃ i, C.P.info? el = some i ∧ i.size = lv.length ∧ i.bytes = bts ∧ i.zero = some z := by
      simp only [sizeT, bytesT, zeroCs, Option.bind_eq_bind, Option.bind_eq_some_iff, Option.some.injEq] at hsz hbts hzs
      obtain ⟨i, h1, h2⟩ := hsz
      obtain ⟨i2, h3, h4⟩ := hbts
      obtain ⟨i3, h5, z', h6, h7⟩ := hzs
      rw [h1] at h3 h5
      simp only [Option.some.injEq] at h3 h5
      subst h3 h5
      refine ⟨i, h1, h2, h4, ?_⟩
      simp only [zeroValue, Sem.run_bind, run_ti h1, Result.andThen_ok, h6, Sem.run_pure, Result.ok.injEq, and_true] at hz1
      rw [h6, hz1]
    obtain ⟨news, hsrc⟩ := appSrc_ok (P := C.P) h hleaf (op1_ok h hc hcz) hr
    have hav := op1_ok h hc hca
    -- a new row
    have fresh : ∀ (L : List (tree lv).D) (olds : List Value) (base : Option Addr) (cap : Nat) (fz : Frz) (ce : PE) (chk : List PE), a.eval x = .slice base L.length cap → Cells w (imms C ks β w) (tree lv) L olds →
        (∀ w1 : World, w1.heap = w.heap → (Builtin.firstCells lv.length L.length (.slice base L.length cap)).run C.P w1 = .ok olds.toArray w1) → cap < L.length + (r.evL ρ (tree lv)).length →
        ce.evL ρ (tree lv) = L ++ r.evL ρ (tree lv) → (room (tree lv) (max bts 1) ce).evB ρ = true → Rel C sl (putKs ks fz) ρ β a w → (∀ b, imms C ks β w b → imms C (putKs ks fz) β w b) → (∀ d, ks d = none → putKs ks fz d = none) →
        newK ⟨sl, ks⟩ [] o.dst (.row (tree lv)) [(.k (o.dst.getD 0) 0, .lst (tree lv), ce)] .full fz chk = some e → Good C.P o a w (StepOk C sl ks ρ e) := by
      intro L olds base cap fz ce chk hx holds hread hgrow hev hroom g1 g2 g3 hn
      have hcells := holds.append hsrc.cells
      obtain ⟨r1, r2⟩ := room_ok hroom
      rw [hev, List.length_append] at r1 r2
      have hx2 : SrcOk C.P w (imms C ks β w) (tree lv) i.size (a.eval y) (r.evL ρ (tree lv)) news := by rw [hisz]; exact hsrc
      have hrn := run_append_new (P := C.P) (w := w) (t := t) (t2 := t2) (el := el) (ty := o.type) (ts := ts) (i := i) (z := z) (olds := olds) (base := base) (len := L.length) (cap := cap) hdd hi hizr hd2 hint hx2
        (by rw [hisz]; exact hread) hgrow (by omega) (growslice_fits hgrow (by rw [hibt]; omega))
      have hge := cap_ge w (L.length + (r.evL ρ (tree lv)).length) cap el
      have hm := app_made (C := C) (ks := ks) (β := β) (fz := fz) (el := el) (w := w) hleaf hcells hz5 hz4 rfl (olds := olds) (news := news) (cap := grownCap w (L.length + (r.evL ρ (tree lv)).length) cap el) (by rw [List.length_append]; exact hge) g2
      rw [List.length_append] at hm
      refine MadeRow.step' hd hc hn g1 g3 (hrun _ _ (by rw [hx]; exact hrn)) ?_
      rw [hev]
      exact hm
    split at hs
    · -- onto nil
      have hx : a.eval x = .slice none 0 0 := hav.2
      have hchk : (room (tree lv) (max bts 1) (.lapp .lnil r)).evB ρ = true := by
        have hn := hs
        simp only [newK, Option.bind_eq_bind, Option.bind_eq_some_iff] at hn
        obtain ⟨dd, _, hn⟩ := hn
        split at hn
        · simp at hn
        · simp only [List.isEmpty_nil, if_true, Option.some.injEq] at hn
          subst hn
          exact allB_mem hk _ (List.mem_singleton.2 rfl)
      rcases Nat.eq_zero_or_pos (r.evL ρ (tree lv)).length with h0 | h0
      · have hn := hs
        simp only [newK, Option.bind_eq_bind, Option.bind_eq_some_iff] at hn
        obtain ⟨dd, hodd, hn⟩ := hn
        obtain ⟨q1, q2⟩ := hd dd hodd
        split at hn
        · simp at hn
        · rename_i hkd
          have hkd : ks dd = none := hkd
          simp only [List.isEmpty_nil, if_true, Option.some.injEq] at hn
          have hin := run_append_in (P := C.P) (w := w) (t := t) (t2 := t2) (el := el) (ty := o.type) (ts := ts) (base := none) (len := 0) (cap := 0) (w' := w) hdd hsz hd2 hint hsrc (by omega) (by simp) (fun _ => rfl)
          refine Good.value (hrun _ _ (by rw [hx]; exact hin)) ⟨fun x => if x = dd then none else β x, ?_⟩
          subst hn
          rw [hodd, h0]
          simp only [List.nil_append, Option.getD_some]
          have hρ : ∀ l, (∀ j, l ≠ Loc.k dd j) → updS ρ (evs ρ [(.k dd 0, .lst (tree lv), .lapp .lnil r)]) l = ρ l := by
            intro l hl
            simp only [evs, List.map_cons, List.map_nil, updS]
            rw [if_neg (hl 0)]
          have hcon : content (updS ρ (evs ρ [(.k dd 0, .lst (tree lv), .lapp .lnil r)])) dd (tree lv) = [] := by
            simp only [content, evs, List.map_cons, List.map_nil, updS, if_true, Dyn.get_mk]
            exact List.length_eq_zero_iff.1 h0
          refine Rel.newNone h hkd q1 q2 hρ hcon (fun _ => val1_ok (j := 0) trivial ?_)
          simp only [CellOk, memOf, putKs, if_true]
          refine ⟨none, 0, by rw [hcon]; rfl, by rw [hcon]; exact Nat.le_refl _, ?_⟩
          simp
      · exact fresh [] [] none 0 [] (.lapp .lnil r) _ hx Cells.nil (fun w1 _ => rfl) (by simpa using h0) rfl hchk h (fun _ => id) (fun _ => id) hs
    · -- onto a row
      rename_i hnn
      simp only [Option.bind_eq_some_iff] at hs
      obtain ⟨⟨l, κ⟩, hl, hs⟩ := hs
      simp only [appDst, Option.bind_eq_bind, Option.bind_eq_some_iff] at hl
      obtain ⟨⟨u, l'⟩, hl1, κ', hl2, hl3⟩ := hl
      have hu : u = tree lv ∧ l' = l ∧ κ' = κ ∧ ∀ κ0, ca.1 ≠ .view κ0 := by
        split at hl3
        · simp at hl3
        · rename_i hview
          split at hl3
          · rename_i hu
            simp only [Option.some.injEq, Prod.mk.injEq] at hl3
            exact ⟨by simpa using hu, hl3.1, hl3.2, fun κ0 e => hview κ0 e⟩
          · simp at hl3
      obtain ⟨rfl, rfl, rfl, hview⟩ := hu
      have hcκ : ca.1 = .full κ' ∨ ca.1 = .pre κ' := by
        obtain ⟨s, e0⟩ := ca
        cases s <;> simp [rowK] at hl2
        case view => exact absurd rfl (hview _)
        all_goals
          split at hl2 <;> simp at hl2
          subst hl2
          simp
      have hrow : ks κ' = some (.row (tree lv)) := by
        obtain ⟨s, e0⟩ := ca
        cases s <;> simp [rowK] at hl2
        all_goals
          split at hl2 <;> simp at hl2
          subst hl2
          rename_i u' hu'
          simp [readL, hu'] at hl1
          rw [← hl1.1]; exact hu'
      obtain ⟨p1, base, cap, p2, p3, p4⟩ := rowCell h hav hcκ hrow hl1
      simp only [memOf] at p4
      have hL := readL_ok h hav hl1
      obtain ⟨olds, hsrcL⟩ := src_list (P := C.P) hleaf hL
      have hchk : (room (tree lv) (max bts 1) (.lapp l' r)).evB ρ = true := by
        have hn := hs
        simp only [newK, Option.bind_eq_bind, Option.bind_eq_some_iff] at hn
        obtain ⟨dd, _, hn⟩ := hn
        split at hn
        · simp at hn
        · simp only [List.isEmpty_nil, if_true, Option.some.injEq] at hn
          subst hn
          exact allB_mem hk _ (List.mem_singleton.2 rfl)
      have hget : ∀ i (hi : i < (l'.evL ρ (tree lv)).length) (hi' : i < (content ρ κ' (tree lv)).length), (l'.evL ρ (tree lv)).get ⟨i, hi⟩ = (content ρ κ' (tree lv)).get ⟨i, hi'⟩ := by
        intro i hi hi'
        obtain ⟨s, e0⟩ := ca
        rcases hcκ with hcκ | hcκ
        · simp only at hcκ; subst hcκ
          simp only [readL, hrow, Option.bind_eq_bind, Option.bind_some, Option.some.injEq, Prod.mk.injEq, true_and] at hl1
          subst hl1
          rfl
        · simp only at hcκ; subst hcκ
          simp only [readL, hrow, Option.bind_eq_bind, Option.bind_some, Option.some.injEq, Prod.mk.injEq, true_and] at hl1
          subst hl1
          have hcell := hav.2
          simp only [CellOk, memOf, hrow, CE.dyn, Sh.ty] at hcell
          rw [Dyn.get_mk] at hcell
          obtain ⟨n, hn, hle, _⟩ := hcell
          have hxs : (PE.lsub (.loc (.k κ' 0)) (.int 0) e0).evL ρ (tree lv) = sub (content ρ κ' (tree lv)) ((0 : Nat) : Int) (n : Int) := by
            show sub (content ρ κ' (tree lv)) (0 : Int) (e0.evI ρ) = _
            rw [show e0.evI ρ = (n : Int) from hn]; rfl
          have hi2 : i < (sub (content ρ κ' (tree lv)) ((0 : Nat) : Int) (n : Int)).length := by rw [← hxs]; exact hi
          rw [get_eq hxs i hi hi2, sub_get _ 0 n hle i hi2 (by omega)]
          simp
      by_cases hroom : (l'.evL ρ (tree lv)).length + (r.evL ρ (tree lv)).length ≤ cap
      · -- in place
        have hn := hs
        simp only [newK, Option.bind_eq_bind, Option.bind_eq_some_iff] at hn
        obtain ⟨dd, hodd, hn⟩ := hn
        obtain ⟨q1, q2⟩ := hd dd hodd
        split at hn
        · simp at hn
        · rename_i hkd
          have hkd : ks dd = none := hkd
          simp only [List.isEmpty_nil, if_true, Option.some.injEq] at hn
          have hρ : ∀ l, (∀ j, l ≠ Loc.k dd j) → updS ρ (evs ρ [(.k dd 0, .lst (tree lv), .lapp l' r)]) l = ρ l := by
            intro l hl
            simp only [evs, List.map_cons, List.map_nil, updS]
            rw [if_neg (hl 0)]
          have hcon : content (updS ρ (evs ρ [(.k dd 0, .lst (tree lv), .lapp l' r)])) dd (tree lv) = l'.evL ρ (tree lv) ++ r.evL ρ (tree lv) := by
            simp only [content, evs, List.map_cons, List.map_nil, updS, if_true, Dyn.get_mk]
            rfl
          cases hβ : β κ' with
          | none =>
            rw [hβ] at p4
            obtain ⟨rfl, rfl⟩ := p4
            have hin := run_append_in (P := C.P) (w := w) (t := t) (t2 := t2) (el := el) (ty := o.type) (ts := ts) (base := none) (len := (l'.evL ρ (tree lv)).length) (cap := 0) (w' := w) hdd hsz hd2 hint hsrc hroom (by simp) (fun _ => rfl)
            refine Good.value (hrun _ _ (by rw [p2]; exact hin)) ⟨fun x => if x = dd then none else β x, ?_⟩
            subst hn
            rw [hodd]
            simp only [Option.getD_some]
            obtain ⟨g1, _⟩ := h.gone1 (κ := κ')
            have hdk : dd ≠ κ' := fun e => by rw [e, hrow] at hkd; simp at hkd
            have hl0 : (l'.evL ρ (tree lv)).length = 0 ∧ (r.evL ρ (tree lv)).length = 0 := by omega
            have hcon0 : content (updS ρ (evs ρ [(.k dd 0, .lst (tree lv), .lapp l' r)])) dd (tree lv) = [] := by
              rw [hcon, List.length_eq_zero_iff.1 hl0.1, List.length_eq_zero_iff.1 hl0.2]; rfl
            refine Rel.newNone (ks := fun x => if x = κ' then some .gone else ks x) g1 (by simp [hdk, hkd]) q1 q2 hρ hcon0 (fun _ => val1_ok (j := 0) trivial ?_)
            simp only [CellOk, memOf, putKs, if_true]
            refine ⟨none, 0, by rw [hcon0, hl0.1, hl0.2]; rfl, by rw [hcon0]; exact Nat.le_refl _, ?_⟩
            simp
          | some b =>
            rw [hβ] at p4
            obtain ⟨rfl, hcapb⟩ := p4
            obtain ⟨cc, ⟨el', fz', hc1, hc2⟩, hc3⟩ := (by have := h.keys κ' _ hrow; simp only [KeyOk, memOf, hβ] at this; exact this : ∃ c, BlkIs w b c ∧ RowsIn (memOf C ks β ρ w) (tree lv) c (content ρ κ' (tree lv)))
            have hbs : blkSize w b = cc.size := blkSize_of hc1
            have hn' : (tree lv).n = lv.length := tree_n _ hleaf
            have hnl := hsrc.cells.len
            rw [hn'] at hnl
            have hfit : (l'.evL ρ (tree lv)).length * lv.length + news.length ≤ cc.size := by
              rw [hnl, ← Nat.add_mul, ← hbs]
              refine Nat.le_trans (Nat.mul_le_mul_right _ hroom) ?_
              rw [← hn']; exact hcapb
            obtain ⟨w', c', s1, s2, s3⟩ := run_storeCells' (P := C.P) (b := b) (o := (l'.evL ρ (tree lv)).length * lv.length) news 0 w cc hc1 hc2 (by simpa using hfit) hsrc.cells.leaf
            rw [Nat.add_zero] at s3
            have hin := run_append_in (P := C.P) (w := w) (t := t) (t2 := t2) (el := el) (ty := o.type) (ts := ts) (base := some ⟨b, 0, none⟩) (len := (l'.evL ρ (tree lv)).length) (cap := cap) (w' := w') hdd hsz hd2 hint hsrc hroom
              (fun ad had => by simp only [Option.some.injEq] at had; subst had; rw [addr_add, Nat.zero_add]; exact s1) (by simp)
            refine Good.value (hrun _ _ (by rw [p2]; exact hin)) ⟨fun x => if x = dd then some b else β x, ?_⟩
            subst hn
            rw [hodd]
            simp only [Option.getD_some, List.cons_append, List.nil_append]
            have hsize : c'.size = cc.size := by
              have := congrArg List.length s3
              simp only [List.length_append, List.length_take, List.length_drop, Array.length_toList] at this
              omega
            have hlenL : (cc.toList.take ((l'.evL ρ (tree lv)).length * lv.length)).length = (l'.evL ρ (tree lv)).length * lv.length := by
              simp only [List.length_take, Array.length_toList]; omega
            -- what lies there
            have hcL : Cells w (imms C ks β w) (tree lv) (l'.evL ρ (tree lv)) (cc.toList.take ((l'.evL ρ (tree lv)).length * lv.length)) := by
              refine ⟨by rw [hlenL, hn'], fun v hv => ?_, fun i hi => ?_⟩
              · have hv' := List.mem_of_mem_take hv
                obtain ⟨q, hq, rfl⟩ := List.mem_iff_getElem.1 hv'
                exact hc3.2.1 q _ (by simp)
              · have hi' : i < (content ρ κ' (tree lv)).length := by omega
                rw [hget i hi hi']
                refine RepC.congr _ (fun j => cc[i * (tree lv).n + j]?) _ _ (fun j hj => ?_) (hc3.2.2 i hi')
                rw [List.getElem?_take, if_pos, Array.getElem?_toList]
                have := Nat.mul_le_mul_right lv.length (show i + 1 ≤ (l'.evL ρ (tree lv)).length from hi)
                rw [Nat.add_mul] at this
                rw [hn'] at hj ⊢
                omega
            have hcells := hcL.append hsrc.cells
            refine Rel.moved h hrow hβ hkd q1 q2 s2 (by rcases hc2 with hc2 | hc2; exact .inl hc2; exact .inr (by rw [hsize]; exact hc2)) hρ ?_ (fun _ => val1_ok (j := 0) trivial ?_)
            · rw [hcon]
              refine ⟨?_, fun q v hv => ?_, Cells.prefix_rows hcells s3⟩
              · rw [← hcells.len, List.length_append, hlenL, hsize]; exact hfit
              · have hv' : v ∈ c'.toList := by have := Array.mem_of_getElem? hv; simpa using this
                rw [s3] at hv'
                rcases List.mem_append.1 hv' with hv' | hv'
                · exact hcells.leaf v hv'
                · have hv' := List.mem_of_mem_drop hv'
                  obtain ⟨q, hq, rfl⟩ := List.mem_iff_getElem.1 hv'
                  exact hc3.2.1 q _ (by simp)
            · simp only [CellOk, memOf, putKs, if_true]
              refine ⟨some ⟨b, 0, none⟩, cap, ?_, ?_, ?_⟩
              · rw [hcon, List.length_append]
              · rw [hcon, List.length_append]; exact hroom
              · simp only [if_true]
                refine ⟨trivial, ?_⟩
                rw [blkSize_of s2.here, hsize, ← hbs]
                exact hcapb
      · obtain ⟨g1, g2⟩ := h.gone1 (κ := κ')
        refine fresh (l'.evL ρ (tree lv)) olds base cap [(κ', .gone)] (.lapp l' r) _ p2 hsrcL.cells (fun w1 hw1 => by rw [← p2]; exact hsrcL.read w1 hw1) (by omega) rfl hchk g1 g2 (fun d hkd => ?_) hs
        have hdk : d ≠ κ' := fun e => by rw [e, hrow] at hkd; simp at hkd
        simp [putKs, hdk, hkd]
  · simp at hs
end
end Rk
set_option linter.unusedVariables false
set_option linter.unusedSimpArgs false
namespace Rk
open Go
section
variable {E : Env} {C : Ctx} {sl : Nat → Slot} {ks : Nat → Option KSh} {ρ : Rho} {β : Nat → Option Nat} {a : Act} {w : World}
theorem evB_andE {ρ : Rho} (l : List PE) : (andE l).evB ρ = l.all fun e => e.evB ρ := by
  rw [Bool.eq_iff_iff, List.all_eq_true]
  exact ⟨andE_of l, andE_ok l⟩
theorem eqLeaf_ok {M : Mem} {P : Program} {a b : CE} {x y : Value} {e : PE} {dd : TypeDesc} {t : TypeId} (ht : P.underlying t = some dd) (ha : CEOk M a x) (hb : CEOk M b y) (he : eqLeaf dd a b = some e) (D : Nat) :
    (Op.equalIn (D + 1) t x y).run P w = .ok (e.evB M.ρ) w := by
  unfold eqLeaf at he
  split at he
  · rename_i k0 k p k2 q
    split at he
    · rename_i hk
      have hk' : k = k2 := by simpa using hk
      subst hk'
      simp only [Option.some.injEq] at he
      subst he
      rw [CEOk.intV ha, CEOk.intV hb, run_equalIn_int w D t k k0 _ _ ht]
      rfl
    · simp at he
  · simp only [Option.some.injEq] at he
    subst he
    rename_i p q
    rw [CEOk.boolV ha, CEOk.boolV hb, run_equalIn_bool' w D t _ _ ht]
    have : (PE.cmpB false p q).evB M.ρ = (false ^^ (p.evB M.ρ == q.evB M.ρ)) := rfl
    rw [this, Bool.false_xor]
  · simp only [Option.some.injEq] at he
    subst he
    rename_i p q
    obtain ⟨s1, h1, h2⟩ := CEOk.strV ha
    obtain ⟨s2, h3, h4⟩ := CEOk.strV hb
    rw [h1, h3, run_equalIn_string w D t _ _ ht]
    have : (PE.cmpS .eql p q).evB M.ρ = Rk.cmpS .eql (p.ev M.ρ .str) (q.ev M.ρ .str) := rfl
    rw [this, ← h2, ← h4, ByteArray.toList_eq, ByteArray.toList_eq]
    rfl
  · simp at he
theorem mkV_cells_one {vs : List Value} (h : vs.length = 1) : ∃ v, vs = [v] := by
  match vs, h with
  | [v], _ => exact ⟨v, rfl⟩
theorem eqF_ok {M : Mem} {P : Program} {G : TypeId → List CE → List CE → Option (List PE)} {D : Nat} {xs ys : List CE} {vs ws : List Value} (hx : CEsOk M xs vs) (hy : CEsOk M ys ws)
    (hG : ∀ t xs ys es vs ws g, G t xs ys = some es → isAggT P t = some g → (g = false → vs.length = 1) → CEsOk M xs vs → CEsOk M ys ws → (Op.equalIn D t (mkV g vs) (mkV g ws)).run P w = .ok (es.all fun e => e.evB M.ρ) w) :
    ∀ (fs : List Field) (es : List PE), eqF P G xs ys fs = some es → (Op.eqFields D vs.toArray ws.toArray fs).run P w = .ok (es.all fun e => e.evB M.ρ) w
  | [], es, h => by simp only [eqF, Option.some.injEq] at h; subst h; rfl
  | f :: fs, es, h => by
    simp only [eqF, Option.bind_eq_bind, Option.bind_eq_some_iff] at h
    obtain ⟨n, hn, g, hg, h⟩ := h
    split at h
    · simp at h
    rename_i hc
    simp only [Bool.or_eq_true, Bool.not_eq_true', Bool.or_eq_false_iff, not_or, Bool.not_eq_true, beq_eq_false_iff_ne, ne_eq, not_and, Bool.not_eq_false, beq_iff_eq] at hc
    split at h
    · rename_i hl
      simp only [Bool.and_eq_true, decide_eq_true_eq] at hl
      simp only [Option.bind_eq_some_iff, Option.some.injEq] at h
      obtain ⟨l, h1, r, h2, rfl⟩ := h
      have l1 := CEsOk.length _ _ hx
      have l2 := CEsOk.length _ _ hy
      have hgn : g = true ∨ n = 1 := by
        by_cases hh : g = true
        · exact .inl hh
        · exact .inr (by simpa using hc.2 (by simpa using hh))
      have e1 := run_part (w := w) hg hn hgn (vs := vs) (off := f.offset) (by omega)
      have e2 := run_part (w := w) hg hn hgn (vs := ws) (off := f.offset) (by omega)
      have e3 := hG f.type _ _ l ((vs.drop f.offset).take n) ((ws.drop f.offset).take n) g h1 hg (fun hf => by
        rcases hgn with q | q
        · rw [hf] at q; simp at q
        · simp only [List.length_take, List.length_drop]; omega) (CEsOk.take _ _ _ (CEsOk.drop _ _ _ hx)) (CEsOk.take _ _ _ (CEsOk.drop _ _ _ hy))
      have ih := eqF_ok hx hy hG fs r h2
      simp only [Op.eqFields]
      rw [if_pos hc.1]
      simp only [Sem.run_bind, e1, e2, e3, Result.andThen_ok]
      cases hb : l.all fun e => e.evB M.ρ with
      | true =>
        simp only [Bool.not_true, Bool.false_eq_true, if_false, ih, List.all_append, hb, Bool.true_and]
      | false =>
        simp only [Bool.not_false, if_true, Sem.run_pure, List.all_append, hb, Bool.false_and]
    · simp at h
theorem eqT_ok {M : Mem} {P : Program} : ∀ (d D : Nat), d ≤ D → ∀ (t : TypeId) (xs ys : List CE) (es : List PE) (vs ws : List Value) (g : Bool), eqT P d t xs ys = some es → isAggT P t = some g → (g = false → vs.length = 1) →
    CEsOk M xs vs → CEsOk M ys ws → (Op.equalIn D t (mkV g vs) (mkV g ws)).run P w = .ok (es.all fun e => e.evB M.ρ) w
  | 0, _, _, _, _, _, _, _, _, _, h, _, _, _, _ => by simp [eqT] at h
  | d + 1, 0, hd, _, _, _, _, _, _, _, _, _, _, _, _ => by omega
  | d + 1, D + 1, hd, t, xs, ys, es, vs, ws, g, h, hg, hv, hx, hy => by
    simp only [eqT, Option.bind_eq_bind, Option.bind_eq_some_iff] at h
    obtain ⟨dd, hdd, h⟩ := h
    split at h
    · rename_i fs
      have hgt : g = true := by
        simp only [isAggT, hdd, Option.bind_eq_bind, Option.bind_some, Option.some.injEq] at hg
        exact hg.symm
      subst hgt
      split at h
      · simp at h
      · rename_i hs
        have hf : P.fieldsOf t = fs := by simp [Program.fieldsOf, hdd]
        have := run_equalIn_struct (P := P) w D t vs.toArray ws.toArray (by rw [hf]; exact hdd) (by simpa using hs)
        simp only [mkV, if_true]
        rw [this, hf]
        exact eqF_ok hx hy (fun t xs ys es vs ws g => eqT_ok d D (by omega) t xs ys es vs ws g) _ _ h
    · rename_i hns
      split at h
      · rename_i x y
        simp only [Option.bind_eq_some_iff, Option.some.injEq] at h
        obtain ⟨e, he, rfl⟩ := h
        have hgf : g = false := by
          simp only [isAggT, hdd, Option.bind_eq_bind, Option.bind_some] at hg
          cases dd <;> simp_all [eqLeaf]
        subst hgf
        obtain ⟨v, rfl⟩ := mkV_cells_one (hv rfl)
        have l2 := CEsOk.length _ _ hy
        obtain ⟨u, rfl⟩ := mkV_cells_one l2.symm
        have := eqLeaf_ok (w := w) hdd hx.1 hy.1 he D
        simpa [mkV] using this
      · simp at h
theorem stEqAgg_ok (hT : TabsOk E C) (h : Rel C sl ks ρ β a w) {cond : Cond} (hc : condOk ρ cond) {o : Oper} {op : BinOp} {t : TypeId} {x y : Operand} {xs ys : List CE} {e : Eff}
    (hx : opC ⟨sl, ks⟩ cond x = some (true, xs)) (hy : opC ⟨sl, ks⟩ cond y = some (true, ys))
    (hrun : ∀ r, (do eqGuard op t x y (a.eval x) (a.eval y); binOp op t (a.eval x) (a.eval y) : Sem Value).run C.P w = .ok r w → (execOp a.eval o).run C.P w = .ok (.value r) w)
    (hs : stEqAgg E cond o.dst op t xs ys = some e) : ValOp C ks ρ β a w o cond e := by
  obtain ⟨vs, hvx, _, hvs⟩ := opC_ok h hc hx
  obtain ⟨ws, hvy, _, hws⟩ := opC_ok h hc hy
  have hvx : a.eval x = .agg vs.toArray := hvx
  have hvy : a.eval y = .agg ws.toArray := hvy
  rw [stEqAgg, ← hT.P] at hs
  simp only [Option.bind_eq_bind, Option.bind_eq_some_iff] at hs
  obtain ⟨dd, hdd, hs⟩ := hs
  split at hs
  · rename_i fs
    split at hs
    · simp at hs
    · rename_i hgt
      simp only [Option.bind_eq_some_iff] at hs
      obtain ⟨es, hes, hs⟩ := hs
      have hag : isAggT C.P t = some true := by simp [isAggT, hdd]
      have heq := eqT_ok (M := memOf C ks β ρ w) (w := w) 20 10000 (by decide) t xs ys es vs ws true hes hag (by simp) hvs hws
      simp only [mkV, if_true] at heq
      have hgd := run_eqGuard_agg (P := C.P) w op t x y vs.toArray ws.toArray (by simpa using hgt)
      split at hs
      · simp only [Option.some.injEq] at hs
        refine ValOp.one' hs.symm (hrun (.bool (es.all fun e => e.evB ρ)) ?_) (CEOk.mkBool (evB_andE es))
        rw [hvx, hvy]
        simp only [Sem.run_bind, hgd, Result.andThen_ok, run_eql_struct, heq]
        rfl
      · simp only [Option.some.injEq] at hs
        refine ValOp.one' hs.symm (hrun (.bool (!(es.all fun e => e.evB ρ))) ?_) (CEOk.mkBool ?_)
        · rw [hvx, hvy]
          simp only [Sem.run_bind, hgd, Result.andThen_ok, run_neq_struct, heq]
          rfl
        · show (!((andE es).evB ρ)) = _
          rw [evB_andE]
      · simp at hs
  · simp at hs
theorem reps_of {M : Mem} : ∀ (cs : List CE) (ts : List Ty) (vs : List Value), isDyns cs ts = true → CEsOk M cs vs → RepsOk M.w M.I M.ρ ts (cs.map (·.2)) vs
  | [], [], [], _, _ => trivial
  | (s, e) :: cs, t :: ts, v :: vs, h, hv => by
    cases s with
    | dyn u =>
      simp only [isDyns, Bool.and_eq_true, beq_iff_eq] at h
      obtain ⟨rfl, h⟩ := h
      refine ⟨hv.1.1, ?_, reps_of cs ts vs h hv.2⟩
      have := hv.1.2
      simp only [CellOk, CE.dyn, Sh.ty, Dyn.get_mk] at this
      exact this
    | _ => simp [isDyns] at h
  | [], _ :: _, _, h, _ => by simp [isDyns] at h
  | _ :: _, [], _, h, _ => by simp [isDyns] at h
  | [], [], _ :: _, _, h => h.elim
  | _ :: _, _ :: _, [], _, h => h.elim
theorem RepsOk.append {I : Nat → Prop} : ∀ (ts : List Ty) (es : List PE) (vs : List Value) (ts' : List Ty) (es' : List PE) (vs' : List Value), RepsOk w I ρ ts es vs → RepsOk w I ρ ts' es' vs' → RepsOk w I ρ (ts ++ ts') (es ++ es') (vs ++ vs')
  | [], [], [], _, _, _, _, h => h
  | t :: ts, e :: es, v :: vs, ts', es', vs', h, h' => ⟨h.1, h.2.1, RepsOk.append ts es vs ts' es' vs' h.2.2 h'⟩
  | [], _ :: _, _, _, _, _, h, _ => h.elim
  | [], [], _ :: _, _, _, _, h, _ => h.elim
  | _ :: _, [], _, _, _, _, h, _ => h.elim
  | _ :: _, _ :: _, [], _, _, _, h, _ => h.elim
theorem RepsOk.take {I : Nat → Prop} : ∀ (n : Nat) (ts : List Ty) (es : List PE) (vs : List Value), RepsOk w I ρ ts es vs → RepsOk w I ρ (ts.take n) (es.take n) (vs.take n)
  | 0, _, _, _, _ => by simp [RepsOk]
  | n + 1, [], [], [], _ => trivial
  | n + 1, t :: ts, e :: es, v :: vs, h => ⟨h.1, h.2.1, RepsOk.take n ts es vs h.2.2⟩
  | n + 1, [], _ :: _, _, h => h.elim
  | n + 1, [], [], _ :: _, h => h.elim
  | n + 1, _ :: _, [], _, h => h.elim
  | n + 1, _ :: _, _ :: _, [], h => h.elim
theorem RepsOk.drop {I : Nat → Prop} : ∀ (n : Nat) (ts : List Ty) (es : List PE) (vs : List Value), RepsOk w I ρ ts es vs → RepsOk w I ρ (ts.drop n) (es.drop n) (vs.drop n)
  | 0, _, _, _, h => h
  | n + 1, [], [], [], _ => trivial
  | n + 1, t :: ts, e :: es, v :: vs, h => RepsOk.drop n ts es vs h.2.2
  | n + 1, [], _ :: _, _, h => h.elim
  | n + 1, [], [], _ :: _, h => h.elim
  | n + 1, _ :: _, [], _, h => h.elim
  | n + 1, _ :: _, _ :: _, [], h => h.elim
theorem leafCs_dyns (l : List Ty) (e : PE) : ∀ (n j : Nat), j + n = l.length → isDyns (leafCs l e j n) (l.drop j) = true
  | 0, j, h => by
    rw [List.drop_of_length_le (by omega)]
    rfl
  | n + 1, j, h => by
    have hj : j < l.length := by omega
    rw [List.drop_eq_getElem_cons hj]
    simp only [leafCs, isDyns, Bool.and_eq_true, beq_iff_eq]
    refine ⟨?_, leafCs_dyns l e n (j + 1) (by omega)⟩
    simp [hj]
theorem chunks_of {M : Mem} {l : List Ty} (hll : l.all Ty.isLeaf = true) : ∀ (n : Nat) (cs : List CE) (vs : List Value), cs.length = n * l.length → chunkDyn l n cs = true → CEsOk M cs vs →
    ∃ css : List (List Value), css.flatten = vs ∧ css.length = n ∧ (∀ c ∈ css, c.length = l.length) ∧ ChunksOk M.w M.I M.ρ l (chunkPs l n cs) css
  | 0, cs, vs, hl, _, hv => by
    have h1 := CEsOk.length _ _ hv
    have : vs = [] := List.length_eq_zero_iff.1 (by omega)
    subst this
    exact ⟨[], rfl, rfl, by simp, trivial⟩
  | n + 1, cs, vs, hl, hd, hv => by
    simp only [chunkDyn, Bool.and_eq_true] at hd
    have h1 := CEsOk.length _ _ hv
    rw [Nat.add_mul, Nat.one_mul] at hl
    obtain ⟨css, g1, g2, g3, g4⟩ := chunks_of hll n (cs.drop l.length) (vs.drop l.length) (by simp; omega) hd.2 (CEsOk.drop _ _ _ hv)
    have hr := reps_of _ _ _ hd.1 (CEsOk.take l.length _ _ hv)
    refine ⟨vs.take l.length :: css, by rw [List.flatten_cons, g1, List.take_append_drop], by simp [g2], fun c hc => ?_, ?_⟩
    · rcases List.mem_cons.1 hc with hc | hc
      · rw [hc, List.length_take]; omega
      · exact g3 c hc
    · exact ⟨by rw [List.length_take]; omega, RepsOk.leaf hr, RepsOk.tree hll hr, g4⟩
theorem run_index_arr {P : Program} {t el : TypeId} {n sz : Nat} (ht : P.underlying t = some (.array n el)) (hs : sizeT P el = some sz) {k : IntKind} {i : Int} {cs : Array Value} (hi : 0 ≤ i ∧ i < n) :
    (Instr.index t (.agg cs) (.int k i)).run P w = (part el cs (i.toNat * sz)).run P w := by
  simp only [Instr.index, asIntOf, Sem.run_bind, Sem.run_pure, Result.andThen_ok, run_und ht]
  rw [if_pos hi]
  simp only [Sem.run_bind, run_size hs, Result.andThen_ok]
theorem stIndexArr_ok (hT : TabsOk E C) (h : Rel C sl ks ρ β a w) {cond : Cond} (hc : condOk ρ cond) {o : Oper} {t el : TypeId} {x ix : Operand} {i : PE} {n : Nat} {e : Eff} (ho : o.op = .index t x ix)
    (hd : E.P.underlying t = some (.array n el)) (hi : opX ⟨sl, ks⟩ cond ix = some i) (hs : stIndexArr E ⟨sl, ks⟩ cond o.dst n el x i = some e) (hk : allB ρ e.chk = true) : ValOp C ks ρ β a w o cond e := by
  simp only [stIndexArr, Option.bind_eq_bind, Option.bind_eq_some_iff] at hs
  obtain ⟨l, hl, g, hg, ⟨gg, cs⟩, hx, hs⟩ := hs
  rw [← hT.P] at hl hg hd
  split at hs
  · rename_i cs' heq
    simp only [Prod.mk.injEq] at heq
    obtain ⟨rfl, rfl⟩ := heq
    split at hs
    · rename_i hcc
      simp only [Bool.and_eq_true, Bool.or_eq_true, beq_iff_eq, decide_eq_true_eq] at hcc
      obtain ⟨⟨⟨hlen, hgl⟩, hsm⟩, hch⟩ := hcc
      simp only [Option.some.injEq] at hs
      obtain ⟨hsz, hleaf⟩ := lvs_size hl
      obtain ⟨cells, hb, _, hcs⟩ := opC_ok h hc hx
      have hb' : a.eval x = .agg cells.toArray := hb
      obtain ⟨k, hix⟩ := opX_ok h hc hi
      have hin := ev_inB (under_ok hc (allB_mem (hs ▸ hk) _ (List.mem_singleton.2 rfl)))
      rw [evI_int] at hin
      obtain ⟨css, q1, q2, q3, q4⟩ := chunks_of hleaf n cs cells hlen hch hcs
      obtain ⟨l1, l2, l3⟩ := ChunksOk.length _ _ q4
      have hev := evL_listE ρ (tree l) (chunkPs l n cs)
      have hlt : (i.evI ρ).toNat < ((listE (chunkPs l n cs)).evL ρ (tree l)).length := by rw [hev, List.length_map]; omega
      have hrow := ChunksOk.rows hleaf q4 (i.evI ρ).toNat hlt
      have hlx : (PE.lidx (listE (chunkPs l n cs)) i).ev ρ (tree l) = ((listE (chunkPs l n cs)).evL ρ (tree l)).get ⟨(i.evI ρ).toNat, hlt⟩ := ev_lidx (by show i.evI ρ = _; omega) hlt
      rw [q1] at hrow
      have hlc := CEsOk.length _ _ hcs
      have hoff : (i.evI ρ).toNat * l.length + l.length ≤ cells.length := by
        rw [← hlc, hlen]
        have := Nat.mul_le_mul_right l.length (show (i.evI ρ).toNat + 1 ≤ n by omega)
        rw [Nat.add_mul, Nat.one_mul] at this
        exact this
      obtain ⟨vs, r1, r2, r3⟩ := leafCs_ok (M := memOf C ks β ρ w) (e := .lidx (listE (chunkPs l n cs)) i) (f := fun j => cells[(i.evI ρ).toNat * (tree l).n + j]?) hleaf (by
        simp only [memOf]
        rw [hlx]
        exact hrow) l.length 0 (by omega)
      have hvs : vs = (cells.drop ((i.evI ρ).toNat * l.length)).take l.length := by
        apply List.ext_getElem?
        intro q
        rw [List.getElem?_take, List.getElem?_drop]
        by_cases hq : q < l.length
        · rw [if_pos hq, ← r2 q hq, Nat.zero_add, tree_n _ hleaf]
        · rw [if_neg hq, List.getElem?_eq_none (by omega)]
      refine ⟨.val g (leafCs l (.lidx (listE (chunkPs l n cs)) i) 0 l.length), mkV g vs, by rw [← hs]; exact IsPut.ofChk _ _ _ _, exec_val (s := Instr.index t (a.eval x) (a.eval ix)) (by unfold execOp; rw [ho]) ?_, vs, rfl, fun hg' => ?_, r3⟩
      · rw [hb', hix, run_index_arr hd hsz hin, run_part hg hsz hgl hoff, hvs]
      · simp only at hg'
        rcases hgl with q | q
        · rw [hg'] at q; simp at q
        · rw [r1]; exact q
    · simp at hs
  · simp at hs
theorem Unfz.of_size {c c' : Array Value} {fz : Nat × Nat} (hu : Unfz c fz) (h : c'.size = c.size) : Unfz c' fz := by
  rcases hu with hu | hu
  · exact .inl hu
  · exact .inr (by rw [h]; exact hu)
theorem wrote_size {c c' : Array Value} {vs : List Value} {k : Nat} (h : c'.toList = c.toList.take k ++ vs ++ c.toList.drop (k + vs.length)) (hl : k + vs.length ≤ c.size) : c'.size = c.size := by
  have := congrArg List.length h
  simp only [List.length_append, List.length_take, List.length_drop, Array.length_toList] at this
  omega
theorem storeArr_ok (hT : TabsOk E C) (h : Rel C sl ks ρ β a w) {o : Oper} {cond : Cond} (hc : condOk ρ cond) (hdn : o.dst = none) {t : TypeId} {x y : Operand} {κ n : Nat} {p : PE} {u : Ty} {g : Bool} {xs : List CE} {es : List PE}
    (ho : o.op = .store t x y) (hx : op1 ⟨sl, ks⟩ cond x = some (.arr κ, p)) (hy : opC ⟨sl, ks⟩ cond y = some (g, xs)) (hk : ks κ = some (.arr u n)) (hn : sizeT E.P t = some n) (hl : xs.length = n) (hu : u.isLeaf = true)
    (hes : asTs ⟨sl, ks⟩ xs (List.replicate n u) = some (es, [])) :
    Good C.P o a w (StepOk C sl ks ρ { ks := [(κ, .arr u n)], sets := [(.k κ 0, .lst u, listE es)] }) := by
  rw [← hT.P] at hn
  have hv := op1_ok h hc hx
  have hz := VOk.cells (opC_ok h hc hy)
  have hcell := hv.2
  simp only [CellOk, memOf, hk] at hcell
  obtain ⟨b, hb, hvb⟩ := hcell
  obtain ⟨b', c, h0, ⟨el, fz, h1, hfu⟩, h2, h3⟩ := h.keys κ _ hk
  simp only [memOf] at h0 h1 h2 h3
  rw [hb] at h0; simp only [Option.some.injEq] at h0; subst h0
  have hzl := CEsOk.length _ _ hz
  simp only [Array.length_toList] at hzl
  have hun : u.n = 1 := isLeaf_n hu
  have hsz : n ≤ c.size := by have := h3.1; rw [h2, hun] at this; omega
  have hr0 := asTs_ok h _ _ _ _ _ hes hz
  have hr : RepsOk w (imms C ks β w) ρ (List.replicate n u) es (a.eval y).cells.toList := RepsOk.ext (by
    rintro b (hb | ⟨κ, k, hm, _⟩)
    · exact hb
    · simp at hm) (fun _ _ _ => rfl) _ _ _ hr0
  obtain ⟨w', c', q1, q2, q3⟩ := run_storeCells' (P := C.P) (b := b) (o := 0) (a.eval y).cells.toList 0 w c h1 hfu (by simp; omega) (CEsOk.leafs _ _ hz)
  obtain ⟨k1, k2⟩ := RepsOk.rows hu hr
  simp only [Nat.zero_add] at q3
  have hcs := wrote_size (c := c) (c' := c') (vs := (a.eval y).cells.toList) (k := 0) (by rw [Nat.zero_add]; exact q3) (by simp only [Array.length_toList]; omega)
  have hcon : content (updS ρ (evs ρ [(.k κ 0, .lst u, listE es)])) κ u = (listE es).evL ρ u := by
    simp only [content, evs, List.map_cons, List.map_nil, updS, if_true, Dyn.get_mk]
    rfl
  refine Good.skip (w' := w') ?_ ⟨β, ?_⟩
  · unfold execOp
    rw [ho]
    have : (Instr.storeAt t (a.eval x) (a.eval y)).run C.P w = .ok () w' := by
      rw [hvb]
      simp only [Instr.storeAt, Instr.sureAddr, Sem.run_bind, Sem.run_pure, Result.andThen_ok]
      exact run_storeVar hn (by omega) q1
    simp only [Sem.run_bind, this, Result.andThen_ok, Sem.run_pure]
  · rw [hdn, put_none]
    refine Rel.write (k' := .arr u n) h hk rfl hb q2 (fun l hl => ?_) (.inr ?_) rfl (fun hx hI hW => ?_)
    · simp only [evs, List.map_cons, List.map_nil, updS]
      rw [if_neg (hl 0)]
    · simp only [memOf, hk, if_true]
      exact ⟨trivial, trivial, by rw [hcon, k1, h2]⟩
    · refine ⟨b, c', hb, ⟨el, fz, q2.here, hfu.of_size hcs⟩, ?_, ?_, fun q v hq => ?_, fun i hi => ?_⟩
      · simp only [memOf]; rw [hcon]; exact k1
      · simp only [memOf]; rw [hcon, k1, hcs, hun]; omega
      · have hq' : c'.toList[q]? = some v := by rw [Array.getElem?_toList]; exact hq
        rw [q3] at hq'
        simp only [List.take_zero, List.nil_append] at hq'
        rcases List.mem_append.1 (List.mem_of_getElem? hq') with hm | hm
        · exact CEsOk.leafs _ _ hz v hm
        · obtain ⟨r, hr1⟩ := List.getElem?_of_mem (List.mem_of_mem_drop hm)
          exact h3.2.1 r v (by rw [← Array.getElem?_toList]; exact hr1)
      · simp only [memOf] at hi ⊢
        have hi2 : i < ((listE es).evL ρ u).length := by rw [← hcon]; exact hi
        rw [get_eq hcon i hi hi2]
        have := RepC.ext (w' := w') hI hW _ _ _ (k2 i hi2)
        refine RepC.congr _ _ _ _ (fun j hj => ?_) this
        rw [← Array.getElem?_toList, q3]
        simp only [List.take_zero, List.nil_append]
        rw [List.getElem?_append_left]
        rw [hun] at hj ⊢
        simp only [Array.length_toList]
        omega
def isWr (k : KSh) (u : Ty) : Prop := k = .row u ∨ ∃ m, k = .arr u m
theorem app3_left {α : Type} {A B D : List α} {q : Nat} (h : q < A.length) : (A ++ B ++ D)[q]? = A[q]? := by
  rw [List.append_assoc, List.getElem?_append_left h]
theorem app3_mid {α : Type} {A B D : List α} {q : Nat} (h1 : A.length ≤ q) (h2 : q < A.length + B.length) : (A ++ B ++ D)[q]? = B[q - A.length]? := by
  rw [List.append_assoc, List.getElem?_append_right h1, List.getElem?_append_left (by omega)]
theorem app3_right {α : Type} {A B D : List α} {q : Nat} (h : A.length + B.length ≤ q) : (A ++ B ++ D)[q]? = D[q - (A.length + B.length)]? := by
  rw [List.getElem?_append_right (by simp; omega), List.length_append]
theorem storeEpt_ok (hT : TabsOk E C) (h : Rel C sl ks ρ β a w) {o : Oper} {cond : Cond} (hc : condOk ρ cond) (hdn : o.dst = none) {t : TypeId} {x y : Operand} {κ j n : Nat} {p : PE} {k : KSh} {l : List Ty} {g : Bool} {xs : List CE} {es : List PE}
    (ho : o.op = .store t x y) (hx : op1 ⟨sl, ks⟩ cond x = some (.ept κ j, p)) (hy : opC ⟨sl, ks⟩ cond y = some (g, xs)) (hk : ks κ = some k) (hkw : isWr k (tree l)) (hn : sizeT E.P t = some n) (hl : xs.length = n) (hll : l.all Ty.isLeaf = true)
    (hj : j + n ≤ l.length) (hr : RepsOk w (imms C ks β w) ρ ((l.drop j).take n) es (a.eval y).cells.toList) :
    Good C.P o a w (StepOk C sl ks ρ { ks := [(κ, k)], sets := [(.k κ 0, .lst (tree l), .lset (.loc (.k κ 0)) p
      (treeE (((leafCs l (.lidx (.loc (.k κ 0)) p) 0 l.length).map (·.2)).take j ++ es ++ ((leafCs l (.lidx (.loc (.k κ 0)) p) 0 l.length).map (·.2)).drop (j + n))))] }) := by
  rw [← hT.P] at hn
  have hv := op1_ok h hc hx
  have hz := VOk.cells (opC_ok h hc hy)
  have hlt : k.lt = some (tree l) := by rcases hkw with rfl | ⟨m, rfl⟩ <;> rfl
  have hpriv : k.priv = true := by rcases hkw with rfl | ⟨m, rfl⟩ <;> rfl
  have hcell : ∃ i : Nat, p.evI ρ = i ∧ i < (content ρ κ (tree l)).length ∧ ∃ b, β κ = some b ∧ a.eval x = .pointer (some ⟨b, i * (tree l).n + j, none⟩) := by
    have := hv.2
    simp only [CellOk, memOf, hk] at this
    rcases hkw with rfl | ⟨m, rfl⟩
    · simp only [CE.dyn, Sh.ty, Dyn.get_mk] at this
      exact this
    · simp only [CE.dyn, Sh.ty, Dyn.get_mk] at this
      exact this
  obtain ⟨i, hi, hil, b, hb, hvb⟩ := hcell
  obtain ⟨c, hblk, hrows⟩ := KeyOk.rows hlt (h.keys κ _ hk) hb
  have hblk0 := hblk
  obtain ⟨el, fz, h1, hfu⟩ := hblk
  simp only [memOf] at h1 hrows
  have hnl : (tree l).n = l.length := tree_n _ hll
  rw [hnl] at hvb
  have hzl := CEsOk.length _ _ hz
  simp only [Array.length_toList] at hzl
  have hlen := hrows.1
  rw [hnl] at hlen
  have hil2 : i * l.length + l.length ≤ c.size := by
    have := Nat.mul_le_mul_right l.length (show i + 1 ≤ (content ρ κ (tree l)).length by omega)
    rw [Nat.add_mul, Nat.one_mul] at this
    exact Nat.le_trans this hlen
  -- the element as it was
  have hlx : (PE.lidx (.loc (.k κ 0)) p).ev ρ (tree l) = (content ρ κ (tree l)).get ⟨i, hil⟩ := ev_lidx (e := .loc (.k κ 0)) (u := tree l) hi hil
  obtain ⟨vs, r1, r2, r3⟩ := leafCs_ok (M := memOf C ks β ρ w) (e := .lidx (.loc (.k κ 0)) p) (f := fun q => c[i * (tree l).n + q]?) hll (by
    simp only [memOf]
    rw [hlx]
    exact hrows.2.2 i hil) l.length 0 (by omega)
  have hdy := leafCs_dyns l (.lidx (.loc (.k κ 0)) p) l.length 0 (by omega)
  rw [List.drop_zero] at hdy
  have hold := reps_of _ _ _ hdy r3
  simp only [memOf] at hold
  have hnew : RepsOk w (imms C ks β w) ρ l (((leafCs l (.lidx (.loc (.k κ 0)) p) 0 l.length).map (·.2)).take j ++ es ++ ((leafCs l (.lidx (.loc (.k κ 0)) p) 0 l.length).map (·.2)).drop (j + n))
      (vs.take j ++ (a.eval y).cells.toList ++ vs.drop (j + n)) := by
    have := RepsOk.append _ _ _ _ _ _ (RepsOk.append _ _ _ _ _ _ (RepsOk.take j _ _ _ hold) hr) (RepsOk.drop (j + n) _ _ _ hold)
    have e : l.take j ++ (l.drop j).take n ++ l.drop (j + n) = l := by
      rw [← List.drop_drop, List.append_assoc, List.take_append_drop, List.take_append_drop]
    rw [e] at this
    exact this
  have htree := RepsOk.tree hll hnew
  generalize hE : treeE (((leafCs l (.lidx (.loc (.k κ 0)) p) 0 l.length).map (·.2)).take j ++ es ++ ((leafCs l (.lidx (.loc (.k κ 0)) p) 0 l.length).map (·.2)).drop (j + n)) = ne at htree ⊢
  obtain ⟨w', c', q1, q2, q3⟩ := run_storeCells' (P := C.P) (b := b) (o := i * l.length + j) (a.eval y).cells.toList 0 w c h1 hfu (by simp; omega) (CEsOk.leafs _ _ hz)
  rw [Nat.add_zero] at q3
  have hcs := wrote_size q3 (by simp; omega)
  have hcon : content (updS ρ (evs ρ [(.k κ 0, .lst (tree l), .lset (.loc (.k κ 0)) p ne)])) κ (tree l) = (content ρ κ (tree l)).set i (ne.ev ρ (tree l)) := by
    simp only [content, evs, List.map_cons, List.map_nil, updS, if_true, Dyn.get_mk]
    show List.set _ (p.evI ρ).toNat _ = _
    rw [hi, Int.toNat_natCast]
    rfl
  have hconl : (content (updS ρ (evs ρ [(.k κ 0, .lst (tree l), .lset (.loc (.k κ 0)) p ne)])) κ (tree l)).length = (content ρ κ (tree l)).length := by rw [hcon, List.length_set]
  refine Good.skip (w' := w') ?_ ⟨β, ?_⟩
  · unfold execOp
    rw [ho]
    have : (Instr.storeAt t (a.eval x) (a.eval y)).run C.P w = .ok () w' := by
      rw [hvb]
      simp only [Instr.storeAt, Instr.sureAddr, Sem.run_bind, Sem.run_pure, Result.andThen_ok]
      exact run_storeVar hn (by omega) q1
    simp only [Sem.run_bind, this, Result.andThen_ok, Sem.run_pure]
  · rw [hdn, put_none]
    refine Rel.write (k' := k) h hk hpriv hb q2 (fun l hl => ?_) (.inr ?_) hpriv (fun hx hI hW => ?_)
    · simp only [evs, List.map_cons, List.map_nil, updS]
      rw [if_neg (hl 0)]
    · have hbs : ∀ b', β κ = some b' → blkSize w' b' = blkSize w b' := by
        intro b' hb'
        rw [hb] at hb'
        simp only [Option.some.injEq] at hb'
        subst hb'
        rw [blkSize_of q2.here, blkSize_of h1, hcs]
      rcases hkw with rfl | ⟨m, rfl⟩
      · simp only [memOf, hk, if_true]
        exact ⟨.inl trivial, trivial, hconl, hbs⟩
      · simp only [memOf, hk, if_true]
        exact ⟨trivial, trivial, hconl⟩
    · have hrow : RowsIn (memOf C (fun x => if x = κ then some k else ks x) β (updS ρ (evs ρ [(.k κ 0, .lst (tree l), .lset (.loc (.k κ 0)) p ne)])) w') (tree l) c'
          (content (updS ρ (evs ρ [(.k κ 0, .lst (tree l), .lset (.loc (.k κ 0)) p ne)])) κ (tree l)) := by
        refine ⟨by rw [hconl, hnl, hcs]; exact hlen, fun q v hq => ?_, fun i' hi' => ?_⟩
        · have hq' : c'.toList[q]? = some v := by rw [Array.getElem?_toList]; exact hq
          rw [q3] at hq'
          rcases List.mem_append.1 (List.mem_of_getElem? hq') with hm | hm
          · rcases List.mem_append.1 hm with hm | hm
            · obtain ⟨r, hr1⟩ := List.getElem?_of_mem (List.mem_of_mem_take hm)
              exact hrows.2.1 r v (by rw [← Array.getElem?_toList]; exact hr1)
            · exact CEsOk.leafs _ _ hz v hm
          · obtain ⟨r, hr1⟩ := List.getElem?_of_mem (List.mem_of_mem_drop hm)
            exact hrows.2.1 r v (by rw [← Array.getElem?_toList]; exact hr1)
        · simp only [memOf]
          have hi2 : i' < ((content ρ κ (tree l)).set i (ne.ev ρ (tree l))).length := by rw [← hcon]; exact hi'
          have hi3 : i' < (content ρ κ (tree l)).length := by simpa using hi2
          rw [get_eq hcon i' hi' hi2]
          simp only [List.get_eq_getElem]
          rw [List.getElem_set]
          by_cases hii : i = i'
          · subst hii
            rw [if_pos rfl]
            refine RepC.congr _ _ _ _ (fun q hq => ?_) (RepC.ext (w' := w') hI hW _ _ _ htree)
            rw [hnl] at hq ⊢
            have hcv : ∀ q, q < l.length → c.toList[i * l.length + q]? = vs[q]? := fun q hq => by
              have := r2 q hq
              rw [Nat.zero_add, hnl] at this
              rw [Array.getElem?_toList]; exact this
            rw [← Array.getElem?_toList, q3]
            rcases Nat.lt_or_ge q j with hqj | hqj
            · refine (app3_left (by simp; omega)).trans (Eq.trans ?_ (app3_left (by simp; omega)).symm)
              rw [List.getElem?_take, List.getElem?_take, if_pos hqj, if_pos (by omega), hcv q hq]
            · rcases Nat.lt_or_ge q (j + n) with hqn | hqn
              · refine (app3_mid (by simp; omega) (by simp; omega)).trans (Eq.trans ?_ (app3_mid (by simp; omega) (by simp; omega)).symm)
                congr 1
                simp only [List.length_take, Array.length_toList]
                omega
              · refine (app3_right (by simp; omega)).trans (Eq.trans ?_ (app3_right (by simp; omega)).symm)
                rw [List.getElem?_drop, List.getElem?_drop]
                simp only [List.length_take, Array.length_toList]
                rw [show j + n + (q - (min j vs.length + (a.eval y).cells.size)) = q by omega, ← hcv q hq]
                congr 1
                omega
          · rw [if_neg hii]
            refine RepC.congr _ _ _ _ (fun q hq => ?_) (RepC.ext (w' := w') hI hW _ _ _ (hrows.2.2 i' hi3))
            rw [hnl] at hq ⊢
            rw [← Array.getElem?_toList, ← Array.getElem?_toList, q3]
            have hne : i' * l.length + q < i * l.length ∨ i * l.length + l.length ≤ i' * l.length + q := by
              rcases Nat.lt_or_ge i' i with hh | hh
              · left
                have := Nat.mul_le_mul_right l.length (show i' + 1 ≤ i by omega)
                rw [Nat.add_mul, Nat.one_mul] at this
                omega
              · right
                have := Nat.mul_le_mul_right l.length (show i + 1 ≤ i' by omega)
                rw [Nat.add_mul, Nat.one_mul] at this
                omega
            rcases hne with hne | hne
            · refine Eq.trans ?_ (app3_left (by simp; omega)).symm
              rw [List.getElem?_take, if_pos (by omega)]
            · refine Eq.trans ?_ (app3_right (by simp; omega)).symm
              rw [List.getElem?_drop]
              congr 1
              simp only [List.length_take, Array.length_toList]
              omega
      rcases hkw with rfl | ⟨m, rfl⟩
      · simp only [KeyOk, memOf, hb]
        exact ⟨c', ⟨el, fz, q2.here, hfu.of_size hcs⟩, hrow⟩
      · refine ⟨b, c', hb, ⟨el, fz, q2.here, hfu.of_size hcs⟩, ?_, hrow⟩
        simp only [memOf]
        rw [hconl]
        obtain ⟨_, _, _, _, hm, _⟩ := h.keys κ _ hk
        exact hm
theorem storeEptF_ok (hT : TabsOk E C) (h : Rel C sl ks ρ β a w) {o : Oper} {cond : Cond} (hc : condOk ρ cond) (hdn : o.dst = none) {t : TypeId} {x y : Operand} {κ j n : Nat} {p : PE} {k : KSh} {l : List Ty} {g : Bool} {xs : List CE} {es : List PE} {fz : Frz}
    (ho : o.op = .store t x y) (hx : op1 ⟨sl, ks⟩ cond x = some (.ept κ j, p)) (hy : opC ⟨sl, ks⟩ cond y = some (g, xs)) (hk : ks κ = some k) (hkw : isWr k (tree l)) (hn : sizeT E.P t = some n) (hl : xs.length = n) (hll : l.all Ty.isLeaf = true)
    (hj : j + n ≤ l.length) (hes : asTs ⟨sl, ks⟩ xs ((l.drop j).take n) = some (es, fz)) (hnk : ∀ x ∈ fz, x.1 ≠ κ) :
    Good C.P o a w (StepOk C sl ks ρ { ks := fz ++ [(κ, k)], sets := [(.k κ 0, .lst (tree l), .lset (.loc (.k κ 0)) p
      (treeE (((leafCs l (.lidx (.loc (.k κ 0)) p) 0 l.length).map (·.2)).take j ++ es ++ ((leafCs l (.lidx (.loc (.k κ 0)) p) 0 l.length).map (·.2)).drop (j + n))))] }) := by
  have hz := VOk.cells (opC_ok h hc hy)
  have hfr : FrzRows ks fz := asTs_mem xs _ es fz hes
  obtain ⟨f1, f2, f3, f4⟩ := h.freeze fz hfr.ok
  have hr0 := asTs_ok h _ _ _ _ _ hes hz
  have hr : RepsOk w (imms C (putKs ks fz) β w) ρ ((l.drop j).take n) es (a.eval y).cells.toList := RepsOk.ext (by
    rintro b (hb | ⟨κ, k, hm, hb⟩)
    · exact f2 b hb
    · exact f3 κ k b hm hb) (fun _ _ _ => rfl) _ _ _ hr0
  have hk1 : putKs ks fz κ = some k := by rw [putKs_not _ _ _ hnk]; exact hk
  have := storeEpt_ok (ks := putKs ks fz) hT f1 hc hdn ho hx hy hk1 hkw hn hl hll hj hr
  intro next Q hn
  refine this next Q (fun a' w' hb => hn a' w' ?_)
  obtain ⟨β', hb⟩ := hb
  refine ⟨β', ?_⟩
  rw [putKs_append]
  exact hb
theorem s2b_ok (hT : TabsOk E C) (h : Rel C sl ks ρ β a w) {o : Oper} (hd : DstOk C sl o.dst) {cond : Cond} (hc : condOk ρ cond) {s t : TypeId} {x : Operand} {e : Eff} (ho : o.op = .convert s t x)
    (hs : stS2b E ⟨sl, ks⟩ cond o.dst s t x = some e) : Good C.P o a w (StepOk C sl ks ρ e) := by
  rw [stS2b, ← hT.P] at hs
  simp only [Option.bind_eq_bind, Option.bind_eq_some_iff] at hs
  obtain ⟨d1, hd1, d2, hd2, hs⟩ := hs
  split at hs
  · rename_i el
    simp only [Option.bind_eq_some_iff] at hs
    obtain ⟨d3, hd3, hs⟩ := hs
    split at hs
    · simp only [Option.bind_eq_some_iff] at hs
      obtain ⟨p, hp, hs⟩ := hs
      obtain ⟨s', hb, hs'⟩ := RepC.strV (opT_ok h hc hp)
      have hrun : ∀ {r w'}, (convert s t (.string s')).run C.P w = .ok r w' → (execOp a.eval o).run C.P w = .ok (.value r) w' := by
        intro r w' hr
        unfold execOp
        rw [ho]
        simp only [hb]
        exact run_v hr
      have hr := run_bytes_of_string (P := C.P) w s t el s' hd1 hd2 hd3
      have hge : s'.size ≤ grownCap w s'.size 0 el := cap_ge w _ _ _
      generalize grownCap w s'.size 0 el = cap at hr hge
      have hev : (PE.s2b p).evL ρ (.int .u8) = s'.data.toList := by
        show p.ev ρ .str = _
        exact hs'.symm
      have hlen : ((PE.s2b p).evL ρ (.int .u8)).length = s'.size := by rw [hev]; exact size_data s'
      have hsz : (bytesRow s' cap).size = cap := by
        have : s'.data.size = s'.size := rfl
        simp [bytesRow]
        omega
      refine MadeRow.step h hd hc hs (fun x hx => by simp at hx) (hrun hr) ⟨⟨bytesRow s' cap, el, _, cap, rfl, .inr (Nat.le_refl _), by rw [hlen], by rw [hlen]; exact hge, ?_, fun q v hq => ?_, fun i hi => ?_⟩, rfl, rfl, rfl⟩
      · rw [hsz]; exact Nat.le_of_eq (Nat.mul_one _)
      · have := Array.mem_of_getElem? hq
        simp only [bytesRow, Array.mem_append, Array.mem_map, Array.mem_replicate] at this
        rcases this with ⟨q, _, rfl⟩ | ⟨_, rfl⟩ <;> trivial
      · have hi1 : i < s'.data.toList.length := by rw [← hev]; exact hi
        have hi2 : i < s'.data.size := by simpa using hi1
        rw [get_eq hev i hi hi1]
        have := bytesRow_at s' cap i hi2
        show (bytesRow s' cap)[i * 1 + 0]? = _
        rw [Nat.mul_one, Nat.add_zero, this]
        rfl
    · simp at hs
  · simp at hs
theorem newK_chk {A : Acc} {cond : Cond} {d : Option Tmp} {k : KSh} {content : List (Loc × Ty × PE)} {sh : Nat → Sh} {fz : Frz} {chk : List PE} {e : Eff} (h : newK A cond d k content sh fz chk = some e) : e.chk = chk := by
  simp only [newK, Option.bind_eq_bind, Option.bind_eq_some_iff] at h
  obtain ⟨d', _, h⟩ := h
  split at h
  · simp at h
  · split at h
    · simp only [Option.some.injEq] at h
      rw [← h]
    · split at h
      · simp only [Option.some.injEq] at h
        rw [← h]
      · simp at h
theorem madeCells_at {z : Array Value} {n i j : Nat} (hj : j < z.size) (hn : i * z.size + j < n) : (madeCells z n)[i * z.size + j]? = z[j]? := by
  have h0 : 0 < z.size := by omega
  have e : (i * z.size + j) % z.size = j := by rw [Nat.mul_comm, Nat.mul_add_mod, Nat.mod_eq_of_lt hj]
  simp [madeCells, hn, e, hj]
theorem makeSlice_ok (hT : TabsOk E C) (h : Rel C sl ks ρ β a w) {o : Oper} (hd : DstOk C sl o.dst) {cond : Cond} (hc : condOk ρ cond) {t : TypeId} {x y : Operand} {e : Eff} (ho : o.op = .makeSlice t x y)
    (hs : stMake E ⟨sl, ks⟩ cond o.dst t x y = some e) (hk : allB ρ e.chk = true) : Good C.P o a w (StepOk C sl ks ρ e) := by
  have hP := hT.P
  simp only [stMake, Option.bind_eq_bind, Option.bind_eq_some_iff] at hs
  obtain ⟨d1, hd1, hs⟩ := hs
  split at hs
  · rename_i el
    simp only [Option.bind_eq_some_iff] at hs
    obtain ⟨lv, hlv, b, hb, ⟨zg, zs⟩, hz, ⟨k, n⟩, hn, ⟨k2, m⟩, hm, hs⟩ := hs
    split at hs
    · simp at hs
    rename_i hcc
    simp only [Bool.or_eq_true, bne_iff_ne, ne_eq, not_or, Decidable.not_not] at hcc
    obtain ⟨⟨rfl, rfl⟩, hzl⟩ := hcc
    simp only [Option.bind_eq_some_iff] at hs
    obtain ⟨⟨es, fz⟩, hes, hs⟩ := hs
    split at hs
    · rename_i es' heq
      simp only [Prod.mk.injEq] at heq
      obtain ⟨rfl, rfl⟩ := heq
      rw [← hP] at hd1 hlv hb hz
      obtain ⟨hsz, hleaf⟩ := lvs_size hlv
      obtain ⟨z, hz1, hz2⟩ := run_zero (w := w) hz
      have hz3 : CEsOk (memOf C ks β ρ w) zs z.cells.toList := VOk.cells (constV_ok hz2)
      have hz4 : z.cells.size = lv.length := by have := CEsOk.length _ _ hz3; simp only [Array.length_toList] at this; omega
      have hr0 := asTs_ok h _ _ _ _ _ hes hz3
      have hr : RepsOk w (imms C ks β w) ρ lv es z.cells.toList := RepsOk.ext (by
        rintro b (hb | ⟨κ, k, hm, _⟩)
        · exact hb
        · simp at hm) (fun _ _ _ => rfl) _ _ _ hr0
      have htree := RepsOk.tree hleaf hr
      obtain ⟨i, hi, hisz, hibt, hizr⟩ : ∃ i, C.P.info? el = some i ∧ i.size = lv.length ∧ i.bytes = b ∧ i.zero = some z := by
        simp only [sizeT, bytesT, zeroCs, Option.bind_eq_bind, Option.bind_eq_some_iff, Option.some.injEq] at hsz hb hz
        obtain ⟨i, h1, h2⟩ := hsz
        obtain ⟨i2, h3, h4⟩ := hb
        obtain ⟨i3, h5, z', h6, h7⟩ := hz
        rw [h1] at h3 h5
        simp only [Option.some.injEq] at h3 h5
        subst h3 h5
        refine ⟨i, h1, h2, h4, ?_⟩
        simp only [zeroValue, Sem.run_bind, run_ti h1, Result.andThen_ok, h6, Sem.run_pure, Result.ok.injEq, and_true] at hz1
        rw [h6, hz1]
      have hxn := opI_ok h hc hn
      have hym := opI_ok h hc hm
      have hck := under_ok hc (allB_mem hk _ (by rw [newK_chk hs]; exact List.mem_singleton.2 rfl))
      obtain ⟨c1, c2⟩ := ev_and hck
      obtain ⟨c2, c3⟩ := ev_and c2
      have c1 := ev_le c1
      have c2 := ev_le c2
      have c3 := ev_le c3
      rw [evI_int] at c1 c3
      have hmost : most = 70368744177664 := by decide
      have hpos : (0 : Int) < ((max b 1 : Nat) : Int) := by have : 1 ≤ max b 1 := Nat.le_max_right _ _; omega
      have c4 := (Int.le_ediv_iff_mul_le hpos).1 c3
      rw [hmost] at c4
      have hbm : ((b : Nat) : Int) * m.evI ρ ≤ 281474976710656 := by
        have h1 : ((b : Nat) : Int) ≤ ((max b 1 : Nat) : Int) := by have : b ≤ max b 1 := Nat.le_max_left _ _; omega
        have h2 := Int.mul_le_mul_of_nonneg_left h1 (show (0 : Int) ≤ m.evI ρ by omega)
        rw [Int.mul_comm]
        omega
      have hm63 : m.evI ρ ≤ 9223372036854775807 := by
        have h1 : (1 : Int) ≤ ((max b 1 : Nat) : Int) := by omega
        have h2 := Int.mul_le_mul_of_nonneg_left h1 (show (0 : Int) ≤ m.evI ρ by omega)
        omega
      have hrun := run_make (P := C.P) w t el i z hd1 hi hizr .i64 .i64 (n.evI ρ) (m.evI ρ) c1 c2 (by rw [hibt]; exact hbm) hm63
      have hev : (PE.lrep n (treeE es)).evL ρ (tree lv) = List.replicate (n.evI ρ).toNat ((treeE es).ev ρ (tree lv)) := rfl
      have hlen : ((PE.lrep n (treeE es)).evL ρ (tree lv)).length = (n.evI ρ).toNat := by rw [hev, List.length_replicate]
      have hnn : (tree lv).n = lv.length := tree_n _ hleaf
      have hmsz : (madeCells z.cells ((m.evI ρ).toNat * i.size)).size = (m.evI ρ).toNat * i.size := by simp [madeCells]
      have hle : (n.evI ρ).toNat ≤ (m.evI ρ).toNat := by omega
      have hexec : (execOp a.eval o).run C.P w = .ok (.value (.slice (some ⟨w.heap.size, 0, none⟩) (n.evI ρ).toNat (m.evI ρ).toNat)) (w.alloc (.cells (madeCells z.cells ((m.evI ρ).toNat * i.size)) el)) := by
        unfold execOp
        rw [ho]
        simp only [hxn, hym]
        exact run_v hrun
      refine MadeRow.step h hd hc hs (fun x hx => by simp at hx) hexec ⟨⟨_, el, (0, 0), (m.evI ρ).toNat, rfl, .inl rfl, by rw [hlen], by rw [hlen]; exact hle, ?_, fun q v hq => ?_, fun q hq => ?_⟩, rfl, rfl, rfl⟩
      · rw [hmsz, hnn, hisz]; exact Nat.le_refl _
      · have hql : q < (m.evI ρ).toNat * i.size := by
          rcases Nat.lt_or_ge q ((m.evI ρ).toNat * i.size) with hh | hh
          · exact hh
          · rw [Array.getElem?_eq_none (by rw [hmsz]; exact hh)] at hq; simp at hq
        have h0 : 0 < z.cells.size := by
          rcases Nat.eq_zero_or_pos z.cells.size with h0 | h0
          · rw [hisz, ← hz4, h0] at hql; omega
          · exact h0
        have hlt : q % z.cells.size < z.cells.size := Nat.mod_lt _ h0
        have : v = z.cells[q % z.cells.size] := by
          have e1 : (madeCells z.cells ((m.evI ρ).toNat * i.size))[q]? = some z.cells[q % z.cells.size] := by simp [madeCells, hql, hlt]
          rw [e1] at hq
          exact (Option.some.inj hq).symm
        rw [this]
        exact CEsOk.leafs _ _ hz3 _ (by simp)
      · have hq' : q < (List.replicate (n.evI ρ).toNat ((treeE es).ev ρ (tree lv))).length := by rw [← hev]; exact hq
        rw [get_eq hev q hq hq']
        simp only [List.get_eq_getElem, List.getElem_replicate]
        refine RepC.congr _ (fun j => z.cells.toList[j]?) _ _ (fun j hj => ?_) htree
        rw [hnn] at hj ⊢
        have hqn : q < (n.evI ρ).toNat := by simpa using hq'
        have hmul := Nat.mul_le_mul_right lv.length (show q + 1 ≤ (m.evI ρ).toNat by omega)
        rw [Nat.add_mul, Nat.one_mul] at hmul
        rw [← hz4, madeCells_at (by omega) (by rw [hisz, hz4]; omega), Array.getElem?_toList]
    · simp at hs
  · simp at hs
theorem run_mark {P : Program} {b : Nat} {c : Array Value} {e : TypeId} {fz : Nat × Nat} (h : w.heap[b]? = some (.cells c e fz)) (hu : Unfz c fz) :
    ∃ w' fz', (markStringish ⟨b, 0, none⟩).run P w = .ok () w' ∧ Wrote1 w w' b e fz' c ∧ Unfz c fz' := by
  have hs : w.shape? b = some (e, c.size) := by simp [World.shape?, h]
  have hr : (markStringish ⟨b, 0, none⟩).run P w = .ok () (w.freeze ⟨b, c.size, none⟩ 1) := by
    simp [markStringish, hs]
  obtain ⟨lo, hi⟩ := fz
  refine ⟨_, if lo == hi then (c.size, c.size + 1) else (min lo c.size, max hi (c.size + 1)), hr, ⟨?_, fun b' hb => ?_, ?_, rfl, rfl, rfl⟩, ?_⟩
  · simp [World.freeze, Array.getElem?_modify, h]
  · simp only [World.freeze, Nat.one_ne_zero, if_false, Array.getElem?_modify]
    rw [if_neg (fun e => hb e.symm)]
  · simp [World.freeze]
  · split
    · exact .inr (Nat.le_refl _)
    · rename_i hne
      have hne' : lo ≠ hi := by simpa using hne
      rcases hu with hu | hu
      · exact absurd hu hne'
      · simp only at hu
        exact .inr (by simp only; omega)
theorem b2b_ok (hT : TabsOk E C) (h : Rel C sl ks ρ β a w) {o : Oper} (hd : DstOk C sl o.dst) {cond : Cond} (hc : condOk ρ cond) {s t : TypeId} {x : Operand} {e : Eff} (ho : o.op = .convert s t x)
    (hs : stB2b E ⟨sl, ks⟩ cond o.dst s t x = some e) (hk : allB ρ e.chk = true) : Good C.P o a w (StepOk C sl ks ρ e) := by
  rw [stB2b, ← hT.P] at hs
  split at hs
  · simp at hs
  rename_i hce
  simp only [Bool.or_eq_true, Bool.not_eq_true', bne_iff_ne, ne_eq, not_or, Bool.not_eq_false, List.isEmpty_iff, Decidable.not_not] at hce
  obtain ⟨rfl, rfl⟩ := hce
  simp only [Option.bind_eq_bind, Option.bind_eq_some_iff] at hs
  obtain ⟨d1, hd1, hs⟩ := hs
  split at hs
  · rename_i el
    simp only [Option.bind_eq_some_iff] at hs
    obtain ⟨d3, hd3, hs⟩ := hs
    split at hs
    · simp only [Option.bind_eq_some_iff] at hs
      obtain ⟨cx, hx, hs⟩ := hs
      split at hs
      · rename_i κ p
        simp only [Option.bind_eq_some_iff] at hs
        obtain ⟨k, hkk, hs⟩ := hs
        split at hs
        · rename_i u
          split at hs
          · rename_i hu
            have hu' : u = .int .u8 := by simpa using hu
            subst hu'
            simp only [Option.some.injEq] at hs
            have hkk : ks κ = some (.row (.int .u8)) := hkk
            have hv := op1_ok h hc hx
            have hcell := hv.2
            simp only [CellOk, memOf, hkk] at hcell
            have hlt := ev_lt (allB_mem (hs ▸ hk) _ (List.mem_singleton.2 rfl))
            rw [evI_int, evI_llen] at hlt
            have hlt : 0 < (content ρ κ (.int .u8)).length := by
              have : ((PE.loc (.k κ 0)).evL ρ (.int .u8)) = content ρ κ (.int .u8) := rfl
              rw [this] at hlt
              omega
            have hkey := h.keys κ _ hkk
            cases hb : β κ with
            | none =>
              simp only [KeyOk, memOf, hb] at hkey
              rw [hkey] at hlt
              simp at hlt
            | some b =>
              simp only [KeyOk, memOf, hb] at hkey
              obtain ⟨c, ⟨el0, fz, h1, hfu⟩, hrows⟩ := hkey
              obtain ⟨base, cap, hxe, hcap, hbase⟩ := hcell
              simp only [hb] at hbase
              obtain ⟨rfl, hbs⟩ := hbase
              obtain ⟨w', fz', r1, r2, r3⟩ := run_mark (P := C.P) h1 hfu
              have hexec : (execOp a.eval o).run C.P w = .ok (.value (a.eval x)) w' := by
                unfold execOp
                rw [ho]
                refine run_v ?_
                rw [hxe]
                simp only [convert, Sem.run_bind, run_und hd1, run_und hd3, Result.andThen_ok, beq_self_eq_true, r1, Sem.run_pure]
              have hW : Rel C sl (fun y => if y = κ then some (.row (.int .u8)) else ks y) ρ β a w' := by
                refine Rel.write (k' := .row (.int .u8)) h hkk rfl hb r2 (fun l _ => rfl) (.inr ?_) rfl (fun hx hI hW => ?_)
                · simp only [memOf, hkk, if_true]
                  refine ⟨.inl trivial, trivial, trivial, fun b' hb' => ?_⟩
                  rw [hb] at hb'
                  simp only [Option.some.injEq] at hb'
                  subst hb'
                  rw [blkSize_of r2.here, blkSize_of h1]
                · simp only [KeyOk, memOf, hb]
                  exact ⟨c, ⟨el0, fz', r2.here, r3⟩, hrows.1, hrows.2.1, fun i hi => RepC.ext (w' := w') hI hW _ _ _ (hrows.2.2 i hi)⟩
              refine Good.value hexec ⟨β, ?_⟩
              rw [← hs]
              have hcx : CEOk (memOf C (fun y => if y = κ then some (.row (.int .u8)) else ks y) β ρ w') (.full κ, p) (a.eval x) := by
                refine ⟨hv.1, ?_⟩
                simp only [CellOk, memOf, if_true]
                refine ⟨_, cap, hxe, hcap, ?_⟩
                simp only [hb]
                refine ⟨trivial, ?_⟩
                rw [blkSize_of r2.here]
                rw [blkSize_of h1] at hbs
                exact hbs
              cases hdd : o.dst with
              | none => exact hW
              | some d =>
                obtain ⟨q1, q2⟩ := hd d hdd
                exact hW.put (x := .val false [(.full κ, p)]) q1 q2 (VOk.mk1 hcx)
          · simp at hs
        · simp at hs
      · simp at hs
    · simp at hs
  · simp at hs
end
end Rk
set_option linter.unusedVariables false
set_option linter.unusedSimpArgs false
namespace Rk
open Go
section
variable {E : Env} {C : Ctx} {sl : Nat → Slot} {ks : Nat → Option KSh} {ρ : Rho} {β : Nat → Option Nat} {a : Act} {w : World}
theorem Cells.take {I : Nat → Prop} {u : Ty} {xs : List u.D} {as : List Value} (h : Cells w I u xs as) (k : Nat) : Cells w I u (xs.take k) (as.take (k * u.n)) := by
  refine ⟨?_, fun v hv => h.leaf v (List.mem_of_mem_take hv), fun i hi => ?_⟩
  · rw [List.length_take, List.length_take, h.len]
    rcases Nat.le_total k xs.length with q | q
    · rw [Nat.min_eq_left q, Nat.min_eq_left (Nat.mul_le_mul_right _ q)]
    · rw [Nat.min_eq_right q, Nat.min_eq_right (Nat.mul_le_mul_right _ q)]
  · have hi2 : i < k ∧ i < xs.length := by rw [List.length_take] at hi; omega
    have e : (xs.take k).get ⟨i, hi⟩ = xs.get ⟨i, hi2.2⟩ := by simp
    rw [e]
    refine RepC.congr u _ _ _ (fun j hj => ?_) (h.rep i hi2.2)
    rw [List.getElem?_take, if_pos]
    have := Nat.mul_le_mul_right u.n (show i + 1 ≤ k from hi2.1)
    rw [Nat.add_mul] at this
    omega
theorem Cells.drop {I : Nat → Prop} {u : Ty} {xs : List u.D} {as : List Value} (h : Cells w I u xs as) (k : Nat) : Cells w I u (xs.drop k) (as.drop (k * u.n)) := by
  refine ⟨?_, fun v hv => h.leaf v (List.mem_of_mem_drop hv), fun i hi => ?_⟩
  · rw [List.length_drop, List.length_drop, h.len, Nat.sub_mul]
  · have hi2 : k + i < xs.length := by rw [List.length_drop] at hi; omega
    have e : (xs.drop k).get ⟨i, hi⟩ = xs.get ⟨k + i, hi2⟩ := by simp
    rw [e]
    have e2 : (fun j => (as.drop (k * u.n))[i * u.n + j]?) = (fun j => as[(k + i) * u.n + j]?) := funext fun j => by
      rw [List.getElem?_drop]
      congr 1
      rw [Nat.add_mul]
      omega
    rw [e2]
    exact h.rep _ hi2
theorem RowsIn.cells {M : Mem} {u : Ty} {c : Array Value} {xs : List u.D} (h : RowsIn M u c xs) : Cells M.w M.I u xs (c.toList.take (xs.length * u.n)) := by
  obtain ⟨h1, h2, h3⟩ := h
  have hcl : c.toList.length = c.size := by simp
  refine ⟨by rw [List.length_take, hcl]; exact Nat.min_eq_left h1, fun v hv => ?_, fun i hi => ?_⟩
  · obtain ⟨q, hq, rfl⟩ := List.mem_iff_getElem.1 (List.mem_of_mem_take hv)
    exact h2 q _ (by simp)
  · refine RepC.congr u _ _ _ (fun j hj => ?_) (h3 i hi)
    rw [List.getElem?_take, if_pos, Array.getElem?_toList]
    have := Nat.mul_le_mul_right u.n (show i + 1 ≤ xs.length from hi)
    rw [Nat.add_mul] at this
    omega
theorem src_first {P : Program} {I : Nat → Prop} {J : Nat → Nat → Prop} {lv : List Ty} (hl : lv.all Ty.isLeaf = true) {v : Value} {xs : List (tree lv).D} (h : ListAt w I (tree lv) v xs J) {k : Nat} (hk : k ≤ xs.length) :
    (Builtin.lenOf v).run P w = .ok xs.length w ∧ ∃ news, (Builtin.firstCells lv.length k v).run P w = .ok news.toArray w ∧ Cells w I (tree lv) (xs.take k) news := by
  obtain ⟨base, cap, h1, h2, h3⟩ := h
  subst h1
  refine ⟨rfl, ?_⟩
  have hlen : (xs.take k).length = k := by rw [List.length_take]; omega
  have hL : ListAt w I (tree lv) (.slice base (xs.take k).length cap) (xs.take k) J := by
    refine ⟨base, cap, rfl, by omega, ?_⟩
    rcases h3 with h3 | ⟨b, off, q1, q2, q3⟩
    · left; omega
    · refine .inr ⟨b, off, q1, q2, fun i hi => ?_⟩
      have hi2 : i < xs.length := by omega
      have e : (xs.take k).get ⟨i, hi⟩ = xs.get ⟨i, hi2⟩ := by simp
      rw [e]
      exact q3 i hi2
  obtain ⟨news, hs⟩ := src_list (P := P) hl hL
  refine ⟨news, ?_, hs.cells⟩
  have := hs.read w rfl
  rw [hlen] at this
  rw [← this]
  cases base <;> rfl
theorem run_copy {P : Program} {t el : TypeId} {size m n : Nat} {cap : Nat} {base : Option Addr} {x : Value} {ty : TypeId} {ts : List TypeId} {news : List Value} {w' : World} (ht : P.underlying t = some (.slice el)) (hs : sizeT P el = some size)
    (hl : (Builtin.lenOf x).run P w = .ok m w) (hr : (Builtin.firstCells size (Nat.min m n) x).run P w = .ok news.toArray w)
    (hst : ∀ ad, base = some ad → (storeCells ad news).run P w = .ok () w') (hn : base = none → w' = w) :
    (Builtin.copy_ (t :: ts).toArray ty #[.slice base n cap, x]).run P w = .ok (.int .i64 (Nat.min m n : Nat)) w' := by
  cases base with
  | none =>
    have hn := hn rfl
    subst hn
    simp [Builtin.copy_, run_und ht, run_size hs, hl, hr, goInt]
  | some ad =>
    have hst := hst ad rfl
    simp [Builtin.copy_, run_und ht, run_size hs, hl, hr, hst, goInt]
theorem spanOf_ok (h : Rel C sl ks ρ β a w) {u : Ty} {c : CE} {v : Value} (hv : CEOk (memOf C ks β ρ w) c v) {κ : Nat} {off len : PE} (hs : spanOf ⟨sl, ks⟩ u c = some (κ, off, len)) :
    ks κ = some (.row u) ∧ ∃ o n : Nat, off.evI ρ = o ∧ len.evI ρ = n ∧ o + n ≤ (content ρ κ u).length ∧ ∃ base cap, v = .slice base n cap ∧ (n = 0 ∨ ∃ b, β κ = some b ∧ base = some ⟨b, o * u.n, none⟩) := by
  obtain ⟨s, e⟩ := c
  have hc := hv.2
  cases s <;> simp only [spanOf] at hs <;> try (simp at hs; done)
  case full κ0 =>
    split at hs
    · rename_i t hk
      split at hs
      · rename_i htu
        have htu : t = u := by simpa using htu
        subst htu
        simp only [Option.some.injEq, Prod.mk.injEq] at hs
        obtain ⟨rfl, rfl, rfl⟩ := hs
        have hk : ks κ0 = some (.row t) := hk
        simp only [CellOk, memOf, hk] at hc
        obtain ⟨base, cap, h1, h2, h3⟩ := hc
        refine ⟨hk, 0, (content ρ κ0 t).length, rfl, rfl, by omega, base, cap, h1, ?_⟩
        simp only at h3
        cases hb : β κ0 with
        | none =>
          left
          have := h.keys κ0 _ hk
          simp only [KeyOk, memOf, hb] at this
          rw [this]; rfl
        | some b =>
          rw [hb] at h3
          exact .inr ⟨b, rfl, by rw [h3.1, Nat.zero_mul]⟩
      · simp at hs
    · simp at hs
  case pre κ0 =>
    split at hs
    · rename_i t hk
      split at hs
      · rename_i htu
        have htu : t = u := by simpa using htu
        subst htu
        simp only [Option.some.injEq, Prod.mk.injEq] at hs
        obtain ⟨rfl, rfl, rfl⟩ := hs
        have hk : ks κ0 = some (.row t) := hk
        simp only [CellOk, memOf, hk, CE.dyn, Sh.ty] at hc
        rw [Dyn.get_mk] at hc
        obtain ⟨n, hn, hle, base, cap, h1, h2, h3⟩ := hc
        refine ⟨hk, 0, n, rfl, hn, by omega, base, cap, h1, ?_⟩
        simp only at h3
        cases hb : β κ0 with
        | none =>
          left
          have := h.keys κ0 _ hk
          simp only [KeyOk, memOf, hb] at this
          rw [this] at hle
          simpa using hle
        | some b =>
          rw [hb] at h3
          exact .inr ⟨b, rfl, by rw [h3.1, Nat.zero_mul]⟩
      · simp at hs
    · simp at hs
  case view κ0 =>
    split at hs
    · rename_i t hk
      split at hs
      · rename_i htu
        have htu : t = u := by simpa using htu
        subst htu
        simp only [Option.some.injEq, Prod.mk.injEq] at hs
        obtain ⟨rfl, rfl, rfl⟩ := hs
        have hk : ks κ0 = some (.row t) := hk
        simp only [CellOk, memOf, hk, CE.dyn, Sh.ty] at hc
        rw [Dyn.get_mk] at hc
        obtain ⟨o, n, hon, hle, base, cap, h1, h2, h3⟩ := hc
        refine ⟨hk, o, n, ?_, ?_, hle, base, cap, h1, h3⟩
        · show (e.ev ρ (.pair (.int .i64) (.int .i64))).1 = _
          rw [hon]
        · show (e.ev ρ (.pair (.int .i64) (.int .i64))).2 = _
          rw [hon]
      · simp at hs
    · simp at hs
theorem sub_take {α : Type} (l : List α) (n : Nat) : sub l (0 : Int) (n : Int) = l.take n := by simp [sub]
theorem sub_drop {α : Type} (l : List α) (n : Nat) : sub l (n : Int) ((l.length : Nat) : Int) = l.drop n := by
  simp [sub]
theorem ev_copied {u : Ty} {κ : Nat} {off n r : PE} {o m : Nat} (ho : off.evI ρ = o) (hm : n.evI ρ = m) :
    (copied u κ off n r).evL ρ u = (content ρ κ u).take o ++ ((r.evL ρ u).take m ++ (content ρ κ u).drop (o + m)) := by
  have e1 : (PE.lsub (.loc (.k κ 0)) (.int 0) off).evL ρ u = (content ρ κ u).take o := by
    show sub (content ρ κ u) (0 : Int) (off.evI ρ) = _
    rw [ho, sub_take]
  have e2 : (PE.lsub r (.int 0) n).evL ρ u = (r.evL ρ u).take m := by
    show sub (r.evL ρ u) (0 : Int) (n.evI ρ) = _
    rw [hm, sub_take]
  have e3 : (PE.lsub (.loc (.k κ 0)) (.plus off n) (.llen u (.loc (.k κ 0)))).evL ρ u = (content ρ κ u).drop (o + m) := by
    show sub (content ρ κ u) (off.evI ρ + n.evI ρ) (((content ρ κ u).length : Nat) : Int) = _
    rw [ho, hm, show (o : Int) + (m : Int) = ((o + m : Nat) : Int) by omega, sub_drop]
  show (PE.lsub (.loc (.k κ 0)) (.int 0) off).evL ρ u ++ ((PE.lsub r (.int 0) n).evL ρ u ++ (PE.lsub (.loc (.k κ 0)) (.plus off n) (.llen u (.loc (.k κ 0)))).evL ρ u) = _
  rw [e1, e2, e3]
theorem minI_ev {a b : PE} {x y : Nat} (ha : a.evI ρ = x) (hb : b.evI ρ = y) : (PE.minI .i64 a b).evI ρ = ((Nat.min x y : Nat) : Int) := by
  show (if b.evI ρ < a.evI ρ then b.evI ρ else a.evI ρ) = _
  rw [ha, hb]
  split
  · rename_i h
    have : y < x := by omega
    rw [show Nat.min x y = y from Nat.min_eq_right (by omega)]
  · rename_i h
    rw [show Nat.min x y = x from Nat.min_eq_left (by omega)]
theorem Wrote1.refl {b : Nat} {el : TypeId} {fz : Nat × Nat} {c : Array Value} (h : w.heap[b]? = some (.cells c el fz)) : Wrote1 w w b el fz c :=
  ⟨h, fun _ _ => rfl, rfl, rfl, rfl, rfl⟩
theorem copy_ok (hT : TabsOk E C) (h : Rel C sl ks ρ β a w) {o : Oper} (hd : DstOk C sl o.dst) {cond : Cond} (hc : condOk ρ cond) {c : Call} {x y : Operand} {t : TypeId} {ts : List TypeId} {e : Eff}
    (ho : o.op = .call c) (hb : c.callee = .builtin .copy) (ha : c.args.toList = [x, y]) (hts : c.argTypes.toList = t :: ts) (hs : stCopy E ⟨sl, ks⟩ cond o.dst t x y = some e) (hk : allB ρ e.chk = true) :
    Good C.P o a w (StepOk C sl ks ρ e) := by
  have hP := hT.P
  have ha' : c.args = #[x, y] := by apply Array.ext'; simpa using ha
  have ht' : c.argTypes = (t :: ts).toArray := by apply Array.ext'; simpa using hts
  have hrun : ∀ r w', (Builtin.copy_ (t :: ts).toArray o.type #[a.eval x, a.eval y]).run C.P w = .ok r w' → (execOp a.eval o).run C.P w = .ok (.value r) w' := by
    intro r w' hr
    refine run_call_builtin ho hb ?_
    rw [ha', ht', show Array.map a.eval #[x, y] = #[a.eval x, a.eval y] by simp]
    exact run_v hr
  simp only [stCopy] at hs
  split at hs
  · simp at hs
  simp only [Option.bind_eq_bind, Option.bind_eq_some_iff] at hs
  obtain ⟨d, hdd, hs⟩ := hs
  split at hs
  · rename_i el
    simp only [Option.bind_eq_some_iff] at hs
    obtain ⟨lv, hlv, ca, hca, cz, hcz, ⟨κ, off, len⟩, hsp, ⟨v, r⟩, hr, hs⟩ := hs
    split at hs
    · simp at hs
    rename_i hvu
    have hvu : v = tree lv := by simpa using hvu
    subst hvu
    rw [← hP] at hdd hlv
    obtain ⟨hsz, hleaf⟩ := lvs_size hlv
    have hn : (tree lv).n = lv.length := tree_n _ hleaf
    obtain ⟨hrow, o0, n0, ho0, hn0, hon, base, cap, hxe, hbase⟩ := spanOf_ok h (op1_ok h hc hca) hsp
    have hL := readL_ok h (op1_ok h hc hcz) hr
    have hNle : Nat.min (r.evL ρ (tree lv)).length n0 ≤ (r.evL ρ (tree lv)).length := Nat.min_le_left _ _
    obtain ⟨hlenr, news, hread, hcells⟩ := src_first (P := C.P) hleaf hL hNle
    generalize hN : Nat.min (r.evL ρ (tree lv)).length n0 = N at hread hcells hNle
    have hNn : N ≤ n0 := by rw [← hN]; exact Nat.min_le_right _ _
    have hne : (PE.minI .i64 (.llen (tree lv) r) len).evI ρ = (N : Int) := by rw [← hN]; exact minI_ev (evI_llen _ _ _) hn0
    generalize hnE : PE.minI .i64 (.llen (tree lv) r) len = nE at hs hne
    simp only [Option.some.injEq] at hs
    have hlt := ev_lt (allB_mem (hs ▸ hk) _ (List.mem_singleton.2 rfl))
    rw [evI_int, evI_llen] at hlt
    have hlt : 0 < (content ρ κ (tree lv)).length := by
      have : ((PE.loc (.k κ 0)).evL ρ (tree lv)) = content ρ κ (tree lv) := rfl
      rw [this] at hlt
      omega
    have hkey := h.keys κ _ hrow
    cases hβ : β κ with
    | none =>
      simp only [KeyOk, memOf, hβ] at hkey
      rw [hkey] at hlt
      simp at hlt
    | some b =>
      simp only [KeyOk, memOf, hβ] at hkey
      obtain ⟨c0, ⟨el0, fz, h1, hfu⟩, hrows⟩ := hkey
      have hlenN : (List.take N (r.evL ρ (tree lv))).length = N := by rw [List.length_take]; omega
      have hnl : news.length = N * lv.length := by rw [hcells.len, hlenN, hn]
      have hsize0 : (content ρ κ (tree lv)).length * lv.length ≤ c0.size := by have := hrows.1; rw [hn] at this; exact this
      have hfit : o0 * lv.length + news.length ≤ c0.size := by
        rw [hnl, ← Nat.add_mul]
        exact Nat.le_trans (Nat.mul_le_mul_right _ (by omega)) hsize0
      -- what is written
      obtain ⟨w', c', q1, q2, q3⟩ : ∃ w' c', (∀ ad, base = some ad → (storeCells ad news).run C.P w = .ok () w') ∧ (base = none → w' = w) ∧ (Wrote1 w w' b el0 fz c' ∧ c'.toList = c0.toList.take (o0 * lv.length) ++ news ++ c0.toList.drop (o0 * lv.length + news.length)) := by
        rcases Nat.eq_zero_or_pos N with h0 | h0
        · have hne : news = [] := by apply List.length_eq_zero_iff.1; rw [hnl, h0, Nat.zero_mul]
          refine ⟨w, c0, fun ad _ => by rw [hne]; rfl, fun _ => rfl, Wrote1.refl h1, by rw [hne]; simp⟩
        · rcases hbase with hbase | ⟨b', hb', hbs⟩
          · omega
          · rw [hβ] at hb'
            simp only [Option.some.injEq] at hb'
            subst hb'
            rw [hn] at hbs
            obtain ⟨w', c', s1, s2, s3⟩ := run_storeCells' (P := C.P) (b := b) (o := o0 * lv.length) news 0 w c0 h1 hfu (by simpa using hfit) hcells.leaf
            rw [Nat.add_zero] at s3
            refine ⟨w', c', fun ad had => ?_, fun hnone => ?_, s2, s3⟩
            · rw [hbs] at had
              simp only [Option.some.injEq] at had
              subst had
              exact s1
            · rw [hbs] at hnone
              simp at hnone
      obtain ⟨q3, q4⟩ := q3
      have hsize : c'.size = c0.size := wrote_size q4 (by simpa using hfit)
      have hexec := hrun _ _ (by
        rw [hxe]
        have := run_copy (P := C.P) (w := w) (t := t) (el := el) (size := lv.length) (m := (r.evL ρ (tree lv)).length) (n := n0) (cap := cap) (base := base) (x := a.eval y) (ty := o.type) (ts := ts) (news := news) (w' := w') hdd hsz hlenr (by rw [hN]; exact hread) q1 q2
        exact this)
      rw [hN] at hexec
      refine Good.value hexec ⟨β, ?_⟩
      rw [← hs]
      -- the number is put
      have hput : Rel C (putSl sl (put1 cond o.dst (.dyn (.int .i64), nE)).sl) ks (updS ρ (evs ρ (put1 cond o.dst (.dyn (.int .i64), nE)).sets)) β (a.put o.dst (.int .i64 (N : Int))) w := by
        cases hdd2 : o.dst with
        | none => exact h
        | some d =>
          obtain ⟨p1, p2⟩ := hd d hdd2
          refine h.put (x := .val false [(.dyn (.int .i64), nE)]) p1 p2 (VOk.mk1 ⟨trivial, ?_⟩)
          simp only [CellOk, CE.dyn, Sh.ty]
          rw [Dyn.get_mk]
          show some (Value.int .i64 (N : Int)) = some (.int .i64 (nE.evI ρ))
          rw [hne]
      have hput0 : ∀ l, (∀ d j, l ≠ .s d j) → updS ρ (evs ρ (put1 cond o.dst (.dyn (.int .i64), nE)).sets) l = ρ l := by
        intro l hl
        cases hdd2 : o.dst with
        | none => rfl
        | some d =>
          simp only [put1, putV, setCs, Sh.ty, evs, List.map_cons, List.map_nil, updS]
          rw [if_neg (hl d 0)]
      generalize hst : (put1 cond o.dst (.dyn (.int .i64), nE)).sets = sts at hput hput0
      have hnk : ∀ y ∈ sts, ∀ κ j, y.1 ≠ Loc.k κ j := by
        intro y hy κ j e
        rw [← hst] at hy
        cases hdd2 : o.dst with
        | none => rw [hdd2] at hy; simp [put1, putV] at hy
        | some d =>
          rw [hdd2] at hy
          simp only [put1, putV, setCs, Sh.ty, List.mem_singleton] at hy
          rw [hy] at e
          simp at e
      have hρs : ∀ (L : List (Loc × Ty × PE)) (hL : ∀ y ∈ L, ∀ κ j, y.1 ≠ Loc.k κ j) (n : PE) (l : Loc), updS ρ (evs ρ (L ++ [(.k κ 0, .lst (tree lv), n)])) l = if l = .k κ 0 then ⟨.lst (tree lv), n.ev ρ (.lst (tree lv))⟩ else updS ρ (evs ρ L) l := by
        intro L
        induction L with
        | nil => intro _ n l; rfl
        | cons z r ih =>
          intro hL n l
          have := ih (fun y hy => hL y (by simp [hy])) n l
          simp only [List.cons_append, evs, List.map_cons, updS] at this ⊢
          by_cases hz : l = z.1
          · have hne : ¬ l = .k κ 0 := fun e => hL z (by simp) κ 0 (by rw [← hz]; exact e)
            rw [if_pos hz, if_neg hne, if_pos hz]
          · rw [if_neg hz]
            rw [this]
            split
            · rfl
            · rfl
      have hcon : content (updS ρ (evs ρ (sts ++ [(.k κ 0, .lst (tree lv), copied (tree lv) κ off nE r)]))) κ (tree lv) = (content ρ κ (tree lv)).take o0 ++ ((r.evL ρ (tree lv)).take N ++ (content ρ κ (tree lv)).drop (o0 + N)) := by
        simp only [content]
        rw [hρs sts hnk, if_pos rfl, Dyn.get_mk]
        exact ev_copied (r := r) ho0 hne
      have hcon0 : content (updS ρ (evs ρ sts)) κ (tree lv) = content ρ κ (tree lv) := by
        simp only [content]
        rw [hput0 _ (by simp)]
      have hnewl : ((content ρ κ (tree lv)).take o0 ++ ((r.evL ρ (tree lv)).take N ++ (content ρ κ (tree lv)).drop (o0 + N))).length = (content ρ κ (tree lv)).length := by
        rw [List.length_append, List.length_append, hlenN, List.length_take, List.length_drop]
        omega
      -- what lies there
      have hold := hrows.cells
      simp only [memOf] at hold
      have hnew : Cells w (imms C ks β w) (tree lv) ((content ρ κ (tree lv)).take o0 ++ ((r.evL ρ (tree lv)).take N ++ (content ρ κ (tree lv)).drop (o0 + N)))
          (c0.toList.take (o0 * lv.length) ++ (news ++ (c0.toList.take ((content ρ κ (tree lv)).length * lv.length)).drop ((o0 + N) * lv.length))) := by
        have h1 := hold.take o0
        have h2 := hold.drop (o0 + N)
        rw [hn] at h1 h2
        rw [List.take_take, Nat.min_eq_left (Nat.mul_le_mul_right _ (by omega))] at h1
        exact h1.append (hcells.append h2)
      have hcl : c'.toList = (c0.toList.take (o0 * lv.length) ++ (news ++ (c0.toList.take ((content ρ κ (tree lv)).length * lv.length)).drop ((o0 + N) * lv.length))) ++ c0.toList.drop ((content ρ κ (tree lv)).length * lv.length) := by
        rw [q4, hnl, ← Nat.add_mul, List.append_assoc, List.append_assoc, List.append_assoc]
        congr 2
        have hle : (o0 + N) * lv.length ≤ (content ρ κ (tree lv)).length * lv.length := Nat.mul_le_mul_right _ (by omega)
        have hjl : (c0.toList.take ((content ρ κ (tree lv)).length * lv.length)).length = (content ρ κ (tree lv)).length * lv.length := by
          rw [List.length_take, Nat.min_eq_left]; simpa using hsize0
        rw [← List.drop_append_of_le_length (by rw [hjl]; exact hle), List.take_append_drop]
      refine Rel.write (k' := .row (tree lv)) hput hrow rfl hβ q3 (fun l hl => ?_) (.inr ?_) rfl (fun hx hI hW => ?_)
      · rw [hρs sts hnk, if_neg (hl 0)]
      · simp only [memOf, hrow, if_true]
        refine ⟨.inl trivial, trivial, ?_, fun b' hb' => ?_⟩
        · rw [hcon, hnewl, hcon0]
        · rw [hβ] at hb'
          simp only [Option.some.injEq] at hb'
          subst hb'
          rw [blkSize_of q3.here, blkSize_of h1, hsize]
      · simp only [KeyOk, memOf, hβ]
        refine ⟨c', ⟨el0, fz, q3.here, hfu.of_size hsize⟩, ?_, fun q v hv => ?_, fun i hi => ?_⟩
        · rw [hcon, hnewl, hsize]
          exact hrows.1
        · have hv' : v ∈ c'.toList := by have := Array.mem_of_getElem? hv; simpa using this
          rw [hcl] at hv'
          rcases List.mem_append.1 hv' with hv' | hv'
          · exact hnew.leaf v hv'
          · obtain ⟨q, hq, rfl⟩ := List.mem_iff_getElem.1 (List.mem_of_mem_drop hv')
            exact hrows.2.1 q _ (by simp)
        · simp only [memOf] at hi ⊢
          have hi2 : i < ((content ρ κ (tree lv)).take o0 ++ ((r.evL ρ (tree lv)).take N ++ (content ρ κ (tree lv)).drop (o0 + N))).length := by rw [← hcon]; exact hi
          rw [get_eq hcon i hi hi2]
          exact RepC.ext (w' := w') hI hW _ _ _ (Cells.prefix_rows hnew hcl i hi2)
  · simp at hs
end
end Rk
set_option linter.unusedVariables false
set_option linter.unusedSimpArgs false
namespace Rk
open Go
section
variable {E : Env} {C : Ctx} {sl : Nat → Slot} {ks : Nat → Option KSh} {ρ : Rho} {β : Nat → Option Nat} {a : Act} {w : World}
theorem stStore_ok (hT : TabsOk E C) (h : Rel C sl ks ρ β a w) {o : Oper} {cond : Cond} (hc : condOk ρ cond) {t : TypeId} {x y : Operand} {c : CE} {v : Bool × List CE} {e : Eff}
    (ho : o.op = .store t x y) (hx : op1 ⟨sl, ks⟩ cond x = some c) (hy : opC ⟨sl, ks⟩ cond y = some v) (hs : stStore E ⟨sl, ks⟩ cond o.dst t c v = some e) : Good C.P o a w (StepOk C sl ks ρ e) := by
  obtain ⟨g, xs⟩ := v
  simp only [stStore, Option.bind_eq_bind, Option.bind_eq_some_iff] at hs
  obtain ⟨n, hn, hs⟩ := hs
  split at hs
  · simp at hs
  rename_i hcc
  simp only [Bool.or_eq_true, bne_iff_ne, ne_eq, not_or, Decidable.not_not, Bool.not_eq_true, Option.isSome_eq_false_iff, Option.isNone_iff_eq_none] at hcc
  obtain ⟨⟨hl, _⟩, hdn⟩ := hcc
  split at hs
  · rename_i κ j p
    simp only [Option.bind_eq_some_iff] at hs
    obtain ⟨k, hk, hs⟩ := hs
    split at hs
    · rename_i cs
      split at hs
      · rename_i hj
        simp only [Option.some.injEq] at hs
        subst hs
        exact storeBox_ok hT h hc hdn ho hx hy hk hn hl hj
      · simp at hs
    · simp at hs
  · rename_i κ p
    simp only [Option.bind_eq_some_iff] at hs
    obtain ⟨k, hk, hs⟩ := hs
    split at hs
    · rename_i u m
      split at hs
      · rename_i hnm
        simp only [Bool.and_eq_true, beq_iff_eq] at hnm
        obtain ⟨rfl, hu⟩ := hnm
        simp only [Option.bind_eq_some_iff] at hs
        obtain ⟨⟨es, fz⟩, hes, hs⟩ := hs
        split at hs
        · rename_i es' heq
          simp only [Prod.mk.injEq] at heq
          obtain ⟨rfl, rfl⟩ := heq
          simp only [Option.some.injEq] at hs
          subst hs
          exact storeArr_ok hT h hc hdn ho hx hy hk hn hl hu hes
        · simp at hs
      · simp at hs
    · simp at hs
  · rename_i κ j p
    simp only [Option.bind_eq_some_iff] at hs
    obtain ⟨k, hk, hs⟩ := hs
    have key : ∀ u, isWr k u → stEpt ⟨sl, ks⟩ κ k u j n p xs = some e → Good C.P o a w (StepOk C sl ks ρ e) := by
      intro u hw hs
      simp only [stEpt, Option.bind_eq_bind] at hs
      split at hs
      · rename_i hcc
        simp only [Bool.and_eq_true, beq_iff_eq, decide_eq_true_eq] at hcc
        obtain ⟨⟨htu, hll⟩, hj⟩ := hcc
        simp only [Option.bind_eq_some_iff] at hs
        obtain ⟨⟨es, fz⟩, hes, hs⟩ := hs
        split at hs
        · simp at hs
        · rename_i hnk
          simp only [Option.some.injEq] at hs
          subst hs
          have := storeEptF_ok (l := u.lv) hT h hc hdn ho hx hy hk (by rw [htu]; exact hw) hn hl hll hj hes (fun x hx e => hnk (List.any_eq_true.2 ⟨x, hx, by simpa using e⟩))
          rw [htu] at this
          exact this
      · simp at hs
    split at hs
    · exact key _ (.inl rfl) hs
    · exact key _ (.inr ⟨_, rfl⟩) hs
    · simp at hs
  · simp at hs
theorem pick_cond {cond ca : Cond} (hc : condOk ρ cond) {c : Operand} {ce : PE} (hce : opT ⟨sl, ks⟩ cond c .bool = some ce) {wt : Bool} (hca : ca = armC cond c wt) (hv : ce.evB ρ = wt) : condOk ρ ca := by
  subst hca
  cases c with
  | tmp t =>
    intro y hy
    rcases List.mem_append.1 hy with hy | hy
    · exact hc y hy
    · simp only [List.mem_singleton] at hy
      subst hy
      simp only
      have : ce = .loc (.s t 0) := by
        simp only [opT, op1, opV, opTmp, Option.bind_eq_bind, Option.bind_eq_some_iff] at hce
        obtain ⟨c1, ⟨v, h1, h2⟩, h3⟩ := hce
        split at h1
        · cases hk : (sl t).k with
          | dead => simp [skV, hk] at h1
          | val w =>
            simp only [skV, hk, Option.some.injEq] at h1
            subst h1
            obtain ⟨ag, cs⟩ := w
            match cs with
            | [] => simp [cellsAt] at h2
            | [s] =>
              cases ag with
              | true => simp at h2
              | false =>
                simp only [cellsAt, Option.some.injEq] at h2
                subst h2
                split at h3
                · rename_i hh
                  simp only [Prod.mk.injEq] at hh
                  split at h3
                  · simp only [Option.some.injEq] at h3
                    rw [← h3, ← hh.2]
                  · simp at h3
                · simp at h3
            | _ :: _ :: _ => simp [cellsAt] at h2
          | tup vs => simp only [skV, hk, Option.some.injEq] at h1; subst h1; simp at h2
          | clo f nf vs => simp only [skV, hk, Option.some.injEq] at h1; subst h1; simp at h2
        · simp at h1
      subst this
      exact hv
  | const v => exact hc
  | global g => exact hc
  | func f => exact hc
theorem bin_ok (hT : TabsOk E C) (h : Rel C sl ks ρ β a w) {cond : Cond} (hc : condOk ρ cond) {o : Oper} {op : BinOp} {t : TypeId} {x y : Operand} {wr : TypeId} {e : Eff} (ho : o.op = .binOp op t x y wr)
    (hs : stBin E ⟨sl, ks⟩ cond o.dst op t x y = some e) (hk : allB ρ e.chk = true) : ValOp C ks ρ β a w o cond e :=
  have hr0 : ∀ r, (do eqGuard op t x y (a.eval x) (a.eval y); binOp op t (a.eval x) (a.eval y) : Sem Value).run C.P w = .ok r w → (execOp a.eval o).run C.P w = .ok (.value r) w :=
    fun r hr => exec_val (s := do eqGuard op t x y (a.eval x) (a.eval y); binOp op t (a.eval x) (a.eval y)) (by unfold execOp; rw [ho]) hr
  stBin_ok (wr := true) hT h hc hr0 (fun xs ys hx hy he => stEqAgg_ok hT h hc hx hy hr0 he) hs hk
theorem stCalls_spec {A : Acc} {cond : Cond} {d : Option Tmp} {f : FuncId} {args : List OpV} {e : Eff} : ∀ (sgs : List Sig) (i : Nat), stCalls A cond d f args i sgs = some e → ∃ q sg, sgs[q]? = some sg ∧ stCall1 A cond d f (i + q) sg args = some e
  | [], i, h => by simp [stCalls] at h
  | sg :: r, i, h => by
    simp only [stCalls] at h
    split at h
    · rename_i e' he'
      simp only [Option.some.injEq] at h
      subst h
      exact ⟨0, sg, rfl, he'⟩
    · obtain ⟨q, sg', h1, h2⟩ := stCalls_spec r (i + 1) h
      exact ⟨q + 1, sg', by simpa using h1, by rw [show i + (q + 1) = i + 1 + q from by omega]; exact h2⟩
structure CallIs (A : Acc) (cond : Cond) (d : Option Tmp) (f : FuncId) (i : Nat) (sg : Sig) (args : List OpV) (e : Eff) (c : Cv) (nms : List (Nat × Nat)) (rk : List (Nat × KSh)) (sk : SK) (outs : List (Loc × Ty)) : Prop where
  cv : conv A [] sg.inSl sg.inKs args = some c
  hcond : cond = [] ∨ sg.iks = []
  locs : c.mvs.map (fun x => (x.1, x.2.1)) = sg.inLocs
  ndL : nodupB (sg.inLocs.map (·.1)) = true
  ndI : nodupB (sg.inKs.map (·.1)) = true
  small : sg.iks.length ≤ 100000
  hnms : namesKs sg (d.getD 1000000) c.km sg.outKs = some nms
  hrk : renameKs nms sg.outKs = some rk
  nd1 : nodupB (nms.map (·.1)) = true
  nd2 : nodupB (nms.map (·.2)) = true
  fit : namesFit A sg c.km nms sg.outKs = true
  ndO : nodupB (sg.outKs.map (·.1)) = true
  given : ∀ x ∈ sg.inKs, ∀ κ', lookK c.km x.1 = some (some κ') → ∃ y ∈ goneKs sg c.km sg.inKs ++ rk, y.1 = κ'
  hsk : renameSK (nameOf nms) sg.outSK = some sk
  houts : mapLocs (nameOf nms) (d.getD 1000000) sg.outLocs = some outs
  ndOL : nodupB (sg.outLocs.map (·.1)) = true
  ndOS : nodupB (outs.map (·.1)) = true
  dst : dstOkB d sg = true
  he : e = { call := some ⟨condE A cond, f, i, c.mvs.map (·.2), outs⟩, sl := (if d.isSome then [(d.getD 1000000, ⟨cond, sk⟩)] else []), ks := (if sg.flat then [] else c.fz) ++ (goneKs sg c.km sg.inKs ++ rk) }
theorem stCall1_spec {A : Acc} {cond : Cond} {d : Option Tmp} {f : FuncId} {i : Nat} {sg : Sig} {args : List OpV} {e : Eff} (h : stCall1 A cond d f i sg args = some e) :
    ∃ c nms rk sk outs, CallIs A cond d f i sg args e c nms rk sk outs := by
  unfold stCall1 at h
  simp only [Option.bind_eq_bind, Option.bind_eq_some_iff] at h
  obtain ⟨c, hc, h⟩ := h
  by_cases h1 : (!cond.isEmpty && !sg.iks.isEmpty) = true
  · rw [if_pos h1] at h; simp at h
  rw [if_neg h1] at h
  by_cases h2 : (c.mvs.map (fun x => (x.1, x.2.1)) != sg.inLocs || !nodupB (sg.inLocs.map (·.1)) || !nodupB (sg.inKs.map (·.1)) || decide (100000 < sg.iks.length)) = true
  · rw [if_pos h2] at h; simp at h
  rw [if_neg h2] at h
  simp only [Option.bind_eq_some_iff] at h
  obtain ⟨nms, hn, rk, hr, h⟩ := h
  by_cases h3 : (!nodupB (nms.map (·.1)) || !nodupB (nms.map (·.2)) || !namesFit A sg c.km nms sg.outKs || !nodupB (sg.outKs.map (·.1))) = true
  · rw [if_pos h3] at h; simp at h
  rw [if_neg h3] at h
  by_cases h4 : (!givenOk c.km (goneKs sg c.km sg.inKs ++ rk) sg.inKs) = true
  · rw [if_pos h4] at h; simp at h
  rw [if_neg h4] at h
  simp only [Option.bind_eq_some_iff] at h
  obtain ⟨sk, hs, outs, ho, h⟩ := h
  by_cases h5 : (!nodupB (sg.outLocs.map (·.1)) || !nodupB (outs.map (·.1)) || !dstOkB d sg) = true
  · rw [if_pos h5] at h; simp at h
  rw [if_neg h5] at h
  simp only [Option.some.injEq] at h
  simp only [Bool.or_eq_true, bne_iff_ne, ne_eq, Bool.not_eq_true', not_or, Decidable.not_not, Bool.not_eq_false] at h2 h3 h5
  simp only [Bool.not_eq_true', Bool.not_eq_false] at h4
  refine ⟨c, nms, rk, sk, outs, hc, ?_, h2.1.1.1, h2.1.1.2, h2.1.2, by have := h2.2; simpa using this, hn, hr, h3.1.1.1, h3.1.1.2, h3.1.2, h3.2, fun x hx κ' hk => ?_, hs, ho, h5.1.1, h5.1.2, h5.2, h.symm⟩
  · by_cases he : cond = []
    · exact .inl he
    · right
      by_cases hi : sg.iks = []
      · exact hi
      · exact absurd (by simp [he, hi]) h1
  · have := List.all_eq_true.1 h4 x hx
    rw [hk] at this
    obtain ⟨y, hy, hyk⟩ := List.any_eq_true.1 this
    exact ⟨y, hy, by simpa using hyk⟩
theorem stat_ok (hT : TabsOk E C) (h : Rel C sl ks ρ β a w) {o : Oper} (hd : DstOk C sl o.dst) {cond : Cond} (hc : condOk ρ cond) {e : Eff}
    (hs : stat E ⟨sl, ks⟩ cond o = some e) (hk : allB ρ e.chk = true) (hcall : e.call = none) : Good C.P o a w (StepOk C sl ks ρ e) := by
  have hs0 := hs
  unfold stat at hs
  simp only [Option.bind_eq_bind] at hs
  split at hs
  · rename_i x ho
    simp only [Option.bind_eq_some_iff, Option.some.injEq] at hs
    obtain ⟨v, hv, rfl⟩ := hs
    exact ValOp.step h hd (move_ok h hc (.inl ho) hv)
  · rename_i x ho
    simp only [Option.bind_eq_some_iff, Option.some.injEq] at hs
    obtain ⟨v, hv, rfl⟩ := hs
    exact ValOp.step h hd (move_ok h hc (.inr ho) hv)
  · rename_i c x y ho
    simp only [Option.bind_eq_some_iff] at hs
    obtain ⟨ce, hce, c1, hc1, c2, hc2, hs⟩ := hs
    split at hs
    · rename_i t p u q
      split at hs
      · rename_i htu
        have htu' : t = u := by simpa using htu
        subst htu'
        simp only [Option.some.injEq] at hs
        subst hs
        exact ValOp.step h hd (pick_ok h hc ho hce (fun hv => pick_cond hc hce rfl hv) (fun hv => pick_cond hc hce rfl hv) hc1 hc2)
      · simp at hs
    · simp at hs
  · rename_i t ho
    exact alloc_ok hT h hd hc ho hs0
  · rename_i t x ho
    exact box_ok hT h hd hc ho hs0
  · rename_i t parts ho
    simp only [Option.bind_eq_some_iff] at hs
    obtain ⟨⟨g, zs⟩, hz, hs⟩ := hs
    split at hs
    · simp at hs
    · rename_i hsz
      simp only [Option.bind_eq_some_iff, Option.some.injEq] at hs
      obtain ⟨cs, hcs, rfl⟩ := hs
      exact ValOp.step h hd (build_ok hT h hc ho hz (by simpa using hsz) hcs)
  · rename_i t len parts ho
    exact buildSlice_ok hT h hd hc ho hs0
  · rename_i t g ho
    simp only [Option.bind_eq_some_iff] at hs
    obtain ⟨d, hdd, hs⟩ := hs
    split at hs
    · rename_i n el
      simp only [Option.bind_eq_some_iff] at hs
      obtain ⟨⟨u, m⟩, htab, l, hl, hs⟩ := hs
      split at hs
      · simp at hs
      · rename_i hcc
        simp only [Bool.or_eq_true, bne_iff_ne, ne_eq, not_or, Decidable.not_not] at hcc
        simp only [Option.some.injEq] at hs
        subst hs
        exact ValOp.step h hd (loadGlob_ok hT h hc ho hdd htab hl hcc.1.1 hcc.1.2 hcc.2)
    · simp at hs
  · rename_i t x hx ho
    simp only [Option.bind_eq_some_iff] at hs
    obtain ⟨c, hcx, hs⟩ := hs
    exact ValOp.step h hd (load_ok hT h hc ho hcx hs)
  · rename_i t x y ho
    simp only [Option.bind_eq_some_iff] at hs
    obtain ⟨c, hcx, v, hv, hs⟩ := hs
    exact stStore_ok hT h hc ho hcx hv hs
  · rename_i x ho
    simp only [Option.bind_eq_some_iff, Option.some.injEq] at hs
    obtain ⟨c, hcx, d, hl, rfl⟩ := hs
    exact ValOp.step h hd (nilCheck_ok h hc ho hcx hl)
  · rename_i op t x y wr ho
    exact ValOp.step h hd (bin_ok hT h hc ho hs hk)
  · rename_i op t x ho
    simp only [Option.bind_eq_some_iff] at hs
    obtain ⟨c, hcx, hs⟩ := hs
    exact ValOp.step h hd (unOp_ok h hc ho hcx hs)
  · rename_i s t x ho
    split at hs
    · rename_i e' he
      simp only [Option.some.injEq] at hs
      subst hs
      exact s2b_ok hT h hd hc ho he
    · split at hs
      · rename_i e' he
        simp only [Option.some.injEq] at hs
        subst hs
        exact b2b_ok hT h hd hc ho he hk
      · exact ValOp.step h hd (stConv_ok hT h hc ho hs)
  · rename_i f first cap ho
    simp only [Option.bind_eq_some_iff, Option.some.injEq] at hs
    obtain ⟨ws, hws, vs, hvs, rfl⟩ := hs
    exact ValOp.step h hd (makeFunc_ok h hc ho hws hvs)
  · rename_i t x y ho
    exact makeSlice_ok hT h hd hc ho hs hk
  · rename_i t x lo hi ho
    exact ValOp.step h hd (stSlice_ok hT h hc ho hs hk)
  · simp [later] at hs
  · rename_i t x f ho
    simp only [Option.bind_eq_some_iff] at hs
    obtain ⟨⟨off, ft⟩, hf, sz, hsz, hs⟩ := hs
    split at hs
    · simp at hs
    · rename_i hz
      simp only [Option.bind_eq_some_iff, Option.some.injEq] at hs
      obtain ⟨c, hcx, c', hl, d, hsh, rfl⟩ := hs
      exact ValOp.step h hd (fieldAddr_ok hT h hc ho hf hsz (by simpa using hz) hcx hl hsh)
  · rename_i t x f ho
    simp only [Option.bind_eq_some_iff] at hs
    obtain ⟨⟨off, ft⟩, hf, n, hn, g, hg, ⟨ga, cs⟩, hcs, hs⟩ := hs
    split at hs
    · rename_i cs' heq
      simp only [Prod.mk.injEq] at heq
      obtain ⟨rfl, rfl⟩ := heq
      split at hs
      · rename_i hcc
        simp only [Bool.and_eq_true, Bool.or_eq_true, decide_eq_true_eq, beq_iff_eq] at hcc
        simp only [Option.some.injEq] at hs
        subst hs
        exact ValOp.step h hd (field_ok hT h hc ho hf hn hg hcs hcc.1 hcc.2)
      · simp at hs
    · simp at hs
  · rename_i t x ix ho
    exact ValOp.step h hd (stIndexAddr_ok hT h hc ho hs hk)
  · rename_i t x ix ho
    simp only [Option.bind_eq_some_iff] at hs
    obtain ⟨i, hi, d, hdd, hs⟩ := hs
    split at hs
    · simp only [Option.bind_eq_some_iff, Option.some.injEq] at hs
      obtain ⟨s, hsx, rfl⟩ := hs
      exact ValOp.step h hd (index_ok hT h hc ho hdd hi hsx (allB_mem hk _ (List.mem_singleton.2 rfl)))
    · exact ValOp.step h hd (stIndexArr_ok hT h hc ho hdd hi hs hk)
    · simp at hs
  · rename_i x i ho
    simp only [Option.bind_eq_some_iff] at hs
    obtain ⟨v, hv, hs⟩ := hs
    split at hs
    · rename_i vs
      simp only [Option.bind_eq_some_iff, Option.some.injEq] at hs
      obtain ⟨⟨g, cs⟩, hcs, rfl⟩ := hs
      exact ValOp.step h hd (extract_ok h hc ho hv hcs)
    · simp at hs
  · rename_i c ho
    split at hs
    · rename_i hb
      split at hs
      · rename_i x y t t2 ts ha hts
        exact append_ok hT h hd hc ho hb ha hts hs hk
      · simp at hs
    · rename_i hb
      split at hs
      · rename_i x t ts ha hts
        exact ValOp.step h hd (stLen_ok hT h hc ho hb ha hts hs)
      · simp at hs
    · rename_i hb
      split at hs
      · rename_i x y t ts ha hts
        exact copy_ok hT h hd hc ho hb ha hts hs hk
      · simp at hs
    · rename_i hb
      split at hs
      · rename_i x y ha
        simp only [Option.bind_eq_some_iff] at hs
        obtain ⟨⟨k, p⟩, hp, ⟨k2, q⟩, hq, hs⟩ := hs
        split at hs
        · rename_i hkk
          have hkk' : k = k2 := by simpa using hkk
          subst hkk'
          simp only [Option.some.injEq] at hs
          subst hs
          exact ValOp.step h hd ((minmax_ok h hc ho ha hp hq).1 hb)
        · simp at hs
      · simp at hs
    · rename_i hb
      split at hs
      · rename_i x y ha
        simp only [Option.bind_eq_some_iff] at hs
        obtain ⟨⟨k, p⟩, hp, ⟨k2, q⟩, hq, hs⟩ := hs
        split at hs
        · rename_i hkk
          have hkk' : k = k2 := by simpa using hkk
          subst hkk'
          simp only [Option.some.injEq] at hs
          subst hs
          exact ValOp.step h hd ((minmax_ok h hc ho ha hp hq).2 hb)
        · simp at hs
      · simp at hs
    · simp at hs
    · simp at hs
    · simp only [Option.bind_eq_some_iff] at hs
      obtain ⟨v, hv, hs⟩ := hs
      split at hs
      · simp only [Option.bind_eq_some_iff] at hs
        obtain ⟨as, _, hs⟩ := hs
        exfalso
        unfold stCall at hs
        split at hs
        · obtain ⟨q, sg, _, h2⟩ := stCalls_spec _ _ hs
          obtain ⟨c, nms, rk, sk, outs, hi⟩ := stCall1_spec h2
          rw [hi.he] at hcall
          simp at hcall
        · simp at hs
      · simp at hs
  · simp at hs
end
end Rk
set_option linter.unusedVariables false
set_option linter.unusedSimpArgs false
namespace Rk
open Go
theorem Tab.get_set' {α : Type} (t : Tab α) {i : Nat} (h : i < 2 ^ 39) (j : Nat) (x : α) : (t.set i x).get j = if j = i then some x else t.get j :=
  Tab.get_set 40 t i j (some x) (by omega)
theorem setSl_get : ∀ (l : List (Nat × Slot)) (t : Tab Slot), (∀ x ∈ l, x.1 < 2 ^ 39) → ∀ i, ((setSl t l).get i).getD ⟨[], .dead⟩ = putSl (fun i => (t.get i).getD ⟨[], .dead⟩) l i
  | [], t, _, i => rfl
  | (j, s) :: r, t, h, i => by
    simp only [setSl, putSl]
    rw [setSl_get r _ (fun x hx => h x (by simp [hx])) i]
    congr 1
    funext x
    rw [Tab.get_set' t (h (j, s) (by simp))]
    split <;> rfl
theorem setKs_get : ∀ (l : List (Nat × KSh)) (t : Tab KSh), (∀ x ∈ l, x.1 < 2 ^ 39) → ∀ i, (setKs t l).get i = putKs (fun i => t.get i) l i
  | [], t, _, i => rfl
  | (j, s) :: r, t, h, i => by
    simp only [setKs, putKs]
    rw [setKs_get r _ (fun x hx => h x (by simp [hx])) i]
    congr 1
    funext x
    rw [Tab.get_set' t (h (j, s) (by simp))]
theorem put_acc {S : St} {e : Eff} (h1 : ∀ x ∈ e.sl, x.1 < 2 ^ 39) (h2 : ∀ x ∈ e.ks, x.1 < 2 ^ 39) : (S.put e).acc = ⟨putSl S.acc.sl e.sl, putKs S.acc.ks e.ks⟩ := by
  simp only [St.put, St.acc]
  congr 1
  · funext i; exact setSl_get _ _ h1 i
  · funext i; exact setKs_get _ _ h2 i
section
variable {E : Env} {C : Ctx} {sl : Nat → Slot} {ks : Nat → Option KSh} {ρ : Rho} {β : Nat → Option Nat} {a : Act} {w : World}
theorem Rel.weak (h : Rel C sl ks ρ β a w) {sl' : Nat → Slot} (hs : ∀ i, sl' i = sl i ∨ (sl' i).k = .dead) : Rel C sl' ks ρ β a w := by
  refine ⟨h.inj, h.own, h.keys, fun i => ?_, h.tmps, h.dfr, h.fr, h.jt, h.tt, h.tab, h.rt⟩
  rcases hs i with q | q
  · rw [q]; exact h.slots i
  · intro _; rw [q]; trivial
theorem killCond_acc : ∀ (l : List (Nat × Slot)) (S : St), (∀ x ∈ l, x.1 < 2 ^ 39) → (killCond S l).ks = S.ks ∧ ∀ i, (killCond S l).acc.sl i = S.acc.sl i ∨ (killCond S l).acc.sl i = ⟨[], .dead⟩
  | [], S, _ => ⟨rfl, fun i => .inl rfl⟩
  | (j, s) :: r, S, h => by
    simp only [killCond]
    have hj : j < 2 ^ 39 := h (j, s) (by simp)
    split
    · exact killCond_acc r S (fun x hx => h x (by simp [hx]))
    · obtain ⟨g1, g2⟩ := killCond_acc r ⟨S.sl.set j ⟨[], .dead⟩, S.ks⟩ (fun x hx => h x (by simp [hx]))
      refine ⟨g1, fun i => ?_⟩
      rcases g2 i with q | q
      · rw [q]
        simp only [St.acc, Tab.get_set' _ hj]
        by_cases hi : i = j
        · right; simp [hi]
        · left; simp [hi]
      · exact .inr q
theorem killCond_kills : ∀ (l : List (Nat × Slot)) (S : St), (∀ x ∈ l, x.1 < 2 ^ 39) → ∀ x ∈ l, x.2.cond ≠ [] → (killCond S l).acc.sl x.1 = ⟨[], .dead⟩
  | (j, s) :: r, S, h, x, hx, hc => by
    simp only [killCond]
    have hj : j < 2 ^ 39 := h (j, s) (by simp)
    rcases List.mem_cons.1 hx with hx | hx
    · subst hx
      have : s.cond.isEmpty = false := by simpa using hc
      rw [this]
      simp only [Bool.false_eq_true, if_false]
      obtain ⟨_, g2⟩ := killCond_acc r ⟨S.sl.set j ⟨[], .dead⟩, S.ks⟩ (fun x hx => h x (by simp [hx]))
      rcases g2 j with q | q
      · rw [q]; simp [St.acc, Tab.get_set' _ hj]
      · exact q
    · exact killCond_kills r _ (fun x hx => h x (by simp [hx])) x hx hc
theorem Good.form {P : Program} {o : Oper} {R : Act → World → Prop} (h : Good P o a w R) (hd : ∀ a' w', R a' w' → a'.defers = []) : Good P o a w (fun a' w' => (∃ v, a' = a.put o.dst v) ∧ R a' w') := by
  intro next Q hn
  have h1 := h R Q (fun _ _ h => h)
  unfold Oper.wp at *
  generalize (execOp a.eval o).run P w = r at *
  cases r with
  | ok n w' =>
    cases n <;> simp only [Oper.upon] at h1 ⊢
    case value v => exact hn _ _ ⟨⟨v, rfl⟩, h1⟩
    case skip => exact hn _ _ ⟨⟨_, rfl⟩, h1⟩
    case defer d =>
      have := hd _ _ h1
      cases hdst : o.dst <;> simp [Act.put, hdst] at this
    case enter f args =>
      refine Calls.mono h1 fun e w'' he => ?_
      cases e with
      | returned v => exact hn _ _ ⟨⟨v, rfl⟩, he⟩
      | panicked c => exact he
      | outgrown => exact he
    case row row args => exact Rows.mono h1 fun v w'' he => hn _ _ ⟨⟨v, rfl⟩, he⟩
  | halt x w' => cases x <;> simp only [Oper.upon] at h1 ⊢ <;> exact h1
def StepSound (E : Env) (C : Ctx) (call : CallF) : Prop :=
  ∀ {sl : Nat → Slot} {ks : Nat → Option KSh} {ρ ρ' : Rho} {β : Nat → Option Nat} {a : Act} {w : World} {o : Oper} {cond : Cond} {e : Eff}, Rel C sl ks ρ β a w → DstOk C sl o.dst → condOk ρ cond →
    stat E ⟨sl, ks⟩ cond o = some e → runE call e ρ = some ρ' → callForm o e = true → Good C.P o a w (fun a' w' => ∃ β', Rel C (putSl sl e.sl) (putKs ks e.ks) ρ' β' a' w')
theorem putSl_one (sl : Nat → Slot) (d : Nat) (s : Slot) (i : Nat) : putSl sl [(d, s)] i = if i = d then s else sl i := rfl
theorem frzB_spec {A : Acc} {l : List (Nat × KSh)} (h : frzB A l = true) : FrzRows A.ks l := by
  intro x hx
  have := List.all_eq_true.1 h x hx
  split at this
  · rename_i t u' h1 h2
    have htu : t = u' := by simpa using this
    subst htu
    exact ⟨t, h1, h2⟩
  · simp at this
theorem putKs_mem : ∀ (l : List (Nat × KSh)) (ks : Nat → Option KSh) (κ : Nat), (∃ x ∈ l, x.1 = κ) → ∃ x ∈ l, x.1 = κ ∧ putKs ks l κ = some x.2
  | [], ks, κ, h => by obtain ⟨x, hx, _⟩ := h; simp at hx
  | (i, k) :: r, ks, κ, h => by
    simp only [putKs]
    by_cases hr : ∃ x ∈ r, x.1 = κ
    · obtain ⟨x, h1, h2, h3⟩ := putKs_mem r _ κ hr
      exact ⟨x, by simp [h1], h2, h3⟩
    · have hn : putKs (fun x => if x = i then some k else ks x) r κ = (if κ = i then some k else ks κ) := putKs_not r _ κ (fun x hx e => hr ⟨x, hx, e⟩)
      obtain ⟨x, hx, e⟩ := h
      rcases List.mem_cons.1 hx with hx | hx
      · subst hx
        simp only at e
        exact ⟨(i, k), by simp, e, by rw [hn, if_pos e.symm]⟩
      · exact absurd ⟨x, hx, e⟩ hr
theorem updS_at : ∀ (l : List (Loc × Ty)) (ρ : Rho), nodupB (l.map (·.1)) = true → ∀ x ∈ l, updS ρ (l.map fun x => (x.1, ⟨x.2, x.2.dflt⟩)) x.1 = ⟨x.2, x.2.dflt⟩
  | [], ρ, _, x, hx => by simp at hx
  | y :: r, ρ, h, x, hx => by
    simp only [List.map_cons, nodupB, Bool.and_eq_true, Bool.not_eq_true'] at h
    simp only [List.map_cons, updS]
    by_cases e : x.1 = y.1
    · rw [if_pos e]
      rcases List.mem_cons.1 hx with hx | hx
      · rw [hx]
      · exfalso
        have : (r.map (·.1)).contains y.1 = true := by simp only [List.contains_eq_mem, decide_eq_true_eq]; exact List.mem_map.2 ⟨x, hx, e⟩
        rw [this] at h
        simp at h
    · rw [if_neg e]
      rcases List.mem_cons.1 hx with hx | hx
      · exact absurd (by rw [hx]) e
      · exact updS_at r ρ h.2 x hx
theorem Rel.skipCall (h : Rel C sl ks ρ β a w) {cond : Cond} {d : Nat} {k : SK} {outs : List (Loc × Ty)} {nw : List (Nat × KSh)} (hcd : ∀ i, ∀ y ∈ (sl i).cond, y.1 ≠ d) (hcc : ∀ y ∈ cond, y.1 ≠ d) (hno : ¬ condOk ρ cond)
    (hnd : nodupB (outs.map (·.1)) = true) (hnw : newB ⟨sl, ks⟩ outs nw = true) (hout : ∀ x ∈ outs, (∃ j, x.1 = .s d j) ∨ ∃ n j, x.1 = .k n j ∧ ∃ y ∈ nw, y.1 = n) :
    ∃ β', Rel C (putSl sl [(d, ⟨cond, k⟩)]) (putKs ks nw) (updS ρ (outs.map fun x => (x.1, ⟨x.2, x.2.dflt⟩))) β' (a.put (some d) undef) w := by
  have hspec : ∀ x ∈ nw, ∃ t, x.2 = .row t ∧ ks x.1 = none ∧ 200000 ≤ x.1 ∧ (Loc.k x.1 0, Ty.lst t) ∈ outs := by
    intro x hx
    have := List.all_eq_true.1 hnw x hx
    split at this
    · rename_i t ht
      simp only [Bool.and_eq_true, Option.isNone_iff_eq_none, decide_eq_true_eq, List.contains_eq_mem] at this
      exact ⟨t, ht, this.1.1, this.1.2, this.2⟩
    · simp at this
  have hρ : ∀ l, (∀ j, l ≠ .s d j) → (∀ n j, l = .k n j → ¬ ∃ y ∈ nw, y.1 = n) → updS ρ (outs.map fun x => (x.1, ⟨x.2, x.2.dflt⟩)) l = ρ l := by
    intro l h1 h2
    refine updS_not _ (fun y hy e => ?_)
    obtain ⟨x, hx, rfl⟩ := List.mem_map.1 hy
    simp only at e
    rcases hout x hx with ⟨j, hj⟩ | ⟨n, j, hj, hy⟩
    · exact h1 j (by rw [← e, hj])
    · exact h2 n j (by rw [← e, hj]) hy
  refine ⟨fun κ => if (nw.any fun y => y.1 == κ) then none else β κ, ?_⟩
  have hany : ∀ κ, (nw.any fun y => y.1 == κ) = true ↔ ∃ y ∈ nw, y.1 = κ := by
    intro κ
    simp [List.any_eq_true]
  refine h.upd (fun κ => ∃ y ∈ nw, y.1 = κ) (fun i => i = d) (fun κ hκ => ⟨putKs_not nw ks κ (fun y hy e => hκ ⟨y, hy, e⟩), ?_, fun j => hρ _ (by simp) (by intro n j' e; simp only [Loc.k.injEq] at e; rw [← e.1]; exact hκ)⟩)
    (fun i hi => ⟨by simp [putSl, hi], fun j => hρ _ (by intro j'; simp; intro e; exact absurd e hi) (by simp), put_other a d undef i hi⟩)
    (fun i _ y hy => hcd i y hy) (fun κ hκ => ?_) (fun b _ _ => rfl) (Nat.le_refl _) rfl rfl rfl (fun κ b hκ _ hb => ?_) (fun κ κ' b hκ _ _ _ hb => ?_) (fun κ k' hκ hk' => ?_)
    (fun i hi => ?_) (put_size _ _ _) (put_defers _ _ _) (fun g => hρ _ (by simp) (by simp)) (fun κ hκ hin => ?_)
  · rw [if_neg (by rw [hany]; exact hκ)]
  · obtain ⟨y, hy, rfl⟩ := hκ
    obtain ⟨t, _, hk, _⟩ := hspec y hy
    right
    simp only [memOf, hk]
  · rw [if_pos ((hany κ).2 hκ)] at hb
    simp at hb
  · rw [if_pos ((hany κ).2 hκ)] at hb
    simp at hb
  · obtain ⟨x, hx, rfl, hxk⟩ := putKs_mem nw ks κ hκ
    obtain ⟨t, ht, _, _, hmem⟩ := hspec x hx
    rw [hxk, Option.some.injEq] at hk'
    rw [← hk', ht]
    simp only [KeyOk, memOf]
    rw [if_pos ((hany _).2 hκ)]
    simp only [content]
    rw [updS_at outs ρ hnd _ hmem]
    exact Dyn.get_mk _ _
  · subst hi
    simp only [putSl, if_true]
    intro hc
    refine (hno fun y hy => ?_).elim
    have := hc y hy
    simp only [memOf] at this
    rw [hρ _ (by intro j; simp; intro e; exact absurd e (hcc y hy)) (by simp)] at this
    exact this
  · exfalso
    obtain ⟨y, hy, rfl⟩ := hin
    obtain ⟨t, _, _, hge, _⟩ := hspec y hy
    have := (C.hrt _ hκ).2
    omega
theorem skip_ok {call : CallF} (h : Rel C sl ks ρ β a w) {o : Oper} (hd : DstOk C sl o.dst) {cond : Cond} (hno : ¬ condOk ρ cond) {e : Eff} {ρ' : Rho}
    (hsk : skipOk ⟨sl, ks⟩ cond o.dst e = true) (hsl : ∀ x ∈ e.sl, x.2.cond = cond ∧ o.dst = some x.1) (hr : runE call e ρ = some ρ') : ∃ β', Rel C (putSl sl e.sl) (putKs ks e.ks) ρ' β' (a.put o.dst undef) w := by
  unfold skipOk at hsk
  split at hsk
  · rename_i hdn
    simp only [Bool.and_eq_true, List.isEmpty_iff, Option.isNone_iff_eq_none] at hsk
    obtain ⟨⟨⟨h1, h2⟩, h3⟩, h4⟩ := hsk
    rw [h1, h2, hdn]
    simp only [runE, h3, h4] at hr
    cases hb : allB ρ e.chk with
    | false => simp [hb] at hr
    | true =>
      simp only [hb, cond_true, Option.some.injEq] at hr
      subst hr
      exact ⟨β, h⟩
  · rename_i d hdd
    obtain ⟨q1, q2⟩ := hd d hdd
    simp only [Bool.and_eq_true] at hsk
    obtain ⟨⟨h1, h2⟩, h3⟩ := hsk
    have hcc : ∀ y ∈ cond, y.1 ≠ d := by
      intro y hy he
      have : (cond.any fun y => y.1 == d) = true := List.any_eq_true.2 ⟨y, hy, by simpa using he⟩
      rw [this] at h1
      simp at h1
    have hone : ∃ k, e.sl = [(d, ⟨cond, k⟩)] := by
      split at h2
      · rename_i x heq
        obtain ⟨g1, g2⟩ := hsl x (by rw [heq]; simp)
        rw [hdd] at g2
        simp only [Option.some.injEq] at g2
        obtain ⟨i, s⟩ := x
        obtain ⟨c, k⟩ := s
        simp only at g1 g2
        subst g1 g2
        exact ⟨k, heq⟩
      · simp at h2
    obtain ⟨k, hslk⟩ := hone
    rw [hslk]
    have hfalse : allB ρ (condE ⟨sl, ks⟩ cond) = false := by
      cases hb : allB ρ (condE ⟨sl, ks⟩ cond) with
      | false => rfl
      | true => exact absurd (condE_of (A := ⟨sl, ks⟩) cond (fun e he => allB_mem hb e he)) hno
    split at h3
    · rename_i kc hcall
      simp only [Bool.and_eq_true, List.isEmpty_iff, beq_iff_eq] at h3
      obtain ⟨⟨⟨⟨⟨g2, g3⟩, g5⟩, g6⟩, g7⟩, g4⟩ := h3
      simp only [runE, hcall, g3, hfalse, cond_false] at hr
      cases hb : allB ρ e.chk with
      | false => simp [hb] at hr
      | true =>
        simp only [hb, cond_true, Option.some.injEq] at hr
        subst hr
        have hks : e.ks = e.ks.takeWhile isImm ++ e.ks.dropWhile isImm := (List.takeWhile_append_dropWhile ..).symm
        have hf : FrzRows ks (e.ks.takeWhile isImm) := frzB_spec g6
        obtain ⟨p1, p2, p3, p4⟩ := h.freeze _ hf.ok
        rw [hdd]
        rw [hks, putKs_append]
        refine Rel.skipCall p1 q2 hcc hno g5 ?_ (fun x hx => ?_)
        · refine List.all_eq_true.2 (fun x hx => ?_)
          have := List.all_eq_true.1 g7 x hx
          split at this
          · rename_i t ht
            simp only [Bool.and_eq_true, Option.isNone_iff_eq_none] at this ⊢
            refine ⟨⟨?_, this.1.2⟩, this.2⟩
            rw [putKs_not _ ks x.1 (hf.not this.1.1)]
            exact this.1.1
          · simp at this
        · have := List.all_eq_true.1 g4 x hx
          split at this
          · rename_i i j hxl
            have hid : i = d := by simpa using this
            subst hid
            exact .inl ⟨j, hxl⟩
          · rename_i n j hxl
            simp only [List.any_eq_true, beq_iff_eq] at this
            exact .inr ⟨n, j, hxl, this⟩
          · simp at this
    · rename_i hcall
      simp only [runE, hcall] at hr
      cases hb : allB ρ e.chk with
      | false => simp [hb] at hr
      | true =>
        simp only [hb, cond_true, Option.some.injEq] at hr
        subst hr
        rw [Bool.or_eq_true] at h3
        rcases h3 with h3 | h3
        · simp only [Bool.and_eq_true, List.isEmpty_iff] at h3
          obtain ⟨g1, g2⟩ := h3
          rw [g1, hdd]
          refine ⟨β, h.skip q2 hcc hno (fun l hl => updS_not _ (fun y hy he => ?_))⟩
          obtain ⟨x, hx, hxy⟩ := mem_evs hy
          have := List.all_eq_true.1 g2 x hx
          split at this
          · rename_i i j hxl
            have hid : i = d := by simpa using this
            subst hid
            exact hl j (by rw [← he, hxy]; exact hxl)
          · simp at this
        · split at h3
          · rename_i kk u l t g ce hlast hsets
            simp only [Bool.and_eq_true, beq_iff_eq, Option.isNone_iff_eq_none] at h3
            obtain ⟨⟨⟨⟨⟨g1, g2⟩, g3⟩, g4⟩, g5⟩, g6⟩ := h3
            subst g1 g2 g3 g4
            have hks : e.ks = e.ks.dropLast ++ [(kk, .row u)] := by
              have hne : e.ks ≠ [] := by intro hn; rw [hn] at hlast; simp at hlast
              rw [List.getLast?_eq_some_getLast hne, Option.some.injEq] at hlast
              rw [← hlast]
              exact (List.dropLast_concat_getLast hne).symm
            have hf : FrzRows ks e.ks.dropLast := frzB_spec g6
            obtain ⟨p1, p2, p3, p4⟩ := h.freeze e.ks.dropLast hf.ok
            have hkd1 : putKs ks e.ks.dropLast kk = none := by rw [putKs_not _ ks kk (hf.not g5)]; exact g5
            rw [hks, putKs_append, hsets, hdd]
            refine ⟨fun x => if x = kk then none else β x, ?_⟩
            have hρ : ∀ l, (∀ j, l ≠ Loc.k kk j) → updS ρ (evs ρ [(Loc.k kk 0, Ty.lst u, PE.ite (andE (condE ⟨sl, ks⟩ cond)) ce .lnil)]) l = ρ l := by
              intro l hl
              simp only [evs, List.map_cons, List.map_nil, updS]
              rw [if_neg (hl 0)]
            have hb2 : (andE (condE ⟨sl, ks⟩ cond)).evB ρ = false := by
              cases hb2 : (andE (condE ⟨sl, ks⟩ cond)).evB ρ with
              | false => rfl
              | true => exact absurd (condE_of (A := ⟨sl, ks⟩) cond (andE_of _ hb2)) hno
            refine Rel.newNone p1 hkd1 q1 q2 hρ ?_ (fun hc => ?_)
            · simp only [content, evs, List.map_cons, List.map_nil, updS, if_true, Dyn.get_mk]
              show (if (andE (condE ⟨sl, ks⟩ cond)).evB ρ = true then _ else _) = _
              rw [hb2]
              rfl
            · refine (hno fun y hy => ?_).elim
              have := hc y hy
              simp only [memOf] at this
              rw [hρ _ (by intro j; simp)] at this
              exact this
          · simp at h3
structure InReg (sl : Nat → Slot) (ρ : Rho) (a : Act) (seen : List Nat) : Prop where
  seen : ∀ i, ∀ y ∈ (sl i).cond, y.1 ∈ seen
  undef : ∀ i, ¬ condOk ρ (sl i).cond → a.tmps.getD i undef = undef
theorem okEff_spec {nt : Nat} {seen : List Nat} {A : Acc} {c : Cond} {o : Oper} {e : Eff} (h : okEff nt seen A c o e = true) :
    (∀ d, o.dst = some d → (d < nt ∧ d ∉ seen) ∧ ∃ x ∈ e.sl, x.1 = d) ∧ (∀ y ∈ c, y.1 ∈ seen) ∧ (∀ x ∈ e.sl, x.2.cond = c ∧ o.dst = some x.1 ∧ x.1 < 2 ^ 39) ∧ (∀ x ∈ e.ks, x.1 < 2 ^ 39) ∧
    (∀ x ∈ e.sets, ∀ i j, x.1 = .s i j → o.dst = some i) ∧ (∀ k, e.call = some k → e.sets = [] ∧ ∀ x ∈ k.outs, ∀ i j, x.1 = .s i j → o.dst = some i) ∧ (c = [] ∨ skipOk A c o.dst e = true) ∧ callForm o e = true := by
  simp only [okEff, Bool.and_eq_true, Bool.or_eq_true] at h
  obtain ⟨⟨⟨⟨⟨⟨⟨h1, h2⟩, h3⟩, h4⟩, h5⟩, h6⟩, h7⟩, h8⟩ := h
  refine ⟨fun d hd => ?_, fun y hy => ?_, fun x hx => ?_, fun x hx => ?_, fun x hx i j hij => ?_, fun k hk => ?_, ?_, h8⟩
  · rw [hd] at h1
    simp only [Bool.and_eq_true, decide_eq_true_eq, Bool.not_eq_true', List.contains_eq_mem, decide_eq_false_iff_not, List.any_eq_true, beq_iff_eq] at h1
    exact h1
  · simpa using List.all_eq_true.1 h2 y hy
  · have := List.all_eq_true.1 h3 x hx
    simp only [Bool.and_eq_true, beq_iff_eq, decide_eq_true_eq] at this
    exact ⟨this.1.1, this.1.2, this.2⟩
  · simpa using List.all_eq_true.1 h4 x hx
  · have := List.all_eq_true.1 h5 x hx
    rw [hij] at this
    simpa using this
  · rw [hk] at h6
    simp only [Bool.and_eq_true, List.isEmpty_iff] at h6
    refine ⟨h6.1, fun x hx i j hij => ?_⟩
    have := List.all_eq_true.1 h6.2 x hx
    rw [hij] at this
    simpa using this
  · rcases h7 with h7 | h7
    · left; simpa using h7
    · exact .inr h7
theorem runE_other {call : CallF} {e : Eff} {ρ ρ' : Rho} {d : Option Tmp} (hr : runE call e ρ = some ρ') (h1 : ∀ x ∈ e.sets, ∀ i j, x.1 = .s i j → d = some i) (h2 : ∀ k, e.call = some k → e.sets = [] ∧ ∀ x ∈ k.outs, ∀ i j, x.1 = .s i j → d = some i)
    {i : Nat} (hi : d ≠ some i) (j : Nat) : ρ' (.s i j) = ρ (.s i j) := by
  unfold runE at hr
  cases hb : allB ρ e.chk with
  | false => simp [hb] at hr
  | true =>
    simp only [hb, cond_true] at hr
    cases hc : e.call with
    | none =>
      simp only [hc, Option.some.injEq] at hr
      subst hr
      refine updS_not _ (fun y hy he => ?_)
      obtain ⟨x, hx, hxy⟩ := mem_evs hy
      exact hi (h1 x hx i j (by rw [← hxy]; exact he))
    | some k =>
      simp only [hc] at hr
      obtain ⟨_, g2⟩ := h2 k hc
      cases hcb : allB ρ k.cond with
      | false =>
        simp only [hcb, cond_false, Option.some.injEq] at hr
        subst hr
        refine updS_not _ (fun y hy he => ?_)
        obtain ⟨x, hx, rfl⟩ := List.mem_map.1 hy
        exact hi (g2 x hx i j he)
      | true =>
        simp only [hcb, cond_true, Option.bind_eq_some_iff, Option.some.injEq] at hr
        obtain ⟨o, _, rfl⟩ := hr
        refine updS_not _ (fun y hy he => ?_)
        have := mem_zipP _ _ _ hy
        obtain ⟨x, hx, hxy⟩ := List.mem_map.1 this
        exact hi (g2 x hx i j (by rw [hxy]; exact he))
theorem guard_ok (h : Rel C sl ks ρ β a w) {seen : List Nat} (hI : InReg sl ρ a seen) {ops : Array Oper} {o : Oper} {c : Cond} (hg : guardC ⟨sl, ks⟩ ops o = some c) :
    (condOk ρ c → Region.wanted o (yielded ops a.tmps) = true) ∧ (¬ condOk ρ c → Region.wanted o (yielded ops a.tmps) = false) := by
  unfold guardC at hg
  unfold Region.wanted
  split at hg
  · rename_i hgd
    simp only [Option.some.injEq] at hg
    subst hg
    rw [hgd]
    exact ⟨fun _ => rfl, fun hno => absurd (fun x hx => by simp at hx) hno⟩
  · rename_i j wt hgd
    simp only [Option.bind_eq_bind, Option.bind_eq_some_iff] at hg
    obtain ⟨oj, hoj, g, hgg, hg⟩ := hg
    rw [hgd]
    simp only
    split at hg
    · rename_i c0 hslot
      simp only [Option.some.injEq] at hg
      subst hg
      have hy : yielded ops a.tmps j = match a.tmps[g]? with | some (.bool b) => some b | _ => none := by
        simp only [yielded, hoj, hgg, Option.bind_some]
        rfl
      by_cases hc0 : condOk ρ c0
      · have hs := h.slots g
        rw [hslot] at hs
        have := hs (by simp only [memOf]; exact hc0)
        obtain ⟨cells, h1, h2, h3⟩ := this
        match cells, h3 with
        | [v], h3 =>
          have hv : a.tmps.getD g undef = v := h1
          have hb := h3.2.1
          simp only [CellOk, memOf, RepC, Option.some.injEq] at hb
          have hlt : g < a.tmps.size := by
            rcases Nat.lt_or_ge g a.tmps.size with q | q
            · exact q
            · rw [Array.getD_eq_getD_getElem?, Array.getElem?_eq_none q] at hv
              rw [← hv] at hb
              simp [undef] at hb
          have hyv : yielded ops a.tmps j = some ((ρ (.s g 0)).get .bool : Bool) := by
            rw [hy]
            have : a.tmps[g]? = some (.bool ((ρ (.s g 0)).get .bool : Bool)) := by
              rw [Array.getD_eq_getD_getElem?, Array.getElem?_eq_getElem hlt] at hv
              rw [Array.getElem?_eq_getElem hlt]
              simp only [Option.getD_some] at hv
              rw [hv, hb]
            rw [this]; rfl
          refine ⟨fun hc => ?_, fun hno => ?_⟩
          · have hq : ((ρ (.s g 0)).get .bool : Bool) = wt := hc (g, wt) (by simp)
            rw [hyv, hq]
            exact beq_self_eq_true (some wt)
          · rw [hyv]
            have : ((ρ (.s g 0)).get .bool : Bool) ≠ wt := by
              intro hq
              refine hno (fun y hy => ?_)
              rcases List.mem_append.1 hy with hy | hy
              · exact hc0 y hy
              · simp only [List.mem_singleton] at hy; subst hy; exact hq
            refine beq_eq_false_iff_ne.2 (fun he => this ?_)
            exact Option.some.inj he
        | [], h3 => exact h3.elim
        | _ :: _ :: _, h3 => exact h3.2.2.elim
      · have hu := hI.undef g (by rw [hslot]; exact hc0)
        have hyv : yielded ops a.tmps j = none := by
          rw [hy]
          rw [Array.getD_eq_getD_getElem?] at hu
          cases hq : a.tmps[g]? with
          | none => rfl
          | some v =>
            rw [hq] at hu
            simp only [Option.getD_some] at hu
            rw [hu]
            rfl
        refine ⟨fun hc => absurd (fun y hy => hc y (by simp [hy])) hc0, fun _ => ?_⟩
        rw [hyv]; rfl
    · simp at hg
theorem trOps_okI {call : CallF} (hS : StepSound E C call) {ops : Array Oper} (I : Act → Prop) : ∀ (l : List Oper) (hIp : ∀ o ∈ l, ∀ a v, I a → I (a.put o.dst v)) (seen : List Nat) (S S' : St) (es : List Eff) (ρ ρ' : Rho) (β : Nat → Option Nat) (a : Act) (w : World),
    trOps E C.nt ops l seen S = some (S', es) → Rel C S.acc.sl S.acc.ks ρ β a w → InReg S.acc.sl ρ a seen → I a → runEs call es ρ = some ρ' →
    ∀ (Q : Exit → Act → World → Prop), (∀ β' a' w', Rel C S'.acc.sl S'.acc.ks ρ' β' a' w' → I a' → Q .normal a' w') → wpList C.P ops Q l a w
  | [], hIp, seen, S, S', es, ρ, ρ', β, a, w, ht, h, hI, hIa, hr, Q, hQ => by
    simp only [trOps, Option.some.injEq, Prod.mk.injEq] at ht
    obtain ⟨rfl, rfl⟩ := ht
    simp only [runEs, Option.some.injEq] at hr
    subst hr
    exact hQ β a w h hIa
  | o :: r, hIp, seen, S, S', es, ρ, ρ', β, a, w, ht, h, hI, hIa, hr, Q, hQ => by
    simp only [trOps, Option.bind_eq_bind, Option.bind_eq_some_iff] at ht
    obtain ⟨c, hc, e, he, ht⟩ := ht
    split at ht
    · simp at ht
    rename_i hok
    simp only [Bool.not_eq_true', Bool.not_eq_false] at hok
    simp only [Option.bind_eq_some_iff, Option.some.injEq, Prod.mk.injEq] at ht
    obtain ⟨⟨S1, es1⟩, ht1, rfl, rfl⟩ := ht
    simp only [runEs, Option.bind_eq_some_iff] at hr
    obtain ⟨ρ1, hr1, hr2⟩ := hr
    obtain ⟨k1, k2, k3, k4, k5, k6, k7, k8⟩ := okEff_spec hok
    have hd : DstOk C S.acc.sl o.dst := fun d hd => ⟨(k1 d hd).1.1, fun j y hy e => (k1 d hd).1.2 (by rw [← e]; exact hI.seen j y hy)⟩
    have hacc := put_acc (S := S) (e := e) (fun x hx => (k3 x hx).2.2) k4
    obtain ⟨gw1, gw2⟩ := guard_ok h hI (ops := ops) (o := o) (c := c) hc
    -- conditions read as they did
    have hcond : ∀ cc : Cond, (∀ y ∈ cc, y.1 ∈ seen) → (condOk ρ1 cc ↔ condOk ρ cc) := by
      intro cc hcc
      have key : ∀ y ∈ cc, ρ1 (.s y.1 0) = ρ (.s y.1 0) := fun y hy => runE_other hr1 k5 k6 (fun hdd => (k1 _ hdd).1.2 (hcc y hy)) 0
      constructor <;> intro hcc' y hy
      · rw [← key y hy]; exact hcc' y hy
      · rw [key y hy]; exact hcc' y hy
    -- behind it
    have goes : ∀ (v : Value) (w1 : World), (∃ β', Rel C (putSl S.acc.sl e.sl) (putKs S.acc.ks e.ks) ρ1 β' (a.put o.dst v) w1) → (condOk ρ c ∨ v = undef) → wpList C.P ops Q r (a.put o.dst v) w1 := by
      rintro v w1 ⟨β', hrel⟩ hv
      refine trOps_okI hS I r (fun o ho => hIp o (by simp [ho])) (o.dst.toList ++ seen) (S.put e) S1 es1 ρ1 ρ' β' (a.put o.dst v) w1 ht1 (by rw [hacc]; exact hrel) ?_ (hIp o (by simp) a v hIa) hr2 Q (fun β2 a2 w2 h2 hI2 => ?_)
      · rw [hacc]
        have hslots : ∀ i, (o.dst ≠ some i ∧ putSl S.acc.sl e.sl i = S.acc.sl i) ∨ (o.dst = some i ∧ (putSl S.acc.sl e.sl i).cond = c) := by
          intro i
          have gen : ∀ (l : List (Nat × Slot)) (sl : Nat → Slot), (∀ x ∈ l, x.2.cond = c ∧ o.dst = some x.1) → (((∀ x ∈ l, x.1 ≠ i) ∧ putSl sl l i = sl i) ∨ (o.dst = some i ∧ (putSl sl l i).cond = c)) := by
            intro l
            induction l with
            | nil => intro sl _; exact .inl ⟨by simp, rfl⟩
            | cons x r ih =>
              intro sl hx
              obtain ⟨j, s⟩ := x
              simp only [putSl]
              rcases ih (fun x => if x = j then s else sl x) (fun y hy => hx y (by simp [hy])) with ⟨q0, q⟩ | q
              · by_cases hij : i = j
                · right
                  obtain ⟨g1, g2⟩ := hx (j, s) (by simp)
                  refine ⟨by rw [hij]; exact g2, ?_⟩
                  have g1' : s.cond = c := g1
                  rw [q, if_pos hij]; exact g1'
                · left
                  refine ⟨fun x hx => ?_, by rw [q]; simp [hij]⟩
                  rcases List.mem_cons.1 hx with hx | hx
                  · rw [hx]; exact fun e => hij e.symm
                  · exact q0 x hx
              · exact .inr q
          rcases gen e.sl _ (fun x hx => ⟨(k3 x hx).1, (k3 x hx).2.1⟩) with ⟨q0, q⟩ | q
          · refine .inl ⟨fun hdi => ?_, q⟩
            obtain ⟨x, hx, hxi⟩ := (k1 i hdi).2
            exact q0 x hx hxi
          · exact .inr q
        refine ⟨fun i y hy => ?_, fun i hno => ?_⟩
        · rcases hslots i with ⟨_, q⟩ | ⟨q1, q2⟩
          · simp only at hy
            rw [q] at hy
            simp [hI.seen i y hy]
          · simp only at hy
            rw [q2] at hy
            simp [k2 y hy]
        · rcases hslots i with ⟨hdi, q⟩ | ⟨q1, q2⟩
          · simp only at hno
            rw [q] at hno
            have hno' : ¬ condOk ρ (S.acc.sl i).cond := fun hh => hno ((hcond _ (hI.seen i)).2 hh)
            have hu := hI.undef i hno'
            cases hod : o.dst with
            | none => exact hu
            | some d =>
              rw [put_other a d v i (fun e => hdi (by rw [hod, e]))]
              exact hu
          · simp only at hno
            rw [q2] at hno
            have hno' : ¬ condOk ρ c := fun hh => hno ((hcond _ k2).2 hh)
            rcases hv with hv | hv
            · exact absurd hv hno'
            · rw [q1, hv]
              by_cases hlt : i < a.tmps.size
              · exact put_same a i _ hlt
              · simp only [Act.put, Array.getD_eq_getD_getElem?, Array.getElem?_setIfInBounds]
                simp [hlt]
      · obtain ⟨m1, m2⟩ := killCond_acc e.sl S1 (fun x hx => (k3 x hx).2.2)
        refine hQ β2 a2 w2 ?_ hI2
        have hk : (killCond S1 e.sl).acc.ks = S1.acc.ks := by
          simp only [St.acc]; rw [m1]
        rw [hk]
        exact h2.weak (fun i => (m2 i).imp id (fun q => by rw [q]))
    by_cases hcc : condOk ρ c
    · have hgood := hS (e := e) h hd hcc he hr1 k8
      unfold wpList
      rw [if_pos (gw1 hcc)]
      left
      refine (Good.form hgood (fun a' w' ⟨β', hrel⟩ => hrel.dfr)) _ _ (fun a' w' => ?_)
      rintro ⟨⟨v, rfl⟩, hrel⟩
      exact goes v w' hrel (.inl hcc)
    · unfold wpList
      rw [if_neg (by rw [gw2 hcc]; simp)]
      refine goes undef w ?_ (.inr rfl)
      rcases k7 with k7 | k7
      · exact absurd (fun x hx => by rw [k7] at hx; simp at hx) hcc
      · exact skip_ok h hd hcc k7 (fun x hx => ⟨(k3 x hx).1, (k3 x hx).2.1⟩) hr1
theorem trOps_ok {call : CallF} (hS : StepSound E C call) {ops : Array Oper} (l : List Oper) (seen : List Nat) (S S' : St) (es : List Eff) (ρ ρ' : Rho) (β : Nat → Option Nat) (a : Act) (w : World)
    (ht : trOps E C.nt ops l seen S = some (S', es)) (h : Rel C S.acc.sl S.acc.ks ρ β a w) (hI : InReg S.acc.sl ρ a seen) (hr : runEs call es ρ = some ρ')
    (Q : Exit → Act → World → Prop) (hQ : ∀ β' a' w', Rel C S'.acc.sl S'.acc.ks ρ' β' a' w' → Q .normal a' w') : wpList C.P ops Q l a w :=
  trOps_okI hS (fun _ => True) l (fun _ _ _ _ _ => trivial) seen S S' es ρ ρ' β a w ht h hI trivial hr Q (fun β' a' w' h _ => hQ β' a' w' h)
end
end Rk
set_option linter.unusedVariables false
set_option linter.unusedSimpArgs false
namespace Rk
open Go
def FzOk (A : Acc) (c : Cv) : Prop := ∀ x ∈ c.fz, ∃ t, x.2 = .imm t ∧ A.ks x.1 = some (.row t)
structure CvLe (A : Acc) (c d : Cv) : Prop where
  km : ∀ κ o, lookK c.km κ = some o → lookK d.km κ = some o
  mvs : ∀ x ∈ c.mvs, x ∈ d.mvs
  fz : ∀ x ∈ c.fz, x ∈ d.fz
  mfz : FzOk A c → FzOk A d
theorem CvLe.refl (A : Acc) (c : Cv) : CvLe A c c := ⟨fun _ _ h => h, fun _ h => h, fun _ h => h, id⟩
theorem CvLe.trans {A : Acc} {a b c : Cv} (h : CvLe A a b) (h' : CvLe A b c) : CvLe A a c :=
  ⟨fun κ o hk => h'.km κ o (h.km κ o hk), fun x hx => h'.mvs x (h.mvs x hx), fun x hx => h'.fz x (h.fz x hx), fun hx => h'.mfz (h.mfz hx)⟩
theorem lookK_append : ∀ (l r : List (Nat × Option Nat)) (κ : Nat), lookK (l ++ r) κ = match lookK l κ with | some o => some o | none => lookK r κ
  | [], r, κ => rfl
  | (a, o) :: l, r, κ => by
    simp only [List.cons_append, lookK]
    split
    · rfl
    · exact lookK_append l r κ
theorem lookK_mem : ∀ (l : List (Nat × Option Nat)) (κ : Nat) (o : Option Nat), lookK l κ = some o → (κ, o) ∈ l
  | [], κ, o, h => by simp [lookK] at h
  | (a, o') :: l, κ, o, h => by
    simp only [lookK] at h
    split at h
    · rename_i ha
      have ha' : a = κ := by simpa using ha
      simp only [Option.some.injEq] at h
      subst h ha'
      simp
    · exact List.mem_cons_of_mem _ (lookK_mem l κ o h)
def Inj1 (km : List (Nat × Option Nat)) : Prop := ∀ κ1 κ2 κ', lookK km κ1 = some (some κ') → lookK km κ2 = some (some κ') → κ1 = κ2
theorem bindK_ok {A : Acc} {c d : Cv} {κ : Nat} {o : Option Nat} (h : c.bindK κ o = some d) : CvLe A c d ∧ lookK d.km κ = some o ∧ (Inj1 c.km → Inj1 d.km) ∧ d.mvs = c.mvs ∧ d.fz = c.fz := by
  unfold Cv.bindK at h
  split at h
  · rename_i x hx
    split at h
    · rename_i hxo
      have hxo' : x = o := by simpa using hxo
      subst hxo'
      simp only [Option.some.injEq] at h
      subst h
      exact ⟨CvLe.refl _ _, hx, id, rfl, rfl⟩
    · simp at h
  · rename_i hx
    split at h
    · simp only [Option.some.injEq] at h
      subst h
      refine ⟨⟨fun κ' o' hk => ?_, fun _ h => h, fun _ h => h, id⟩, ?_, fun hi κ1 κ2 κ' h1 h2 => ?_, rfl, rfl⟩
      · rw [lookK_append, hk]
      · rw [lookK_append, hx]; simp [lookK]
      · rw [lookK_append] at h1 h2
        refine hi κ1 κ2 κ' ?_ ?_
        · cases hq : lookK c.km κ1 with
          | some o' => rw [hq] at h1; simp only at h1; rw [h1]
          | none => rw [hq] at h1; simp only [lookK] at h1; split at h1 <;> simp at h1
        · cases hq : lookK c.km κ2 with
          | some o' => rw [hq] at h2; simp only at h2; rw [h2]
          | none => rw [hq] at h2; simp only [lookK] at h2; split at h2 <;> simp at h2
    · rename_i κ'
      split at h
      · simp at h
      · rename_i hu
        simp only [Option.some.injEq] at h
        subst h
        have hu' : ∀ κ1, lookK c.km κ1 ≠ some (some κ') := by
          intro κ1 hq
          have hm := lookK_mem _ _ _ hq
          apply hu
          exact List.any_eq_true.2 ⟨(κ1, some κ'), hm, by simp⟩
        refine ⟨⟨fun κ2 o' hk => ?_, fun _ h => h, fun _ h => h, id⟩, ?_, fun hi κ1 κ2 κ3 h1 h2 => ?_, rfl, rfl⟩
        · rw [lookK_append, hk]
        · rw [lookK_append, hx]; simp [lookK]
        · rw [lookK_append] at h1 h2
          cases hq1 : lookK c.km κ1 with
          | some o1 =>
            rw [hq1] at h1; simp only [Option.some.injEq] at h1; subst h1
            cases hq2 : lookK c.km κ2 with
            | some o2 => rw [hq2] at h2; simp only [Option.some.injEq] at h2; subst h2; exact hi _ _ _ hq1 hq2
            | none =>
              rw [hq2] at h2; simp only [lookK] at h2
              split at h2
              · simp only [Option.some.injEq] at h2; subst h2; exact absurd hq1 (hu' κ1)
              · simp at h2
          | none =>
            rw [hq1] at h1; simp only [lookK] at h1
            split at h1
            · rename_i e1
              simp only [Option.some.injEq] at h1; subst h1
              cases hq2 : lookK c.km κ2 with
              | some o2 => rw [hq2] at h2; simp only [Option.some.injEq] at h2; subst h2; exact absurd hq2 (hu' κ2)
              | none =>
                rw [hq2] at h2; simp only [lookK] at h2
                split at h2
                · rename_i e2
                  have e1' : κ = κ1 := by simpa using e1
                  have e2' : κ = κ2 := by simpa using e2
                  rw [← e1', ← e2']
                · simp at h2
            · simp at h1
section
variable {C : Ctx} {A : Acc} {ρ : Rho} {β : Nat → Option Nat} {a : Act} {w : World}
structure Fits (C : Ctx) (A : Acc) (ρ : Rho) (β : Nat → Option Nat) (w : World) (T : Nat → Option KSh) (c : Cv) (M : Mem) : Prop where
  ks : M.ks = T
  world : M.w = w
  some_ : ∀ κ κ', lookK c.km κ = some (some κ') → M.β κ = β κ'
  none_ : ∀ κ, lookK c.km κ = some none → M.β κ = none
  mvs : ∀ x ∈ c.mvs, (M.ρ x.1).get x.2.1 = x.2.2.ev ρ x.2.1
  con : ∀ κ t o, ((T κ).bind KSh.lt = some t) → lookK c.km κ = some o → content M.ρ κ t = match o with | some κ' => content ρ κ' t | none => []
  I : ∀ b, (imms C A.ks β w b ∨ ∃ κ k, (κ, k) ∈ c.fz ∧ β κ = some b) → M.I b
theorem Fits.le {T : Nat → Option KSh} {c d : Cv} {M : Mem} (h : Fits C A ρ β w T d M) (hl : CvLe A c d) : Fits C A ρ β w T c M :=
  ⟨h.ks, h.world, fun κ κ' hk => h.some_ κ κ' (hl.km _ _ hk), fun κ hk => h.none_ κ (hl.km _ _ hk), fun x hx => h.mvs x (hl.mvs x hx), fun κ t o h1 h2 => h.con κ t o h1 (hl.km _ _ h2), fun b hb => h.I b (by
    rcases hb with hb | ⟨κ, k, hm, hb⟩
    · exact .inl hb
    · exact .inr ⟨κ, k, hl.fz _ hm, hb⟩)⟩
theorem cvC_le {T : Nat → Option KSh} {c d : Cv} {l : Loc} {want : Sh} {x : CE} (h : cvC A T c l want x = some d) : CvLe A c d ∧ (Inj1 c.km → Inj1 d.km) := by
  unfold cvC at h
  split at h
  · simp only [Option.bind_eq_bind, Option.bind_eq_some_iff, Option.some.injEq] at h
    obtain ⟨⟨e, f⟩, he, rfl⟩ := h
    refine ⟨⟨fun _ _ h => h, fun x hx => by simp [hx], fun x hx => by simp [hx], fun hf x hx => ?_⟩, id⟩
    rcases List.mem_append.1 hx with hx | hx
    · exact hf x hx
    · exact asT_mem he x hx
  · split at h
    · simp only [Option.some.injEq] at h; subst h; exact ⟨CvLe.refl _ _, id⟩
    · simp at h
  · split at h
    · simp only [Option.some.injEq] at h; subst h; exact ⟨CvLe.refl _ _, id⟩
    · simp at h
  · simp only [Option.some.injEq] at h; subst h; exact ⟨CvLe.refl _ _, id⟩
  · split at h
    · split at h
      · split at h
        · exact ⟨(bindK_ok (A := A) h).1, (bindK_ok (A := A) h).2.2.1⟩
        · simp at h
      · simp at h
    · exact ⟨(bindK_ok (A := A) h).1, (bindK_ok (A := A) h).2.2.1⟩
    · simp at h
  · split at h
    · split at h
      · split at h
        · exact ⟨(bindK_ok (A := A) h).1, (bindK_ok (A := A) h).2.2.1⟩
        · simp at h
      · simp at h
    · simp at h
  · split at h
    · split at h
      · split at h
        · exact ⟨(bindK_ok (A := A) h).1, (bindK_ok (A := A) h).2.2.1⟩
        · simp at h
      · simp at h
    · simp at h
  · simp at h
theorem cvCs_le {T : Nat → Option KSh} {mk : Nat → Loc} : ∀ (ws : List Sh) (xs : List CE) (c d : Cv) (j : Nat), cvCs A T mk c j ws xs = some d → CvLe A c d ∧ (Inj1 c.km → Inj1 d.km)
  | [], [], c, d, j, h => by simp only [cvCs, Option.some.injEq] at h; subst h; exact ⟨CvLe.refl _ _, id⟩
  | w :: ws, x :: xs, c, d, j, h => by
    simp only [cvCs, Option.bind_eq_bind, Option.bind_eq_some_iff] at h
    obtain ⟨c1, h1, h2⟩ := h
    obtain ⟨p1, p2⟩ := cvC_le h1
    obtain ⟨q1, q2⟩ := cvCs_le ws xs c1 d (j + 1) h2
    exact ⟨p1.trans q1, fun hi => q2 (p2 hi)⟩
  | [], _ :: _, c, d, j, h => by simp [cvCs] at h
  | _ :: _, [], c, d, j, h => by simp [cvCs] at h
theorem cvVs_le {T : Nat → Option KSh} {mk : Nat → Loc} : ∀ (ws : List Val) (xs : List (Bool × List CE)) (c d : Cv) (j : Nat), cvVs A T mk c j ws xs = some d → CvLe A c d ∧ (Inj1 c.km → Inj1 d.km)
  | [], [], c, d, j, h => by simp only [cvVs, Option.some.injEq] at h; subst h; exact ⟨CvLe.refl _ _, id⟩
  | w :: ws, x :: xs, c, d, j, h => by
    simp only [cvVs] at h
    split at h
    · simp at h
    · simp only [Option.bind_eq_bind, Option.bind_eq_some_iff] at h
      obtain ⟨c1, h1, h2⟩ := h
      obtain ⟨p1, p2⟩ := cvCs_le _ _ _ _ _ h1
      obtain ⟨q1, q2⟩ := cvVs_le ws xs c1 d _ h2
      exact ⟨p1.trans q1, fun hi => q2 (p2 hi)⟩
  | [], _ :: _, c, d, j, h => by simp [cvVs] at h
  | _ :: _, [], c, d, j, h => by simp [cvVs] at h
theorem cvS_le {T : Nat → Option KSh} {c d : Cv} {i : Nat} {k : SK} {x : OpV} (h : cvS A T c i k x = some d) : CvLe A c d ∧ (Inj1 c.km → Inj1 d.km) := by
  unfold cvS at h
  split at h
  · split at h
    · exact cvCs_le _ _ _ _ _ h
    · simp at h
  · exact cvVs_le _ _ _ _ _ h
  · split at h
    · exact cvVs_le _ _ _ _ _ h
    · simp at h
  · simp at h
theorem cvSl_le {T : Nat → Option KSh} : ∀ (sl : List (Nat × SK)) (xs : List OpV) (c d : Cv), cvSl A T c sl xs = some d → CvLe A c d ∧ (Inj1 c.km → Inj1 d.km)
  | [], [], c, d, h => by simp only [cvSl, Option.some.injEq] at h; subst h; exact ⟨CvLe.refl _ _, id⟩
  | (i, s) :: r, x :: xs, c, d, h => by
    simp only [cvSl, Option.bind_eq_bind, Option.bind_eq_some_iff] at h
    obtain ⟨c1, h1, h2⟩ := h
    obtain ⟨p1, p2⟩ := cvS_le h1
    obtain ⟨q1, q2⟩ := cvSl_le r xs c1 d h2
    exact ⟨p1.trans q1, fun hi => q2 (p2 hi)⟩
  | [], _ :: _, c, d, h => by simp [cvSl] at h
  | _ :: _, [], c, d, h => by simp [cvSl] at h
theorem cvK1_le {T : Nat → Option KSh} {c d : Cv} {κ : Nat} {k : KSh} (h : cvK1 A T c κ k = some d) : CvLe A c d ∧ (Inj1 c.km → Inj1 d.km) := by
  unfold cvK1 at h
  have add : ∀ (m : List (Loc × Ty × PE)), some { c with mvs := c.mvs ++ m } = some d → CvLe A c d ∧ (Inj1 c.km → Inj1 d.km) := by
    intro m h
    simp only [Option.some.injEq] at h; subst h
    exact ⟨⟨fun _ _ h => h, fun x hx => by simp [hx], fun x hx => hx, id⟩, id⟩
  split at h
  · simp only [Option.some.injEq] at h; subst h; exact ⟨CvLe.refl _ _, id⟩
  · split at h
    · split at h
      · exact add _ h
      · simp at h
    · simp at h
  · exact add _ h
  · split at h
    · split at h
      · exact add _ h
      · simp at h
    · simp at h
  · split at h
    · exact cvCs_le _ _ _ _ _ h
    · simp at h
  · simp at h
theorem cvKs_le {T : Nat → Option KSh} : ∀ (ks : List (Nat × KSh)) (c d : Cv), cvKs A T c ks = some d → CvLe A c d ∧ (Inj1 c.km → Inj1 d.km)
  | [], c, d, h => by simp only [cvKs, Option.some.injEq] at h; subst h; exact ⟨CvLe.refl _ _, id⟩
  | (κ, k) :: r, c, d, h => by
    simp only [cvKs, Option.bind_eq_bind, Option.bind_eq_some_iff] at h
    obtain ⟨c1, h1, h2⟩ := h
    obtain ⟨p1, p2⟩ := cvK1_le h1
    obtain ⟨q1, q2⟩ := cvKs_le r c1 d h2
    exact ⟨p1.trans q1, fun hi => q2 (p2 hi)⟩
theorem cvC_ok {T : Nat → Option KSh} {c d : Cv} {l : Loc} {want : Sh} {x : CE} {v : Value} {M : Mem} (h : Rel C A.sl A.ks ρ β a w) (hc : cvC A T c l want x = some d) (hF : Fits C A ρ β w T d M)
    (hv : CEOk (memOf C A.ks β ρ w) x v) : leafV v ∧ CellOk M want v (M.ρ l) := by
  refine ⟨hv.1, ?_⟩
  unfold cvC at hc
  split at hc
  · rename_i t
    simp only [Option.bind_eq_bind, Option.bind_eq_some_iff, Option.some.injEq] at hc
    obtain ⟨⟨e, f⟩, he, rfl⟩ := hc
    have hr := asT_ok h hv he
    have hm := hF.mvs (l, t, e) (by simp)
    simp only [CellOk]
    rw [hm, hF.world]
    refine RepC.ext (fun b hb => hF.I b ?_) (fun _ _ _ => rfl) _ _ _ hr
    rcases hb with hb | ⟨κ, k, hm, hb⟩
    · exact .inl hb
    · exact .inr ⟨κ, k, by simp [hm], hb⟩
  · split at hc
    · rename_i hx
      have hx' : x.1 = .nil := by simpa using hx
      have := hv.2
      rw [hx'] at this
      exact this
    · simp at hc
  · split at hc
    · rename_i hx
      have hx' : x.1 = .nilp := by simpa using hx
      have := hv.2
      rw [hx'] at this
      exact this
    · simp at hc
  · trivial
  · rename_i κ
    have hcell := hv.2
    split at hc
    · rename_i κ' t hx hT
      split at hc
      · rename_i u hk
        split at hc
        · rename_i htu
          have htu' : t = u := by simpa using htu
          subst htu'
          obtain ⟨_, hb, _⟩ := bindK_ok (A := A) hc
          rw [hx] at hcell
          simp only [CellOk, memOf, hk] at hcell
          have hcon := hF.con κ t (some κ') (by rw [hT]; rfl) hb
          simp only [CellOk, hF.ks, hT]
          simp only at hcon
          rw [hcon]
          obtain ⟨base, cap, g1, g2, g3⟩ := hcell
          refine ⟨base, cap, g1, g2, ?_⟩
          rw [hF.some_ κ κ' hb, hF.world]
          exact g3
        · simp at hc
      · simp at hc
    · rename_i t hx hT
      obtain ⟨_, hb, _⟩ := bindK_ok (A := A) hc
      rw [hx] at hcell
      have hcon := hF.con κ t none (by rw [hT]; rfl) hb
      simp only [CellOk, hF.ks, hT]
      simp only at hcon
      rw [hcon]
      refine ⟨none, 0, hcell, Nat.le_refl _, ?_⟩
      rw [hF.none_ κ hb]
      exact ⟨rfl, rfl⟩
    · simp at hc
  · rename_i κ j
    have hcell := hv.2
    split at hc
    · rename_i κ' j' hx
      split at hc
      · rename_i cs cs' hT hk
        split at hc
        · rename_i hjj
          simp only [Bool.and_eq_true, beq_iff_eq] at hjj
          obtain ⟨_, hb, _⟩ := bindK_ok (A := A) hc
          rw [hx] at hcell
          simp only [CellOk, memOf, hk] at hcell
          simp only [CellOk, hF.ks, hT]
          obtain ⟨b, g1, g2⟩ := hcell
          exact ⟨b, by rw [hF.some_ κ κ' hb]; exact g1, by rw [hjj.1]; exact g2⟩
        · simp at hc
      · simp at hc
    · simp at hc
  · rename_i κ
    have hcell := hv.2
    split at hc
    · rename_i κ' hx
      split at hc
      · rename_i t n u m hT hk
        split at hc
        · obtain ⟨_, hb, _⟩ := bindK_ok (A := A) hc
          rw [hx] at hcell
          simp only [CellOk, memOf, hk] at hcell
          simp only [CellOk, hF.ks, hT]
          obtain ⟨b, g1, g2⟩ := hcell
          exact ⟨b, by rw [hF.some_ κ κ' hb]; exact g1, g2⟩
        · simp at hc
      · simp at hc
    · simp at hc
  · simp at hc
theorem cvCs_ok {T : Nat → Option KSh} {mk : Nat → Loc} {M : Mem} (h : Rel C A.sl A.ks ρ β a w) : ∀ (ws : List Sh) (xs : List CE) (vs : List Value) (c d : Cv) (j : Nat), cvCs A T mk c j ws xs = some d → Fits C A ρ β w T d M →
    CEsOk (memOf C A.ks β ρ w) xs vs → CellsOk M mk j ws vs
  | [], [], [], c, d, j, hc, hF, hv => trivial
  | s :: ws, x :: xs, v :: vs, c, d, j, hc, hF, hv => by
    simp only [cvCs, Option.bind_eq_bind, Option.bind_eq_some_iff] at hc
    obtain ⟨c1, h1, h2⟩ := hc
    obtain ⟨q1, _⟩ := cvCs_le ws xs c1 d (j + 1) h2
    obtain ⟨r1, r2⟩ := cvC_ok h h1 (hF.le q1) hv.1
    exact ⟨r1, r2, cvCs_ok h ws xs vs c1 d (j + 1) h2 hF hv.2⟩
  | [], [], _ :: _, c, d, j, hc, hF, hv => hv.elim
  | [], _ :: _, _, c, d, j, hc, _, _ => by simp [cvCs] at hc
  | _ :: _, [], _, c, d, j, hc, _, _ => by simp [cvCs] at hc
  | _ :: _, _ :: _, [], c, d, j, hc, hF, hv => hv.elim
theorem cvVs_ok {T : Nat → Option KSh} {mk : Nat → Loc} {M : Mem} (h : Rel C A.sl A.ks ρ β a w) : ∀ (ws : List Val) (xs : List (Bool × List CE)) (vs : List Value) (c d : Cv) (j : Nat), cvVs A T mk c j ws xs = some d → Fits C A ρ β w T d M →
    VsOk (memOf C A.ks β ρ w) xs vs → ValsOk M mk j ws vs
  | [], [], [], c, d, j, hc, hF, hv => trivial
  | s :: ws, x :: xs, v :: vs, c, d, j, hc, hF, hv => by
    simp only [cvVs] at hc
    split at hc
    · simp at hc
    · rename_i hagg
      have hagg' : s.agg = x.1 := by simpa using hagg
      simp only [Option.bind_eq_bind, Option.bind_eq_some_iff] at hc
      obtain ⟨c1, h1, h2⟩ := hc
      obtain ⟨q1, _⟩ := cvVs_le ws xs c1 d _ h2
      obtain ⟨cells, g1, g2, g3⟩ := hv.1
      exact ⟨⟨cells, by rw [hagg']; exact g1, by rw [hagg']; exact g2, cvCs_ok h _ _ _ _ _ _ h1 (hF.le q1) g3⟩, cvVs_ok h ws xs vs c1 d _ h2 hF hv.2⟩
  | [], [], _ :: _, c, d, j, hc, hF, hv => hv.elim
  | [], _ :: _, _, c, d, j, hc, _, _ => by simp [cvVs] at hc
  | _ :: _, [], _, c, d, j, hc, _, _ => by simp [cvVs] at hc
  | _ :: _, _ :: _, [], c, d, j, hc, hF, hv => hv.elim
theorem cvS_ok {T : Nat → Option KSh} {M : Mem} (h : Rel C A.sl A.ks ρ β a w) {c d : Cv} {i : Nat} {k : SK} {x : OpV} {v : Value} (hc : cvS A T c i k x = some d) (hF : Fits C A ρ β w T d M)
    (hv : OpVOk (memOf C A.ks β ρ w) x v) : SKOk M i k v := by
  unfold cvS at hc
  split at hc
  · split at hc
    · rename_i w0 g cs hagg
      have hagg' : w0.agg = g := by simpa using hagg
      obtain ⟨cells, g1, g2, g3⟩ := hv
      exact ⟨cells, by rw [hagg']; exact g1, by rw [hagg']; exact g2, cvCs_ok h _ _ _ _ _ _ hc hF g3⟩
    · simp at hc
  · obtain ⟨xs, g1, g2⟩ := hv
    exact ⟨xs, g1, cvVs_ok h _ _ _ _ _ _ hc hF g2⟩
  · split at hc
    · rename_i f nf ws g ng vs hfg
      simp only [Bool.and_eq_true, beq_iff_eq] at hfg
      obtain ⟨xs, ys, g1, g2, g3⟩ := hv
      exact ⟨xs, ys, by rw [hfg.1]; exact g1, by rw [hfg.2]; exact g2, cvVs_ok h _ _ _ _ _ _ hc hF g3⟩
    · simp at hc
  · simp at hc
def OpsOk (M : Mem) : List OpV → List Value → Prop
  | [], [] => True
  | x :: xs, v :: vs => OpVOk M x v ∧ OpsOk M xs vs
  | _, _ => False
def SKsOk (M : Mem) : List (Nat × SK) → List Value → Prop
  | [], [] => True
  | (i, k) :: r, v :: vs => SKOk M i k v ∧ SKsOk M r vs
  | _, _ => False
theorem cvSl_ok {T : Nat → Option KSh} {M : Mem} (h : Rel C A.sl A.ks ρ β a w) : ∀ (sl : List (Nat × SK)) (xs : List OpV) (vs : List Value) (c d : Cv), cvSl A T c sl xs = some d → Fits C A ρ β w T d M →
    OpsOk (memOf C A.ks β ρ w) xs vs → SKsOk M sl vs
  | [], [], [], c, d, hc, hF, hv => trivial
  | (i, k) :: sl, x :: xs, v :: vs, c, d, hc, hF, hv => by
    simp only [cvSl, Option.bind_eq_bind, Option.bind_eq_some_iff] at hc
    obtain ⟨c1, h1, h2⟩ := hc
    obtain ⟨q1, _⟩ := cvSl_le sl xs c1 d h2
    exact ⟨cvS_ok h h1 (hF.le q1) hv.1, cvSl_ok h sl xs vs c1 d h2 hF hv.2⟩
  | [], [], _ :: _, c, d, hc, hF, hv => hv.elim
  | [], _ :: _, _, c, d, hc, _, _ => by simp [cvSl] at hc
  | _ :: _, [], _, c, d, hc, _, _ => by simp [cvSl] at hc
  | _ :: _, _ :: _, [], c, d, hc, hF, hv => hv.elim
theorem cvK1_ok {T : Nat → Option KSh} {M : Mem} (h : Rel C A.sl A.ks ρ β a w) {c d : Cv} {κ : Nat} {k : KSh} (hc : cvK1 A T c κ k = some d) (hF : Fits C A ρ β w T d M) (hT : T κ = some k) : KeyOk M κ k := by
  have hle := (cvK1_le hc).1
  unfold cvK1 at hc
  split at hc
  · trivial
  · rename_i t κ' hlk
    split at hc
    · rename_i u hk
      split at hc
      · rename_i htu
        have htu' : t = u := by simpa using htu
        subst htu'
        have hlk' := hle.km _ _ hlk
        have hcon := hF.con κ t (some κ') (by rw [hT]; rfl) hlk'
        have hok := h.keys κ' _ hk
        simp only [KeyOk, memOf] at hok ⊢
        simp only at hcon
        rw [hF.some_ κ κ' hlk', hcon, hF.world]
        cases hb : β κ' with
        | none => rw [hb] at hok; exact hok
        | some b =>
          rw [hb] at hok
          obtain ⟨cc, g1, g2⟩ := hok
          exact ⟨cc, g1, g2.1, g2.2.1, fun i hi => by rw [hF.world]; exact RepC.ext (fun b hb => hF.I b (.inl hb)) (fun _ _ _ => rfl) _ _ _ (g2.2.2 i hi)⟩
      · simp at hc
    · simp at hc
  · rename_i t hlk
    have hlk' := hle.km _ _ hlk
    have hcon := hF.con κ t none (by rw [hT]; rfl) hlk'
    simp only [KeyOk]
    rw [hF.none_ κ hlk']
    exact hcon
  · rename_i t n κ' hlk
    split at hc
    · rename_i u m hk
      split at hc
      · rename_i htu
        simp only [Bool.and_eq_true, beq_iff_eq] at htu
        obtain ⟨rfl, rfl⟩ := htu
        have hlk' := hle.km _ _ hlk
        have hcon := hF.con κ t (some κ') (by rw [hT]; rfl) hlk'
        obtain ⟨b, cc, g0, g1, g2, g3⟩ := h.keys κ' _ hk
        simp only at hcon
        simp only [memOf] at g0 g1 g2
        refine ⟨b, cc, by rw [hF.some_ κ κ' hlk']; exact g0, by rw [hF.world]; exact g1, by rw [hcon]; exact g2, ?_⟩
        rw [hcon]
        exact ⟨g3.1, g3.2.1, fun i hi => by rw [hF.world]; exact RepC.ext (fun b hb => hF.I b (.inl hb)) (fun _ _ _ => rfl) _ _ _ (g3.2.2 i hi)⟩
      · simp at hc
    · simp at hc
  · rename_i cs κ' hlk
    split at hc
    · rename_i xs hk
      have hlk' := hle.km _ _ hlk
      obtain ⟨b, cc, g0, g1, g2⟩ := h.keys κ' _ hk
      simp only [memOf] at g0 g1
      refine ⟨b, cc, by rw [hF.some_ κ κ' hlk']; exact g0, by rw [hF.world]; exact g1, cvCs_ok h _ _ _ _ _ _ hc hF (CEsOk.of_cells _ _ _ g2)⟩
    · simp at hc
  · simp at hc
theorem cvKs_ok {T : Nat → Option KSh} {M : Mem} (h : Rel C A.sl A.ks ρ β a w) : ∀ (ks : List (Nat × KSh)) (c d : Cv), cvKs A T c ks = some d → Fits C A ρ β w T d M → (∀ x ∈ ks, T x.1 = some x.2) →
    ∀ x ∈ ks, KeyOk M x.1 x.2
  | [], c, d, hc, hF, hT, x, hx => by simp at hx
  | (κ, k) :: r, c, d, hc, hF, hT, x, hx => by
    simp only [cvKs, Option.bind_eq_bind, Option.bind_eq_some_iff] at hc
    obtain ⟨c1, h1, h2⟩ := hc
    obtain ⟨q1, _⟩ := cvKs_le r c1 d h2
    rcases List.mem_cons.1 hx with hx | hx
    · subst hx
      exact cvK1_ok h h1 (hF.le q1) (hT (κ, k) (by simp))
    · exact cvKs_ok h r c1 d h2 hF (fun y hy => hT y (by simp [hy])) x hx
theorem cvKs_bound {T : Nat → Option KSh} : ∀ (ks : List (Nat × KSh)) (c d : Cv), cvKs A T c ks = some d → ∀ x ∈ ks, x.2 ≠ .gone → ∃ o, lookK d.km x.1 = some o ∧
    (∀ κ', o = some κ' → Priv A.ks κ') ∧ ∀ t, x.2.lt = some t → (Loc.k x.1 0, Ty.lst t, match o with | some κ' => PE.loc (.k κ' 0) | none => PE.lnil) ∈ d.mvs
  | [], c, d, hc, x, hx, _ => by simp at hx
  | (κ, k) :: r, c, d, hc, x, hx, hp => by
    simp only [cvKs, Option.bind_eq_bind, Option.bind_eq_some_iff] at hc
    obtain ⟨c1, h1, h2⟩ := hc
    obtain ⟨q1, _⟩ := cvKs_le r c1 d h2
    rcases List.mem_cons.1 hx with hx | hx
    · subst hx
      have hle := (cvK1_le h1).1
      unfold cvK1 at h1
      dsimp only at hp ⊢
      split at h1
      · exact absurd rfl hp
      · rename_i t κ' hlk
        split at h1
        · rename_i u hk
          split at h1
          · simp only [Option.some.injEq] at h1
            refine ⟨some κ', q1.km _ _ (hle.km _ _ hlk), fun κ2 h2 => ?_, fun t' ht' => ?_⟩
            · simp only [Option.some.injEq] at h2; subst h2; exact ⟨_, hk, rfl⟩
            · simp only [KSh.lt, Option.some.injEq] at ht'; subst ht'
              refine q1.mvs _ ?_
              subst h1; simp
          · simp at h1
        · simp at h1
      · rename_i t hlk
        simp only [Option.some.injEq] at h1
        refine ⟨none, q1.km _ _ (hle.km _ _ hlk), fun κ2 h2 => by simp at h2, fun t' ht' => ?_⟩
        simp only [KSh.lt, Option.some.injEq] at ht'; subst ht'
        refine q1.mvs _ ?_
        subst h1; simp
      · rename_i t n κ' hlk
        split at h1
        · rename_i u m hk
          split at h1
          · simp only [Option.some.injEq] at h1
            refine ⟨some κ', q1.km _ _ (hle.km _ _ hlk), fun κ2 h2 => ?_, fun t' ht' => ?_⟩
            · simp only [Option.some.injEq] at h2; subst h2; exact ⟨_, hk, rfl⟩
            · simp only [KSh.lt, Option.some.injEq] at ht'; subst ht'
              refine q1.mvs _ ?_
              subst h1; simp
          · simp at h1
        · simp at h1
      · rename_i cs κ' hlk
        split at h1
        · rename_i xs hk
          refine ⟨some κ', q1.km _ _ (hle.km _ _ hlk), fun κ2 h2 => ?_, fun t' ht' => by simp [KSh.lt] at ht'⟩
          simp only [Option.some.injEq] at h2; subst h2; exact ⟨_, hk, rfl⟩
        · simp at h1
      · simp at h1
    · exact cvKs_bound r c1 d h2 x hx hp
end
end Rk
set_option linter.unusedVariables false
set_option linter.unusedSimpArgs false
namespace Rk
open Go
theorem nodupB_ok {α : Type} [BEq α] [LawfulBEq α] : ∀ (l : List α), nodupB l = true → l.Nodup
  | [], _ => List.nodup_nil
  | a :: r, h => by
    simp only [nodupB, Bool.and_eq_true, Bool.not_eq_true', List.contains_eq_mem, decide_eq_false_iff_not] at h
    exact List.nodup_cons.2 ⟨h.1, nodupB_ok r h.2⟩
theorem updS_mem {ρ : Rho} : ∀ (l : List (Loc × Dyn)), (l.map (·.1)).Nodup → ∀ x ∈ l, updS ρ l x.1 = x.2
  | [], _, x, hx => by simp at hx
  | y :: r, hn, x, hx => by
    simp only [List.map_cons, List.nodup_cons] at hn
    simp only [updS]
    rcases List.mem_cons.1 hx with hx | hx
    · rw [hx]; simp
    · have hne : x.1 ≠ y.1 := fun e => hn.1 (by rw [← e]; exact List.mem_map.2 ⟨x, hx, rfl⟩)
      rw [if_neg hne]
      exact updS_mem r hn.2 x hx
theorem putKs_find : ∀ (l : List (Nat × KSh)) (ks : Nat → Option KSh), (l.map (·.1)).Nodup → ∀ κ, putKs ks l κ = match (l.find? (·.1 == κ)).map (·.2) with | some k => some k | none => ks κ
  | [], ks, _, κ => rfl
  | (κ0, k) :: r, ks, hn, κ => by
    simp only [List.map_cons, List.nodup_cons] at hn
    simp only [putKs]
    rw [putKs_find r _ hn.2 κ]
    by_cases hk : κ0 = κ
    · subst hk
      have : r.find? (·.1 == κ0) = none := by
        rw [List.find?_eq_none]
        intro x hx he
        have he' : x.1 = κ0 := by simpa using he
        exact hn.1 (List.mem_map.2 ⟨x, hx, he'⟩)
      rw [this]
      simp
    · have : ((κ0, k) :: r).find? (·.1 == κ) = r.find? (·.1 == κ) := by
        rw [List.find?_cons_of_neg]
        simpa using hk
      rw [this]
      have hk' : κ ≠ κ0 := fun e => hk e.symm
      simp only [hk', if_false]
theorem find_mem {l : List (Nat × KSh)} {κ : Nat} {k : KSh} (h : (l.find? (·.1 == κ)).map (·.2) = some k) : (κ, k) ∈ l := by
  simp only [Option.map_eq_some_iff] at h
  obtain ⟨x, hx, rfl⟩ := h
  have h1 := List.mem_of_find?_eq_some hx
  have h2 := List.find?_some hx
  have h2' : x.1 = κ := by simpa using h2
  subst h2'
  exact h1
theorem mem_find : ∀ {l : List (Nat × KSh)} {x : Nat × KSh}, (l.map (·.1)).Nodup → x ∈ l → (l.find? (·.1 == x.1)).map (·.2) = some x.2
  | y :: r, x, hn, hx => by
    simp only [List.map_cons, List.nodup_cons] at hn
    rcases List.mem_cons.1 hx with hx | hx
    · subst hx; simp
    · have hne : ¬ y.1 = x.1 := fun e => hn.1 (by rw [e]; exact List.mem_map.2 ⟨x, hx, rfl⟩)
      rw [List.find?_cons_of_neg (by simpa using hne)]
      exact mem_find hn.2 hx
theorem putSl_find : ∀ (l : List (Nat × Slot)) (sl : Nat → Slot) (i : Nat), (∃ s, (i, s) ∈ l ∧ putSl sl l i = s) ∨ putSl sl l i = sl i
  | [], sl, i => .inr rfl
  | (j, s) :: r, sl, i => by
    simp only [putSl]
    rcases putSl_find r (fun x => if x = j then s else sl x) i with ⟨s', h1, h2⟩ | h
    · exact .inl ⟨s', by simp [h1], h2⟩
    · by_cases hij : i = j
      · left
        refine ⟨s, by simp [hij], ?_⟩
        rw [h, if_pos hij]
      · right
        rw [h, if_neg hij]
section
variable {C : Ctx} {A : Acc} {ρ : Rho} {β : Nat → Option Nat} {a : Act} {w : World}
def tgtβ (km : List (Nat × Option Nat)) (β : Nat → Option Nat) : Nat → Option Nat := fun κ =>
  match lookK km κ with
  | some (some κ') => β κ'
  | _ => none
def tgtT (ks : List (Nat × KSh)) : Nat → Option KSh := fun κ => (ks.find? (·.1 == κ)).map (·.2)
theorem conv_spec {km0 : List (Nat × Option Nat)} {sl : List (Nat × SK)} {ks : List (Nat × KSh)} {xs : List OpV} {c : Cv} (h : conv A km0 sl ks xs = some c) :
    ∃ c1, cvSl A (tgtT ks) ⟨km0, [], []⟩ sl xs = some c1 ∧ cvKs A (tgtT ks) c1 ks = some c ∧ ∀ x ∈ c.fz, usedK c.km x.1 = false := by
  simp only [conv, Option.bind_eq_bind, Option.bind_eq_some_iff] at h
  obtain ⟨c1, h1, c2, h2, h3⟩ := h
  split at h3
  · simp at h3
  · rename_i hu
    simp only [Option.some.injEq] at h3
    subst h3
    refine ⟨c1, h1, h2, fun x hx => ?_⟩
    cases hq : usedK c2.km x.1 with
    | false => rfl
    | true => exact absurd (List.any_eq_true.2 ⟨x, hx, hq⟩) hu
theorem conv_imms (h : Rel C A.sl A.ks ρ β a w) {km0 : List (Nat × Option Nat)} {sl : List (Nat × SK)} {ks : List (Nat × KSh)} {xs : List OpV} {c : Cv} (hc : conv A km0 sl ks xs = some c) :
    (∀ κ b, Priv (tgtT ks) κ → tgtβ c.km β κ = some b → ∃ κ', lookK c.km κ = some (some κ') ∧ Priv A.ks κ' ∧ β κ' = some b) ∧
    FrzRows A.ks c.fz ∧
    ∀ b, (imms C A.ks β w b ∨ ∃ κ k, (κ, k) ∈ c.fz ∧ β κ = some b) → imms C (tgtT ks) (tgtβ c.km β) w b := by
  obtain ⟨c1, h1, h2, h3⟩ := conv_spec hc
  have hb := cvKs_bound _ _ _ h2
  have hle := (cvKs_le _ _ _ h2).1
  have hle1 := (cvSl_le _ _ _ _ h1).1
  have hfz : FrzRows A.ks c.fz := hle.mfz (hle1.mfz (by intro x hx; simp at hx))
  have key : ∀ κ b, Priv (tgtT ks) κ → tgtβ c.km β κ = some b → ∃ κ', lookK c.km κ = some (some κ') ∧ Priv A.ks κ' ∧ β κ' = some b := by
    rintro κ b ⟨k, hk, hp⟩ hβ
    have hm := find_mem hk
    obtain ⟨o, ho, hpo, _⟩ := hb (κ, k) hm (by intro e; rw [show k = .gone from e] at hp; simp [KSh.priv] at hp)
    simp only [tgtβ, ho] at hβ
    cases o with
    | none => simp at hβ
    | some κ' => exact ⟨κ', ho, hpo κ' rfl, hβ⟩
  refine ⟨key, hfz, fun b hb' => ?_⟩
  rcases hb' with ⟨g1, g2, g3⟩ | ⟨κf, kf, hm, hβf⟩
  · refine ⟨g1, g2, fun κ hp hβ => ?_⟩
    obtain ⟨κ', _, q2, q3⟩ := key κ b hp hβ
    exact g3 κ' q2 q3
  · obtain ⟨t, _, hrow⟩ := hfz _ hm
    have hpf : Priv A.ks κf := ⟨_, hrow, rfl⟩
    obtain ⟨g1, g2⟩ := h.own κf b hpf hβf
    refine ⟨.inr g1, g2, fun κ hp hβ => ?_⟩
    obtain ⟨κ', q1, q2, q3⟩ := key κ b hp hβ
    have : κ' = κf := h.inj κ' κf b q2 hpf q3 hβf
    subst this
    have hu := h3 _ hm
    have : usedK c.km κ' = true := List.any_eq_true.2 ⟨(κ, some κ'), lookK_mem _ _ _ q1, by simp⟩
    simp only at hu
    rw [this] at hu
    simp at hu
theorem conv_fits (h : Rel C A.sl A.ks ρ β a w) {km0 : List (Nat × Option Nat)} {sl : List (Nat × SK)} {ks : List (Nat × KSh)} {xs : List OpV} {c : Cv} (hc : conv A km0 sl ks xs = some c) (hn : (ks.map (·.1)).Nodup) {ρ' : Rho} {I : Nat → Prop} {β' : Nat → Option Nat}
    (hβ : ∀ κ o, lookK c.km κ = some o → β' κ = match o with | some κ' => β κ' | none => none)
    (hmv : ∀ x ∈ c.mvs, (ρ' x.1).get x.2.1 = x.2.2.ev ρ x.2.1) (hI : ∀ b, (imms C A.ks β w b ∨ ∃ κ k, (κ, k) ∈ c.fz ∧ β κ = some b) → I b) : Fits C A ρ β w (tgtT ks) c ⟨tgtT ks, β', ρ', w, I⟩ := by
  obtain ⟨c1, h1, h2, h3⟩ := conv_spec hc
  refine ⟨rfl, rfl, fun κ κ' hk => ?_, fun κ hk => ?_, hmv, fun κ t o ht hk => ?_, hI⟩
  · exact hβ κ _ hk
  · exact hβ κ _ hk
  · cases hT : tgtT ks κ with
    | none => rw [hT] at ht; simp at ht
    | some k =>
      rw [hT] at ht
      simp only [Option.bind_some] at ht
      have hm := find_mem hT
      obtain ⟨o', ho', _, hcon⟩ := cvKs_bound _ _ _ h2 (κ, k) hm (by intro e; rw [show k = .gone from e] at ht; simp [KSh.lt] at ht)
      simp only at ho'
      rw [hk] at ho'
      simp only [Option.some.injEq] at ho'
      subst ho'
      have := hmv _ (hcon t ht)
      simp only [content]
      rw [this]
      cases o with
      | none => rfl
      | some κ' => rfl
theorem slotsOf_ok (h : Rel C A.sl A.ks ρ β a w) : ∀ (l : List (Nat × Slot)) (xs : List OpV), slotsOf A l = some xs → OpsOk (memOf C A.ks β ρ w) xs (l.map fun x => a.tmps.getD x.1 undef) ∧ ∀ x ∈ l, x.2.cond = []
  | [], xs, hs => by simp only [slotsOf, Option.some.injEq] at hs; subst hs; exact ⟨trivial, by simp⟩
  | (i, s) :: r, xs, hs => by
    simp only [slotsOf] at hs
    split at hs
    · simp at hs
    · rename_i hc
      simp only [Option.bind_eq_bind, Option.bind_eq_some_iff, Option.some.injEq] at hs
      obtain ⟨x, hx, xs', hxs, rfl⟩ := hs
      obtain ⟨q1, q2⟩ := slotsOf_ok h r xs' hxs
      refine ⟨⟨opTmp_ok h (fun y hy => by simp at hy) hx, q1⟩, fun y hy => ?_⟩
      rcases List.mem_cons.1 hy with hy | hy
      · rw [hy]; simpa using hc
      · exact q2 y hy
theorem SKsOk.mem {M : Mem} : ∀ (l : List (Nat × SK)) (vs : List Value) (f : Nat → Value), vs = l.map (fun x => f x.1) → SKsOk M l vs → ∀ x ∈ l, SKOk M x.1 x.2 (f x.1)
  | [], vs, f, hv, h, x, hx => by simp at hx
  | (i, k) :: r, vs, f, hv, h, x, hx => by
    subst hv
    rcases List.mem_cons.1 hx with hx | hx
    · subst hx; exact h.1
    · exact SKsOk.mem r _ f rfl h.2 x hx
theorem Nf_acc {N : Nf} (h : N.ok = true) : N.st.acc.ks = tgtT N.ks ∧ (∀ i, N.st.acc.sl i = putSl (fun _ => ⟨[], .dead⟩) N.sl i) := by
  simp only [Nf.ok, Bool.and_eq_true] at h
  obtain ⟨⟨⟨h1, h2⟩, h3⟩, h4⟩ := h
  have g3 : ∀ x ∈ N.sl, x.1 < 2 ^ 39 := fun x hx => by simpa using List.all_eq_true.1 h3 x hx
  have g4 : ∀ x ∈ N.ks, x.1 < 2 ^ 39 := fun x hx => by simpa using List.all_eq_true.1 h4 x hx
  constructor
  · funext κ
    simp only [Nf.st, St.acc]
    rw [setKs_get _ _ g4, putKs_find _ _ (nodupB_ok _ h2)]
    have : (Tab.nil : Tab KSh).get κ = none := rfl
    simp only [this, tgtT]
    cases (N.ks.find? (·.1 == κ)).map (·.2) <;> rfl
  · intro i
    simp only [Nf.st, St.acc]
    rw [setSl_get _ _ g3]
    rfl
theorem coerce_ok (h : Rel C A.sl A.ks ρ β a w) {N : Nf} {mv : List (Loc × Ty × PE)} (hc : coerce C.rts A N = some mv) :
    ∃ β', Rel C N.st.acc.sl N.st.acc.ks (updS ρ (evs ρ mv)) β' a w := by
  simp only [coerce] at hc
  split at hc
  · simp at hc
  rename_i hok
  simp only [Bool.not_eq_true', Bool.not_eq_false] at hok
  simp only [Option.bind_eq_bind, Option.bind_eq_some_iff] at hc
  obtain ⟨xs, hxs, c, hcv, hc⟩ := hc
  split at hc
  · rename_i hcond
    simp only [Option.some.injEq] at hc
    simp only [Bool.and_eq_true, Bool.not_eq_true'] at hcond
    obtain ⟨⟨⟨hnd, hng⟩, hid⟩, _⟩ := hcond
    have hnd' := nodupB_ok _ hnd
    obtain ⟨e1, e2⟩ := Nf_acc hok
    simp only [Nf.ok, Bool.and_eq_true] at hok
    obtain ⟨⟨⟨o1, o2⟩, o3⟩, o4⟩ := hok
    have hnk := nodupB_ok _ o2
    -- the moves
    have hmv : ∀ x ∈ c.mvs, ((updS ρ (evs ρ mv)) x.1).get x.2.1 = x.2.2.ev ρ x.2.1 := by
      intro x hx
      cases hi : isId x with
      | true =>
        have hloc : updS ρ (evs ρ mv) x.1 = ρ x.1 := by
          refine updS_not _ (fun y hy e => ?_)
          obtain ⟨z, hz, hzy⟩ := mem_evs hy
          rw [← hc] at hz
          have : ((c.mvs.filter isId).any fun x => ((c.mvs.filter fun x => !isId x).map (·.1)).contains x.1) = true := by
            refine List.any_eq_true.2 ⟨x, List.mem_filter.2 ⟨hx, hi⟩, ?_⟩
            rw [List.contains_iff_mem]
            exact List.mem_map.2 ⟨z, hz, by rw [← hzy, e]⟩
          rw [this] at hid
          simp at hid
        rw [hloc]
        have : x.2.2 = .loc x.1 := by simpa [isId] using hi
        rw [this]
        rfl
      | false =>
        have hm : x ∈ mv := by rw [← hc]; exact List.mem_filter.2 ⟨hx, by simp [hi]⟩
        have hm2 : (x.1, (⟨x.2.1, x.2.2.ev ρ x.2.1⟩ : Dyn)) ∈ evs ρ mv := List.mem_map.2 ⟨x, hm, rfl⟩
        have := updS_mem (ρ := ρ) (evs ρ mv) (by rw [← hc]; simpa [evs, Function.comp_def] using hnd') _ hm2
        simp only at this
        rw [this, Dyn.get_mk]
    obtain ⟨k1, k2, k3⟩ := conv_imms h hcv
    have hF := conv_fits (ρ' := updS ρ (evs ρ mv)) (I := imms C (tgtT N.ks) (tgtβ c.km β) w) (β' := tgtβ c.km β) h hcv hnk (fun κ o hk => by simp only [tgtβ, hk]; cases o <;> rfl) hmv k3
    obtain ⟨c1, h1, h2, h3⟩ := conv_spec hcv
    obtain ⟨s1, s2⟩ := slotsOf_ok h _ _ hxs
    have hinj : Inj1 c.km := (cvKs_le _ _ _ h2).2 ((cvSl_le _ _ _ _ h1).2 (by
      have key : ∀ (rt : List Nat) κ κ', lookK (rt.map fun κ => (κ, some κ)) κ = some (some κ') → κ = κ' := by
        intro rt
        induction rt with
        | nil => intro κ κ' hh; simp [lookK] at hh
        | cons r rt ih =>
          intro κ κ' hh
          simp only [List.map_cons, lookK] at hh
          split at hh
          · rename_i hr
            have hr' : r = κ := by simpa using hr
            simp only [Option.some.injEq] at hh
            rw [← hr', hh]
          · exact ih κ κ' hh
      intro κ1 κ2 κ' q1 q2
      rw [key C.rts _ _ q1, key C.rts _ _ q2]))
    refine ⟨tgtβ c.km β, ?_⟩
    have hsk := cvSl_ok h _ _ ((N.sl.map fun x => (x.1, x.2.k)).map fun x => a.tmps.getD x.1 undef) _ _ h1 (hF.le (cvKs_le _ _ _ h2).1) (by simpa [Function.comp_def] using s1)
    have hkk := cvKs_ok h _ _ _ h2 hF (fun x hx => mem_find hnk hx)
    rw [e1]
    refine ⟨fun κ κ' b p1 p2 b1 b2 => ?_, fun κ b p1 b1 => ?_, fun κ k hk => hkk (κ, k) (find_mem hk), fun i => ?_, h.tmps, h.dfr, h.fr, h.jt, h.tt, fun g => ?_, fun κ hκ => ?_⟩
    · obtain ⟨κ1, q1, q2, q3⟩ := k1 κ b p1 b1
      obtain ⟨κ2, r1, r2, r3⟩ := k1 κ' b p2 b2
      have : κ1 = κ2 := h.inj κ1 κ2 b q2 r2 q3 r3
      subst this
      exact hinj _ _ _ q1 r1
    · obtain ⟨κ1, q1, q2, q3⟩ := k1 κ b p1 b1
      exact h.own κ1 b q2 q3
    · rw [e2]
      rcases putSl_find N.sl (fun _ => ⟨[], .dead⟩) i with ⟨s, q1, q2⟩ | q
      · rw [q2]
        intro _
        exact SKsOk.mem _ _ (fun i => a.tmps.getD i undef) rfl hsk (i, s.k) (List.mem_map.2 ⟨(i, s), q1, rfl⟩)
      · rw [q]; intro _; trivial
    · rw [← h.tab g]
      refine updS_not _ (fun y hy e => ?_)
      obtain ⟨z, hz, hzy⟩ := mem_evs hy
      have := List.all_eq_true.1 hng z.1 (List.mem_map.2 ⟨z, by rw [hc]; exact hz, rfl⟩)
      rw [← hzy, e] at this
      simp [notG] at this
    · have hlk : ∀ (rt : List Nat), κ ∈ rt → lookK (rt.map fun κ => (κ, some κ)) κ = some (some κ) := by
        intro rt
        induction rt with
        | nil => intro hh; simp at hh
        | cons r rt ih =>
          intro hh
          simp only [List.map_cons, lookK]
          by_cases hr : r = κ
          · simp [hr]
          · have hr' : (r == κ) = false := by simpa using hr
            rw [hr']
            simp only [Bool.false_eq_true, if_false]
            exact ih (by rcases List.mem_cons.1 hh with hh | hh; exact absurd hh.symm hr; exact hh)
      have := (cvKs_le _ _ _ h2).1.km _ _ ((cvSl_le _ _ _ _ h1).1.km _ _ (hlk C.rts hκ))
      simp only [tgtβ, this]
      exact h.rt κ hκ
  · simp at hc
end
end Rk
