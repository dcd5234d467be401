/- The framework: a translation of the program that is verified in Lean, part 4. No condition. -/
import Derived.ProofKit
import Derived.OpenShut
import Derived.ShutString
import Derived.IntWalk
import Derived.Laws.BitsAllLaws
import Derived.Test.YtfmdnoljlbfjbaaDoorF2
set_option linter.unusedVariables false
set_option linter.unusedSimpArgs false
set_option linter.unusedVariables false
set_option linter.unusedSimpArgs false
namespace Rk
open Go
section
variable {E : Env} {C C0 : Ctx} {S S' : St} {m : Nat} {L L' : Ml} {seen : List Nat} {ρ ρ' ρ1 : Rho} {β β' : Nat → Option Nat} {a a' : Act} {w w' : World} {sl : Nat → Slot} {ks : Nat → Option KSh} {call : CallF}
  {ops : Array Oper} {Q : Exit → Act → World → Prop} {o o2 : Oper} {rest : List Oper} {e : Eff}
theorem zero_run_makeMap {P : Program} {t : TypeId} : (Instr.makeMap t none).run P w = .ok (.map (some w.heap.size)) (w.alloc (.map #[] 0)) := rfl
theorem make_step (hnt : C0.nt ≤ 100000) (h : RL E C0 m L seen S ρ a w) (hd : dstFree C0.nt m seen o = true) {t : TypeId} {d : Nat} (hop : o.op = .makeMap t none) (hdd : o.dst = some d) (hop2 : o2.op = .assign (.tmp d)) (hdd2 : o2.dst = some m) (hg2 : o2.guard = none)
    (hm : m < C0.nt) (hms : m ∉ seen) (hdm : d ≠ m)
    (hr : runE call { sl := [(d, ⟨[], .dead⟩), (m, ⟨[], .dead⟩)], sets := [(gL 0, mapD, .lnil), (gL 1, .int .i64, .int 1)] } ρ = some ρ1)
    (hn : ∀ a' w', RL E C0 m ⟨[d], []⟩ (o2.dst.toList ++ (o.dst.toList ++ seen)) (S.put { sl := [(d, ⟨[], .dead⟩), (m, ⟨[], .dead⟩)], sets := [(gL 0, mapD, .lnil), (gL 1, .int .i64, .int 1)] }) ρ1 a' w' → wpList C0.P ops Q rest a' w') :
    wpList C0.P ops Q (o :: o2 :: rest) a w := by
  obtain ⟨C, β, h1, h2, h3, h4, h5, h6⟩ := h
  obtain ⟨hg, hdst⟩ := dstFree_ok hd
  obtain ⟨d1, d2, d3⟩ := hdst d hdd
  have hw0 : (w.alloc (.map #[] 0)).heap = w.heap.push (.map #[] 0) := rfl
  obtain ⟨C', c1, c2, c3, c4, c5, c6, c7⟩ := h3.rebase h2 h1 (w' := w.alloc (.map #[] 0)) (fun _ => False) (fun _ => False) (fun _ hb => hb.elim) (fun _ hb => hb.elim)
    (fun b hb _ => (MapKept.heap_alloc w _).2 b hb) (fun _ hb => hb.elim) (by rw [hw0]; simp) rfl rfl rfl
  have hex1 : (execOp a.eval o).run C0.P w = .ok (.value (.map (some w.heap.size))) (w.alloc (.map #[] 0)) := by
    unfold execOp
    rw [hop]
    exact run_v zero_run_makeMap
  refine wpList_step (R := fun a' w' => a' = a.put o.dst (.map (some w.heap.size)) ∧ w.alloc (.map #[] 0) = w') hg (Good.value hex1 ⟨rfl, rfl⟩) (fun a' w' => ?_)
  rintro ⟨rfl, rfl⟩
  rw [hdd]
  have hv1 : (a.put (some d) (.map (some w.heap.size))).tmps.getD d undef = .map (some w.heap.size) := put_at h3 (by rw [h1.nt]; exact d1) _
  have hex2 : (execOp (a.put (some d) (.map (some w.heap.size))).eval o2).run C0.P (w.alloc (.map #[] 0)) = .ok (.value (.map (some w.heap.size))) (w.alloc (.map #[] 0)) := by
    unfold execOp
    rw [hop2]
    show (Sem.run C0.P (pure (Next.value ((a.put (some d) (.map (some w.heap.size))).tmps.getD d undef))) _) = _
    rw [hv1]
    simp
  refine wpList_step (R := fun a' w' => a' = (a.put (some d) (.map (some w.heap.size))).put o2.dst (.map (some w.heap.size)) ∧ w.alloc (.map #[] 0) = w') hg2 (Good.value hex2 ⟨rfl, rfl⟩) (fun a' w' => ?_)
  rintro ⟨rfl, rfl⟩
  rw [hdd2]
  have hcd : ∀ i, ∀ y ∈ (S.acc.sl i).cond, y.1 ≠ d := fun i y hy => by rw [h5 i] at hy; simp at hy
  have hr1 := c3.putDead (.map (some w.heap.size)) (d := d) (by rw [c1.nt]; exact d1) hcd
  have hcd2 : ∀ i, ∀ y ∈ (putSl S.acc.sl [(d, ⟨[], .dead⟩)] i).cond, y.1 ≠ m := fun i y hy => by
    rw [conds_put h5 (fun x hx => by simp only [List.mem_singleton] at hx; rw [hx]) i] at hy; simp at hy
  have hr2 := hr1.putDead (.map (some w.heap.size)) (d := m) (by rw [c1.nt]; exact hm) hcd2
  obtain ⟨_, hρ⟩ := runE_sets rfl hr
  have hr3 : Rel C' (putSl (putSl S.acc.sl [(d, ⟨[], .dead⟩)]) [(m, ⟨[], .dead⟩)]) S.acc.ks ρ1 β ((a.put (some d) (.map (some w.heap.size))).put (some m) (.map (some w.heap.size))) (w.alloc (.map #[] 0)) := by
    refine hr2.ghost (ks_gk S) (fun l hl => ?_)
    rw [hρ]
    refine updS_not _ (fun y hy e => ?_)
    simp only [evs, List.map_cons, List.map_nil, List.mem_cons, List.not_mem_nil, or_false] at hy
    rcases hy with rfl | rfl
    · exact hl 0 e.symm
    · exact hl 1 e.symm
  have hacc : (S.put { sl := [(d, ⟨[], .dead⟩), (m, ⟨[], .dead⟩)], sets := [(gL 0, mapD, .lnil), (gL 1, .int .i64, .int 1)] }).acc = ⟨putSl (putSl S.acc.sl [(d, ⟨[], .dead⟩)]) [(m, ⟨[], .dead⟩)], S.acc.ks⟩ := by
    rw [put_acc (fun x hx => ?_) (fun x hx => by simp at hx)]
    · rfl
    · simp only [List.mem_cons, List.not_mem_nil, or_false] at hx
      rcases hx with hx | hx
      · rw [hx]; exact Nat.lt_of_lt_of_le d1 (by omega)
      · rw [hx]; exact Nat.lt_of_lt_of_le hm (by omega)
  have hmv : ((a.put (some d) (.map (some w.heap.size))).put (some m) (.map (some w.heap.size))).tmps.getD m undef = .map (some w.heap.size) := put_at hr1 (by rw [c1.nt]; exact hm) _
  have hdv : ((a.put (some d) (.map (some w.heap.size))).put (some m) (.map (some w.heap.size))).tmps.getD d undef = .map (some w.heap.size) := by
    rw [put_other _ m _ d hdm]; exact hv1
  have e0 : dataOf ρ1 = [] := by
    rw [hρ]
    show ((⟨mapD, ([] : MapM)⟩ : Dyn).get mapD : MapM) = []
    exact Dyn.get_mk _ _
  have e1 : modeOf ρ1 = 1 := by
    rw [hρ]
    show gI (dI 1) = 1
    exact Dyn.get_mk _ _
  refine hn _ _ ⟨C', β, c1, c2, by rw [hacc]; exact hr3, .inr ⟨w.heap.size, [], hmv, ?_, c7 _ (Nat.le_refl _) (by rw [hw0]; simp), .inl ⟨e1, fun b hb => by simp at hb⟩⟩, ?_, ⟨fun x hx => ?_, fun y hy => by simp at hy⟩⟩
  · rw [e0]
    refine ⟨⟨#[], 0, (MapKept.heap_alloc w _).1, rfl, rfl, fun i e b x he => by simp at he⟩, by simp⟩
  · rw [hacc]
    exact conds_put (conds_put h5 (fun x hx => by simp only [List.mem_singleton] at hx; rw [hx])) (fun x hx => by simp only [List.mem_singleton] at hx; rw [hx])
  · simp only [List.mem_singleton] at hx
    subst hx
    rw [hdd]
    exact ⟨by simp, by rw [hdv, hmv]⟩
theorem nodup_set {bs : List Nat} (h : bs.Nodup) {j b' : Nat} (hb : ∀ i bi, i ≠ j → bs[i]? = some bi → bi ≠ b') : (bs.set j b').Nodup := by
  refine List.pairwise_iff_getElem.2 (fun i k hi hk hik hne => ?_)
  have h0 := List.pairwise_iff_getElem.1 h
  rw [List.length_set] at hi hk
  rw [List.getElem_set, List.getElem_set] at hne
  by_cases hij : j = i
  · rw [if_pos hij, if_neg (by omega)] at hne
    exact hb k _ (by omega) (List.getElem?_eq_getElem hk) hne.symm
  · rw [if_neg hij] at hne
    by_cases hkj : j = k
    · rw [if_pos hkj] at hne
      exact hb i _ (by omega) (List.getElem?_eq_getElem hi) hne
    · rw [if_neg hkj] at hne
      exact h0 i k hi hk hik hne
theorem grow_map {P : Program} {t3 el : TypeId} (hTy : MapTy P t3 el) {bm : Nat} {bs : List Nat} {M : MapM} (hM : MapIs w bm bs M) (hlt : ∀ b ∈ bm :: bs, b < w.heap.size) {kb : ByteArray} {v : Value} (hv : LookV w bm kb.data.toList v) :
    ∃ ob, HandOk w ob (lookM M kb.data.toList) v ∧ (∀ b, ob = some b → b ∈ bs) ∧
      ∀ (rl : List Int) (v' : Value) (b' : Nat) (w1 : World), HdrOk w1 b' (lookM M kb.data.toList ++ rl) v' → (ob = some b' ∨ b' = w.heap.size) → (∀ b, b < w.heap.size → ob ≠ some b → w1.heap[b]? = w.heap[b]?) →
        ∃ w2 bs', (Instr.mapUpdate t3 (.map (some bm)) (.string kb) v').run P w1 = .ok () w2 ∧ w2.heap.size = w1.heap.size ∧ (∀ b, b ≠ bm → w2.heap[b]? = w1.heap[b]?) ∧ w2.os = w1.os ∧ w2.tape = w1.tape ∧ w2.output = w1.output ∧
          MapIs w2 bm bs' (appM M kb.data.toList rl) ∧ ∀ b ∈ bs', b ∈ bs ∨ b = b' := by
  obtain ⟨es, clock, m1, m2, m3, m4⟩ := hM.at_
  obtain ⟨rr, q1, q2⟩ := hv es clock kb m1 rfl
  have hbm : bm < w.heap.size := hlt bm (by simp)
  have hnd := List.nodup_cons.1 hM.nd
  obtain ⟨kt, et, t1, t2', t3', t4⟩ := hTy.ex
  cases MapIs.find m2 m3 m4 kb P with
  | none r1 r2 r3 =>
    rw [r1] at q1
    simp only [Option.some.injEq] at q1
    subst q1
    refine ⟨none, ⟨r2, q2⟩, by simp, fun rl v' b' w1 hv' hb' hw1 => ?_⟩
    have hb' : b' = w.heap.size := by rcases hb' with q | q; simp at q; exact q
    have hm1 : w1.heap[bm]? = some (.map es clock) := by rw [hw1 bm hbm (by simp)]; exact m1
    obtain ⟨clock', hrun⟩ := run_mapUpdate (P := P) t1 t2' hm1 kb v' r1 (fun j u hq => by simp at hq)
    obtain ⟨s1, s2⟩ := MapKept.heap_set (o' := Obj.map (es.push { key := .string kb, val := v', born := clock }) clock') hm1
    refine ⟨_, bs ++ [b'], hrun, by simp, s2, rfl, rfl, rfl, ⟨⟨_, _, s1, ?_, ?_, fun i en b xx he hbb hxx => ?_⟩, ?_⟩, fun b hb => by simpa using hb⟩
    · rw [r3]; simp [m2]
    · rw [r3]; simp [m3]
    · rw [r3] at hxx
      by_cases hi : i < es.size
      · have he' : es[i]? = some en := by rw [Array.getElem?_push, if_neg (by omega)] at he; exact he
        rw [List.getElem?_append_left (by rw [m3, ← m2]; exact hi)] at hbb
        rw [List.getElem?_append_left (by rw [← m2]; exact hi)] at hxx
        have hE := m4 i en b xx he' hbb hxx
        have hbm' : b ∈ bs := List.mem_of_getElem? hbb
        have hb1 : b ≠ bm := fun e => hnd.1 (by rw [← e]; exact hbm')
        have hbl2 : b < w.heap.size := hlt b (List.mem_cons_of_mem _ hbm')
        refine hE.congr ?_
        rw [s2 b hb1, hw1 b hbl2 (by simp)]
      · have hi2 : i = es.size := by
          rcases Nat.lt_or_ge i (es.size + 1) with q | q
          · omega
          · rw [Array.getElem?_eq_none (by simp; omega)] at he; simp at he
        subst hi2
        simp only [Array.getElem?_push_size, Option.some.injEq] at he
        rw [List.getElem?_append_right (by rw [m3, ← m2]; exact Nat.le_refl _), m3, ← m2, Nat.sub_self] at hbb
        rw [List.getElem?_append_right (by rw [← m2]; exact Nat.le_refl _), ← m2, Nat.sub_self] at hxx
        simp only [List.getElem?_cons_zero, Option.some.injEq] at hbb hxx
        subst hbb hxx he
        refine ⟨⟨kb, rfl, rfl⟩, ?_⟩
        have hne : b' ≠ bm := by rw [hb']; omega
        have : HdrOk w1 b' rl v' := by rw [r2] at hv'; simpa using hv'
        exact this.congr (s2 b' hne)
    · have hb2 : b' ∉ bm :: bs := by
        intro hmem
        have := hlt b' hmem
        omega
      have : (bm :: (bs ++ [b'])) = (bm :: bs) ++ [b'] := rfl
      rw [this, List.nodup_append]
      refine ⟨hM.nd, by simp, fun z hz z' hz' e => ?_⟩
      simp only [List.mem_singleton] at hz'
      exact hb2 (by rw [← hz', ← e]; exact hz)
  | some j en b xx r1 he hb hxx hk r2 r3 =>
    rw [r1] at q1
    simp only [Option.some.injEq] at q1
    subst q1
    have hE := m4 j en b xx he hb hxx
    have hbmem : b ∈ bs := List.mem_of_getElem? hb
    refine ⟨some b, ?_, fun b' hb' => by simp only [Option.some.injEq] at hb'; rw [← hb']; exact hbmem, fun rl v' b' w1 hv' hb' hw1 => ?_⟩
    · show HdrOk w b _ _
      rw [r2, q2]
      exact hE.val
    have hb1 : b ≠ bm := fun e => hnd.1 (by rw [← e]; exact hbmem)
    have hm1 : w1.heap[bm]? = some (.map es clock) := by rw [hw1 bm hbm (by simp; exact hb1)]; exact m1
    obtain ⟨clock', hrun⟩ := run_mapUpdate (P := P) t1 t2' hm1 kb v' r1 (fun j' u hq => by simp only [Option.some.injEq, Prod.mk.injEq] at hq; exact ⟨en, by rw [← hq.1]; exact he, hk⟩)
    obtain ⟨s1, s2⟩ := MapKept.heap_set (o' := Obj.map (es.modify j fun e => { e with key := .string kb, val := v' }) clock') hm1
    have hb'bm : b' ≠ bm := by
      rcases hb' with hq | hq
      · simp only [Option.some.injEq] at hq; rw [← hq]; exact hb1
      · omega
    have hb'bs : ∀ i bi, i ≠ j → bs[i]? = some bi → bi ≠ b' := by
      intro i bi hij hbi e
      rcases hb' with hq | hq
      · simp only [Option.some.injEq] at hq
        rw [← e] at hq
        subst hq
        have hi := (List.getElem?_eq_some_iff.1 hbi).1
        exact hij ((List.getElem?_inj hi hnd.2).1 (hbi.trans hb.symm))
      · have := hlt bi (List.mem_cons_of_mem _ (List.mem_of_getElem? hbi))
        omega
    refine ⟨_, bs.set j b', hrun, by simp, s2, rfl, rfl, rfl, ⟨⟨_, _, s1, ?_, ?_, fun i en' bi xi he' hbi hxi => ?_⟩, ?_⟩, fun b0 hb0 => ?_⟩
    · rw [r3]; simp [m2]
    · rw [r3]; simp [m3]
    · rw [r3] at hxi
      simp only [Array.getElem?_modify] at he'
      by_cases hij : j = i
      · subst hij
        have hjl : j < bs.length := (List.getElem?_eq_some_iff.1 hb).1
        have hjl2 : j < List.length M := (List.getElem?_eq_some_iff.1 hxx).1
        rw [List.getElem?_set_self hjl, Option.some.injEq] at hbi
        rw [List.getElem?_set_self hjl2, Option.some.injEq] at hxi
        rw [if_pos rfl, he] at he'
        simp only [Option.map_some, Option.some.injEq] at he'
        subst hbi hxi he'
        obtain ⟨s, hs1, hs2⟩ := hE.key
        rw [hk] at hs1
        simp only [Value.string.injEq] at hs1
        refine ⟨⟨kb, rfl, by rw [hs1]; exact hs2⟩, ?_⟩
        have : HdrOk w1 b' (xx.2 ++ rl) v' := by rw [r2] at hv'; exact hv'
        exact this.congr (s2 b' hb'bm)
      · rw [if_neg hij] at he'
        rw [List.getElem?_set_ne hij] at hbi hxi
        have hEi := m4 i en' bi xi he' hbi hxi
        have hbm' : bi ∈ bs := List.mem_of_getElem? hbi
        have hbi1 : bi ≠ bm := fun e => hnd.1 (by rw [← e]; exact hbm')
        have hbl2 : bi < w.heap.size := hlt bi (List.mem_cons_of_mem _ hbm')
        have hbb : b ≠ bi := by
          intro e
          have hi := (List.getElem?_eq_some_iff.1 hb).1
          exact hij ((List.getElem?_inj hi hnd.2).1 (hb.trans (by rw [e]; exact hbi.symm)))
        refine hEi.congr ?_
        rw [s2 bi hbi1, hw1 bi hbl2 (by simp; exact hbb)]
    · rw [List.nodup_cons]
      refine ⟨fun hmem => ?_, nodup_set hnd.2 hb'bs⟩
      rcases List.mem_or_eq_of_mem_set hmem with hq | hq
      · exact hnd.1 hq
      · exact hb'bm hq.symm
    · rcases List.mem_or_eq_of_mem_set hb0 with hq | hq
      · exact .inl hq
      · exact .inr hq
theorem grow_step (hnt : C0.nt ≤ 100000) (hpc : MapCalls call) (h : RL E C0 m L seen S ρ a w) (hd : dstFree C0.nt m seen o = true) {c : Call} {d x x2 k k2 : Nat} {y : Operand} {t t2 t3 el : TypeId} {ts : List TypeId} {cz : CE} {r : PE} {dd : TypeDesc} {bt : Nat}
    (hop : o.op = .call c) (hdd : o.dst = some d) (hcb : c.callee = .builtin .append) (hca : c.args.toList = [.tmp x, y]) (hct : c.argTypes.toList = t :: t2 :: ts) (hop2 : o2.op = .mapUpdate t3 (.tmp x2) (.tmp k2) (.tmp d)) (hdd2 : o2.dst = none) (hg2 : o2.guard = none)
    (hent : (x, k) ∈ L.ents) (hmt : mapT E.P t3 = some el) (hy : op1 S.acc [] y = some cz) (hrd : readL S.acc cz = some (.int .i64, r)) (ht : E.P.underlying t = some (.slice el)) (ht2 : E.P.underlying t2 = some dd) (hdi : isIntD dd = false) (hbt : bytesT E.P el = some bt) (hb64 : bt ≤ 64)
    (hx2 : isM m L x2 = true) (hk2 : k2 ∈ seen) (hks2 : isStrS (S.acc.sl k2) = true)
    (he : e = { chk := [lt (.int 0) (.llen (.int .i64) r)], sl := [(d, ⟨[], .dead⟩)], call := some ⟨[], fApp, 0, [(.int .i64, .loc (gL 1)), (mapD, .loc (gL 0)), (.str, .loc (.s k 0)), (.str, .loc (.s k2 0)), (.lst (.int .i64), r)], [(gL 0, mapD)]⟩ })
    (hr : runE call e ρ = some ρ1) (hn : ∀ a' w', RL E C0 m ⟨L.mps, []⟩ (o2.dst.toList ++ (o.dst.toList ++ seen)) (S.put e) ρ1 a' w' → wpList C0.P ops Q rest a' w') :
    wpList C0.P ops Q (o :: o2 :: rest) a w := by
  obtain ⟨C, β, h1, h2, h3, h4, h5, h6⟩ := h
  have hP : C0.P = E.P := by rw [← h1.P]; exact h2.P
  rw [← hP] at hmt ht ht2 hbt
  have hTy := mapT_ok hmt
  obtain ⟨hg, hdst⟩ := dstFree_ok hd
  obtain ⟨d1, d2, d3⟩ := hdst d hdd
  obtain ⟨hchk, oo, hcall, hρ⟩ := runE_call (f := fApp) (by rw [he]) hr
  have hmf := hpc fApp (.inr (.inl rfl)) _ _ hcall
  obtain ⟨l1, l2, l3, l4⟩ := h6.2 _ hent
  simp only at l1 l2 l4
  have hval : (modeOf ρ = 1 ∧ gS (ρ (.s k 0)) = gS (ρ (.s k2 0)) ∧ (lookM (dataOf ρ) (gS (ρ (.s k 0)))).length + (r.evL ρ (.int .i64) : List Int).length ≤ 2 ^ 40) ∧ oo = [dMp (appM (dataOf ρ) (gS (ρ (.s k 0))) (r.evL ρ (.int .i64)))] := by
    have hunf : mapF fApp (dyns ρ [(.int .i64, .loc (gL 1)), (mapD, .loc (gL 0)), (.str, .loc (.s k 0)), (.str, .loc (.s k2 0)), (.lst (.int .i64), r)]) =
        if modeOf ρ = 1 ∧ gS (ρ (.s k 0)) = gS (ρ (.s k2 0)) ∧ (lookM (dataOf ρ) (gS (ρ (.s k 0)))).length + (r.evL ρ (.int .i64) : List Int).length ≤ 2 ^ 40 then some [dMp (appM (dataOf ρ) (gS (ρ (.s k 0))) (r.evL ρ (.int .i64)))] else none := by
      show (if gI ⟨.int .i64, _⟩ = 1 ∧ gS ⟨.str, _⟩ = gS ⟨.str, _⟩ ∧ (lookM (gMp ⟨mapD, _⟩) (gS ⟨.str, _⟩)).length + (gLi ⟨.lst (.int .i64), _⟩).length ≤ 2 ^ 40 then some [dMp (appM (gMp ⟨mapD, _⟩) (gS ⟨.str, _⟩) (gLi ⟨.lst (.int .i64), _⟩))] else none) = _
      simp only [gI, gMp, gS, gLi, Dyn.get_mk]
      rfl
    rw [hunf] at hmf
    split at hmf
    · rename_i hp
      simp only [Option.some.injEq] at hmf
      exact ⟨hp, hmf.symm⟩
    · simp at hmf
  obtain ⟨⟨hmo, hkk, hlen⟩, rfl⟩ := hval
  rcases h4 with h4 | ⟨bm, bs, g1, g2, g3, g4⟩
  · omega
  have g4 : ∀ b ∈ bs, Out C0 C b := by
    rcases g4 with ⟨_, g4⟩ | ⟨g4, _⟩
    · exact g4
    · omega
  obtain ⟨kb, hkb, hkd⟩ := key_ok h3 hks2
  have hkd : kb.data.toList = gS (ρ (.s k 0)) := by rw [hkk]; exact hkd
  have hv := l4 bm g1
  have hlt : ∀ b ∈ bm :: bs, b < w.heap.size := by
    intro b hb
    rcases List.mem_cons.1 hb with hb | hb
    · rw [hb]; exact Nat.lt_of_lt_of_le g3.lt h3.fr.size
    · exact Nat.lt_of_lt_of_le (g4 b hb).lt h3.fr.size
  rw [← hkd] at hv hlen hρ
  have hsr : 0 < List.length (α := Int) (r.evL ρ (.int .i64)) := by
    have := ev_lt (allB_mem (show allB ρ [lt (.int 0) (.llen (.int .i64) r)] = true by rw [he] at hchk; exact hchk) _ (List.mem_singleton.2 rfl))
    rw [evI_int, evI_llen] at this
    have h' : (0 : Int) < ((List.length (α := Int) (r.evL ρ (.int .i64)) : Nat) : Int) := this
    omega
  obtain ⟨news, hsrc⟩ := src_list (P := C0.P) (lv := [.int .i64]) rfl (readL_ok h3 (op1_ok h3 (cond := []) (fun y hy => by simp at hy) hy) hrd)
  have key : ∀ rl : List Int, SrcOk C0.P w (imms C S.acc.ks β w) (.int .i64) 1 (a.eval y) rl news → 0 < rl.length → (lookM (dataOf ρ) kb.data.toList).length + rl.length ≤ 2 ^ 40 →
      ρ1 = updS ρ (zipP [(gL 0, mapD)] [dMp (appM (dataOf ρ) kb.data.toList rl)]) → wpList C0.P ops Q (o :: o2 :: rest) a w := by
    intro rl hsrc hsr hlen hρ
    obtain ⟨ob, hh, hob, hgrow⟩ := grow_map hTy g2 hlt hv
    obtain ⟨v', b', w1, p1, p2, p3, p4, p5, p6, p7, p8, p9⟩ := append_hand (P := C0.P) (t := t) (t2 := t2) (el := el) (ts := ts) (ty := o.type) ht hTy.lv hTy.z hbt hb64 ht2 hdi hh hsrc hsr hlen
    obtain ⟨w2, bs', u1, u2, u3, u4, u5, u6, u7, u8⟩ := hgrow rl v' b' w1 p2 p3 p4
    have ha' : c.args = #[.tmp x, y] := by apply Array.ext'; simpa using hca
    have ht' : c.argTypes = (t :: t2 :: ts).toArray := by apply Array.ext'; simpa using hct
    have hex1 : (execOp a.eval o).run C0.P w = .ok (.value v') w1 := by
      refine run_call_builtin hop hcb ?_
      rw [ha', ht', show Array.map a.eval #[.tmp x, y] = #[a.tmps.getD x undef, a.eval y] by simp [Act.eval]]
      exact run_v p1
    refine wpList_step (R := fun a' w' => a' = a.put o.dst v' ∧ w1 = w') hg (Good.value hex1 ⟨rfl, rfl⟩) (fun a' w' => ?_)
    rintro ⟨rfl, rfl⟩
    rw [hdd]
    have hkeep := put_keeps (a := a) (seen := seen) (m := m) (d := some d) v' (fun i hi => by simp only [Option.some.injEq] at hi; subst hi; exact ⟨d2, d3⟩)
    have hvd : (a.put (some d) v').tmps.getD d undef = v' := put_at h3 (by rw [h1.nt]; exact d1) _
    have hxm : (a.put (some d) v').tmps.getD x2 undef = .map (some bm) := by
      have : x2 ∈ seen ∨ x2 = m := by
        simp only [isM, Bool.or_eq_true, beq_iff_eq, List.contains_eq_mem, decide_eq_true_eq] at hx2
        rcases hx2 with hx2 | hx2
        · exact .inr hx2
        · exact .inl (h6.1 x2 hx2).1
      rw [hkeep x2 this, isM_ok h6 hx2]; exact g1
    have hk2v : (a.put (some d) v').tmps.getD k2 undef = .string kb := by rw [hkeep k2 (.inl hk2)]; exact hkb
    have hex2 : (execOp (a.put (some d) v').eval o2).run C0.P w1 = .ok .skip w2 := by
      unfold execOp
      rw [hop2]
      have : (Instr.mapUpdate t3 ((a.put (some d) v').eval (.tmp x2)) ((a.put (some d) v').eval (.tmp k2)) ((a.put (some d) v').eval (.tmp d))).run C0.P w1 = .ok () w2 := by
        show (Instr.mapUpdate t3 ((a.put (some d) v').tmps.getD x2 undef) ((a.put (some d) v').tmps.getD k2 undef) ((a.put (some d) v').tmps.getD d undef)).run C0.P w1 = .ok () w2
        rw [hxm, hk2v, hvd]; exact u1
      simp only [Sem.run_bind, this, Result.andThen_ok, Sem.run_pure]
    refine wpList_step (R := fun a' w' => a' = a.put (some d) v' ∧ w2 = w') hg2 (Good.skip hex2 ⟨by rw [hdd2]; rfl, rfl⟩) (fun a' w' => ?_)
    rintro ⟨rfl, rfl⟩
    obtain ⟨C', c1, c2, c3, c4, c5, c6, c7⟩ := h3.rebase h2 h1 (w' := w2) (fun b => b ∈ bm :: bs) (fun _ => False)
      (fun b hb => by rcases List.mem_cons.1 hb with hb | hb; rw [hb]; exact ⟨g3.lt, g3.J, g3.T⟩; exact ⟨(g4 b hb).lt, (g4 b hb).J, (g4 b hb).T⟩)
      (fun _ hb => hb.elim) (fun b hb hx => by
        rw [u3 b (fun e => hx (by rw [e]; simp)), p4 b hb (fun e => hx (List.mem_cons_of_mem _ (hob b e)))])
      (fun b hb => by rcases List.mem_cons.1 hb with hb | hb; rw [hb]; exact g3.own; exact (g4 b hb).own) (by rw [u2]; exact p5) (u4.trans p7) (u5.trans p8) (u6.trans p9)
    have hr1 := c3.putDead v' (d := d) (by rw [c1.nt]; exact d1) (fun i y hy => by rw [h5 i] at hy; simp at hy)
    have hr2 : Rel C' (putSl S.acc.sl [(d, ⟨[], .dead⟩)]) S.acc.ks ρ1 β (a.put (some d) v') w2 := by
      refine hr1.ghost (ks_gk S) (fun l hl => ?_)
      rw [hρ]
      refine updS_not _ (fun y hy e => ?_)
      simp only [zipP, List.mem_cons, List.not_mem_nil, or_false] at hy
      subst hy
      exact hl 0 e.symm
    have hacc := acc_put1 (S := S) (d := d) (s := ⟨[], .dead⟩) (e := e) (Nat.lt_of_lt_of_le d1 (by omega)) (by rw [he]) (by rw [he])
    have e0 : dataOf ρ1 = appM (dataOf ρ) kb.data.toList rl := by
      rw [hρ]
      show gMp (dMp _) = _
      exact Dyn.get_mk _ _
    have e1 : ρ1 (gL 1) = ρ (gL 1) := by
      rw [hρ]
      refine updS_not _ (fun y hy e => ?_)
      simp only [zipP, List.mem_cons, List.not_mem_nil, or_false] at hy
      subst hy
      simp [gL] at e
    refine hn _ _ ⟨C', β, c1, c2, by rw [hacc]; exact hr2, .inr ⟨bm, bs', by rw [hkeep m (.inr rfl)]; exact g1, by rw [e0]; exact u7, c5 bm (by simp) id, .inl ⟨by unfold modeOf; rw [e1]; exact hmo, fun b hb => ?_⟩⟩, by rw [hacc]; exact conds_put h5 (fun x hx => by simp only [List.mem_singleton] at hx; rw [hx]), ⟨fun x hx => ?_, fun y hy => by simp at hy⟩⟩
    · rcases u8 b hb with hq | hq
      · exact c5 b (List.mem_cons_of_mem _ hq) id
      · rcases p3 with hp | hp
        · exact c5 b (List.mem_cons_of_mem _ (by rw [hq]; exact hob b' hp)) id
        · exact c7 b (by rw [hq, hp]; exact Nat.le_refl _) (by rw [hq, u2]; exact p6)
    · obtain ⟨z1, z2⟩ := h6.1 x hx
      exact ⟨by simp [z1], by rw [hkeep x (.inl z1), hkeep m (.inr rfl)]; exact z2⟩
  exact key _ hsrc hsr hlen hρ
end
end Rk
set_option linter.unusedVariables false
set_option linter.unusedSimpArgs false
namespace Rk
open Go
section
variable {E : Env} {C C0 : Ctx} {S S' : St} {m : Nat} {L L' : Ml} {seen : List Nat} {ρ ρ' ρ1 : Rho} {β β' : Nat → Option Nat} {a a' : Act} {w w' : World} {call : CallF}
  {ops : Array Oper} {Q : Exit → Act → World → Prop} {o o2 : Oper} {rest : List Oper} {e : Eff}
theorem sp2_step (hnt : C0.nt ≤ 100000) (hpc : MapCalls call) (h : RL E C0 m L seen S ρ a w) (hd : dstFree C0.nt m seen o = true) (he : mapOp2 E m L S.acc seen o o2 = some (e, L')) (hg2 : o2.guard = none) (hm : m < C0.nt) (hms : m ∉ seen)
    (hr : runE call e ρ = some ρ1) (hn : ∀ a' w', RL E C0 m L' (o2.dst.toList ++ (o.dst.toList ++ seen)) (S.put e) ρ1 a' w' → wpList C0.P ops Q rest a' w') : wpList C0.P ops Q (o :: o2 :: rest) a w := by
  unfold mapOp2 at he
  split at he
  · rename_i t d d2 m2 hop hdd hop2 hdd2
    split at he
    · rename_i hc
      simp only [Bool.and_eq_true, beq_iff_eq, bne_iff_ne, ne_eq] at hc
      obtain ⟨⟨⟨rfl, rfl⟩, hdm⟩, _⟩ := hc
      simp only [Option.some.injEq, Prod.mk.injEq] at he
      obtain ⟨rfl, rfl⟩ := he
      exact make_step hnt h hd hop hdd hop2 hdd2 hg2 hm hms hdm hr hn
    · simp at he
  · rename_i c d t3 x2 k2 d2 hop hdd hop2 hdd2
    split at he
    · rename_i x y t t2 ts hcb hca hct
      split at he
      · rename_i z k el cz hfind hmt hy
        split at he
        · rename_i r el' dd b hrd ht ht2 hbt
          split at he
          · rename_i hc
            simp only [Bool.and_eq_true, beq_iff_eq, Bool.not_eq_true', decide_eq_true_eq, List.contains_eq_mem] at hc
            obtain ⟨⟨⟨⟨⟨⟨rfl, hx2⟩, hk2⟩, hks2⟩, rfl⟩, hdi⟩, hb64⟩ := hc
            simp only [Option.some.injEq, Prod.mk.injEq] at he
            obtain ⟨he, rfl⟩ := he
            have hmem := List.mem_of_find?_eq_some hfind
            have hzx : z = x := by have := List.find?_some hfind; simpa using this
            subst hzx
            exact grow_step hnt hpc h hd hop hdd hcb hca hct hop2 hdd2 hg2 hmem hmt hy hrd ht ht2 hdi hbt hb64 hx2 hk2 hks2 he.symm hr hn
          · simp at he
        · simp at he
      · simp at he
    · simp at he
  · simp at he
theorem mapOps_ok (hnt : C0.nt ≤ 100000) (hS : ∀ C, TabsOk E C → C.tabs = C0.tabs → StepSound E C call) (hpc : MapCalls call) : ∀ (n : Nat) (l : List Oper), l.length ≤ n → ∀ (seen : List Nat) (L : Ml) (S S' : St) (es : List Eff) (ρ ρ' : Rho) (a : Act) (w : World),
    mapOps E C0.nt m l seen L S = some (S', es) → RL E C0 m L seen S ρ a w → runEs call es ρ = some ρ' → ∀ (Q : Exit → Act → World → Prop), (∀ a' w', RM E C0 m S' ρ' a' w' → Q .normal a' w') → wpList C0.P ops Q l a w
  | _, [], _, seen, L, S, S', es, ρ, ρ', a, w, ht, h, hr, Q, hQ => by
    simp only [mapOps, Option.some.injEq, Prod.mk.injEq] at ht
    obtain ⟨rfl, rfl⟩ := ht
    simp only [runEs, Option.some.injEq] at hr
    subst hr
    obtain ⟨C, β, h1, h2, h3, h4, _, _⟩ := h
    exact hQ a w ⟨C, β, h1, h2, h3, h4⟩
  | 0, o :: r, hl, _, _, _, _, _, _, _, _, _, _, _, _, _, _ => by simp at hl
  | n + 1, [o], hl, seen, L, S, S', es, ρ, ρ', a, w, ht, h, hr, Q, hQ => by
    simp only [mapOps] at ht
    split at ht
    · simp at ht
    rename_i hd
    simp only [Bool.not_eq_true', Bool.not_eq_false] at hd
    have fin : ∀ L' a' w' e, RL E C0 m L' (o.dst.toList ++ seen) (S.put e) ρ' a' w' → S' = S.put e → wpList C0.P ops Q [] a' w' := by
      rintro L' a' w' e ⟨C, β, h1, h2, h3, h4, _, _⟩ rfl
      exact hQ a' w' ⟨C, β, h1, h2, h3, h4⟩
    split at ht
    · rename_i e L' he
      simp only [Option.some.injEq, Prod.mk.injEq] at ht
      obtain ⟨rfl, rfl⟩ := ht
      simp only [runEs, Option.bind_eq_some_iff, Option.some.injEq] at hr
      obtain ⟨ρ1, hr1, rfl⟩ := hr
      exact sp1_step hnt hpc h hd he hr1 (fun a' w' hh => fin _ a' w' _ hh rfl)
    · simp only [Option.bind_eq_bind, Option.bind_eq_some_iff] at ht
      obtain ⟨e, he, ht⟩ := ht
      split at ht
      · rename_i hc
        simp only [Bool.and_eq_true] at hc
        simp only [Option.some.injEq, Prod.mk.injEq] at ht
        obtain ⟨rfl, rfl⟩ := ht
        simp only [runEs, Option.bind_eq_some_iff, Option.some.injEq] at hr
        obtain ⟨ρ1, hr1, rfl⟩ := hr
        exact reg_step hS h hd he hc.1 hc.2 hr1 (fun a' w' hh => fin _ a' w' _ hh rfl)
      · simp at ht
  | n + 1, o :: o2 :: r, hl, seen, L, S, S', es, ρ, ρ', a, w, ht, h, hr, Q, hQ => by
    simp only [mapOps] at ht
    split at ht
    · simp at ht
    rename_i hd
    simp only [Bool.not_eq_true', Bool.not_eq_false] at hd
    have hl1 : (o2 :: r).length ≤ n := by simp only [List.length_cons] at hl ⊢; omega
    have hl2 : r.length ≤ n := by simp only [List.length_cons] at hl; omega
    split at ht
    · rename_i e L' he
      split at ht
      · simp at ht
      rename_i hc
      simp only [Bool.or_eq_true, Bool.not_eq_true', not_or, Bool.not_eq_true, Bool.not_eq_false, decide_eq_true_eq, List.contains_eq_mem, decide_eq_false_iff_not, Option.isSome_eq_false_iff, Option.isNone_iff_eq_none] at hc
      simp only [Option.bind_eq_bind, Option.bind_eq_some_iff, Option.some.injEq, Prod.mk.injEq] at ht
      obtain ⟨⟨S1, es1⟩, ht1, rfl, rfl⟩ := ht
      simp only [runEs, Option.bind_eq_some_iff] at hr
      obtain ⟨ρ1, hr1, hr2⟩ := hr
      exact sp2_step hnt hpc h hd he hc.1.1 (Decidable.not_not.1 hc.1.2) hc.2 hr1 (fun a' w' hh => mapOps_ok hnt hS hpc n r hl2 _ _ _ _ _ _ _ a' w' ht1 hh hr2 Q hQ)
    · split at ht
      · rename_i e L' he
        simp only [Option.bind_eq_bind, Option.bind_eq_some_iff, Option.some.injEq, Prod.mk.injEq] at ht
        obtain ⟨⟨S1, es1⟩, ht1, rfl, rfl⟩ := ht
        simp only [runEs, Option.bind_eq_some_iff] at hr
        obtain ⟨ρ1, hr1, hr2⟩ := hr
        exact sp1_step hnt hpc h hd he hr1 (fun a' w' hh => mapOps_ok hnt hS hpc n (o2 :: r) hl1 _ _ _ _ _ _ _ a' w' ht1 hh hr2 Q hQ)
      · simp only [Option.bind_eq_bind, Option.bind_eq_some_iff] at ht
        obtain ⟨e, he, ht⟩ := ht
        split at ht
        · rename_i hc
          simp only [Bool.and_eq_true] at hc
          simp only [Option.bind_eq_some_iff, Option.some.injEq, Prod.mk.injEq] at ht
          obtain ⟨⟨S1, es1⟩, ht1, rfl, rfl⟩ := ht
          simp only [runEs, Option.bind_eq_some_iff] at hr
          obtain ⟨ρ1, hr1, hr2⟩ := hr
          exact reg_step hS h hd he hc.1 hc.2 hr1 (fun a' w' hh => mapOps_ok hnt hS hpc n (o2 :: r) hl1 _ _ _ _ _ _ _ a' w' ht1 hh hr2 Q hQ)
        · simp at ht
theorem runEs_low {call : CallF} : ∀ (es : List Eff) (ρ ρ1 : Rho), es.all lowE = true → runEs call es ρ = some ρ1 → ∀ j, ρ1 (gL j) = ρ (gL j)
  | [], ρ, ρ1, _, hr, j => by simp only [runEs, Option.some.injEq] at hr; rw [hr]
  | e :: r, ρ, ρ1, hl, hr, j => by
    simp only [List.all_cons, Bool.and_eq_true] at hl
    simp only [runEs, Option.bind_eq_some_iff] at hr
    obtain ⟨ρ2, h1, h2⟩ := hr
    rw [runEs_low r ρ2 ρ1 hl.2 h2 j, runE_low hl.1 h1 j]
theorem RM.region {F : Fe} (hnt : C0.nt ≤ 100000) (hFn : C0.nt = F.nt) (hFE : F.E = E) (hFm : F.mp = some m) (hS : ∀ C, TabsOk E C → C.tabs = C0.tabs → StepSound E C call) (hpc : MapCalls call) {fuel : Nat} (id : Nat) (ops : Array Oper) (draw : Bool) (S S1 : St) (tc : TC) (κn : Rho → Res) (κx : Nat → Rho → Res) (ρ : Rho) (a : Act) (w : World) (res : List Dyn)
    (ht : trRegion F ops draw S = some (S1, tc)) (h : RM E C0 m S ρ a w) (hd : den call fuel tc κn κx ρ = some res) (Q : Exit → Act → World → Prop) (hQ : ∀ ρ' a' w', RM E C0 m S1 ρ' a' w' → κn ρ' = some res → Q .normal a' w') :
    (Code.region id ops draw).wp C0.P Q a w := by
  simp only [trRegion, Option.bind_eq_bind, Option.bind_eq_some_iff] at ht
  obtain ⟨⟨S2, es⟩, ho, ht⟩ := ht
  split at ht
  · simp at ht
  rename_i hdr
  simp only [Option.some.injEq, Prod.mk.injEq] at ht
  obtain ⟨rfl, rfl⟩ := ht
  have hdf : draw = false := by
    cases draw with
    | false => rfl
    | true => rw [hFm] at hdr; simp at hdr
  subst hdf
  simp only [den, Option.bind_eq_some_iff] at hd
  obtain ⟨ρ1, hd1, hd2⟩ := hd
  obtain ⟨C, β, h1, h2, h3, h4⟩ := h
  obtain ⟨q1, q2⟩ := h3.clean
  unfold regOps at ho
  rw [hFm] at ho
  simp only at ho
  refine wp_region_list ?_
  split at ho
  · rw [hFE, ← hFn] at ho
    have hcond : ∀ i, (S.clean.acc.sl i).cond = [] := by
      intro i
      obtain ⟨e1, e2⟩ := clean_acc S
      rw [e2]
      unfold cleanS
      split
      · rename_i hh; simpa using hh
      · rfl
    exact mapOps_ok hnt hS hpc _ _ (Nat.le_refl _) [] ⟨[], []⟩ S.clean S2 es ρ ρ1 a w ho ⟨C, β, h1, h2, q1, h4, hcond, ⟨fun x hx => by simp at hx, fun y hy => by simp at hy⟩⟩ hd1 Q (fun a' w' hh => hQ ρ1 a' w' hh hd2)
  · simp only [Option.bind_eq_bind, Option.bind_eq_some_iff] at ho
    obtain ⟨⟨S3, es3⟩, ho, hc⟩ := ho
    split at hc
    · rename_i hcc
      simp only [Option.some.injEq, Prod.mk.injEq] at hc
      obtain ⟨rfl, rfl⟩ := hc
      simp only [Bool.and_eq_true] at hcc
      rw [hFE, ← hFn, ← h1.nt] at ho
      rw [← h1.P]
      refine trOps_okI (hS C h2 h1.tabs) (fun a' => a'.tmps.getD m undef = a.tmps.getD m undef) ops.toList (fun o ho a' v hI => ?_) [] S.clean S3 es3 ρ ρ1 β a w ho q1 q2 rfl hd1 Q (fun β' a' w' hrel hI => ?_)
      · rw [← hI]
        have := List.all_eq_true.1 hcc.2 o ho
        simp only [bne_iff_ne, ne_eq] at this
        cases hdst : o.dst with
        | none => rfl
        | some d => exact put_other a' d v m (fun e => this (by rw [hdst, e]))
      · exact hQ ρ1 a' w' ⟨C, β', h1, h2, hrel, h4.step q1 hrel hI (runEs_low _ _ _ hcc.1 hd1 0) (runEs_low _ _ _ hcc.1 hd1 1)⟩ hd2
    · simp at hc
end
theorem cellLocs_isS {i : Nat} : ∀ (ss : List Sh) (j : Nat), ∀ x ∈ cellLocs (.s i) j ss, ∃ q, x.1 = .s i q
  | [], j, x, hx => by simp [cellLocs] at hx
  | s :: r, j, x, hx => by
    have ih := cellLocs_isS (i := i) r (j + 1)
    cases s <;> simp only [cellLocs, List.mem_cons] at hx <;> first
      | exact ih x hx
      | (rcases hx with hx | hx
         · rw [hx]; exact ⟨j, rfl⟩
         · exact ih x hx)
theorem valLocs_isS {i : Nat} : ∀ (vs : List Val) (j : Nat), ∀ x ∈ valLocs (.s i) j vs, ∃ q, x.1 = .s i q
  | [], j, x, hx => by simp [valLocs] at hx
  | v :: r, j, x, hx => by
    simp only [valLocs, List.mem_append] at hx
    rcases hx with hx | hx
    · exact cellLocs_isS _ _ x hx
    · exact valLocs_isS r _ x hx
theorem init_mode {G : Prg} {sg : Sig} (h : sg.iks = []) (xs : List Dyn) : modeOf (G.init sg xs) = 0 := by
  have hk : sg.inKs = [] := by simp [Sig.inKs, numK, h]
  have hno : ∀ x ∈ sg.inLocs, x.1 ≠ gL 1 := by
    intro x hx
    simp only [Sig.inLocs, hk, stLocs, keyLocs, List.append_nil, List.mem_flatMap] at hx
    obtain ⟨⟨i, s⟩, _, hx⟩ := hx
    have : ∃ q, x.1 = .s i q := by
      cases s with
      | dead => simp [skLocs] at hx
      | val v => exact cellLocs_isS _ _ x hx
      | tup vs => exact valLocs_isS _ _ x hx
      | clo f nf vs => exact valLocs_isS _ _ x hx
    obtain ⟨q, hq⟩ := this
    rw [hq]; simp [gL]
  unfold modeOf Prg.init
  rw [updS_not]
  · rfl
  · intro y hy e
    obtain ⟨z, hz, hzy⟩ := List.mem_map.1 (List.of_mem_zip hy).1
    exact hno z hz (by rw [hzy]; exact e)
theorem fnM_ok {G : Prg} {call : CallF} {fuel : Nat} (hS : ∀ C : Ctx, TabsOk G.E C → C.tabs = G.tabs → StepSound G.E C call) (hpc : MapCalls call) {f : FuncId} {i : Nat} {tc : TC} {sg : Sig} (hc : G.code f i = some (tc, sg)) {m : Nat} (hfm : ∃ fn body, G.E.P.funcs[f]? = some fn ∧ fn.body = some body ∧ findMap body = some m) {xs r : List Dyn}
    (hr : den call fuel tc (fun _ => none) (fun _ _ => none) (G.init sg xs) = some r) {C : Ctx} {β : Nat → Option Nat} {args : List Value} (htb : C.tabs = G.tabs) (hβ : C.β0 = β) (hrt : C.rts = sg.roots) (he : Entry G.E C sg (G.init sg xs) β args) :
    Calls G.E.P f args.toArray C.w0 (fun e w' => ∃ v, e = .returned v ∧ r.length = sg.outLocs.length ∧ ∃ β', OutOk C sg (updS (baseRho G.tabs) ((sg.outLocs.map (·.1)).zip r)) β' v w') := by
  obtain ⟨fn, tc', hfn, hsg, htc, rfl, _⟩ := Prg.code_spec hc
  rw [den_ann] at hr
  simp only [trFn, Option.bind_eq_bind, Option.bind_eq_some_iff] at htc
  obtain ⟨body, hbody, htc⟩ := htc
  split at htc
  · simp at htc
  rename_i hcond
  simp only [Bool.or_eq_true, decide_eq_true_eq, Bool.not_eq_true', not_or, Nat.not_lt, Bool.not_eq_false] at hcond
  obtain ⟨⟨⟨hn1, hn2⟩, hok⟩, hik⟩ := hcond
  have hfm2 : findMap body = some m := by
    obtain ⟨fn2, body2, q1, q2, q3⟩ := hfm
    rw [hfn] at q1
    simp only [Option.some.injEq] at q1
    subst q1
    rw [hbody] at q2
    simp only [Option.some.injEq] at q2
    subst q2
    exact q3
  rw [hfm2] at htc
  simp only [Option.isSome_some, Bool.true_and] at htc
  split at htc
  · simp at htc
  rename_i hiks
  have hiks : sg.iks = [] := by simpa using hiks
  have hroots : sg.roots = [] := by simp [Sig.roots, hiks]
  have hmode : modeOf (G.init sg xs) ≤ 0 := Int.le_of_eq (init_mode hiks xs)
  let C2 : Ctx := { C with nt := fn.ntmps, hrt := fun κ hκ => by have := roots_ge hik κ (by rw [← hrt]; exact hκ); omega }
  have hrts2 : C2.rts = [] := by show C.rts = []; rw [hrt, hroots]
  have he2 : Entry G.E C2 sg (G.init sg xs) β args := ⟨⟨he.tabs.P, he.tabs.tab⟩, he.inj, he.own, he.keys, he.slots, he.jt, he.tt, he.tab⟩
  have hrel := he2.rel hβ hn2 hok
  have hP : C2.P = G.E.P := he.tabs.P
  have hSS : ∀ C', TabsOk G.E C' → C'.tabs = C2.tabs → StepSound G.E C' call := fun C' h1 h2 => hS C' h1 (h2.trans htb)
  refine calls_of_wp hfn hbody ?_
  have toQ : ∀ (res : List Dyn) (a' : Act) (w' : World), (a'.defers = [] ∧ res.length = sg.outLocs.length ∧ ∃ v, (results fn a'.tmps).run C2.P w' = .ok v w' ∧ ∃ β', OutOk C2 sg (updS (baseRho G.tabs) ((sg.outLocs.map (·.1)).zip res)) β' v w') → res = r →
      (a'.defers = [] ∧ ∃ v, (results fn a'.tmps).run G.E.P w' = .ok v w' ∧ ∃ v', Ending.returned v = .returned v' ∧ r.length = sg.outLocs.length ∧ ∃ β', OutOk C sg (updS (baseRho G.tabs) ((sg.outLocs.map (·.1)).zip r)) β' v' w') := by
    rintro res a' w' ⟨h1, h0, v, h2, β', h3⟩ rfl
    rw [hP] at h2
    exact ⟨h1, v, h2, v, rfl, h0, β', ⟨h3.inj, h3.own, h3.keys, h3.slot, ⟨h3.fr.os, h3.fr.tape, h3.fr.output, h3.fr.size, h3.fr.block⟩, h3.root⟩⟩
  simp only [Option.bind_eq_some_iff] at htc
  obtain ⟨⟨r1, cc, s⟩, ht, htc⟩ := htc
  have hret : ∀ (S : St) o ρ a w, trRet ⟨G.E, fn, sg, fn.ntmps, sg.roots, some m⟩ S.acc = some o → RM G.E C2 m S ρ a w →
      (a.defers = [] ∧ (dyns ρ o).length = sg.outLocs.length ∧ ∃ v, (results fn a.tmps).run C2.P w = .ok v w ∧ ∃ β', OutOk C2 sg (updS (baseRho G.tabs) ((sg.outLocs.map (·.1)).zip (dyns ρ o))) β' v w) := by
    rintro S o ρ a w ho ⟨C', β', h1, h2, h3, _⟩
    obtain ⟨g1, g2, v, g3, β2, g4⟩ := trRet_ok (C := C') (F := ⟨G.E, fn, sg, fn.ntmps, sg.roots, some m⟩) (tabs := G.tabs) (h1.P.trans hP) (by rw [h1.rts]; exact hroots.symm) rfl ho h3
    rw [h1.P] at g3
    exact ⟨g1, g2, v, g3, β2, g4.chain h1 hrts2 hroots⟩
  have hRM : RM G.E C2 m (entry sg) (G.init sg xs) { tmps := args.toArray ++ Array.replicate (C2.nt - args.toArray.size) undef, defers := [] } C2.w0 :=
    ⟨C2, β, CtxTo.refl hrts2, he2.tabs, hrel, .inl hmode⟩
  have base := trG_ok (F := ⟨G.E, fn, sg, fn.ntmps, sg.roots, some m⟩) (call := call) (fuel := fuel) (P := C2.P) (R := RM G.E C2 m)
    (RetP := fun res a' w' => a'.defers = [] ∧ res.length = sg.outLocs.length ∧ ∃ v, (results fn a'.tmps).run C2.P w' = .ok v w' ∧ ∃ β', OutOk C2 sg (updS (baseRho G.tabs) ((sg.outLocs.map (·.1)).zip res)) β' v w')
    (fun id ops draw S S1 tc κn κx ρ a w res h1 h2 h3 Q hQ => RM.region (C0 := C2) (F := ⟨G.E, fn, sg, fn.ntmps, sg.roots, some m⟩) hn1 rfl rfl rfl hSS hpc (fuel := fuel) id ops draw S S1 tc κn κx ρ a w res h1 h2 h3 Q hQ)
    (fun S o e ρ a w h he => h.cnd he) (fun S N mv ρ a w h hc => h.co (F := ⟨G.E, fn, sg, fn.ntmps, sg.roots, some m⟩) hroots hc) hret body (entry sg) [] r1 cc s ht
  rw [← hP]
  cases s with
  | none =>
    simp only [Option.some.injEq] at htc
    subst htc
    refine base _ _ _ _ _ r hRM hr _ (fun S1 ρ' a' w' he => by simp at he) (fun id p ρ' a' w' hf => by simp at hf) (fun a' w' hret => ?_)
    rw [hP]
    exact toQ r a' w' hret rfl
  | some S1 =>
    simp only [Option.bind_eq_some_iff, Option.some.injEq] at htc
    obtain ⟨o, ho, rfl⟩ := htc
    simp only [den] at hr
    refine base _ _ _ _ _ r hRM hr _ (fun S2 ρ' a' w' he hrel' hk => ?_) (fun id p ρ' a' w' hf => by simp at hf) (fun a' w' hret => ?_)
    · simp only [Option.some.injEq] at he hk
      subst he
      rw [hP]
      exact toQ _ a' w' (hret S1 o ρ' a' w' ho hrel') hk
    · rw [hP]
      exact toQ r a' w' hret rfl
end Rk
set_option linter.unusedVariables false
set_option linter.unusedSimpArgs false
namespace Rk
open Go
theorem mapLocs_len {nm : Nat → Option Nat} {dd : Nat} : ∀ (L L' : List (Loc × Ty)), mapLocs nm dd L = some L' → L'.length = L.length
  | [], L', h => by simp only [mapLocs, Option.some.injEq] at h; subst h; rfl
  | (l, t) :: r, L', h => by
    simp only [mapLocs, Option.bind_eq_bind, Option.bind_eq_some_iff, Option.some.injEq] at h
    obtain ⟨l', h1, r1, h2, rfl⟩ := h
    simp [mapLocs_len r r1 h2]
theorem step_ok {G : Prg} {call : CallF} (hS : Sound G call) {C : Ctx} (hT : TabsOk G.E C) (htb : C.tabs = G.tabs) : StepSound G.E C call := by
  intro sl ks ρ ρ' β a w o cond e h hd hc hs hr hcf
  cases hcall : e.call with
  | none =>
    unfold runE at hr
    cases hb : allB ρ e.chk with
    | false => simp [hb] at hr
    | true =>
      simp only [hb, cond_true, hcall, Option.some.injEq] at hr
      subst hr
      exact stat_ok hT h hd hc hs hb hcall
  | some k =>
    unfold callForm at hcf
    rw [hcall] at hcf
    simp only at hcf
    cases ho : o.op with
    | call c0 =>
      rw [ho] at hcf
      simp only at hcf
      cases hg : c0.callee with
      | value g =>
        unfold stat at hs
        simp only [ho, hg, Option.bind_eq_bind, Option.bind_eq_some_iff] at hs
        obtain ⟨gv, hgv, hs⟩ := hs
        split at hs
        · rename_i f nf vs
          simp only [Option.bind_eq_some_iff] at hs
          obtain ⟨as, has, hs⟩ := hs
          unfold stCall at hs
          split at hs
          · rename_i hen
            obtain ⟨q, sg, hsg, hs1⟩ := stCalls_spec _ _ hs
            obtain ⟨c, nms, rk, sk, outs, hi⟩ := stCall1_spec hs1
            obtain ⟨vals, hrun, hvals⟩ := call_run hT.P h hc ho hg hgv has hen
            have hent := call_entry hT htb h hi hvals
            rw [hi.he] at hcall
            simp only [Option.some.injEq] at hcall
            subst hcall
            unfold runE at hr
            have hchk : e.chk = [] := by rw [hi.he]
            have hec : e.call = some ⟨condE ⟨sl, ks⟩ cond, f, 0 + q, c.mvs.map (·.2), outs⟩ := by rw [hi.he]
            have hcond : allB ρ (condE ⟨sl, ks⟩ cond) = true := by
              have gen : ∀ l : List PE, (∀ e ∈ l, e.evB ρ = true) → allB ρ l = true := by
                intro l
                induction l with
                | nil => intro _; rfl
                | cons x r ih =>
                  intro hl
                  simp only [allB, Bool.and_eq_true]
                  exact ⟨hl x (by simp), ih (fun e he => hl e (by simp [he]))⟩
              exact gen _ (condE_ok cond hc)
            rw [hchk] at hr
            simp only [allB, cond_true, hec, hcond, Option.bind_eq_some_iff, Option.some.injEq] at hr
            obtain ⟨res, hres, rfl⟩ := hr
            rw [Nat.zero_add] at hres
            have hcalls := hS f q _ res sg hres hsg (calleeCtx C ks β w sg c hi.small) (tgtβ c.km β) vals htb rfl rfl hent
            refine Good.enter (w' := w) (f := f) (args := vals.toArray) hrun ?_
            rw [hT.P]
            refine Calls.mono hcalls ?_
            rintro e' w'' ⟨v, rfl, hlen, β', hout⟩
            exact ⟨v, rfl, by rw [zipP_zip _ _ (by rw [hlen, mapLocs_len _ _ hi.houts])]; exact call_after h hd hi hlen hout⟩
          · simp at hs
        · simp at hs
      | builtin b => rw [hg] at hcf; simp at hcf
      | invoke r m => rw [hg] at hcf; simp at hcf
    | _ => rw [ho] at hcf; simp at hcf
def ExtOk (G : Prg) : Prop := (∀ f i g, G.ext f i = some g → ∀ k, Sound G (fun f' i' xs => if f' = f ∧ i' = i then g k xs else none)) ∧ ∀ f, (f = fLen ∨ f = fApp ∨ f = fGet) → G.ext f 0 = some (fun _ => mapF f)
theorem sem_map {G : Prg} (hx : ExtOk G) : ∀ k, MapCalls (sem G k)
  | 0 => fun f _ xs r h => by simp [sem] at h
  | k + 1 => fun f hf xs r h => by
    simp only [sem, hx.2 f hf] at h
    exact h
theorem sem_sound {G : Prg} (hx : ExtOk G) : ∀ k, Sound G (sem G k)
  | 0 => by
    intro f i xs r sg h
    simp [sem] at h
  | k + 1 => by
    intro f i xs r sg h hsg C β args htb hβ hrt he
    simp only [sem] at h
    split at h
    · rename_i g hg
      exact hx.1 f i g hg k f i xs r sg (by simp [h]) hsg C β args htb hβ hrt he
    · split at h
      · simp at h
      · rename_i tc sg' hcode
        have hsg' : sg' = sg := by
          obtain ⟨fn, _, _, h2, _⟩ := Prg.code_spec hcode
          rw [hsg] at h2
          simpa using h2.symm
        subst hsg'
        obtain ⟨fn, tc0, hfn, _, htr, _⟩ := Prg.code_spec hcode
        simp only [trFn, Option.bind_eq_bind, Option.bind_eq_some_iff] at htr
        obtain ⟨body, hbody, _⟩ := htr
        cases hfm : findMap body with
        | none =>
          refine fn_ok (fun C hT htb => step_ok (sem_sound hx k) hT htb) hcode (fun fn' body' h1 h2 => ?_) h htb hβ hrt he
          rw [hfn] at h1
          simp only [Option.some.injEq] at h1
          subst h1
          rw [hbody] at h2
          simp only [Option.some.injEq] at h2
          subst h2
          exact hfm
        | some m => exact fnM_ok (fun C hT htb => step_ok (sem_sound hx k) hT htb) (sem_map hx k) hcode ⟨fn, body, hfn, hbody, hfm⟩ h htb hβ hrt he
end Rk
set_option linter.unusedVariables false
set_option linter.unusedSimpArgs false
namespace Rk
open Go
def WF : (t : Ty) → t.D → Prop
  | .int k, x => k.min ≤ toI k x ∧ toI k x ≤ k.max
  | .bool, _ => True
  | .str, s => List.length (α := UInt8) s ≤ maxLen
  | .lst t, xs => List.length (α := t.D) xs ≤ maxLen ∧ ∀ x : t.D, List.Mem x xs → WF t x
  | .unit, _ => True
  | .pair a b, x => WF a x.1 ∧ WF b x.2
def opnF (g : TypeId → Option (List Ty)) (c : TypeId → Nat) : Nat → List Field → Option (List Ty)
  | _, [] => some []
  | n, x :: r =>
    if x.offset == n then do
      let l ← g x.type
      if c x.type == l.length then do
        let q ← opnF g c (n + l.length) r
        some (l ++ q)
      else none
    else none
def opn (P : Program) : Nat → TypeId → Option (List Ty)
  | 0, _ => none
  | f + 1, t =>
    match P.underlying t with
    | some (.int k) => some [.int k]
    | some .bool => some [.bool]
    | some .string => some [.str]
    | some (.slice e) => do
      let l ← opn P f e
      if P.cellsOf e == l.length && l.all Ty.isLeaf && !l.isEmpty then some [.lst (tree l)] else none
    | some (.struct fs) => do
      let l ← opnF (opn P f) P.cellsOf 0 fs.toList
      if P.cellsOf t == l.length then some l else none
    | _ => none
def LR (w : World) (I : Nat → Prop) : List Ty → List Value → List Dyn → Prop
  | [], [], [] => True
  | t :: ts, v :: vs, d :: ds => leafV v ∧ d.t = t ∧ RepC w I t (fun _ => some v) (d.get t) ∧ WF t (d.get t) ∧ LR w I ts vs ds
  | _, _, _ => False
def treeD : (l : List Ty) → List Dyn → (tree l).D
  | [], _ => ()
  | [t], ds => (ds.headD default).get t
  | t :: u :: r, ds => ((ds.headD default).get t, treeD (u :: r) ds.tail)
theorem LR.append {w : World} {I : Nat → Prop} : ∀ (l m : List Ty) (vs us : List Value) (ds es : List Dyn), LR w I l vs ds → LR w I m us es → LR w I (l ++ m) (vs ++ us) (ds ++ es)
  | [], m, [], us, [], es, _, h => h
  | t :: l, m, v :: vs, us, d :: ds, es, h, h' => ⟨h.1, h.2.1, h.2.2.1, h.2.2.2.1, LR.append l m vs us ds es h.2.2.2.2 h'⟩
  | [], _, _ :: _, _, _, _, h, _ => h.elim
  | [], _, [], _, _ :: _, _, h, _ => h.elim
  | _ :: _, _, [], _, _, _, h, _ => h.elim
  | _ :: _, _, _ :: _, _, [], _, h, _ => h.elim
theorem LR.length {w : World} {I : Nat → Prop} : ∀ (l : List Ty) (vs : List Value) (ds : List Dyn), LR w I l vs ds → vs.length = l.length ∧ ds.length = l.length
  | [], [], [], _ => ⟨rfl, rfl⟩
  | t :: l, v :: vs, d :: ds, h => by have := LR.length l vs ds h.2.2.2.2; simp [this.1, this.2]
  | [], _ :: _, _, h => h.elim
  | [], [], _ :: _, h => h.elim
  | _ :: _, [], _, h => h.elim
  | _ :: _, _ :: _, [], h => h.elim
theorem LR.tree {w : World} {I : Nat → Prop} : ∀ (l : List Ty) (vs : List Value) (ds : List Dyn), l.all Ty.isLeaf = true → LR w I l vs ds → RepC w I (Rk.tree l) (fun j => vs[j]?) (treeD l ds) ∧ WF (Rk.tree l) (treeD l ds)
  | [], [], [], _, _ => ⟨trivial, trivial⟩
  | [t], [v], [d], hl, h => by
    simp at hl
    refine ⟨RepC.congr t _ _ _ (fun j hj => ?_) h.2.2.1, h.2.2.2.1⟩
    rw [isLeaf_n hl] at hj
    have : j = 0 := by omega
    subst this; rfl
  | t :: u :: r, v :: vs, d :: ds, hl, h => by
    simp only [List.all_cons, Bool.and_eq_true] at hl
    have ih := LR.tree (u :: r) vs ds (by simp [hl.2]) h.2.2.2.2
    refine ⟨⟨RepC.congr t _ _ _ (fun j hj => ?_) h.2.2.1, RepC.congr _ _ _ _ (fun j hj => ?_) ih.1⟩, h.2.2.2.1, ih.2⟩
    · rw [isLeaf_n hl.1] at hj
      have : j = 0 := by omega
      subst this; rfl
    · rw [isLeaf_n hl.1, Nat.add_comm 1 j]; rfl
  | [], _ :: _, _, _, h => h.elim
  | [], [], _ :: _, _, h => h.elim
  | [_], [], _, _, h => h.elim
  | [_], _ :: _ :: _, [], _, h => h.elim
  | [_], [_], [], _, h => h.elim
  | [_], [_], _ :: _ :: _, _, h => h.2.2.2.2.elim
  | [_], _ :: _ :: _, _ :: _, _, h => by have := h.2.2.2.2; simp [LR] at this
  | _ :: _ :: _, [], _, _, h => h.elim
  | _ :: _ :: _, _ :: _, [], _, h => h.elim
theorem mapM_get {α γ : Type} {f : α → Option γ} : ∀ (l : List α) (ys : List γ), l.mapM f = some ys → ∀ x ∈ l, ∃ y, f x = some y
  | [], ys, h, x, hx => by simp at hx
  | a :: l, ys, h, x, hx => by
    simp only [List.mapM_cons, Option.bind_eq_bind, Option.bind_eq_some_iff, Option.pure_def, Option.some.injEq] at h
    obtain ⟨y, h1, ys', h2, rfl⟩ := h
    rcases List.mem_cons.1 hx with hx | hx
    · rw [hx]; exact ⟨y, h1⟩
    · exact mapM_get l ys' h2 x hx
theorem cells?_get {w : World} {base : Nat} {a : Addr} : ∀ (n : Nat) (cs : List Value), w.cells? base a n = some cs → cs.length = n ∧ ∀ i, i < n → w.cell? (a.add i) = cs[i]? := by
  intro n cs h
  unfold World.cells? at h
  split at h
  rotate_left
  · simp at h
  have gen : ∀ (m s : Nat) (cs : List Value), (List.range' s m).mapM (fun i => w.cell? (a.add i)) = some cs → cs.length = m ∧ ∀ i, i < m → w.cell? (a.add (s + i)) = cs[i]? := by
    intro m
    induction m with
    | zero => intro s cs h; simp at h; subst h; exact ⟨rfl, fun i hi => by omega⟩
    | succ m ih =>
      intro s cs h
      simp only [List.range'_succ, List.mapM_cons, Option.bind_eq_bind, Option.bind_eq_some_iff, Option.pure_def, Option.some.injEq] at h
      obtain ⟨c, h1, cs', h2, rfl⟩ := h
      obtain ⟨g1, g2⟩ := ih (s + 1) cs' h2
      refine ⟨by simp [g1], fun i hi => ?_⟩
      cases i with
      | zero => simpa using h1
      | succ i => have := g2 i (by omega); rw [show s + (i + 1) = s + 1 + i by omega, this]; simp
  rw [List.range_eq_range'] at h
  have := gen n 0 cs h
  refine ⟨this.1, fun i hi => ?_⟩
  have := this.2 i hi
  rwa [Nat.zero_add] at this
theorem choose_list {α : Type} {n : Nat} {Q : Nat → α → Prop} (h : ∀ i, i < n → ∃ x, Q i x) : ∃ l : List α, l.length = n ∧ ∀ i (hi : i < l.length), Q i (l.get ⟨i, hi⟩) := by
  induction n with
  | zero => exact ⟨[], rfl, fun i hi => by simp at hi⟩
  | succ n ih =>
    obtain ⟨l, h1, h2⟩ := ih (fun i hi => h i (by omega))
    obtain ⟨x, hx⟩ := h n (by omega)
    refine ⟨l ++ [x], by simp [h1], fun i hi => ?_⟩
    simp only [List.length_append, List.length_singleton] at hi
    by_cases hin : i < l.length
    · have := h2 i hin
      simp only [List.get_eq_getElem] at this ⊢
      rw [List.getElem_append_left hin]
      exact this
    · have : i = l.length := by omega
      subst this
      simp only [List.get_eq_getElem, List.getElem_append_right (Nat.le_refl _), Nat.sub_self, List.getElem_cons_zero]
      rw [h1]; exact hx
section
variable {H : Type} {enc : TypeId × Value → H} {P : Program} {w : World} {spare : Nat → Bool} {held : Bool}
theorem cell_lt {w : World} {a : Addr} {v : Value} (h : w.cell? a = some v) : a.block < w.heap.size ∧ a.spot = none := by
  refine ⟨?_, World.cell?_spot h⟩
  unfold World.cell? at h
  split at h
  · rename_i heq
    rcases Nat.lt_or_ge a.block w.heap.size with q | q
    · exact q
    · rw [Array.getElem?_eq_none q] at heq; simp at heq
  · simp at h
theorem toI_ofI' {k : IntKind} {n : Int} (h1 : k.min ≤ n) (h2 : n ≤ k.max) : toI k (ofI k n) = n := by
  cases k <;> simp [toI, ofI, IntKind.min, IntKind.max, IntKind.signed, IntKind.bits] at *
  omega
theorem opnF_ok {f F : Nat} {cs : List Value} (ih : ∀ (t : TypeId) (l : List Ty) (vs : List Value) (d : DataW H) (ps : List MemPlace), opn P F t = some l → DataW.trod enc P w 0 spare held f t vs = some (d, ps) → ∃ ds, LR w (· < w.heap.size) l vs ds) :
    ∀ (fs : List Field) (n : Nat) (l : List Ty) (xs : List (DataW H × List MemPlace)), opnF (opn P F) P.cellsOf n fs = some l →
      fs.mapM (fun x => DataW.trod enc P w 0 spare held f x.type ((cs.drop x.offset).take (P.cellsOf x.type))) = some xs → cs.length = n + l.length → ∃ ds, LR w (· < w.heap.size) l (cs.drop n) ds
  | [], n, l, xs, ho, hx, hl => by
    simp only [opnF, Option.some.injEq] at ho
    subst ho
    have : cs.drop n = [] := List.drop_eq_nil_iff.2 (by simp at hl; omega)
    rw [this]
    exact ⟨[], trivial⟩
  | x :: r, n, l, xs, ho, hx, hl => by
    simp only [opnF] at ho
    split at ho
    rotate_left
    · simp at ho
    rename_i hoff
    simp only [beq_iff_eq] at hoff
    simp only [Option.bind_eq_bind, Option.bind_eq_some_iff] at ho
    obtain ⟨l1, h1, ho⟩ := ho
    split at ho
    rotate_left
    · simp at ho
    rename_i hc
    simp only [beq_iff_eq] at hc
    simp only [Option.bind_eq_some_iff, Option.some.injEq] at ho
    obtain ⟨q, hq, rfl⟩ := ho
    simp only [List.mapM_cons, Option.bind_eq_bind, Option.bind_eq_some_iff, Option.pure_def, Option.some.injEq] at hx
    obtain ⟨⟨d, ps⟩, hx1, xs', hx2, _⟩ := hx
    obtain ⟨ds, hds⟩ := ih _ _ _ _ _ h1 hx1
    obtain ⟨es, hes⟩ := opnF_ok ih r (n + l1.length) q xs' hq hx2 (by rw [hl, List.length_append]; omega)
    refine ⟨ds ++ es, ?_⟩
    have := LR.append _ _ _ _ _ _ hds hes
    rw [hoff, hc] at this
    have e : (cs.drop n).take l1.length ++ cs.drop (n + l1.length) = cs.drop n := by
      rw [← List.drop_drop]; exact List.take_append_drop _ _
    rwa [e] at this
theorem LR.one {w : World} {I : Nat → Prop} (t : Ty) (v : Value) (x : t.D) (h1 : leafV v) (h2 : RepC w I t (fun _ => some v) x) (h3 : WF t x) : ∃ ds, LR w I [t] [v] ds :=
  ⟨[⟨t, x⟩], h1, rfl, by rw [Dyn.get_mk]; exact h2, by rw [Dyn.get_mk]; exact h3, trivial⟩
theorem opn_ok : ∀ (F : Nat) (t : TypeId) (l : List Ty) (fuel : Nat) (cs : List Value) (d : DataW H) (ps : List MemPlace), opn P F t = some l → DataW.trod enc P w 0 spare held fuel t cs = some (d, ps) → ∃ ds, LR w (· < w.heap.size) l cs ds
  | 0, t, l, fuel, cs, d, ps, ho, _ => by simp [opn] at ho
  | F + 1, t, l, 0, cs, d, ps, ho, hd => by simp [DataW.trod] at hd
  | F + 1, t, l, fuel + 1, cs, d, ps, ho, hd => by
    have ih := fun t l vs d ps => opn_ok F t l fuel vs d ps
    unfold opn at ho
    unfold DataW.trod at hd
    cases hu : P.underlying t with
    | none => rw [hu] at ho; simp at ho
    | some u =>
      rw [hu] at ho hd
      cases u <;> simp only at ho <;> try (simp at ho; done)
      case int k =>
        simp only [Option.some.injEq] at ho
        subst ho
        split at hd <;> simp only [reduceCtorEq, Option.some.injEq, TypeDesc.int.injEq] at * <;> try contradiction
        rename_i k1 k2 n heq
        subst heq
        split at hd
        · rename_i hkn
          obtain ⟨rfl, hw⟩ := hkn
          simp only [Lit.wf, Bool.and_eq_true, decide_eq_true_eq] at hw
          refine LR.one (.int k2) _ (ofI k2 n) trivial ?_ ?_
          · simp only [RepC, toI_ofI' hw.1 hw.2]
          · simp only [WF, toI_ofI' hw.1 hw.2]; exact hw
        · simp at hd
      case bool =>
        simp only [Option.some.injEq] at ho
        subst ho
        split at hd <;> simp only [reduceCtorEq, Option.some.injEq] at * <;> try contradiction
        rename_i b _
        exact LR.one .bool _ b trivial rfl trivial
      case string =>
        simp only [Option.some.injEq] at ho
        subst ho
        split at hd <;> simp only [reduceCtorEq, Option.some.injEq] at * <;> try contradiction
        rename_i s _
        split at hd
        · rename_i hs
          refine LR.one .str _ s.data.toList trivial ⟨s, rfl, rfl⟩ ?_
          show List.length s.data.toList ≤ maxLen
          simpa using hs
        · simp at hd
      case slice e =>
        simp only [Option.bind_eq_bind, Option.bind_eq_some_iff] at ho
        obtain ⟨le, hle, ho⟩ := ho
        split at ho
        rotate_left
        · simp at ho
        rename_i hc
        simp only [Bool.and_eq_true, beq_iff_eq, Bool.not_eq_true', List.isEmpty_eq_false_iff] at hc
        obtain ⟨⟨hc, hleaf⟩, hne⟩ := hc
        simp only [Option.some.injEq] at ho
        subst ho
        split at hd <;> simp only [reduceCtorEq, Option.some.injEq, TypeDesc.slice.injEq] at * <;> try contradiction
        · exact LR.one (.lst (tree le)) _ [] trivial ⟨none, 0, 0, rfl, rfl, Nat.le_refl _, .inl rfl⟩ ⟨Nat.zero_le _, fun x hx => by cases hx⟩
        · rename_i e' a len cap heq
          subst heq
          split at hd
          rotate_left
          · simp at hd
          rename_i hb
          obtain ⟨_, hlc, hcm⟩ := hb
          simp only [Option.bind_eq_some_iff] at hd
          obtain ⟨elems, hel, _⟩ := hd
          have hone : ∀ i, i < len → ∃ x : (tree le).D, RepC w (· < w.heap.size) (tree le) (fun j => w.cell? ((a.add (i * le.length)).add j)) x ∧ WF (tree le) x := by
            intro i hi
            obtain ⟨y, hy⟩ := mapM_get _ _ hel i (by simpa using hi)
            simp only [Option.bind_eq_some_iff] at hy
            obtain ⟨cs, hcs, hy⟩ := hy
            obtain ⟨g1, g2⟩ := cells?_get _ _ hcs
            obtain ⟨ds, hds⟩ := ih e le cs y.1 y.2 hle hy
            obtain ⟨r1, r2⟩ := LR.tree le cs ds hleaf hds
            refine ⟨treeD le ds, RepC.congr _ _ _ _ (fun j hj => ?_) r1, r2⟩
            rw [tree_n le hleaf] at hj
            rw [← hc]
            exact (g2 j (by rw [hc]; exact hj)).symm
          obtain ⟨xs, hx1, hx2⟩ := choose_list hone
          refine LR.one (.lst (tree le)) _ xs trivial ?_ ?_
          · refine ⟨some a, len, cap, rfl, hx1, hlc, ?_⟩
            by_cases h0 : len = 0
            · exact .inl h0
            · right
              -- the first cell is there
              obtain ⟨y, hy⟩ := mapM_get _ _ hel 0 (by simp; omega)
              simp only [Option.bind_eq_some_iff] at hy
              obtain ⟨cs, hcs, hy⟩ := hy
              obtain ⟨g1, g2⟩ := cells?_get _ _ hcs
              have hpos : 0 < P.cellsOf e := by rw [hc]; exact List.length_pos_iff.2 hne
              have h00 := g2 0 hpos
              obtain ⟨c0, hc0⟩ : ∃ c, cs[0]? = some c := ⟨cs[0], List.getElem?_eq_getElem (by omega)⟩
              rw [hc0] at h00
              obtain ⟨q1, q2⟩ := cell_lt h00
              obtain ⟨ab, ao, asp⟩ := a
              simp [Addr.add] at q1 q2
              subst q2
              refine ⟨ab, ao, rfl, q1, fun i hi => ?_⟩
              have := (hx2 i hi).1
              refine RepC.congr _ _ _ _ (fun j hj => ?_) this
              simp only [cellAt, tree_n le hleaf]
              congr 1
              simp only [Addr.add]
              split <;> split <;> simp_all <;> omega
          · refine ⟨by show xs.length ≤ maxLen; omega, fun x hx => ?_⟩
            obtain ⟨i, hi, rfl⟩ := List.mem_iff_getElem.1 hx
            exact (hx2 i hi).2
      case struct fs =>
        simp only [Option.bind_eq_bind, Option.bind_eq_some_iff] at ho
        obtain ⟨l1, h1, ho⟩ := ho
        split at ho
        rotate_left
        · simp at ho
        rename_i hc
        simp only [beq_iff_eq] at hc
        simp only [Option.some.injEq] at ho
        subst ho
        simp only at hd
        split at hd
        rotate_left
        · simp at hd
        rename_i hlen
        rw [Option.map_eq_some_iff] at hd
        obtain ⟨xs, hxs, _⟩ := hd
        have := opnF_ok (cs := cs) ih fs.toList 0 l1 xs h1 hxs (by omega)
        simpa using this
end
end Rk
set_option linter.unusedVariables false
set_option linter.unusedSimpArgs false
namespace Rk
open Go Go.ChangeShapes Go.WideShapes Go.ChangeAt Go.RowKit
def lawSig (gs : List Bool) (ls : List (List Ty)) : Sig := ⟨(gs.zip ls).map fun x => .val ⟨x.1, x.2.map .dyn⟩, [], [⟨false, [.dyn .bool]⟩], []⟩
def FitsL : List Ty → List Dyn → Prop
  | [], [] => True
  | t :: ts, d :: ds => (∃ x : t.D, d = ⟨t, x⟩ ∧ WF t x) ∧ FitsL ts ds
  | _, _ => False
theorem FitsL.uncons {t : Ty} {ts : List Ty} {xs : List Dyn} (h : FitsL (t :: ts) xs) : ∃ (x : t.D) (ys : List Dyn), xs = ⟨t, x⟩ :: ys ∧ WF t x ∧ FitsL ts ys := by
  cases xs with
  | nil => exact h.elim
  | cons d ds => obtain ⟨⟨x, e, w⟩, h⟩ := h; exact ⟨x, ds, by rw [e], w, h⟩
theorem FitsL.unnil {xs : List Dyn} (h : FitsL [] xs) : xs = [] := by
  cases xs with
  | nil => rfl
  | cons d ds => exact h.elim
theorem FitsL.append : ∀ (l m : List Ty) (ds es : List Dyn), FitsL l ds → FitsL m es → FitsL (l ++ m) (ds ++ es)
  | [], _, [], _, _, h => h
  | t :: l, m, d :: ds, es, h, h' => ⟨h.1, FitsL.append l m ds es h.2 h'⟩
  | [], _, _ :: _, _, h, _ => h.elim
  | _ :: _, _, [], _, h, _ => h.elim
theorem Dyn.eta {d : Dyn} {t : Ty} (h : d.t = t) : d = ⟨t, d.get t⟩ := by
  subst h
  obtain ⟨t, v⟩ := d
  rw [Dyn.get_mk]
theorem LR.fits {w : World} {I : Nat → Prop} : ∀ (l : List Ty) (vs : List Value) (ds : List Dyn), LR w I l vs ds → FitsL l ds
  | [], [], [], _ => trivial
  | t :: l, v :: vs, d :: ds, h => ⟨⟨d.get t, Dyn.eta h.2.1, h.2.2.2.1⟩, LR.fits l vs ds h.2.2.2.2⟩
  | [], _ :: _, _, h => h.elim
  | [], [], _ :: _, h => h.elim
  | _ :: _, [], _, h => h.elim
  | _ :: _, _ :: _, [], h => h.elim
def argLocs : Nat → List (List Ty) → List Loc
  | _, [] => []
  | i, l :: r => (List.range' 0 l.length).map (Loc.s i) ++ argLocs (i + 1) r
theorem updS_app (ρ : Rho) : ∀ (a b : List (Loc × Dyn)), updS ρ (a ++ b) = updS (updS ρ b) a
  | [], b => rfl
  | (l, d) :: r, b => by
    funext x
    simp only [List.cons_append, updS]
    rw [updS_app ρ r b]
theorem updS_row (i : Nat) : ∀ (n s : Nat) (ds : List Dyn) (ρ : Rho), ds.length = n → ∀ j d, ds[j]? = some d → updS ρ (((List.range' s n).map (Loc.s i)).zip ds) (.s i (s + j)) = d
  | 0, s, ds, ρ, hl, j, d, h => by
    have := List.length_eq_zero_iff.1 hl
    subst this
    simp at h
  | n + 1, s, [], ρ, hl, j, d, h => by simp at hl
  | n + 1, s, e :: ds, ρ, hl, j, d, h => by
    simp only [List.range'_succ, List.map_cons, List.zip_cons_cons, updS]
    cases j with
    | zero => simpa using h
    | succ j =>
      rw [if_neg (by simp)]
      have := updS_row i n (s + 1) ds ρ (by simpa using hl) j d (by simpa using h)
      rw [show s + (j + 1) = s + 1 + j by omega]
      exact this
theorem updS_args : ∀ (ls : List (List Ty)) (dss : List (List Dyn)) (i : Nat) (ρ : Rho), ls.map List.length = dss.map List.length →
    ∀ (k : Nat) (ds : List Dyn), dss[k]? = some ds → ∀ j d, ds[j]? = some d → updS ρ ((argLocs i ls).zip dss.flatten) (.s (i + k) j) = d
  | [], [], i, ρ, _, k, ds, h => by simp at h
  | [], _ :: _, i, ρ, h, _, _, _ => by simp at h
  | _ :: _, [], i, ρ, h, _, _, _ => by simp at h
  | l :: ls, es :: dss, i, ρ, hl, k, ds, h => by
    simp only [List.map_cons, List.cons.injEq] at hl
    intro j d hd
    simp only [argLocs, List.flatten_cons]
    rw [List.zip_append (by simp [hl.1]), updS_app]
    cases k with
    | zero =>
      simp only [List.getElem?_cons_zero, Option.some.injEq] at h
      subst h
      have := updS_row i l.length 0 es (updS ρ ((argLocs (i + 1) ls).zip dss.flatten)) hl.1.symm j d hd
      simpa using this
    | succ k =>
      rw [updS_not _ (fun y hy e => ?_)]
      · have := updS_args ls dss (i + 1) ρ hl.2 k ds (by simpa using h) j d hd
        rw [show i + (k + 1) = i + 1 + k by omega]
        exact this
      · have := (List.of_mem_zip hy).1
        obtain ⟨q, _, hq⟩ := List.mem_map.1 this
        rw [← hq] at e
        simp at e
theorem argLocs_s : ∀ (ls : List (List Ty)) (i : Nat), ∀ l ∈ argLocs i ls, ∃ a b, l = .s a b
  | [], i, l, h => by simp [argLocs] at h
  | x :: r, i, l, h => by
    simp only [argLocs, List.mem_append] at h
    rcases h with h | h
    · obtain ⟨q, _, rfl⟩ := List.mem_map.1 h
      exact ⟨_, _, rfl⟩
    · exact argLocs_s r _ l h
def ArgR (w : World) (I : Nat → Prop) : List Bool → List (List Ty) → List Value → List (List Dyn) → Prop
  | [], [], [], [] => True
  | g :: gs, l :: ls, v :: vs, ds :: dss => (∃ cells, v = mkV g cells ∧ (g = false → cells.length = 1) ∧ LR w I l cells ds) ∧ ArgR w I gs ls vs dss
  | _, _, _, _ => False
theorem ArgR.fits {w : World} {I : Nat → Prop} : ∀ (gs : List Bool) (ls : List (List Ty)) (vs : List Value) (dss : List (List Dyn)), ArgR w I gs ls vs dss → FitsL ls.flatten dss.flatten ∧ ls.map List.length = dss.map List.length
  | [], [], [], [], _ => ⟨trivial, rfl⟩
  | g :: gs, l :: ls, v :: vs, ds :: dss, h => by
    obtain ⟨⟨cells, h1, h2, h3⟩, h4⟩ := h
    obtain ⟨g1, g2⟩ := ArgR.fits gs ls vs dss h4
    exact ⟨FitsL.append _ _ _ _ (LR.fits _ _ _ h3) g1, by simp only [List.map_cons, g2, (LR.length _ _ _ h3).2]⟩
  | [], [], [], _ :: _, h => h.elim
  | [], [], _ :: _, _, h => h.elim
  | [], _ :: _, _, _, h => h.elim
  | _ :: _, [], _, _, h => h.elim
  | _ :: _, _ :: _, [], _, h => h.elim
  | _ :: _, _ :: _, _ :: _, [], h => h.elim
theorem LR.cellsOk {M : Mem} {I : Nat → Prop} {i : Nat} (hI : ∀ b, I b → M.I b) : ∀ (l : List Ty) (vs : List Value) (ds : List Dyn) (j : Nat), LR M.w I l vs ds → (∀ q d, ds[q]? = some d → M.ρ (.s i (j + q)) = d) →
    CellsOk M (.s i) j (l.map .dyn) vs
  | [], [], [], j, _, _ => trivial
  | t :: l, v :: vs, d :: ds, j, h, hρ => by
    refine ⟨h.1, ?_, LR.cellsOk hI l vs ds (j + 1) h.2.2.2.2 (fun q d' hq => by rw [show j + 1 + q = j + (q + 1) by omega]; exact hρ (q + 1) d' (by simpa using hq))⟩
    have := hρ 0 d rfl
    rw [Nat.add_zero] at this
    rw [this]
    exact RepC.ext hI (fun _ _ _ => rfl) _ _ _ h.2.2.1
  | [], _ :: _, _, _, h, _ => h.elim
  | [], [], _ :: _, _, h, _ => h.elim
  | _ :: _, [], _, _, h, _ => h.elim
  | _ :: _, _ :: _, [], _, h, _ => h.elim
theorem ren_dyn (l : List Ty) : (l.map Sh.dyn).map renIn = l.map Sh.dyn := by
  induction l with
  | nil => rfl
  | cons t l ih => simp only [List.map_cons, ih]; rfl
theorem ArgR.sks {M : Mem} {I : Nat → Prop} (hI : ∀ b, I b → M.I b) : ∀ (gs : List Bool) (ls : List (List Ty)) (vs : List Value) (dss : List (List Dyn)) (i : Nat), ArgR M.w I gs ls vs dss →
    (∀ (k : Nat) (ds : List Dyn), dss[k]? = some ds → ∀ j d, ds[j]? = some d → M.ρ (.s (i + k) j) = d) →
    SKsOk M ((((gs.zip ls).map fun x => SK.val ⟨x.1, x.2.map .dyn⟩).zipIdx i).map fun x => (x.2, renSK x.1)) vs
  | [], [], [], [], i, _, _ => trivial
  | g :: gs, l :: ls, v :: vs, ds :: dss, i, h, hρ => by
    obtain ⟨⟨cells, h1, h2, h3⟩, h4⟩ := h
    refine ⟨⟨cells, h1, h2, ?_⟩, ArgR.sks hI gs ls vs dss (i + 1) h4 (fun k ds' hk j d hd => by rw [show i + 1 + k = i + (k + 1) by omega]; exact hρ (k + 1) ds' (by simpa using hk) j d hd)⟩
    simp only [renVal, ren_dyn]
    exact LR.cellsOk hI l cells ds 0 h3 (fun q d hq => by rw [Nat.zero_add]; have := hρ 0 ds rfl q d hq; rwa [Nat.add_zero] at this)
  | [], [], [], _ :: _, _, h, _ => h.elim
  | [], [], _ :: _, _, _, h, _ => h.elim
  | [], _ :: _, _, _, _, h, _ => h.elim
  | _ :: _, [], _, _, _, h, _ => h.elim
  | _ :: _, _ :: _, [], _, _, h, _ => h.elim
  | _ :: _, _ :: _, _ :: _, [], _, h, _ => h.elim
section
variable {H : Type} {enc : TypeId × Value → H} {P : Program} {w : World}
theorem arg_open {F : Nat} {t : TypeId} {l : List Ty} {g : Bool} {v : Value} {d : DataW H} {ps : List MemPlace} {base : Nat} (ho : opn P F t = some l) (hg : isAggT P t = some g)
    (hv : Value.okWide P w .any base t v) (hd : DataW.Trod enc P w 0 (fun _ => true) true t v d ps) : ∃ cells, v = mkV g cells ∧ (g = false → cells.length = 1) ∧ ∃ ds, LR w (· < w.heap.size) l cells ds := by
  obtain ⟨fuel, hf⟩ := hd
  obtain ⟨ds, hds⟩ := opn_ok F t l fuel _ d ps ho hf
  refine ⟨v.cells.toList, ?_, ?_, ds, hds⟩
  all_goals
    cases F with
    | zero => simp [opn] at ho
    | succ F =>
      unfold opn at ho
      simp only [isAggT, Option.bind_eq_bind, Option.bind_eq_some_iff] at hg
      obtain ⟨u, hu, hg⟩ := hg
      rw [hu] at ho
      cases u <;> simp only at ho hg <;> first
        | (simp at ho; done)
        | (simp only [Option.some.injEq] at hg
           subst hg
           first
            | (obtain ⟨n, rfl⟩ := okWide_int hu hv; simp [mkV, Value.cells])
            | (obtain ⟨n, rfl⟩ := okWide_bool hu hv; simp [mkV, Value.cells])
            | (obtain ⟨n, rfl⟩ := okWide_string hu hv; simp [mkV, Value.cells])
            | (obtain ⟨a, b, c, rfl⟩ := okWide_slice hu hv; simp [mkV, Value.cells])
            | (obtain ⟨cs, rfl, _⟩ := okWide_struct hu hv; simp [mkV, Value.cells]))
theorem args_open {F : Nat} : ∀ (ts : List TypeId) (gs : List Bool) (ls : List (List Ty)) (vs : List Value) (ds : List (DataW H)) (ps : List MemPlace) (base : Nat), ts.map (opn P F) = ls.map some → ts.map (isAggT P) = gs.map some →
    (∀ (j : Nat) t v, ts[j]? = some t → vs[j]? = some v → Value.okWide P w .any base t v) → DataW.TrodAll enc P w 0 (fun _ => true) true ts vs ds ps → ∃ dss, ArgR w (· < w.heap.size) gs ls vs dss
  | [], [], [], [], ds, ps, base, _, _, _, _ => ⟨[], trivial⟩
  | t :: ts, g :: gs, l :: ls, v :: vs, ds, ps, base, ho, hg, hv, hd => by
    simp only [List.map_cons, List.cons.injEq] at ho hg
    obtain ⟨v', vs', d', ds', p', q', e1, e2, e3, h1, h2⟩ := Go.ChangeShapes.trodAll_cons hd
    simp only [List.cons.injEq] at e1
    obtain ⟨rfl, rfl⟩ := e1
    obtain ⟨cells, c1, c2, es, c3⟩ := arg_open ho.1 hg.1 (hv 0 t v rfl rfl) h1
    obtain ⟨dss, hdss⟩ := args_open ts gs ls vs ds' q' base ho.2 hg.2 (fun j t v h h' => hv (j + 1) t v (by simpa using h) (by simpa using h')) h2
    exact ⟨es :: dss, ⟨cells, c1, c2, c3⟩, hdss⟩
  | [], _ :: _, _, _, _, _, _, _, h, _, _ => by simp at h
  | [], [], _ :: _, _, _, _, _, h, _, _, _ => by simp at h
  | [], [], [], _ :: _, _, _, _, _, _, _, h => by cases h
  | _ :: _, [], _, _, _, _, _, _, h, _, _ => by simp at h
  | _ :: _, _ :: _, [], _, _, _, _, h, _, _, _ => by simp at h
  | _ :: _, _ :: _, _ :: _, [], _, _, _, _, _, _, h => by cases h
end
theorem trodAll_below {H : Type} {enc : TypeId × Value → H} {P : Program} (hl : laidOutB P = true) {W W' : World} (hb : Below W.heap.size W W') :
    ∀ (ts : List TypeId) (vs : List Value) (ds : List (DataW H)) (ps : List MemPlace), (ts.all fun t => P.readableRec t && decide (t < P.types.size)) = true → DataW.TrodAll enc P W 0 (fun _ => true) true ts vs ds ps →
      DataW.TrodAll enc P W' 0 (fun b => decide (b < W.heap.size)) true ts vs ds ps
  | [], vs, ds, ps, _, h => by
    cases vs <;> cases ds <;> simp only [DataW.TrodAll] at h ⊢
    exact h
  | t :: ts, vs, ds, ps, hr, h => by
    obtain ⟨v', vs', d', ds', p', q', rfl, rfl, rfl, h1, h2⟩ := Go.ChangeShapes.trodAll_cons h
    simp only [List.all_cons, Bool.and_eq_true, decide_eq_true_eq] at hr
    exact trodAll_cons_mk (Below.trod hl hr.1.1 hr.1.2 h1 hb (by obtain ⟨m, hm⟩ := h1; exact DataW.trod_lt m _ _ _ hm)) (trodAll_below hl hb ts vs' ds' q' (by simpa using hr.2) h2)
theorem trodAll_len {H : Type} {enc : TypeId × Value → H} {P : Program} {W : World} : ∀ (ts : List TypeId) (vs : List Value) (ds : List (DataW H)) (ps : List MemPlace), DataW.TrodAll enc P W 0 (fun _ => true) true ts vs ds ps → ds.length = ts.length
  | [], vs, ds, ps, h => by
    cases vs <;> cases ds <;> simp only [DataW.TrodAll] at h ⊢
    rfl
  | t :: ts, vs, ds, ps, h => by
    obtain ⟨v', vs', d', ds', p', q', rfl, rfl, rfl, h1, h2⟩ := Go.ChangeShapes.trodAll_cons h
    simp [trodAll_len ts vs' ds' q' h2]
theorem tgtT_nil : tgtT [] = fun _ => none := by
  funext κ; rfl
theorem not_priv (κ : Nat) : ¬ Priv (tgtT []) κ := by
  rintro ⟨k, h, _⟩
  rw [tgtT_nil] at h
  simp at h
def lawCtx (P : Program) (w : World) (tabs : Nat → Dyn) : Ctx := ⟨P, fun b => b < w.heap.size, fun _ => False, w, 0, tabs, [], fun _ => none, by simp⟩
theorem law_walk {G : Prg} (hx : ExtOk G) {f : FuncId} {gs : List Bool} {ls : List (List Ty)} (hsg : (G.E.sig f)[0]? = some (lawSig gs ls)) (hloc : (lawSig gs ls).inLocs.map (·.1) = argLocs 0 ls)
    {w : World} {args : List Value} {dss : List (List Dyn)} (ha : ArgR w (· < w.heap.size) gs ls args dss) (ht : TabsOk G.E (lawCtx G.E.P w G.tabs)) (hlaw : ∀ xs, FitsL ls.flatten xs → ∃ k r, sem G k f 0 xs = some r ∧ (r.headD default).get .bool = true) :
    Calls G.E.P f args.toArray w (fun e w' => e = .returned (.bool true) ∧ Below w.heap.size w w') := by
  obtain ⟨hf, hl⟩ := ArgR.fits _ _ _ _ ha
  obtain ⟨k, r, hk, hr⟩ := hlaw _ hf
  have hI : ∀ b, b < w.heap.size → imms (lawCtx G.E.P w G.tabs) (tgtT []) (fun _ => none) w b := fun b hb => ⟨.inl hb, hb, fun κ hp => (not_priv κ hp).elim⟩
  have hent : Entry G.E (lawCtx G.E.P w G.tabs) (lawSig gs ls) (G.init (lawSig gs ls) dss.flatten) (fun _ => none) args := by
    refine ⟨ht, fun κ κ' b h => (not_priv κ h).elim, fun κ b h => (not_priv κ h).elim, fun x hx => by simp [lawSig, Sig.inKs, numK] at hx, ?_, fun b hb => ⟨hb, fun h => h⟩, fun b hb => hb.elim, fun g => ?_⟩
    · refine ArgR.sks (M := memOf (lawCtx G.E.P w G.tabs) (tgtT []) (fun _ => none) (G.init (lawSig gs ls) dss.flatten) w) hI gs ls args dss 0 ha (fun k ds hk j d hd => ?_)
      simp only [memOf, Prg.init, hloc]
      exact updS_args ls dss 0 _ hl k ds hk j d hd
    · simp only [Prg.init, hloc]
      rw [updS_not _ (fun y hy e => ?_)]
      · rfl
      · obtain ⟨a, b, q⟩ := argLocs_s ls 0 _ (List.of_mem_zip hy).1
        rw [q] at e
        simp at e
  have := sem_sound hx k f 0 _ _ _ hk hsg (lawCtx G.E.P w G.tabs) (fun _ => none) args rfl rfl rfl hent
  refine Calls.mono this ?_
  rintro e w' ⟨v, rfl, hlen, β', ho⟩
  obtain ⟨d, rfl⟩ : ∃ d, r = [d] := by
    match r, hlen with
    | [d], _ => exact ⟨d, rfl⟩
    | [], h => simp [lawSig, Sig.outLocs, Sig.outSK, Sig.outKs, numK, stLocs, skLocs, cellLocs, keyLocs, renVal, renIn] at h
    | _ :: _ :: _, h => simp [lawSig, Sig.outLocs, Sig.outSK, Sig.outKs, numK, stLocs, skLocs, cellLocs, keyLocs, renVal, renIn] at h
  have hd : d.get .bool = true := hr
  refine ⟨?_, ?_⟩
  · obtain ⟨cells, h1, h2, h3⟩ := ho.slot
    have : cells.length = 1 := h2 rfl
    match cells, this, h3 with
    | [c], _, h3 =>
      have hc : c = .bool true := by
        have := h3.2.1
        simp only [renIn, CellOk, memOf] at this
        have h4 : RepC w' _ .bool (fun _ => some c) (d.get .bool) := this
        rw [hd] at h4
        simpa [RepC] using h4
      rw [h1, hc]
      rfl
  · have := ho.fr
    exact ⟨this.os, this.tape, this.output, this.size, fun b hb => this.block b hb (fun h => h)⟩
end Rk
set_option linter.unusedVariables false
set_option linter.unusedSimpArgs false
namespace Rk
open Go
def i8 (x : UInt8) : Int := (x.toNat : Int)
def o8 (x : Int) : UInt8 := UInt8.ofNat x.toNat
def W64 (x : Int) : Int := IntKind.wrap .i64 x
def LeF {α R : Type} (f g : α → Option R) : Prop := ∀ a r, f a = some r → g a = some r
theorem runE_mono {c c' : CallF} (hc : ∀ f i xs r, c f i xs = some r → c' f i xs = some r) {e : Eff} {ρ ρ1 : Rho} (h : runE c e ρ = some ρ1) : runE c' e ρ = some ρ1 := by
  unfold runE at h ⊢
  cases hb : allB ρ e.chk with
  | false => simp [hb] at h
  | true =>
    simp only [hb, cond_true] at h ⊢
    cases hk : e.call with
    | none => rw [hk] at h; exact h
    | some k =>
      simp only [hk] at h ⊢
      cases hcb : allB ρ k.cond with
      | false => rw [hcb] at h; exact h
      | true =>
        simp only [hcb, cond_true, Option.bind_eq_some_iff] at h ⊢
        obtain ⟨o, h1, h2⟩ := h
        exact ⟨o, hc _ _ _ _ h1, h2⟩
theorem runEs_mono {c c' : CallF} (hc : ∀ f i xs r, c f i xs = some r → c' f i xs = some r) : ∀ (es : List Eff) (ρ ρ1 : Rho), runEs c es ρ = some ρ1 → runEs c' es ρ = some ρ1
  | [], ρ, ρ1, h => h
  | e :: r, ρ, ρ1, h => by
    simp only [runEs, Option.bind_eq_some_iff] at h ⊢
    obtain ⟨ρ2, h1, h2⟩ := h
    exact ⟨ρ2, runE_mono hc h1, runEs_mono hc r ρ2 ρ1 h2⟩
theorem iter_mono {F F' : (Rho → Res) → Rho → Res} (hF : ∀ f g, LeF f g → LeF (F f) (F' g)) : ∀ (k k' : Nat), k ≤ k' → LeF (iter k F) (iter k' F')
  | 0, _, _ => fun a r h => by simp [iter] at h
  | k + 1, 0, h => by omega
  | k + 1, k' + 1, h => hF _ _ (iter_mono hF k k' (by omega))
theorem den_mono {c c' : CallF} (hc : ∀ f i xs r, c f i xs = some r → c' f i xs = some r) {k k' : Nat} (hk : k ≤ k') : ∀ (tc : TC) (κn κn' : Rho → Res) (κx κx' : Nat → Rho → Res), LeF κn κn' → (∀ i, LeF (κx i) (κx' i)) →
    LeF (den c k tc κn κx) (den c' k' tc κn' κx') := by
  intro tc
  induction tc with
  | nop => intro κn κn' κx κx' h1 h2 ρ r h; exact h1 _ _ h
  | effs l =>
    intro κn κn' κx κx' h1 h2 ρ r h
    simp only [den, Option.bind_eq_some_iff] at h ⊢
    obtain ⟨ρ1, g1, g2⟩ := h
    exact ⟨ρ1, runEs_mono hc _ _ _ g1, h1 _ _ g2⟩
  | seq a b iha ihb => intro κn κn' κx κx' h1 h2; exact iha _ _ _ _ (ihb _ _ _ _ h1 h2) h2
  | cond e a b iha ihb =>
    intro κn κn' κx κx' h1 h2 ρ r h
    simp only [den] at h ⊢
    cases hb : e.evB ρ with
    | true => rw [hb] at h; exact iha _ _ _ _ h1 h2 _ _ h
    | false => rw [hb] at h; exact ihb _ _ _ _ h1 h2 _ _ h
  | block id a ih =>
    intro κn κn' κx κx' h1 h2
    refine ih _ _ _ _ h1 (fun i ρ r h => ?_)
    cases hb : i == id with
    | true => simp only [hb, cond_true] at h ⊢; exact h1 _ _ h
    | false => simp only [hb, cond_false] at h ⊢; exact h2 _ _ _ h
  | loop V a ih => intro κn κn' κx κx' h1 h2; exact iter_mono (fun f g hfg => ih _ _ _ _ hfg h2) k k' hk
  | exit id => intro κn κn' κx κx' h1 h2; exact h2 id
  | ret o => intro κn κn' κx κx' h1 h2 ρ r h; exact h
  | mv l a ih => intro κn κn' κx κx' h1 h2 ρ r h; exact ih _ _ _ _ h1 h2 _ _ h
  | bnd V o a b iha ihb => intro κn κn' κx κx' h1 h2; exact iha _ _ _ _ (ihb _ _ _ _ h1 h2) h2
def ExtMono (G : Prg) : Prop := ∀ f i g, G.ext f i = some g → ∀ k xs r, g k xs = some r → g (k + 1) xs = some r
theorem sem_mono1 {G : Prg} (hx : ExtMono G) : ∀ (k : Nat) f i xs r, sem G k f i xs = some r → sem G (k + 1) f i xs = some r
  | 0, f, i, xs, r, h => by simp [sem] at h
  | k + 1, f, i, xs, r, h => by
    simp only [sem] at h
    unfold sem
    split at h
    · rename_i g hg
      exact hx f i g hg k xs r h
    · rename_i hg
      split at h
      · simp at h
      · rename_i tc sg hc
        exact den_mono (sem_mono1 hx k) (Nat.le_succ k) tc _ _ _ _ (fun _ _ h => h) (fun _ _ _ h => h) _ _ h
theorem sem_mono {G : Prg} (hx : ExtMono G) {k k' : Nat} (hk : k ≤ k') {f i xs r} (h : sem G k f i xs = some r) : sem G k' f i xs = some r := by
  induction hk with
  | refl => exact h
  | step _ ih => exact sem_mono1 hx _ _ _ _ _ ih
def Dat : List Ty → Type
  | [] => Unit
  | [t] => t.D
  | t :: u :: r => t.D × Dat (u :: r)
def ofDyns : (ts : List Ty) → List Dyn → Dat ts
  | [], _ => ()
  | [t], l => (l.headD default).get t
  | t :: u :: r, l => ((l.headD default).get t, ofDyns (u :: r) l.tail)
def dfltD : (ts : List Ty) → Dat ts
  | [] => ()
  | [t] => t.dflt
  | t :: u :: r => (t.dflt, dfltD (u :: r))
def gets (ρ : Rho) : (V : TL) → Dat (V.map (·.2))
  | [] => ()
  | [x] => (ρ x.1).get x.2
  | x :: y :: r => ((ρ x.1).get x.2, gets ρ (y :: r))
def locsD : (V : TL) → Dat (V.map (·.2)) → List (Loc × Dyn)
  | [], _ => []
  | [x], d => [(x.1, ⟨x.2, d⟩)]
  | x :: y :: r, d => (x.1, ⟨x.2, d.1⟩) :: locsD (y :: r) d.2
def iterT {α R : Type} : Nat → ((α → Option R) → α → Option R) → α → Option R
  | 0, _, _ => none
  | k + 1, F, a => F (iterT k F) a
open Classical in
noncomputable def lfp {α R : Type} (F : (α → Option R) → α → Option R) (a : α) : Option R :=
  if h : ∃ r k, iterT k F a = some r then some h.choose else none
theorem lfp_spec {α R : Type} {F : (α → Option R) → α → Option R} {a : α} {r : R} (h : lfp F a = some r) : ∃ k, iterT k F a = some r := by
  unfold lfp at h
  split at h
  · rename_i hh
    simp only [Option.some.injEq] at h
    subst h
    exact hh.choose_spec
  · simp at h
structure Cts {α R Q : Type} (E : (α → Option R) → Option Q) : Prop where
  mono : ∀ f g, LeF f g → ∀ y, E f = some y → E g = some y
  lim : ∀ (c : Nat → α → Option R) (l : α → Option R), (∀ k, LeF (c k) (c (k + 1))) → (∀ a r, l a = some r → ∃ k, c k a = some r) → ∀ y, E l = some y → ∃ k, E (c k) = some y
section
variable {α R Q : Type}
theorem ce_const (x : Option Q) : Cts (fun _ : α → Option R => x) := ⟨fun _ _ _ _ h => h, fun _ _ _ _ _ h => ⟨0, h⟩⟩
theorem ce_self (a : α) : Cts (fun s : α → Option R => s a) := ⟨fun _ _ h _ => h _ _, fun _ _ _ h _ => h _ _⟩
theorem chain_le {c : Nat → α → Option R} (h : ∀ k, LeF (c k) (c (k + 1))) {k k' : Nat} (hk : k ≤ k') : LeF (c k) (c k') := by
  induction hk with
  | refl => exact fun _ _ h => h
  | step _ ih => exact fun a r h' => h _ _ _ (ih _ _ h')
theorem ce_cond (b : Bool) {E E' : (α → Option R) → Option Q} (h : Cts E) (h' : Cts E') : Cts (fun s => cond b (E s) (E' s)) := by
  cases b
  · exact h'
  · exact h
theorem ce_bind {T : Type} (x : Option T) {E : T → (α → Option R) → Option Q} (h : ∀ t, Cts (E t)) : Cts (fun s => x.bind fun t => E t s) := by
  cases x with
  | none => exact ce_const none
  | some t => exact h t
theorem ce_bind2 {T : Type} {A : (α → Option R) → Option T} {E : T → (α → Option R) → Option Q} (ha : Cts A) (h : ∀ t, Cts (E t)) : Cts (fun s => (A s).bind fun t => E t s) := by
  constructor
  · intro f g hfg y hy
    simp only [Option.bind_eq_some_iff] at hy ⊢
    obtain ⟨t, h1, h2⟩ := hy
    exact ⟨t, ha.mono f g hfg t h1, (h t).mono f g hfg y h2⟩
  · intro c l hc hl y hy
    simp only [Option.bind_eq_some_iff] at hy
    obtain ⟨t, h1, h2⟩ := hy
    obtain ⟨k1, q1⟩ := ha.lim c l hc hl t h1
    obtain ⟨k2, q2⟩ := (h t).lim c l hc hl y h2
    refine ⟨max k1 k2, ?_⟩
    simp only [Option.bind_eq_some_iff]
    exact ⟨t, ha.mono _ _ (chain_le hc (Nat.le_max_left _ _)) t q1, (h t).mono _ _ (chain_le hc (Nat.le_max_right _ _)) y q2⟩
theorem ce_map {T : Type} {A : (α → Option R) → Option T} {g : T → Q} (ha : Cts A) : Cts (fun s => (A s).map g) := by
  constructor
  · intro f f' hfg y hy
    simp only [Option.map_eq_some_iff] at hy ⊢
    obtain ⟨t, h1, h2⟩ := hy
    exact ⟨t, ha.mono f f' hfg t h1, h2⟩
  · intro c l hc hl y hy
    simp only [Option.map_eq_some_iff] at hy
    obtain ⟨t, h1, h2⟩ := hy
    obtain ⟨k1, q1⟩ := ha.lim c l hc hl t h1
    exact ⟨k1, by simp only [Option.map_eq_some_iff]; exact ⟨t, q1, h2⟩⟩
theorem ce_elim {T S : Type} (x : T ⊕ S) {E : T → (α → Option R) → Option Q} {E' : S → (α → Option R) → Option Q} (h : ∀ t, Cts (E t)) (h' : ∀ t, Cts (E' t)) : Cts (fun s => Sum.elim (fun t => E t s) (fun t => E' t s) x) := by
  cases x
  · exact h _
  · exact h' _
theorem iterT_le {β S : Type} {F : (β → Option S) → β → Option S} {F' : (β → Option S) → β → Option S} (hm : ∀ a f g, LeF f g → ∀ y, F f a = some y → F' g a = some y) : ∀ (k k' : Nat), k ≤ k' → LeF (iterT k F) (iterT k' F')
  | 0, _, _ => fun a r h => by simp [iterT] at h
  | k + 1, 0, h => by omega
  | k + 1, k' + 1, h => fun a r hh => hm a _ _ (iterT_le hm k k' (by omega)) r hh
theorem lfp_of {β S : Type} {F : (β → Option S) → β → Option S} (hm : ∀ a, Cts (fun s => F s a)) {k : Nat} {a : β} {r : S} (h : iterT k F a = some r) : lfp F a = some r := by
  unfold lfp
  have hh : ∃ r k, iterT k F a = some r := ⟨r, k, h⟩
  rw [dif_pos hh]
  obtain ⟨k', hk'⟩ := hh.choose_spec
  have e1 := iterT_le (F := F) (F' := F) (fun a f g hfg y => (hm a).mono f g hfg y) k (max k k') (Nat.le_max_left _ _) _ _ h
  have e2 := iterT_le (F := F) (F' := F) (fun a f g hfg y => (hm a).mono f g hfg y) k' (max k k') (Nat.le_max_right _ _) _ _ hk'
  rw [e1] at e2
  exact e2.symm
theorem lfp_eq {β S : Type} {F : (β → Option S) → β → Option S} (hm : ∀ a, Cts (fun s => F s a)) (a : β) : lfp F a = F (lfp F) a := by
  have h1 : ∀ r, lfp F a = some r → F (lfp F) a = some r := by
    intro r h
    obtain ⟨k, hk⟩ := lfp_spec h
    cases k with
    | zero => simp [iterT] at hk
    | succ k => exact (hm a).mono _ _ (fun b r hb => lfp_of hm hb) r hk
  have h2 : ∀ r, F (lfp F) a = some r → lfp F a = some r := by
    intro r h
    obtain ⟨k, hk⟩ := (hm a).lim (fun k => iterT k F) (lfp F) (fun k => iterT_le (fun a f g hfg y => (hm a).mono f g hfg y) k (k + 1) (Nat.le_succ k)) (fun b r hb => lfp_spec hb) r h
    exact lfp_of hm (k := k + 1) hk
  cases h : lfp F a with
  | some r => exact (h1 r h).symm
  | none =>
    cases h' : F (lfp F) a with
    | none => rfl
    | some r => rw [h2 r h'] at h; simp at h
theorem ce_lfp {β S : Type} (b : β) {H : (α → Option R) → (β → Option S) → β → Option S} (h1 : ∀ t x, Cts (fun s => H s t x)) (h2 : ∀ s x, Cts (fun t => H s t x)) : Cts (fun s => lfp (H s) b) := by
  constructor
  · intro f g hfg y hy
    obtain ⟨k, hk⟩ := lfp_spec hy
    exact lfp_of (h2 g) (k := k) (iterT_le (F := H f) (F' := H g) (fun a t t' htt z hz => (h2 g a).mono t t' htt z ((h1 t a).mono f g hfg z hz)) k k (Nat.le_refl _) _ _ hk)
  · intro c l hc hl y hy
    obtain ⟨n, hn⟩ := lfp_spec hy
    have hmono : ∀ n k k', k ≤ k' → LeF (iterT n (H (c k))) (iterT n (H (c k'))) := fun n k k' hk =>
      iterT_le (fun a t t' htt z hz => (h2 (c k') a).mono t t' htt z ((h1 t a).mono _ _ (chain_le hc hk) z hz)) n n (Nat.le_refl _)
    have key : ∀ n x z, iterT n (H l) x = some z → ∃ k, iterT n (H (c k)) x = some z := by
      intro n
      induction n with
      | zero => intro x z h; simp [iterT] at h
      | succ n ih =>
        intro x z h
        simp only [iterT] at h
        obtain ⟨k1, hk1⟩ := (h1 _ x).lim c l hc hl z h
        obtain ⟨k2, hk2⟩ := (h2 (c k1) x).lim (fun k => iterT n (H (c k))) (iterT n (H l)) (fun k => hmono n k (k + 1) (Nat.le_succ k)) (fun a r ha => ih a r ha) z hk1
        refine ⟨max k1 k2, ?_⟩
        simp only [iterT]
        exact (h2 _ x).mono _ _ (hmono n k2 (max k1 k2) (Nat.le_max_right _ _)) z ((h1 _ x).mono _ _ (chain_le hc (Nat.le_max_left k1 k2)) z hk2)
    obtain ⟨k, hk⟩ := key n b y hn
    exact ⟨k, lfp_of (h2 (c k)) hk⟩
end
open Classical in
noncomputable def Sω (G : Prg) : CallF := fun f i xs => if h : ∃ r k, sem G k f i xs = some r then some h.choose else none
theorem Sω_spec {G : Prg} {f i xs r} (h : Sω G f i xs = some r) : ∃ k, sem G k f i xs = some r := by
  unfold Sω at h
  split at h
  · rename_i hh
    simp only [Option.some.injEq] at h
    subst h
    exact hh.choose_spec
  · simp at h
theorem Sω_of {G : Prg} (hx : ExtMono G) {k : Nat} {f i xs r} (h : sem G k f i xs = some r) : Sω G f i xs = some r := by
  unfold Sω
  have hh : ∃ r k, sem G k f i xs = some r := ⟨r, k, h⟩
  rw [dif_pos hh]
  obtain ⟨k', hk'⟩ := hh.choose_spec
  have e1 := sem_mono hx (Nat.le_max_left k k') h
  have e2 := sem_mono hx (Nat.le_max_right k k') hk'
  rw [e1] at e2
  exact e2.symm
noncomputable def Tω (G : Prg) (f : FuncId) (i : Nat) (xs : List Dyn) (ts : List Ty) : Option (Dat ts) := (Sω G f i xs).map (ofDyns ts)
def setV (tabs : Nat → Dyn) (V : TL) (s : Dat (V.map (·.2))) : Rho := updS (baseRho tabs) (locsD V s)
def condB {α : Type} (ρ : Rho) : List PE → α → α → α
  | [], x, _ => x
  | e :: r, x, y => bif allB ρ (e :: r) then x else y
theorem condB_eq {α : Type} (ρ : Rho) (l : List PE) (x y : α) : condB ρ l x y = bif allB ρ l then x else y := by cases l <;> rfl
noncomputable def runW {R : Type} (G : Prg) : List Eff → (Rho → Option R) → Rho → Option R
  | [], κ, ρ => κ ρ
  | e :: r, κ, ρ =>
    condB ρ e.chk (
      match e.call with
      | none => runW G r κ (updS ρ (evs ρ e.sets))
      | some c => (condB ρ c.cond (Tω G c.f c.i (dyns ρ c.args) (c.outs.map (·.2))) (some (dfltD _))).bind fun d => runW G r κ (updS ρ (locsD c.outs d)))
      none
noncomputable def denW (G : Prg) : {R : Type} → (fin : List Dyn → Option R) → TC → (Rho → Option R) → (Nat → Rho → Option R) → Rho → Option R
  | _, _, .nop, κn, _, ρ => κn ρ
  | _, _, .effs l, κn, _, ρ => runW G l κn ρ
  | _, fin, .seq a b, κn, κx, ρ => denW G fin a (denW G fin b κn κx) κx ρ
  | _, fin, .cond e a b, κn, κx, ρ => bif e.evB ρ then denW G fin a κn κx ρ else denW G fin b κn κx ρ
  | _, fin, .block id a, κn, κx, ρ => denW G fin a κn (fun i ρ => bif i == id then κn ρ else κx i ρ) ρ
  | _, fin, .loop V a, _, κx, ρ => lfp (fun self s => denW G fin a (fun ρ' => self (gets ρ' V)) κx (setV G.tabs V s)) (gets ρ V)
  | _, _, .exit id, _, κx, ρ => κx id ρ
  | _, fin, .ret outs, _, _, ρ => fin (dyns ρ outs)
  | _, fin, .mv l a, κn, κx, ρ => denW G fin a κn κx (updS ρ (evs ρ l))
  | _, fin, .bnd V true a b, κn, κx, ρ => (denW G (fun _ => none) a (fun ρ' => some (gets ρ' V)) (fun _ _ => none) ρ).bind fun s => denW G fin b κn κx (setV G.tabs V s)
  | R, fin, .bnd V false a b, κn, κx, ρ => (denW (R := Dat (V.map (·.2)) ⊕ R) G (fun r => (fin r).map .inr) a (fun ρ' => some (.inl (gets ρ' V))) (fun i ρ' => (κx i ρ').map .inr) ρ).bind
      (Sum.elim (fun s => denW G fin b κn κx (setV G.tabs V s)) (fun y => some y))
structure Ag (tabs : Nat → Dyn) (L : TL) (ρ ρ' : Rho) : Prop where
  at_ : ∀ x ∈ L, (ρ x.1).get x.2 = (ρ' x.1).get x.2
  g1 : ∀ g, ρ (.g g) = tabs g
  g2 : ∀ g, ρ' (.g g) = tabs g
theorem Ag.sub {tabs : Nat → Dyn} {L L' : TL} {ρ ρ' : Rho} (h : Ag tabs L ρ ρ') (hs : ∀ x ∈ L', x ∈ L) : Ag tabs L' ρ ρ' := ⟨fun x hx => h.at_ x (hs x hx), h.g1, h.g2⟩
theorem Ag.rd {tabs : Nat → Dyn} {l : TL} {ρ ρ' : Rho} (h : Ag tabs (Rk.rd l) ρ ρ') : ∀ x ∈ l, (ρ x.1).get x.2 = (ρ' x.1).get x.2 := by
  intro x hx
  cases hl : x.1 with
  | g i => rw [h.g1, h.g2]
  | s i j => have := h.at_ x (List.mem_filter.2 ⟨hx, by rw [hl]; rfl⟩); rw [hl] at this; exact this
  | k i j => have := h.at_ x (List.mem_filter.2 ⟨hx, by rw [hl]; rfl⟩); rw [hl] at this; exact this
theorem mem3 {α : Type} {a b c : List α} {x : α} : (x ∈ a → x ∈ a ++ b ++ c) ∧ (x ∈ b → x ∈ a ++ b ++ c) ∧ (x ∈ c → x ∈ a ++ b ++ c) := by
  simp only [List.mem_append]
  exact ⟨fun h => .inl (.inl h), fun h => .inl (.inr h), fun h => .inr h⟩
theorem mem2 {α : Type} {a b : List α} {x : α} : (x ∈ a → x ∈ a ++ b) ∧ (x ∈ b → x ∈ a ++ b) := by
  simp only [List.mem_append]
  exact ⟨.inl, .inr⟩
theorem ev_tl {ρ ρ' : Rho} : ∀ (e : PE) (t : Ty), (∀ x ∈ e.tl t, (ρ x.1).get x.2 = (ρ' x.1).get x.2) → e.ev ρ t = e.ev ρ' t := by
  intro e
  induction e with
  | loc l => intro t h; exact h (l, t) List.mem_cons_self
  | int n => intro t h; rfl
  | bool n => intro t h; rfl
  | str n => intro t h; rfl
  | lnil => intro t h; rfl
  | unit => intro t h; rfl
  | ar op k k2 a b iha ihb =>
    intro t h
    have e0 := iha (.int k) (fun x hx => h x (mem2.1 hx))
    have e1 := ihb (.int k2) (fun x hx => h x (mem2.2 hx))
    simp only [PE.ev, e0, e1]
  | cmpI op k a b iha ihb =>
    intro t h
    have e0 := iha (.int k) (fun x hx => h x (mem2.1 hx))
    have e1 := ihb (.int k) (fun x hx => h x (mem2.2 hx))
    simp only [PE.ev, e0, e1]
  | cmpS op a b iha ihb =>
    intro t h
    have e0 := iha .str (fun x hx => h x (mem2.1 hx))
    have e1 := ihb .str (fun x hx => h x (mem2.2 hx))
    simp only [PE.ev, e0, e1]
  | cmpB n a b iha ihb =>
    intro t h
    have e0 := iha .bool (fun x hx => h x (mem2.1 hx))
    have e1 := ihb .bool (fun x hx => h x (mem2.2 hx))
    simp only [PE.ev, e0, e1]
  | neg k a iha =>
    intro t h
    have e0 := iha (.int k) (fun x hx => h x hx)
    simp only [PE.ev, e0]
  | com k a iha =>
    intro t h
    have e0 := iha (.int k) (fun x hx => h x hx)
    simp only [PE.ev, e0]
  | conv k a iha =>
    intro t h
    have e0 := iha (.int k) (fun x hx => h x hx)
    simp only [PE.ev, e0]
  | not a iha =>
    intro t h
    have e0 := iha .bool (fun x hx => h x hx)
    simp only [PE.ev, e0]
  | cat a b iha ihb =>
    intro t h
    have e0 := iha .str (fun x hx => h x (mem2.1 hx))
    have e1 := ihb .str (fun x hx => h x (mem2.2 hx))
    simp only [PE.ev, e0, e1]
  | slen a iha =>
    intro t h
    have e0 := iha .str (fun x hx => h x hx)
    simp only [PE.ev, e0]
  | sidx a i iha ihi =>
    intro t h
    have e0 := iha .str (fun x hx => h x (mem2.1 hx))
    have e1 := ihi (.int .i64) (fun x hx => h x (mem2.2 hx))
    simp only [PE.ev, e0, e1]
  | ssub a lo hi iha ihlo ihhi =>
    intro t h
    have e0 := iha .str (fun x hx => h x (mem3.1 hx))
    have e1 := ihlo (.int .i64) (fun x hx => h x (mem3.2.1 hx))
    have e2 := ihhi (.int .i64) (fun x hx => h x (mem3.2.2 hx))
    simp only [PE.ev, e0, e1, e2]
  | llen u a iha =>
    intro t h
    have e0 := iha (.lst u) (fun x hx => h x hx)
    simp only [PE.ev, e0]
  | lidx a i iha ihi =>
    intro t h
    have e0 := iha (.lst t) (fun x hx => h x (mem2.1 hx))
    have e1 := ihi (.int .i64) (fun x hx => h x (mem2.2 hx))
    simp only [PE.ev, e0, e1]
  | lsub a lo hi iha ihlo ihhi =>
    intro t h
    cases t with
    | lst t =>
      have e0 := iha (.lst t) (fun x hx => h x (mem3.1 hx))
      have e1 := ihlo (.int .i64) (fun x hx => h x (mem3.2.1 hx))
      have e2 := ihhi (.int .i64) (fun x hx => h x (mem3.2.2 hx))
      simp only [PE.ev, onLst_lst, onPair_pair, e0, e1, e2]
      try rfl
    | _ => rfl
  | lapp a b iha ihb =>
    intro t h
    cases t with
    | lst t =>
      have e0 := iha (.lst t) (fun x hx => h x (mem2.1 hx))
      have e1 := ihb (.lst t) (fun x hx => h x (mem2.2 hx))
      simp only [PE.ev, onLst_lst, onPair_pair, e0, e1]
      try rfl
    | _ => rfl
  | lset a i v iha ihi ihv =>
    intro t h
    cases t with
    | lst t =>
      have e0 := iha (.lst t) (fun x hx => h x (mem3.1 hx))
      have e1 := ihi (.int .i64) (fun x hx => h x (mem3.2.1 hx))
      have e2 := ihv t (fun x hx => h x (mem3.2.2 hx))
      simp only [PE.ev, onLst_lst, onPair_pair, e0, e1, e2]
      try rfl
    | _ => rfl
  | one a iha =>
    intro t h
    cases t with
    | lst t =>
      have e0 := iha t (fun x hx => h x hx)
      simp only [PE.ev, onLst_lst, onPair_pair, e0]
      try rfl
    | _ => rfl
  | lrep n a ihn iha =>
    intro t h
    cases t with
    | lst t =>
      have e0 := ihn (.int .i64) (fun x hx => h x (mem2.1 hx))
      have e1 := iha t (fun x hx => h x (mem2.2 hx))
      simp only [PE.ev, onLst_lst, onPair_pair, e0, e1]
      try rfl
    | _ => rfl
  | b2s a iha =>
    intro t h
    have e0 := iha (.lst (.int .u8)) (fun x hx => h x hx)
    simp only [PE.ev, e0]
  | s2b a iha =>
    intro t h
    have e0 := iha .str (fun x hx => h x hx)
    simp only [PE.ev, e0]
  | fst u a iha =>
    intro t h
    have e0 := iha (.pair t u) (fun x hx => h x hx)
    simp only [PE.ev, e0]
  | snd u a iha =>
    intro t h
    have e0 := iha (.pair u t) (fun x hx => h x hx)
    simp only [PE.ev, e0]
  | pair a b iha ihb =>
    intro t h
    cases t with
    | pair t u =>
      have e0 := iha t (fun x hx => h x (mem2.1 hx))
      have e1 := ihb u (fun x hx => h x (mem2.2 hx))
      simp only [PE.ev, onLst_lst, onPair_pair, e0, e1]
      try rfl
    | _ => rfl
  | ite c a b ihc iha ihb =>
    intro t h
    have e0 := ihc .bool (fun x hx => h x (mem3.1 hx))
    have e1 := iha t (fun x hx => h x (mem3.2.1 hx))
    have e2 := ihb t (fun x hx => h x (mem3.2.2 hx))
    simp only [PE.ev, e0, e1, e2]
  | and a b iha ihb =>
    intro t h
    have e0 := iha .bool (fun x hx => h x (mem2.1 hx))
    have e1 := ihb .bool (fun x hx => h x (mem2.2 hx))
    simp only [PE.ev, e0, e1]
  | imp a b iha ihb =>
    intro t h
    have e0 := iha .bool (fun x hx => h x (mem2.1 hx))
    have e1 := ihb .bool (fun x hx => h x (mem2.2 hx))
    simp only [PE.ev, e0, e1]
  | plus a b iha ihb =>
    intro t h
    have e0 := iha (.int .i64) (fun x hx => h x (mem2.1 hx))
    have e1 := ihb (.int .i64) (fun x hx => h x (mem2.2 hx))
    simp only [PE.ev, e0, e1]
  | minus a b iha ihb =>
    intro t h
    have e0 := iha (.int .i64) (fun x hx => h x (mem2.1 hx))
    have e1 := ihb (.int .i64) (fun x hx => h x (mem2.2 hx))
    simp only [PE.ev, e0, e1]
  | minI k a b iha ihb =>
    intro t h
    have e0 := iha (.int k) (fun x hx => h x (mem2.1 hx))
    have e1 := ihb (.int k) (fun x hx => h x (mem2.2 hx))
    simp only [PE.ev, e0, e1]
  | maxI k a b iha ihb =>
    intro t h
    have e0 := iha (.int k) (fun x hx => h x (mem2.1 hx))
    have e1 := ihb (.int k) (fun x hx => h x (mem2.2 hx))
    simp only [PE.ev, e0, e1]
theorem allB_tl {ρ ρ' : Rho} : ∀ (l : List PE), (∀ x ∈ l.flatMap (fun e => e.tl .bool), (ρ x.1).get x.2 = (ρ' x.1).get x.2) → allB ρ l = allB ρ' l
  | [], _ => rfl
  | e :: r, h => by
    simp only [List.flatMap_cons, List.mem_append] at h
    simp only [allB, PE.evB, ev_tl e _ (fun x hx => h x (.inl hx)), allB_tl r (fun x hx => h x (.inr hx))]
theorem evs_tl {ρ ρ' : Rho} : ∀ (l : List (Loc × Ty × PE)), (∀ x ∈ l.flatMap (fun e => e.2.2.tl e.2.1), (ρ x.1).get x.2 = (ρ' x.1).get x.2) → evs ρ l = evs ρ' l
  | [], _ => rfl
  | e :: r, h => by
    simp only [List.flatMap_cons, List.mem_append] at h
    have := evs_tl r (fun x hx => h x (.inr hx))
    simp only [evs] at this ⊢
    simp only [List.map_cons, this, ev_tl e.2.2 _ (fun x hx => h x (.inl hx))]
theorem dyns_tl {ρ ρ' : Rho} : ∀ (l : List (Ty × PE)), (∀ x ∈ l.flatMap (fun e => e.2.tl e.1), (ρ x.1).get x.2 = (ρ' x.1).get x.2) → dyns ρ l = dyns ρ' l
  | [], _ => rfl
  | e :: r, h => by
    simp only [List.flatMap_cons, List.mem_append] at h
    have := dyns_tl r (fun x hx => h x (.inr hx))
    simp only [dyns] at this ⊢
    simp only [List.map_cons, this, ev_tl e.2 _ (fun x hx => h x (.inl hx))]
theorem mem_uniT : ∀ (b a : TL) (x : Loc × Ty), x ∈ uniT a b ↔ x ∈ a ∨ x ∈ b
  | [], a, x => by simp [uniT]
  | y :: r, a, x => by
    have : uniT a (y :: r) = uniT (if a.contains y then a else a ++ [y]) r := rfl
    rw [this, mem_uniT r]
    split
    · rename_i h
      simp only [List.contains_eq_mem, decide_eq_true_eq] at h
      constructor
      · rintro (q | q)
        · exact .inl q
        · exact .inr (List.mem_cons_of_mem _ q)
      · rintro (q | q)
        · exact .inl q
        · rcases List.mem_cons.1 q with q | q
          · rw [q]; exact .inl h
          · exact .inr q
    · simp only [List.mem_append, List.mem_cons, List.not_mem_nil, or_false]
      constructor
      · rintro ((q | q) | q)
        · exact .inl q
        · exact .inr (.inl q)
        · exact .inr (.inr q)
      · rintro (q | q | q)
        · exact .inl (.inl q)
        · exact .inl (.inr q)
        · exact .inr q
theorem mem_killT {L : TL} {ls : List Loc} {x : Loc × Ty} : x ∈ killT L ls ↔ x ∈ L ∧ x.1 ∉ ls := by
  simp [killT, List.mem_filter]
theorem Ag.writes {tabs : Nat → Dyn} {L : TL} {ρ ρ' : Rho} {U U' : List (Loc × Dyn)} {ws : List Loc} (h : Ag tabs (killT L ws) ρ ρ') (hU : ∀ y ∈ U, y.1 ∈ ws) (hU' : ∀ y ∈ U', y.1 ∈ ws) (hg : ws.all notG = true)
    (hw : ∀ x ∈ L, x.1 ∈ ws → (updS ρ U x.1).get x.2 = (updS ρ' U' x.1).get x.2) : Ag tabs L (updS ρ U) (updS ρ' U') := by
  have hgl : ∀ g, Loc.g g ∉ ws := fun g hm => by have := List.all_eq_true.1 hg _ hm; simp [notG] at this
  refine ⟨fun x hx => ?_, fun g => ?_, fun g => ?_⟩
  · by_cases hm : x.1 ∈ ws
    · exact hw x hx hm
    · rw [updS_not U (fun y hy e => hm (by rw [← e]; exact hU y hy)), updS_not U' (fun y hy e => hm (by rw [← e]; exact hU' y hy))]
      exact h.at_ x (mem_killT.2 ⟨hx, hm⟩)
  · rw [updS_not U (fun y hy e => hgl g (by rw [← e]; exact hU y hy))]; exact h.g1 g
  · rw [updS_not U' (fun y hy e => hgl g (by rw [← e]; exact hU' y hy))]; exact h.g2 g
theorem mem_zipP_iff : ∀ (l : List (Loc × Ty)) (o : List Dyn) (a : Loc), a ∈ l.map (·.1) → ∃ y ∈ zipP l o, y.1 = a
  | [], _, a, h => by simp at h
  | x :: r, o, a, h => by
    simp only [List.map_cons, List.mem_cons] at h
    rcases h with h | h
    · exact ⟨_, by simp only [zipP, List.mem_cons]; exact .inl rfl, h.symm⟩
    · obtain ⟨y, h1, h2⟩ := mem_zipP_iff r o.tail a h
      exact ⟨y, by simp only [zipP, List.mem_cons]; exact .inr h1, h2⟩
theorem mem_locsD : ∀ (V : TL) (d : Dat (V.map (·.2))) (y : Loc × Dyn), y ∈ locsD V d → y.1 ∈ V.map (·.1)
  | [], _, y, h => by simp [locsD] at h
  | [x], d, y, h => by simp only [locsD, List.mem_singleton] at h; simp [h]
  | x :: z :: r, d, y, h => by
    simp only [locsD, List.mem_cons] at h
    rcases h with h | h
    · simp [h]
    · have := mem_locsD (z :: r) d.2 y h
      simp only [List.map_cons, List.mem_cons] at this ⊢
      exact .inr this
theorem brings : ∀ (V : TL) (o : List Dyn) (ρ ρ' : Rho), nodupB (V.map (·.1)) = true → ∀ x ∈ V, (updS ρ (locsD V (ofDyns (V.map (·.2)) o)) x.1).get x.2 = (updS ρ' (zipP V o) x.1).get x.2
  | [], o, ρ, ρ', _, x, hx => by simp at hx
  | [y], o, ρ, ρ', _, x, hx => by
    simp only [List.mem_singleton] at hx
    subst hx
    simp only [locsD, zipP, updS, if_true]
    exact Dyn.get_mk x.2 ((o.headD default).get x.2)
  | y :: z :: r, o, ρ, ρ', h, x, hx => by
    simp only [List.map_cons, nodupB, Bool.and_eq_true, Bool.not_eq_true'] at h
    have e1 : locsD (y :: z :: r) (ofDyns ((y :: z :: r).map (·.2)) o) = (y.1, ⟨y.2, (o.headD default).get y.2⟩) :: locsD (z :: r) (ofDyns ((z :: r).map (·.2)) o.tail) := rfl
    rw [e1]
    simp only [zipP, updS]
    rcases List.mem_cons.1 hx with hx | hx
    · subst hx
      rw [if_pos rfl, if_pos rfl, Dyn.get_mk]
    · have hne : x.1 ≠ y.1 := by
        intro e
        have hm : x.1 ∈ (z :: r).map (·.1) := List.mem_map.2 ⟨x, hx, rfl⟩
        rw [e] at hm
        simp only [List.map_cons] at hm
        have := h.1
        simp only [List.contains_eq_mem, decide_eq_false_iff_not] at this
        exact this hm
      rw [if_neg hne, if_neg hne]
      exact brings (z :: r) o.tail ρ ρ' (by simp only [List.map_cons, nodupB, Bool.and_eq_true, Bool.not_eq_true']; exact h.2) x hx
theorem brings_dflt : ∀ (V : TL) (ρ ρ' : Rho), nodupB (V.map (·.1)) = true → ∀ x ∈ V, (updS ρ (locsD V (dfltD (V.map (·.2)))) x.1).get x.2 = (updS ρ' (V.map fun x => (x.1, ⟨x.2, x.2.dflt⟩)) x.1).get x.2
  | [], ρ, ρ', _, x, hx => by simp at hx
  | [y], ρ, ρ', _, x, hx => by
    simp only [List.mem_singleton] at hx
    subst hx
    simp only [locsD, updS, if_true, List.map_cons, List.map_nil]
    rfl
  | y :: z :: r, ρ, ρ', h, x, hx => by
    simp only [List.map_cons, nodupB, Bool.and_eq_true, Bool.not_eq_true'] at h
    show (updS ρ ((y.1, ⟨y.2, y.2.dflt⟩) :: locsD (z :: r) (dfltD ((z :: r).map (·.2)))) x.1).get x.2 = (updS ρ' ((y.1, ⟨y.2, y.2.dflt⟩) :: (z :: r).map fun x => (x.1, ⟨x.2, x.2.dflt⟩)) x.1).get x.2
    simp only [updS]
    rcases List.mem_cons.1 hx with hx | hx
    · subst hx
      rw [if_pos rfl, if_pos rfl]
    · have hne : x.1 ≠ y.1 := by
        intro e
        have hm : x.1 ∈ (z :: r).map (·.1) := List.mem_map.2 ⟨x, hx, rfl⟩
        rw [e] at hm
        simp only [List.map_cons] at hm
        have := h.1
        simp only [List.contains_eq_mem, decide_eq_false_iff_not] at this
        exact this hm
      rw [if_neg hne, if_neg hne]
      exact brings_dflt (z :: r) ρ ρ' (by simp only [List.map_cons, nodupB, Bool.and_eq_true, Bool.not_eq_true']; exact h.2) x hx
theorem gets_eq : ∀ (V : TL) (ρ ρ' : Rho), (∀ x ∈ V, (ρ x.1).get x.2 = (ρ' x.1).get x.2) → gets ρ V = gets ρ' V
  | [], ρ, ρ', _ => rfl
  | [x], ρ, ρ', h => h x (by simp)
  | x :: y :: r, ρ, ρ', h => by
    simp only [gets]
    rw [h x (by simp), gets_eq (y :: r) ρ ρ' (fun x hx => h x (List.mem_cons_of_mem _ hx))]
theorem setV_get : ∀ (V : TL) (ρ ρ' : Rho), nodupB (V.map (·.1)) = true → ∀ x ∈ V, (updS ρ (locsD V (gets ρ' V)) x.1).get x.2 = (ρ' x.1).get x.2
  | [], ρ, ρ', _, x, hx => by simp at hx
  | [y], ρ, ρ', _, x, hx => by
    simp only [List.mem_singleton] at hx
    subst hx
    simp only [locsD, updS, if_true]
    exact Dyn.get_mk x.2 ((ρ' x.1).get x.2)
  | y :: z :: r, ρ, ρ', h, x, hx => by
    simp only [List.map_cons, nodupB, Bool.and_eq_true, Bool.not_eq_true'] at h
    have e1 : locsD (y :: z :: r) (gets ρ' (y :: z :: r)) = (y.1, ⟨y.2, (ρ' y.1).get y.2⟩) :: locsD (z :: r) (gets ρ' (z :: r)) := rfl
    rw [e1]
    simp only [updS]
    rcases List.mem_cons.1 hx with hx | hx
    · subst hx
      rw [if_pos rfl, Dyn.get_mk]
    · have hne : x.1 ≠ y.1 := by
        intro e
        have hm : x.1 ∈ (z :: r).map (·.1) := List.mem_map.2 ⟨x, hx, rfl⟩
        rw [e] at hm
        simp only [List.map_cons] at hm
        have := h.1
        simp only [List.contains_eq_mem, decide_eq_false_iff_not] at this
        exact this hm
      rw [if_neg hne]
      exact setV_get (z :: r) ρ ρ' (by simp only [List.map_cons, nodupB, Bool.and_eq_true, Bool.not_eq_true']; exact h.2) x hx
section
variable {G : Prg}
def Chain {α S : Type} (c : Nat → α → Option S) : Prop := ∀ k, LeF (c k) (c (k + 1))
def Lim {R : Type} (P : R → Prop) (Q : R → List Dyn → Prop) (tabs : Nat → Dyn) (L : TL) (κ : Rho → Option R) (c : Nat → Rho → Res) : Prop :=
  ∀ ρ ρ' y, Ag tabs L ρ ρ' → κ ρ = some y → P y → ∃ k r, c k ρ' = some r ∧ Q y r
theorem runW_ok {R : Type} {P : R → Prop} {Q : R → List Dyn → Prop} (hx : ExtMono G) : ∀ (l : List Eff) (Ln L : TL), lvcs l Ln = some L → ∀ (κ : Rho → Option R) (c : Nat → Rho → Res), Chain c → Lim P Q G.tabs Ln κ c →
    Lim P Q G.tabs L (runW G l κ) (fun k ρ => (runEs (sem G k) l ρ).bind (c k))
  | [], Ln, L, hl, κ, c, hc, hlim => by
    simp only [lvcs, Option.some.injEq] at hl
    subst hl
    intro ρ ρ' y ha hy hP
    obtain ⟨k, r, h1, h2⟩ := hlim ρ ρ' y ha hy hP
    exact ⟨k, r, h1, h2⟩
  | e :: l, Ln, L, hl, κ, c, hc, hlim => by
    simp only [lvcs, Option.bind_eq_bind, Option.bind_eq_some_iff] at hl
    obtain ⟨L1, h1, hl⟩ := hl
    split at hl
    rotate_left
    · simp at hl
    rename_i hok
    simp only [Option.some.injEq] at hl
    subst hl
    have ih := runW_ok hx l Ln L1 h1 κ c hc hlim
    intro ρ ρ' y ha hy hP
    simp only [effOkB, Bool.and_eq_true] at hok
    obtain ⟨hng, hok⟩ := hok
    have hkill : Ag G.tabs (killT L1 (effWr e)) ρ ρ' := ha.sub (fun x hx => (mem_uniT _ _ _).2 (.inl hx))
    have hrd := (ha.sub (L' := rd (effTl e)) (fun x hx => (mem_uniT _ _ _).2 (.inr hx))).rd
    simp only [effTl, List.mem_append] at hrd
    have hchk := allB_tl e.chk (fun x hx => hrd x (.inl hx))
    unfold runW at hy
    simp only [condB_eq] at hy
    cases hb : allB ρ e.chk with
    | false => simp [hb] at hy
    | true =>
      rw [hb] at hchk
      simp only [hb, cond_true] at hy
      cases hk : e.call with
      | none =>
        simp only [hk] at hy hrd
        have hev := evs_tl e.sets (fun x hx => hrd x (.inr hx))
        have hwr : effWr e = e.sets.map (·.1) := by simp [effWr, hk]
        rw [hwr] at hkill hng
        have hmem : ∀ y ∈ evs ρ e.sets, y.1 ∈ e.sets.map (·.1) := fun y hy => by
          obtain ⟨x, hx, hxy⟩ := mem_evs hy
          rw [hxy]; exact List.mem_map.2 ⟨x, hx, rfl⟩
        have hag : Ag G.tabs L1 (updS ρ (evs ρ e.sets)) (updS ρ' (evs ρ' e.sets)) := by
          rw [← hev]
          refine hkill.writes hmem hmem hng (fun x hx hm => ?_)
          have : ∃ y ∈ evs ρ e.sets, y.1 = x.1 := by
            obtain ⟨z, hz, hzx⟩ := List.mem_map.1 hm
            exact ⟨(z.1, ⟨z.2.1, z.2.2.ev ρ z.2.1⟩), List.mem_map.2 ⟨z, hz, rfl⟩, hzx⟩
          rw [updS_ok.same ρ ρ' _ _ this]
        obtain ⟨k, r, g1, g2⟩ := ih _ _ y hag hy hP
        refine ⟨k, r, ?_, g2⟩
        simp only [runEs, runE, ← hchk, cond_true, hk, Option.bind_some]
        exact g1
      | some q =>
        simp only [hk] at hy hok hrd
        simp only [Bool.and_eq_true] at hok
        obtain ⟨hnd, hty⟩ := hok
        have hcond := allB_tl q.cond (fun x hx => hrd x (.inr (List.mem_append.2 (.inl hx))))
        have hargs := dyns_tl q.args (fun x hx => hrd x (.inr (List.mem_append.2 (.inr hx))))
        have hwr : effWr e = q.outs.map (·.1) := by simp [effWr, hk]
        rw [hwr] at hkill hng
        have hin : ∀ x ∈ L1, x.1 ∈ q.outs.map (·.1) → x ∈ q.outs := by
          intro x hx hm
          have := List.all_eq_true.1 hty x hx
          simp only [Bool.or_eq_true, Bool.not_eq_true', List.contains_eq_mem, decide_eq_true_eq, decide_eq_false_iff_not] at this
          rcases this with h | h
          · exact absurd hm h
          · exact h
        simp only [Option.bind_eq_some_iff] at hy
        obtain ⟨d, hd, hy⟩ := hy
        cases hcb : allB ρ q.cond with
        | true =>
          rw [hcb] at hd hcond
          simp only [cond_true, Tω, Option.map_eq_some_iff] at hd
          obtain ⟨o, ho, rfl⟩ := hd
          obtain ⟨k0, hk0⟩ := Sω_spec ho
          have hag : Ag G.tabs L1 (updS ρ (locsD q.outs (ofDyns (q.outs.map (·.2)) o))) (updS ρ' (zipP q.outs o)) :=
            hkill.writes (fun y hy => mem_locsD _ _ _ hy) (fun y hy => mem_zipP _ _ _ hy) hng (fun x hx hm => brings q.outs o ρ ρ' hnd x (hin x hx hm))
          obtain ⟨k, r, g1, g2⟩ := ih _ _ y hag hy hP
          refine ⟨max k0 k, r, ?_, g2⟩
          simp only [runEs, runE, ← hchk, cond_true, hk, ← hcond, ← hargs, sem_mono hx (Nat.le_max_left k0 k) hk0, Option.bind_some]
          simp only [Option.bind_eq_some_iff] at g1 ⊢
          obtain ⟨ρ2, q1, q2⟩ := g1
          exact ⟨ρ2, runEs_mono (fun f i xs r h => sem_mono hx (Nat.le_max_right k0 k) h) _ _ _ q1, chain_le hc (Nat.le_max_right k0 k) _ _ q2⟩
        | false =>
          rw [hcb] at hd hcond
          simp only [cond_false, Option.some.injEq] at hd
          subst hd
          have hag : Ag G.tabs L1 (updS ρ (locsD q.outs (dfltD (q.outs.map (·.2))))) (updS ρ' (q.outs.map fun x => (x.1, ⟨x.2, x.2.dflt⟩))) :=
            hkill.writes (fun y hy => mem_locsD _ _ _ hy) (fun y hy => by obtain ⟨x, hx, rfl⟩ := List.mem_map.1 hy; exact List.mem_map.2 ⟨x, hx, rfl⟩) hng (fun x hx hm => brings_dflt q.outs ρ ρ' hnd x (hin x hx hm))
          obtain ⟨k, r, g1, g2⟩ := ih _ _ y hag hy hP
          refine ⟨k, r, ?_, g2⟩
          simp only [runEs, runE, ← hchk, cond_true, hk, ← hcond, cond_false, Option.bind_some]
          exact g1
theorem chain_den (hx : ExtMono G) (tc : TC) {cn : Nat → Rho → Res} {cx : Nat → Nat → Rho → Res} (h1 : Chain cn) (h2 : ∀ i, Chain (fun k => cx k i)) : Chain (fun k => den (sem G k) k tc (cn k) (cx k)) := fun k =>
  den_mono (sem_mono1 hx k) (Nat.le_succ k) tc _ _ _ _ (h1 k) (fun i => h2 i k)
theorem denW_ok (hx : ExtMono G) : ∀ (tc : TC) {R : Type} (fin : List Dyn → Option R) (P : R → Prop) (Q : R → List Dyn → Prop), (∀ r y, fin r = some y → P y → Q y r) →
    ∀ (Ln : TL) (X : List (Nat × TL)) (L : TL), lvc tc Ln X = some L → ∀ (κn : Rho → Option R) (κx : Nat → Rho → Option R) (cn : Nat → Rho → Res) (cx : Nat → Nat → Rho → Res),
    Chain cn → (∀ i, Chain (fun k => cx k i)) → Lim P Q G.tabs Ln κn cn → (∀ i, Lim P Q G.tabs (lookX X i) (κx i) (fun k => cx k i)) →
    Lim P Q G.tabs L (denW G fin tc κn κx) (fun k => den (sem G k) k tc (cn k) (cx k)) := by
  intro tc
  induction tc with
  | nop =>
    intro R fin P Q hf Ln X L hl κn κx cn cx h1 h2 hn hxx
    simp only [lvc, Option.some.injEq] at hl
    subst hl
    exact hn
  | effs l =>
    intro R fin P Q hf Ln X L hl κn κx cn cx h1 h2 hn hxx
    exact runW_ok hx l Ln L hl κn cn h1 hn
  | seq a b iha ihb =>
    intro R fin P Q hf Ln X L hl κn κx cn cx h1 h2 hn hxx
    simp only [lvc, Option.bind_eq_bind, Option.bind_eq_some_iff] at hl
    obtain ⟨Lb, hb, ha⟩ := hl
    exact iha fin P Q hf Lb X L ha _ κx _ cx (chain_den hx b h1 h2) h2 (ihb fin P Q hf Ln X Lb hb κn κx cn cx h1 h2 hn hxx) hxx
  | cond e a b iha ihb =>
    intro R fin P Q hf Ln X L hl κn κx cn cx h1 h2 hn hxx
    simp only [lvc, Option.bind_eq_bind, Option.bind_eq_some_iff, Option.some.injEq] at hl
    obtain ⟨La, ha, Lb, hb, rfl⟩ := hl
    intro ρ ρ' y hag hy hP
    have he := ev_tl e .bool ((hag.sub (L' := rd (e.tl .bool)) (fun x hx => (mem_uniT _ _ _).2 (.inl hx))).rd)
    simp only [denW, PE.evB] at hy
    simp only [den, PE.evB, ← he]
    cases hc : (e.ev ρ .bool : Bool) with
    | true =>
      rw [hc] at hy
      exact iha fin P Q hf Ln X La ha κn κx cn cx h1 h2 hn hxx ρ ρ' y (hag.sub (fun x hx => (mem_uniT _ _ _).2 (.inr ((mem_uniT _ _ _).2 (.inl hx))))) hy hP
    | false =>
      rw [hc] at hy
      exact ihb fin P Q hf Ln X Lb hb κn κx cn cx h1 h2 hn hxx ρ ρ' y (hag.sub (fun x hx => (mem_uniT _ _ _).2 (.inr ((mem_uniT _ _ _).2 (.inr hx))))) hy hP
  | block id a ih =>
    intro R fin P Q hf Ln X L hl κn κx cn cx h1 h2 hn hxx
    simp only [lvc] at hl
    refine ih fin P Q hf Ln ((id, Ln) :: X) L hl κn _ cn _ h1 (fun i => ?_) hn (fun i => ?_)
    · cases hi : i == id with
      | true => simp only [hi, cond_true]; exact h1
      | false => simp only [hi, cond_false]; exact h2 i
    · cases hi : i == id with
      | true =>
        have e : lookX ((id, Ln) :: X) i = Ln := by
          have : i = id := by simpa using hi
          simp [lookX, this]
        rw [e]
        simp only [hi, cond_true]; exact hn
      | false =>
        have e : lookX ((id, Ln) :: X) i = lookX X i := by
          have : (id == i) = false := by simpa using fun e => by simp [e] at hi
          simp [lookX, List.find?_cons, this]
        rw [e]
        simp only [hi, cond_false]; exact hxx i
  | loop V a ih =>
    intro R fin P Q hf Ln X L hl κn κx cn cx h1 h2 hn hxx
    simp only [lvc, Option.bind_eq_bind, Option.bind_eq_some_iff] at hl
    obtain ⟨La, ha, hl⟩ := hl
    split at hl
    rotate_left
    · simp at hl
    rename_i hok
    simp only [Option.some.injEq] at hl
    subst hl
    simp only [Bool.and_eq_true] at hok
    obtain ⟨⟨hsub, hnd⟩, hng⟩ := hok
    have hsub' : ∀ x ∈ La, x ∈ V := fun x hx => by simpa using List.all_eq_true.1 hsub x hx
    intro ρ ρ' y hag hy hP
    simp only [denW] at hy
    obtain ⟨n, hiter⟩ := lfp_spec hy
    have hch : Chain (fun k => iter k (fun self => den (sem G k) k a self (cx k))) := fun k =>
      iter_mono (fun f g hfg => den_mono (sem_mono1 hx k) (Nat.le_succ k) a _ _ _ _ hfg (fun i => h2 i k)) k (k + 1) (Nat.le_succ k)
    have key : ∀ n, Lim P Q G.tabs V (fun ρ => iterT n (fun self s => denW G fin a (fun ρ' => self (gets ρ' V)) κx (setV G.tabs V s)) (gets ρ V)) (fun k => iter k (fun self => den (sem G k) k a self (cx k))) := by
      intro n
      induction n with
      | zero => intro ρ ρ' y _ h _; simp [iterT] at h
      | succ n ihn =>
        intro ρ ρ' y hag h hP
        simp only [iterT] at h
        have hag2 : Ag G.tabs La (setV G.tabs V (gets ρ V)) ρ' := by
          refine ⟨fun x hx => ?_, fun g => ?_, hag.g2⟩
          · rw [setV, setV_get V _ ρ hnd x (hsub' x hx)]
            exact hag.at_ x (hsub' x hx)
          · rw [setV, updS_not _ (fun y hy e => ?_)]
            · rfl
            · obtain ⟨x, hx, hxe⟩ := List.mem_map.1 (mem_locsD _ _ _ hy)
              have := List.all_eq_true.1 hng x hx
              rw [hxe, e] at this
              simp [notG] at this
        obtain ⟨k, r, g1, g2⟩ := ih fin P Q hf V X La ha _ κx _ cx hch h2 ihn hxx _ _ y hag2 h hP
        refine ⟨k + 1, r, ?_, g2⟩
        simp only [iter]
        exact den_mono (sem_mono1 hx k) (Nat.le_succ k) a _ _ _ _ (iter_mono (fun f g hfg => den_mono (sem_mono1 hx k) (Nat.le_succ k) a _ _ _ _ hfg (fun i => h2 i k)) k k (Nat.le_refl _)) (fun i => h2 i k) _ _ g1
    exact key n ρ ρ' y hag hiter hP
  | exit id =>
    intro R fin P Q hf Ln X L hl κn κx cn cx h1 h2 hn hxx
    simp only [lvc, Option.some.injEq] at hl
    subst hl
    exact hxx id
  | ret o =>
    intro R fin P Q hf Ln X L hl κn κx cn cx h1 h2 hn hxx
    simp only [lvc, Option.some.injEq] at hl
    subst hl
    intro ρ ρ' y hag hy hP
    simp only [denW] at hy
    have he := dyns_tl o ((hag.sub (L' := rd (o.flatMap fun x => x.2.tl x.1)) (fun x hx => (mem_uniT _ _ _).2 (.inr hx))).rd)
    exact ⟨0, dyns ρ' o, rfl, by rw [← he]; exact hf _ _ hy hP⟩
  | mv l a ih =>
    intro R fin P Q hf Ln X L hl κn κx cn cx h1 h2 hn hxx
    simp only [lvc, Option.bind_eq_bind, Option.bind_eq_some_iff] at hl
    obtain ⟨La, ha, hl⟩ := hl
    split at hl
    rotate_left
    · simp at hl
    rename_i hng
    simp only [Option.some.injEq] at hl
    subst hl
    intro ρ ρ' y hag hy hP
    have hkill : Ag G.tabs (killT La (l.map (·.1))) ρ ρ' := hag.sub (fun x hx => (mem_uniT _ _ _).2 (.inl hx))
    have hev := evs_tl l ((hag.sub (L' := rd (l.flatMap fun x => x.2.2.tl x.2.1)) (fun x hx => (mem_uniT _ _ _).2 (.inr hx))).rd)
    have hmem : ∀ y ∈ evs ρ l, y.1 ∈ l.map (·.1) := fun y hy => by
      obtain ⟨x, hx, hxy⟩ := mem_evs hy
      rw [hxy]; exact List.mem_map.2 ⟨x, hx, rfl⟩
    have hag2 : Ag G.tabs La (updS ρ (evs ρ l)) (updS ρ' (evs ρ' l)) := by
      rw [← hev]
      refine hkill.writes hmem hmem hng (fun x hx hm => ?_)
      have : ∃ y ∈ evs ρ l, y.1 = x.1 := by
        obtain ⟨z, hz, hzx⟩ := List.mem_map.1 hm
        exact ⟨(z.1, ⟨z.2.1, z.2.2.ev ρ z.2.1⟩), List.mem_map.2 ⟨z, hz, rfl⟩, hzx⟩
      rw [updS_ok.same ρ ρ' _ _ this]
    exact ih fin P Q hf Ln X La ha κn κx cn cx h1 h2 hn hxx _ _ y hag2 hy hP
  | bnd V own a b iha ihb =>
    intro R fin P Q hf Ln X L hl κn κx cn cx h1 h2 hn hxx
    simp only [lvc, Option.bind_eq_bind, Option.bind_eq_some_iff] at hl
    obtain ⟨Lb, hb, hl⟩ := hl
    split at hl
    rotate_left
    · simp at hl
    rename_i hok
    simp only [Bool.and_eq_true] at hok
    obtain ⟨⟨hsub, hnd⟩, hng⟩ := hok
    have hsub' : ∀ x ∈ Lb, x ∈ V := fun x hx => by simpa using List.all_eq_true.1 hsub x hx
    have hset : ∀ ρ ρ', Ag G.tabs V ρ ρ' → Ag G.tabs Lb (setV G.tabs V (gets ρ V)) ρ' := by
      intro ρ ρ' hag
      refine ⟨fun x hx => ?_, fun g => ?_, hag.g2⟩
      · rw [setV, setV_get V _ ρ hnd x (hsub' x hx)]
        exact hag.at_ x (hsub' x hx)
      · rw [setV, updS_not _ (fun y hy e => ?_)]
        · rfl
        · obtain ⟨x, hx, hxe⟩ := List.mem_map.1 (mem_locsD _ _ _ hy)
          have := List.all_eq_true.1 hng x hx
          rw [hxe, e] at this
          simp [notG] at this
    have hB := ihb fin P Q hf Ln X Lb hb κn κx cn cx h1 h2 hn hxx
    cases own with
    | true =>
      intro ρ ρ' y hag hy hP
      simp only [denW, Option.bind_eq_some_iff] at hy
      obtain ⟨s0, hs0, hy⟩ := hy
      exact iha (R := Dat (V.map (·.2))) (fun _ => none) (fun s => s = s0) (fun _ r => Q y r) (fun r s h => by simp at h) V X L hl (fun ρ' => some (gets ρ' V)) (fun _ _ => none) _ cx (chain_den hx b h1 h2) h2
        (fun ρ1 ρ1' s hag1 hs hss => by
          simp only [Option.some.injEq] at hs
          subst hss
          subst hs
          exact hB _ ρ1' y (hset ρ1 ρ1' hag1) hy hP)
        (fun i ρ1 ρ1' s hag1 hs _ => by simp at hs) ρ ρ' s0 hag hs0 rfl
    | false =>
      intro ρ ρ' y hag hy hP
      simp only [denW, Option.bind_eq_some_iff] at hy
      obtain ⟨z0, hz0, hy⟩ := hy
      exact iha (R := Dat (V.map (·.2)) ⊕ R) (fun r => (fin r).map .inr) (fun z => z = z0) (fun _ r => Q y r) (fun r z h hz => by
          simp only [Option.map_eq_some_iff] at h
          obtain ⟨y1, q1, q2⟩ := h
          subst hz
          subst q2
          simp only [Sum.elim_inr, Option.some.injEq] at hy
          subst hy
          exact hf r _ q1 hP) V X L hl (fun ρ' => some (.inl (gets ρ' V))) (fun i ρ' => (κx i ρ').map .inr) _ cx (chain_den hx b h1 h2) h2
        (fun ρ1 ρ1' z hag1 hz hzz => by
          simp only [Option.some.injEq] at hz
          subst hzz
          subst hz
          simp only [Sum.elim_inl] at hy
          exact hB _ ρ1' y (hset ρ1 ρ1' hag1) hy hP)
        (fun i ρ1 ρ1' z hag1 hz hzz => by
          simp only [Option.map_eq_some_iff] at hz
          obtain ⟨y1, q1, q2⟩ := hz
          subst hzz
          subst q2
          simp only [Sum.elim_inr, Option.some.injEq] at hy
          subst hy
          exact hxx i ρ1 ρ1' _ hag1 q1 hP) ρ ρ' z0 hag hz0 rfl
noncomputable def codeW (G : Prg) (f : FuncId) (i : Nat) (xs : List Dyn) (ts : List Ty) : Option (Dat ts) :=
  match G.code f i with
  | some (tc, sg) => if (sg.inLocs.map (·.1)).all notG then denW G (fun r => some (ofDyns ts r)) tc (fun _ => none) (fun _ _ => none) (G.init sg xs) else none
  | none => none
theorem Tω_of (hx : ExtMono G) {f : FuncId} {i : Nat} {xs : List Dyn} {ts : List Ty} (hext : G.ext f i = none) {y : Dat ts} (h : codeW G f i xs ts = some y) : Tω G f i xs ts = some y := by
  unfold codeW at h
  split at h
  rotate_left
  · simp at h
  rename_i tc sg hc
  split at h
  rotate_left
  · simp at h
  rename_i hin
  obtain ⟨fn, tc0, _, _, _, _, L, hL⟩ := Prg.code_spec hc
  have hg : ∀ g, G.init sg xs (.g g) = G.tabs g := by
    intro g
    unfold Prg.init
    rw [updS_not _ (fun y hy e => ?_)]
    · rfl
    · have := List.all_eq_true.1 hin _ (List.of_mem_zip hy).1
      rw [e] at this
      simp [notG] at this
  obtain ⟨k, r, h1, h2⟩ := denW_ok hx tc (fun r => some (ofDyns ts r)) (fun _ => True) (fun y r => ofDyns ts r = y) (fun r y h _ => by simpa using h) [] [] L hL (fun _ => none) (fun _ _ => none) (fun _ _ => none) (fun _ _ _ => none)
    (fun _ _ _ h => by simp at h) (fun _ _ _ _ h => by simp at h)
    (fun _ _ _ _ h => by simp at h) (fun _ _ _ _ _ h => by simp at h) (G.init sg xs) (G.init sg xs) y ⟨fun _ _ => rfl, hg, hg⟩ h trivial
  have : sem G (k + 1) f i xs = some r := by
    simp only [sem, hext, hc]
    exact h1
  unfold Tω
  rw [Sω_of hx this]
  simp only [Option.map_some, h2]
theorem Tω_sem {f : FuncId} {i : Nat} {xs : List Dyn} {b : Bool} (h : Tω G f i xs [.bool] = some b) : ∃ k r, sem G k f i xs = some r ∧ (r.headD default).get .bool = b := by
  have h' : (Sω G f i xs).map (ofDyns [.bool]) = some b := h
  obtain ⟨r, h1, h2⟩ := Option.map_eq_some_iff.1 h'
  obtain ⟨k, hk⟩ := Sω_spec h1
  exact ⟨k, r, hk, h2⟩
theorem Tω_ext (hx : ExtMono G) {f : FuncId} {i : Nat} {xs r : List Dyn} {ts : List Ty} {g : Nat → List Dyn → Res} {k : Nat} (hext : G.ext f i = some g) (h : g k xs = some r) : Tω G f i xs ts = some (ofDyns ts r) := by
  have : sem G (k + 1) f i xs = some r := by
    simp only [sem, hext]
    exact h
  unfold Tω
  rw [Sω_of hx this]
  rfl
end
def extMap (f i : Nat) : Option (Nat → List Dyn → Res) := bif (Nat.beq f 1000000 || Nat.beq f 1000001 || Nat.beq f 1000002) && Nat.beq i 0 then some (fun _ => mapF f) else none
theorem extMap_spec {f i : Nat} {g : Nat → List Dyn → Res} (h : extMap f i = some g) : (f = fLen ∨ f = fApp ∨ f = fGet) ∧ i = 0 ∧ g = fun _ => mapF f := by
  unfold extMap at h
  cases hb : (Nat.beq f 1000000 || Nat.beq f 1000001 || Nat.beq f 1000002) && Nat.beq i 0 with
  | false => rw [hb] at h; simp at h
  | true =>
    rw [hb] at h
    simp only [cond_true, Option.some.injEq] at h
    simp only [Bool.and_eq_true, Bool.or_eq_true] at hb
    exact ⟨by rcases hb.1 with (q | q) | q; exact .inl (Nat.eq_of_beq_eq_true q); exact .inr (.inl (Nat.eq_of_beq_eq_true q)); exact .inr (.inr (Nat.eq_of_beq_eq_true q)), Nat.eq_of_beq_eq_true hb.2, h.symm⟩
theorem extMap_mono {E : Env} {tabs : Nat → Dyn} : ExtMono ⟨E, extMap, tabs⟩ := by
  intro f i g h k xs r hr
  obtain ⟨_, _, rfl⟩ := extMap_spec h
  exact hr
theorem extMap_ok {E : Env} {tabs : Nat → Dyn} (h : ∀ f, (f = fLen ∨ f = fApp ∨ f = fGet) → E.sig f = []) : ExtOk ⟨E, extMap, tabs⟩ := by
  refine ⟨fun f i g hg k f' i' xs r sg hc hsg => ?_, fun f hf => ?_⟩
  · obtain ⟨hf, _, rfl⟩ := extMap_spec hg
    simp only at hc
    split at hc
    · rename_i hff
      obtain ⟨rfl, rfl⟩ := hff
      rw [show (⟨E, extMap, tabs⟩ : Prg).E.sig f' = [] from h f' hf] at hsg
      simp at hsg
    · simp at hc
  · rcases hf with rfl | rfl | rfl <;> rfl
end Rk
set_option linter.unusedVariables false
set_option linter.unusedSimpArgs false
namespace Rk
open Go
theorem cT {α : Type} {c : Bool} {x y : α} (h : c = true) : (bif c then x else y) = x := by rw [h]; rfl
theorem cF {α : Type} {c : Bool} {x y : α} (h : c = false) : (bif c then x else y) = y := by rw [h]; rfl
theorem grd {α : Type} {c : Bool} {x y : α} (h : c = true) : (bif (c && true) then x else y) = x := by rw [h]; rfl
theorem dT {p : Prop} [Decidable p] (h : p) : decide p = true := decide_eq_true h
theorem dF {p : Prop} [Decidable p] (h : ¬ p) : decide p = false := decide_eq_false h
theorem aT {a b : Bool} (h : a = true) (h' : b = true) : (a && b) = true := by rw [h, h']; rfl
theorem bS {α β : Type} {x : α} {f : α → Option β} : ((some x).bind f) = f x := rfl
theorem W64_in {x : Int} (h1 : -9223372036854775808 ≤ x) (h2 : x ≤ 9223372036854775807) : W64 x = x := IntWalk.i64_in x ⟨h1, h2⟩
theorem i8_nn (x : UInt8) : 0 ≤ i8 x := by unfold i8; omega
theorem i8_lt (x : UInt8) : i8 x < 256 := by unfold i8; have := x.toNat_lt; omega
theorem i8_o8 {n : Int} (h0 : 0 ≤ n) (h1 : n < 256) : i8 (o8 n) = n := by
  unfold i8 o8
  rw [UInt8.toNat_ofNat']
  omega
theorem o8_i8 (x : UInt8) : o8 (i8 x) = x := by
  unfold i8 o8
  simp
theorem i8_inj {x y : UInt8} (h : i8 x = i8 y) : x = y := by rw [← o8_i8 x, h, o8_i8]
theorem wrap8 (n : Int) : IntKind.wrap .u8 n = n % 256 := IntKind.wrap_u8' n
theorem bits8 : ∀ x : Fin 256, bitsI .or .u8 (x.val : Int) 128 = (x.val : Int) % 128 + 128 ∧ bitsI .and .u8 (x.val : Int) 127 = (x.val : Int) % 128 := by decide +kernel
theorem or128 {x : Int} (h0 : 0 ≤ x) (h1 : x < 256) : arI .or .u8 x 128 = x % 128 + 128 := by
  have := (bits8 ⟨x.toNat, by omega⟩).1
  simp only [] at this
  rw [show ((x.toNat : Nat) : Int) = x by omega] at this
  exact this
theorem and127 {x : Int} (h0 : 0 ≤ x) (h1 : x < 256) : arI .and .u8 x 127 = x % 128 := by
  have := (bits8 ⟨x.toNat, by omega⟩).2
  simp only [] at this
  rw [show ((x.toNat : Nat) : Int) = x by omega] at this
  exact this
theorem shr7 {x : Int} (h0 : 0 ≤ x) : arI .shr .i64 x 7 = x / 128 := by
  show x.fdiv (2 ^ (min (7 : Int).toNat 64)) = x / 128
  rw [Int.fdiv_eq_ediv_of_nonneg _ (by decide)]
  rfl
theorem quo64 {x y : Int} (h0 : 0 ≤ x) (h1 : x ≤ 9223372036854775807) (h2 : 1 ≤ y) : arI .quo .i64 x y = x / y := IntWalk.i64_quo x y ⟨h0, h1, h2⟩
theorem idx_get {α : Type} {d : α} {l : List α} {i : Int} (h0 : 0 ≤ i) (h : i < l.length) : idx d l i = l[i.toNat]'(by omega) := by
  unfold idx
  rw [if_neg (by omega), List.getD_eq_getElem?_getD, List.getElem?_eq_getElem (by omega)]
  rfl
theorem idx_nat {α : Type} {d : α} {l : List α} {i : Nat} (h : i < l.length) : idx d l (i : Int) = l[i] := by
  rw [idx_get (by omega) (by omega)]
  simp
theorem sub_zero {α : Type} (l : List α) (n : Int) : sub l 0 n = l.take n.toNat := by simp [sub]
theorem sub_nat {α : Type} (l : List α) (a b : Nat) : sub l (a : Int) (b : Int) = (l.take b).drop a := by simp [sub]
theorem sub_len {α : Type} (l : List α) (a : Int) : sub l a (l.length : Int) = l.drop a.toNat := by simp [sub]
theorem or64 {a b : Nat} (ha : a < 2 ^ 63) (hb : b < 2 ^ 63) : arI .or .i64 (a : Int) (b : Int) = ((a ||| b : Nat) : Int) := by
  show IntKind.i64.wrap ((BitVec.ofInt 64 (a : Int) ||| BitVec.ofInt 64 (b : Int)).toNat : Int) = _
  have hor : a ||| b < 2 ^ 63 := Nat.or_lt_two_pow ha hb
  rw [BitVec.toNat_or, BitVec.ofInt_natCast, BitVec.ofInt_natCast, BitVec.toNat_ofNat, BitVec.toNat_ofNat, Nat.mod_eq_of_lt (by omega), Nat.mod_eq_of_lt (by omega)]
  exact IntWalk.i64_in _ ⟨by omega, by omega⟩
theorem shl64 {a k : Nat} (hk : k < 64) (h : a * 2 ^ k < 2 ^ 63) : arI .shl .i64 (a : Int) (k : Int) = ((a * 2 ^ k : Nat) : Int) := by
  show IntKind.i64.wrap ((a : Int) * 2 ^ (min ((k : Int).toNat) 64)) = _
  have e : min ((k : Int).toNat) 64 = k := by omega
  rw [e]
  have : ((a : Int) * 2 ^ k) = ((a * 2 ^ k : Nat) : Int) := by simp
  rw [this]
  exact IntWalk.i64_in _ ⟨by omega, by omega⟩
theorem or_shl {a b k : Nat} (ha : a < 2 ^ k) (hk : k < 64) (h : a + b * 2 ^ k < 2 ^ 63) : arI .or .i64 (a : Int) (arI .shl .i64 (b : Int) (k : Int)) = ((a + b * 2 ^ k : Nat) : Int) := by
  rw [shl64 hk (by omega), or64 (by omega) (by omega)]
  congr 1
  have := Nat.two_pow_add_eq_or_of_lt ha b
  rw [Nat.or_comm, Nat.mul_comm b, ← this]
  omega
end Rk
