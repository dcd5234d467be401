/- For every input the law SegmBuilds returns true, and each argument reads behind the call as it read before. No condition. -/
import Derived.Test.YtfmdnoljlbfjbaaDoorRows
import Derived.Test.YtfmdnoljlbfjbaaDoorTie
import Derived.Test.YtfmdnoljlbfjbaaDoorCards
import Derived.WalkKit
import Derived.ProofKit
import Derived.OpenShut
import Derived.LaidMore
import Derived.Lay
import Derived.SevenTiedAt
import Derived.Stop.Joined
import Derived.Test.YtfmdnoljlbfjbaaDoorPu12c
namespace Go.Proofs.YtfmdnoljlbfjbaaDoor.segmBuildsDone
open Go.ChangeShapes Go.WideShapes Go.ChangeAt Go.RowKit
set_option linter.unusedVariables false
set_option maxRecDepth 100000

theorem own : ownKnob Tryd.prog.godebug = none := by kernel_rfl
theorem laidOut : laidOutB Tryd.prog = true := by kernel_rfl

theorem extok : Rk.ExtOk Rk.Gn := Rk.extMap_ok (by rintro f (rfl | rfl | rfl) <;> kernel_rfl)
noncomputable def fs0 : Array Field := match Tryd.prog.underlying 167 with | some (.struct fs) => fs | _ => #[]
/-- The laid table, cell by cell. -/
theorem tab0_cell {W : World} (h : laidMetH Tryd.prog [("rubrick/sha.words", Rows.laid_rubrick_sha_words), ("rubrick/utf.letters", Rows.laid_rubrick_utf_letters)] W) (r : Nat) (hr : r < 12) : W.cell? ⟨0, r * 3 + 0, none⟩ = some (.int .i64 (Rk.tab0.getD r default).1) ∧ W.cell? ⟨0, r * 3 + 1, none⟩ = some (.int .i64 (Rk.tab0.getD r default).2.1) ∧ W.cell? ⟨0, r * 3 + 2, none⟩ = some (.int .i64 (Rk.tab0.getD r default).2.2) := by
  rw [MakeChecks.laidMetH_plain _ _ _ (by kernel_rfl)] at h
  obtain ⟨ps, ⟨_, _, _, _, _, _, _, _, _, _, ⟨g, t, cs, fuel, p, q, hg, ht, hv, hd, _, _⟩, _⟩, _, _⟩ := h
  obtain rfl := Option.some.inj ((show Tryd.prog.globalNamed "rubrick/utf.letters" = some 0 by kernel_rfl).symm.trans hg)
  obtain rfl := Option.some.inj ((show (Tryd.prog.globals[0]?).map (·.type) = some 179 by kernel_rfl).symm.trans ht)
  obtain ⟨xs, m, _, ex, _, hl, hel⟩ := DataW.trod_array (show Tryd.prog.underlying 179 = some (.array 12 167) by kernel_rfl) hd
  have c5 : Tryd.prog.cellsOf 167 = 3 := by kernel_rfl
  have hE := hel r hr
  rw [c5, List.getElem?_eq_getElem (by omega)] at hE
  have hlen : Rk.tab0.length = 12 := by kernel_rfl
  have hdat : (Rows.laid_rubrick_utf_letters : DataW Unit) = .agg (Rk.tab0.map fun s => .agg [(DataW.lit (.int .i64 s.1) : DataW Unit), (DataW.lit (.int .i64 s.2.1) : DataW Unit), (DataW.lit (.int .i64 s.2.2) : DataW Unit)]) := by kernel_rfl
  have e3 : (xs.map (·.1)) = Rk.tab0.map fun s => .agg [(DataW.lit (.int .i64 s.1) : DataW Unit), (DataW.lit (.int .i64 s.2.1) : DataW Unit), (DataW.lit (.int .i64 s.2.2) : DataW Unit)] := by
    have := (Prod.mk.inj ex).1
    rw [hdat] at this
    exact (DataW.agg.inj this).symm
  have e4 : (xs.map (·.1))[r]? = (Rk.tab0.map fun s => .agg [(DataW.lit (.int .i64 s.1) : DataW Unit), (DataW.lit (.int .i64 s.2.1) : DataW Unit), (DataW.lit (.int .i64 s.2.2) : DataW Unit)])[r]? := by rw [e3]
  rw [List.getElem?_map, List.getElem?_map, List.getElem?_eq_getElem (by omega : r < xs.length), List.getElem?_eq_getElem (by omega : r < Rk.tab0.length)] at e4
  have e5 := Option.some.inj e4
  have eg : Rk.tab0.getD r default = Rk.tab0[r]'(by omega) := by rw [List.getD, List.getElem?_eq_getElem (by omega : r < Rk.tab0.length)]; rfl
  rw [eg]
  generalize Rk.tab0[r]'(by omega) = s at e5 ⊢
  obtain ⟨ys, k, _, ey, _, hyl, hf⟩ := DataW.trod_struct (show Tryd.prog.underlying 167 = some (.struct fs0) by kernel_rfl) hE
  have hyl' : ys.length = 3 := hyl.trans (by kernel_rfl)
  have g0 := hf 0 (fs0.getD 0 default) (by kernel_rfl)
  rw [List.getElem?_eq_getElem (by omega), show (fs0.getD 0 default).offset = 0 by kernel_rfl, show Tryd.prog.cellsOf (fs0.getD 0 default).type = 1 by kernel_rfl] at g0
  obtain ⟨z0, a0, b0, _⟩ := DataW.trod_int (show Tryd.prog.underlying (fs0.getD 0 default).type = some (.int .i64) by kernel_rfl) g0
  have g1 := hf 1 (fs0.getD 1 default) (by kernel_rfl)
  rw [List.getElem?_eq_getElem (by omega), show (fs0.getD 1 default).offset = 1 by kernel_rfl, show Tryd.prog.cellsOf (fs0.getD 1 default).type = 1 by kernel_rfl] at g1
  obtain ⟨z1, a1, b1, _⟩ := DataW.trod_int (show Tryd.prog.underlying (fs0.getD 1 default).type = some (.int .i64) by kernel_rfl) g1
  have g2 := hf 2 (fs0.getD 2 default) (by kernel_rfl)
  rw [List.getElem?_eq_getElem (by omega), show (fs0.getD 2 default).offset = 2 by kernel_rfl, show Tryd.prog.cellsOf (fs0.getD 2 default).type = 1 by kernel_rfl] at g2
  obtain ⟨z2, a2, b2, _⟩ := DataW.trod_int (show Tryd.prog.underlying (fs0.getD 2 default).type = some (.int .i64) by kernel_rfl) g2
  have e6 : ys.map (·.1) = [(DataW.lit (.int .i64 s.1) : DataW Unit), (DataW.lit (.int .i64 s.2.1) : DataW Unit), (DataW.lit (.int .i64 s.2.2) : DataW Unit)] := DataW.agg.inj ((congrArg Prod.fst ey).symm.trans e5)
  have q0 : (ys.map (·.1))[0]? = some (DataW.lit (.int .i64 s.1) : DataW Unit) := by rw [e6]; rfl
  rw [List.getElem?_map, List.getElem?_eq_getElem (by omega), b0] at q0
  simp only [Option.map_some, Option.some.injEq, DataW.lit.injEq, Lit.int.injEq, true_and] at q0
  have q1 : (ys.map (·.1))[1]? = some (DataW.lit (.int .i64 s.2.1) : DataW Unit) := by rw [e6]; rfl
  rw [List.getElem?_map, List.getElem?_eq_getElem (by omega), b1] at q1
  simp only [Option.map_some, Option.some.injEq, DataW.lit.injEq, Lit.int.injEq, true_and] at q1
  have q2 : (ys.map (·.1))[2]? = some (DataW.lit (.int .i64 s.2.2) : DataW Unit) := by rw [e6]; rfl
  rw [List.getElem?_map, List.getElem?_eq_getElem (by omega), b2] at q2
  simp only [Option.map_some, Option.some.injEq, DataW.lit.injEq, Lit.int.injEq, true_and] at q2
  refine ⟨?_, ?_, ?_⟩
  · rw [World.var?_cell hg hv (r * 3 + 0), ← q0]
    have h0 : ((((cs.toList.drop (r * 3)).take 3).drop 0).take 1)[0]? = some (.int .i64 z0) := by rw [a0]; rfl
    rw [List.getElem?_take, List.getElem?_drop, List.getElem?_take, List.getElem?_drop] at h0
    simpa using h0
  · rw [World.var?_cell hg hv (r * 3 + 1), ← q1]
    have h0 : ((((cs.toList.drop (r * 3)).take 3).drop 1).take 1)[0]? = some (.int .i64 z1) := by rw [a1]; rfl
    rw [List.getElem?_take, List.getElem?_drop, List.getElem?_take, List.getElem?_drop] at h0
    simpa using h0
  · rw [World.var?_cell hg hv (r * 3 + 2), ← q2]
    have h0 : ((((cs.toList.drop (r * 3)).take 3).drop 2).take 1)[0]? = some (.int .i64 z2) := by rw [a2]; rfl
    rw [List.getElem?_take, List.getElem?_drop, List.getElem?_take, List.getElem?_drop] at h0
    simpa using h0

/-- The laid table, cell by cell. -/
theorem tab1_cell {W : World} (h : laidMetH Tryd.prog [("rubrick/sha.words", Rows.laid_rubrick_sha_words), ("rubrick/utf.letters", Rows.laid_rubrick_utf_letters)] W) (r : Nat) (hr : r < 64) : W.cell? ⟨1, r * 1 + 0, none⟩ = some (.int .u32 (Rk.tab1.getD r 0)) := by
  rw [MakeChecks.laidMetH_plain _ _ _ (by kernel_rfl)] at h
  obtain ⟨ps, ⟨g, t, cs, fuel, p, q, hg, ht, hv, hd, _, _⟩, _, _⟩ := h
  obtain rfl := Option.some.inj ((show Tryd.prog.globalNamed "rubrick/sha.words" = some 1 by kernel_rfl).symm.trans hg)
  obtain rfl := Option.some.inj ((show (Tryd.prog.globals[1]?).map (·.type) = some 180 by kernel_rfl).symm.trans ht)
  obtain ⟨xs, m, _, ex, _, hl, hel⟩ := DataW.trod_array (show Tryd.prog.underlying 180 = some (.array 64 153) by kernel_rfl) hd
  have c5 : Tryd.prog.cellsOf 153 = 1 := by kernel_rfl
  have hE := hel r hr
  rw [c5, List.getElem?_eq_getElem (by omega)] at hE
  have hlen : Rk.tab1.length = 64 := by kernel_rfl
  have hdat : (Rows.laid_rubrick_sha_words : DataW Unit) = .agg (Rk.tab1.map fun s => (DataW.lit (.int .u32 s) : DataW Unit)) := by kernel_rfl
  have e3 : (xs.map (·.1)) = Rk.tab1.map fun s => (DataW.lit (.int .u32 s) : DataW Unit) := by
    have := (Prod.mk.inj ex).1
    rw [hdat] at this
    exact (DataW.agg.inj this).symm
  have e4 : (xs.map (·.1))[r]? = (Rk.tab1.map fun s => (DataW.lit (.int .u32 s) : DataW Unit))[r]? := by rw [e3]
  rw [List.getElem?_map, List.getElem?_map, List.getElem?_eq_getElem (by omega : r < xs.length), List.getElem?_eq_getElem (by omega : r < Rk.tab1.length)] at e4
  have e5 := Option.some.inj e4
  have eg : Rk.tab1.getD r 0 = Rk.tab1[r]'(by omega) := by rw [List.getD, List.getElem?_eq_getElem (by omega : r < Rk.tab1.length)]; rfl
  rw [eg]
  generalize Rk.tab1[r]'(by omega) = s at e5 ⊢
  obtain ⟨z, e1, e2, _⟩ := DataW.trod_int (show Tryd.prog.underlying 153 = some (.int .u32) by kernel_rfl) hE
  rw [e2] at e5
  have hz : z = s := by
    simp only [DataW.lit.injEq, Lit.int.injEq, true_and] at e5
    exact e5
  rw [World.var?_cell hg hv (r * 1 + 0), ← hz]
  have : cs.toList[r]? = some (.int .u32 z) := by
    have h0 : ((cs.toList.drop (r * 1)).take 1)[0]? = some (.int .u32 z) := by rw [e1]; rfl
    simpa using h0
  simpa using this

theorem tabs_ok {W : World} (h : laidMetH Tryd.prog [("rubrick/sha.words", Rows.laid_rubrick_sha_words), ("rubrick/utf.letters", Rows.laid_rubrick_utf_letters)] W) : Rk.TabsOk Rk.Gn.E (Rk.lawCtx Rk.Gn.E.P W Rk.Gn.tabs) := by
  refine ⟨rfl, fun g u m hg => ?_⟩
  match g, hg with
  | 0, hg =>
    have hq := Option.some.inj ((show Rk.Gn.E.tab 0 = some ((.pair (.int .i64) (.pair (.int .i64) (.int .i64))), 12) from rfl).symm.trans hg)
    obtain ⟨rfl, rfl⟩ := Prod.mk.inj hq
    have hlen : Rk.tab0.length = 12 := by kernel_rfl
    refine ⟨?_, ?_, fun i hi => ?_⟩
    · have h0 := tab0_cell h 0 (by omega)
      show 0 < W.heap.size
      rcases Nat.lt_or_ge 0 W.heap.size with q | q
      · exact q
      · have h1 := h0.1
        simp [World.cell?, Array.getElem?_eq_none q] at h1
    · show Rk.tab0.length = 12
      exact hlen
    · have hi' : i < Rk.tab0.length := hi
      have h0 := tab0_cell h i (by omega)
      have eg : Rk.tab0.getD i default = Rk.tab0[i]'hi' := by rw [List.getD, List.getElem?_eq_getElem hi']; rfl
      rw [eg] at h0
      exact ⟨h0.1, h0.2.1, h0.2.2⟩
  | 1, hg =>
    have hq := Option.some.inj ((show Rk.Gn.E.tab 1 = some ((.int .u32), 64) from rfl).symm.trans hg)
    obtain ⟨rfl, rfl⟩ := Prod.mk.inj hq
    have hlen : Rk.tab1.length = 64 := by kernel_rfl
    refine ⟨?_, ?_, fun i hi => ?_⟩
    · have h0 := tab1_cell h 0 (by omega)
      show 1 < W.heap.size
      rcases Nat.lt_or_ge 1 W.heap.size with q | q
      · exact q
      · have h1 := h0
        simp [World.cell?, Array.getElem?_eq_none q] at h1
    · show Rk.tab1.length = 64
      exact hlen
    · have hi' : i < Rk.tab1.length := hi
      have h0 := tab1_cell h i (by omega)
      have eg : Rk.tab1.getD i 0 = Rk.tab1[i]'hi' := by rw [List.getD, List.getElem?_eq_getElem hi']; rfl
      rw [eg] at h0
      exact h0
  | g + 2, hg => exact absurd hg (by simp [Rk.Gn, Rk.En, Rk.tabT])

theorem law (xs : List Rk.Dyn) (hx : Rk.FitsL [(.lst (.lst (.int .u8))), (.int .i64), (.int .i64)] xs) : ∃ k r, Rk.sem Rk.Gn k 8 0 xs = some r ∧ (r.headD default).get .bool = true := by
  obtain ⟨x0, xs, rfl, w0, hx⟩ := hx.uncons
  obtain ⟨x1, xs, rfl, w1, hx⟩ := hx.uncons
  obtain ⟨x2, xs, rfl, w2, hx⟩ := hx.uncons
  obtain rfl := hx.unnil
  have hh : Rk.law12_SegmBuilds x0 x1 x2 = some true := Rk.L_SegmBuilds x0 x1 x2 w0 w1 w2
  exact Rk.Tω_sem hh

theorem walk (W : World) (hL : laidMetH Tryd.prog Rows.segmBuildsRow.laid W) (args : Array Value) (dss : List (List Rk.Dyn)) (h : Rk.ArgR W (· < W.heap.size) [false, true] [[(.lst (.lst (.int .u8)))], [(.int .i64), (.int .i64)]] args.toList dss) :
    Calls Tryd.prog 8 args W fun e W' => e = .returned (.bool true) ∧ Below W.heap.size W W' := by
  have hw := Rk.law_walk (G := Rk.Gn) extok (f := 8) (gs := [false, true]) (ls := [[(.lst (.lst (.int .u8)))], [(.int .i64), (.int .i64)]]) rfl rfl h (tabs_ok hL) law
  rw [Array.toArray_toList] at hw
  exact hw

theorem lifted (os : Os) (started : os.Started) (H : Type) (enc : TypeId × Value → H) :
    ReturnsInHanded {} Tryd.checked os 8 .any (fun w args => (Rows.segmBuildsSpec.pre enc Tryd.prog Tryd.f8 Rows.segmBuildsRow.domain false w args ∧ laidMetH Tryd.prog Rows.segmBuildsRow.laid w) ∧ sizedMet enc Tryd.prog Tryd.f8 (OpenSpec.ofChange Rows.segmBuildsSpec) false w args) (Rows.segmBuildsSpec.post enc Tryd.prog Tryd.f8 false true false false) := by
  refine returnsInHanded_of_change_and (C := Tryd.checked) (X := fun w _ => laidMetH Tryd.prog Rows.segmBuildsRow.laid w) (fun _ _ _ hh h => h.of_heap hh) own started (by kernel_rfl) Tryd.func8
    (ChangeSpec.witness_shaped (enc := enc) (C := Tryd.checked) (os := os) (X := fun w _ => laidMetH Tryd.prog Rows.segmBuildsRow.laid w) false (World.laidAll Tryd.prog os Rows.segmBuildsRow.laid) #[.slice none 0 0, .agg #[.int .i64 0, .int .i64 0]] 8 (World.laidAll_os _ _ _)
      (World.shaped_of_ZipB (by kernel_rfl) (by kernel_rfl)) (by kernel_rfl) (by kernel_rfl) (by kernel_rfl)
      (by rw [MakeChecks.laidMetH_plain _ _ _ (by kernel_rfl)]; exact laidMet_laidAll _ (by kernel_rfl) (by kernel_rfl))) ?_
  intro W base args ds gs before hval0 hW hcnd _ hL _
  have hval : ∀ (j : Nat) t v, Tryd.f8.params[j]? = some t → args[j]? = some v → Value.okWide Tryd.prog W .any base t v := hval0
  have hW' := hW
  obtain ⟨p, q, hA0, hV, rfl, hfz, hnd⟩ := hW
  have hA : DataW.TrodAll enc Tryd.prog W 0 (fun _ => true) true Tryd.f8.params.toList args.toList ds p := hA0
  obtain ⟨rfl, rfl⟩ := trodVars_none hV
  obtain ⟨dss, hdss⟩ := Rk.args_open (F := 20) Tryd.f8.params.toList [false, true] [[(.lst (.lst (.int .u8)))], [(.int .i64), (.int .i64)]] args.toList ds p base (by kernel_rfl) (by kernel_rfl)
    (fun j t v h1 h2 => hval j t v (by simpa using h1) (by simpa using h2)) hA
  have hlen := Rk.trodAll_len _ _ _ _ hA
  obtain ⟨d0, d1, rfl⟩ : ∃ d0 d1, ds = [d0, d1] := by
    match ds, hlen with
    | [d0, d1], _ => exact ⟨d0, d1, rfl⟩
  clear hA0 hval0
  refine (walk W hL args dss hdss).mono fun e W' ⟨he, bel⟩ => ?_
  subst he
  exact ⟨_, rfl, _, _, _, [], _, [], hW', trodAll_mk1 (shut_bool (by kernel_rfl) _), Rk.trodAll_below laidOut bel _ _ _ _ (by kernel_rfl) hA, rfl, bel.frame _, fun h => by cases h⟩

theorem said : Rows.SegmBuildsSaid :=
  OpenClaim.holds_of_wide 8 Tryd.f8 rfl rfl rfl rfl rfl rfl rfl ⟨rfl, rfl, rfl, rfl, rfl⟩ rfl rfl rfl rfl rfl (by kernel_rfl) Tryd.func8 (by kernel_rfl)
    (of_decide_eq_true (by kernel_rfl)) (by unfold Func.isWrapper; first | (rw [if_pos (by decide +kernel)]; kernel_rfl) | (rw [if_neg (by decide +kernel)]; exact ⟨rfl, rfl⟩))
    (fun os started H enc _ => lifted os started H enc)

/-- The statement. -/
theorem proved : Rows.SegmBuildsCardSaid :=
  Claim7.holds_tied_plain_at .later [] [.data, .data] true (true, "68c0190d0cd6646d1de8471b3061a96c41ac4c70607fbf94c965f387a1ec8074") false said (fun _ h => by cases h) (by kernel_rfl) (fun _ h => by cases h) segmBuilds_row_tie rfl ⟨rfl, rfl⟩ (by kernel_rfl) rfl
    (fun f fn hf hfn => by
      obtain rfl : f = 8 := Option.some.inj ((show Tryd.prog.funcNamed "rubrick/rubricklaw12.SegmBuilds" = some 8 by kernel_rfl).symm.trans hf) |>.symm
      obtain rfl : fn = Tryd.f8 := (Option.some.inj (Tryd.func8.symm.trans hfn)).symm
      exact ⟨by kernel_rfl, fun j t ht => by
        have hall : (Tryd.f8.params.toList.all fun u => !Tryd.prog.wantsStandIn u) = true := by kernel_rfl
        have hm : t ∈ Tryd.f8.params.toList := by simpa using Array.mem_of_getElem? ht
        exact (show Tryd.prog.wantsStandIn t = false by simpa using List.all_eq_true.1 hall t hm)⟩)
    (by kernel_rfl)
#print axioms proved
end Go.Proofs.YtfmdnoljlbfjbaaDoor.segmBuildsDone
