/- For every input the law ReplySteps returns true, and each argument reads behind the call as it read before. No condition. -/
import Derived.Test.YtgofefjfckocbaaDoorRows
import Derived.Test.YtgofefjfckocbaaDoorTie
import Derived.Test.YtgofefjfckocbaaDoorCards
import Derived.WalkKit
import Derived.ProofKit
import Derived.OpenShut
import Derived.LaidMore
import Derived.Lay
import Derived.SevenTiedAt
import Derived.Stop.Joined
import Derived.Test.YtgofefjfckocbaaDoorPu18f
namespace Go.Proofs.YtgofefjfckocbaaDoor.replyStepsDone
open Go.ChangeShapes Go.WideShapes Go.ChangeAt Go.RowKit
set_option linter.unusedVariables false
set_option maxRecDepth 100000

theorem own : ownKnob Tryd.prog.godebug = none := by kernel_rfl
theorem laidOut : laidOutB Tryd.prog = true := by kernel_rfl

/-- The laid table, cell by cell. -/
theorem tab_cell {W : World} (h : laidMetH Tryd.prog [("rubrick/sha.words", Rows.laid_rubrick_sha_words)] W) (r : Nat) (hr : r < 64) : W.cell? ⟨0, r, none⟩ = some (.int .u32 (Rk.tab0.getD r 0)) := by
  rw [MakeChecks.laidMetH_plain _ _ _ (by kernel_rfl)] at h
  obtain ⟨ps, ⟨g, t, cs, fuel, p, q, hg, ht, hv, hd, _, _⟩, _, _⟩ := h
  obtain rfl := Option.some.inj ((show Tryd.prog.globalNamed "rubrick/sha.words" = some 0 by kernel_rfl).symm.trans hg)
  obtain rfl := Option.some.inj ((show (Tryd.prog.globals[0]?).map (·.type) = some 161 by kernel_rfl).symm.trans ht)
  obtain ⟨xs, m, _, ex, _, hl, hel⟩ := DataW.trod_array (show Tryd.prog.underlying 161 = some (.array 64 124) by kernel_rfl) hd
  have c5 : Tryd.prog.cellsOf 124 = 1 := by kernel_rfl
  have hE := hel r hr
  rw [c5, Nat.mul_one, List.getElem?_eq_getElem (by omega)] at hE
  obtain ⟨z, e1, e2, _⟩ := DataW.trod_int (show Tryd.prog.underlying 124 = some (.int .u32) by kernel_rfl) hE
  have hlen : Rk.tab0.length = 64 := by kernel_rfl
  have hdat : (Rows.laid_rubrick_sha_words : DataW Unit) = .agg (Rk.tab0.map fun n => .lit (.int .u32 n)) := by kernel_rfl
  have e3 : (xs.map (·.1)) = Rk.tab0.map fun n => (DataW.lit (.int .u32 n) : DataW Unit) := by
    have := (Prod.mk.inj ex).1
    rw [hdat] at this
    exact (DataW.agg.inj this).symm
  have e4 : (xs.map (·.1))[r]? = (Rk.tab0.map fun n => (DataW.lit (.int .u32 n) : DataW Unit))[r]? := by rw [e3]
  rw [List.getElem?_map, List.getElem?_map, List.getElem?_eq_getElem (by omega : r < xs.length), List.getElem?_eq_getElem (by omega : r < Rk.tab0.length), e2] at e4
  have hz : z = Rk.tab0.getD r 0 := by
    simp only [Option.map_some, Option.some.injEq, DataW.lit.injEq, Lit.int.injEq, true_and] at e4
    rw [e4, List.getD, List.getElem?_eq_getElem (by omega : r < Rk.tab0.length)]; rfl
  rw [World.var?_cell hg hv r, ← hz]
  have : cs.toList[r]? = some (.int .u32 z) := by
    have h0 : ((cs.toList.drop r).take 1)[0]? = some (.int .u32 z) := by rw [e1]; rfl
    simpa using h0
  simpa using this

theorem tabs_ok {W : World} (h : laidMetH Tryd.prog [("rubrick/sha.words", Rows.laid_rubrick_sha_words)] W) : Rk.TabsOk Rk.Gn.E (Rk.lawCtx Rk.Gn.E.P W Rk.Gn.tabs) := by
  refine ⟨rfl, fun g u m hg => ?_⟩
  have hg0 : g = 0 := by
    match g, hg with
    | 0, _ => rfl
    | g + 1, hg => simp [Rk.Gn, Rk.En, Rk.tabT] at hg
  subst hg0
  have hq := Option.some.inj ((show Rk.Gn.E.tab 0 = some ((.int .u32), 64) from rfl).symm.trans hg)
  obtain ⟨rfl, rfl⟩ := Prod.mk.inj hq
  have htab : ((Rk.tabs 0).get (.lst (.int .u32)) : List Int) = Rk.tab0 := rfl
  refine ⟨?_, ?_, fun i hi => ?_⟩
  · have h0 := tab_cell h 0 (by omega)
    show 0 < W.heap.size
    rcases Nat.lt_or_ge 0 W.heap.size with q | q
    · exact q
    · simp [World.cell?, Array.getElem?_eq_none q] at h0
  · show Rk.tab0.length = 64
    kernel_rfl
  · have hlen : Rk.tab0.length = 64 := by kernel_rfl
    have hi' : i < Rk.tab0.length := hi
    have h0 := tab_cell h i (by omega)
    show Rk.cellAt W 0 (i * 1 + 0) = _
    rw [Nat.mul_one, Nat.add_zero]
    refine Eq.trans h0 ?_
    rw [List.getD, List.getElem?_eq_getElem hi']
    rfl

theorem law (xs : List Rk.Dyn) (hx : Rk.FitsL [(.int .i64), .str, (.lst (.pair (.int .i64) (.pair (.int .i64) (.pair (.int .i64) .str)))), (.int .i64), .str, (.lst (.pair (.int .i64) (.pair (.int .i64) (.pair (.int .i64) .str)))), (.lst .str)] xs) : ∃ k r, Rk.sem Rk.Gn k 5 0 xs = some r ∧ (r.headD default).get .bool = true := by
  obtain ⟨x0, xs, rfl, w0, hx⟩ := hx.uncons
  obtain ⟨x1, xs, rfl, w1, hx⟩ := hx.uncons
  obtain ⟨x2, xs, rfl, w2, hx⟩ := hx.uncons
  obtain ⟨x3, xs, rfl, w3, hx⟩ := hx.uncons
  obtain ⟨x4, xs, rfl, w4, hx⟩ := hx.uncons
  obtain ⟨x5, xs, rfl, w5, hx⟩ := hx.uncons
  obtain ⟨x6, xs, rfl, w6, hx⟩ := hx.uncons
  obtain rfl := hx.unnil
  have hh : Rk.law18_ReplySteps x0 x1 x2 x3 x4 x5 x6 = some true := Rk.L_ReplySteps x0 x1 x2 x3 x4 x5 x6 w0 w1 w2 w3 w4 w5 w6
  exact Rk.Tω_sem hh

theorem walk (W : World) (hL : laidMetH Tryd.prog Rows.replyStepsRow.laid W) (args : Array Value) (dss : List (List Rk.Dyn)) (h : Rk.ArgR W (· < W.heap.size) [true] [[(.int .i64), .str, (.lst (.pair (.int .i64) (.pair (.int .i64) (.pair (.int .i64) .str)))), (.int .i64), .str, (.lst (.pair (.int .i64) (.pair (.int .i64) (.pair (.int .i64) .str)))), (.lst .str)]] args.toList dss) :
    Calls Tryd.prog 5 args W fun e W' => e = .returned (.bool true) ∧ Below W.heap.size W W' := by
  have hw := Rk.law_walk (G := Rk.Gn) (fun f i g h => by simp [Rk.Gn] at h) (f := 5) (gs := [true]) (ls := [[(.int .i64), .str, (.lst (.pair (.int .i64) (.pair (.int .i64) (.pair (.int .i64) .str)))), (.int .i64), .str, (.lst (.pair (.int .i64) (.pair (.int .i64) (.pair (.int .i64) .str)))), (.lst .str)]]) rfl rfl h (tabs_ok hL) law
  rw [Array.toArray_toList] at hw
  exact hw

theorem lifted (os : Os) (started : os.Started) (H : Type) (enc : TypeId × Value → H) :
    ReturnsInHanded {} Tryd.checked os 5 .any (fun w args => (Rows.replyStepsSpec.pre enc Tryd.prog Tryd.f5 Rows.replyStepsRow.domain false w args ∧ laidMetH Tryd.prog Rows.replyStepsRow.laid w) ∧ sizedMet enc Tryd.prog Tryd.f5 (OpenSpec.ofChange Rows.replyStepsSpec) false w args) (Rows.replyStepsSpec.post enc Tryd.prog Tryd.f5 false true false false) := by
  refine returnsInHanded_of_change_and (C := Tryd.checked) (X := fun w _ => laidMetH Tryd.prog Rows.replyStepsRow.laid w) (fun _ _ _ hh h => h.of_heap hh) own started (by kernel_rfl) Tryd.func5
    (ChangeSpec.witness_shaped (enc := enc) (C := Tryd.checked) (os := os) (X := fun w _ => laidMetH Tryd.prog Rows.replyStepsRow.laid w) false (World.laidAll Tryd.prog os Rows.replyStepsRow.laid) #[.agg #[.int .i64 0, .string ⟨#[]⟩, .slice none 0 0, .int .i64 0, .string ⟨#[]⟩, .slice none 0 0, .slice none 0 0]] 8 (World.laidAll_os _ _ _)
      (World.shaped_of_ZipB (by kernel_rfl) (by kernel_rfl)) (by kernel_rfl) (by kernel_rfl) (by kernel_rfl)
      (by rw [MakeChecks.laidMetH_plain _ _ _ (by kernel_rfl)]; exact laidMet_laidAll _ (by kernel_rfl) (by kernel_rfl))) ?_
  intro W base args ds gs before hval0 hW hcnd _ hL _
  have hval : ∀ (j : Nat) t v, Tryd.f5.params[j]? = some t → args[j]? = some v → Value.okWide Tryd.prog W .any base t v := hval0
  have hW' := hW
  obtain ⟨p, q, hA0, hV, rfl, hfz, hnd⟩ := hW
  have hA : DataW.TrodAll enc Tryd.prog W 0 (fun _ => true) true Tryd.f5.params.toList args.toList ds p := hA0
  obtain ⟨rfl, rfl⟩ := trodVars_none hV
  obtain ⟨dss, hdss⟩ := Rk.args_open (F := 20) Tryd.f5.params.toList [true] [[(.int .i64), .str, (.lst (.pair (.int .i64) (.pair (.int .i64) (.pair (.int .i64) .str)))), (.int .i64), .str, (.lst (.pair (.int .i64) (.pair (.int .i64) (.pair (.int .i64) .str)))), (.lst .str)]] args.toList ds p base (by kernel_rfl) (by kernel_rfl)
    (fun j t v h1 h2 => hval j t v (by simpa using h1) (by simpa using h2)) hA
  have hlen := Rk.trodAll_len _ _ _ _ hA
  obtain ⟨d0, rfl⟩ : ∃ d0, ds = [d0] := by
    match ds, hlen with
    | [d0], _ => exact ⟨d0, rfl⟩
  clear hA0 hval0
  refine (walk W hL args dss hdss).mono fun e W' ⟨he, bel⟩ => ?_
  subst he
  exact ⟨_, rfl, _, _, _, [], _, [], hW', trodAll_mk1 (shut_bool (by kernel_rfl) _), Rk.trodAll_below laidOut bel _ _ _ _ (by kernel_rfl) hA, rfl, bel.frame _, fun h => by cases h⟩

theorem said : Rows.ReplyStepsSaid :=
  OpenClaim.holds_of_wide 5 Tryd.f5 rfl rfl rfl rfl rfl rfl rfl ⟨rfl, rfl, rfl, rfl, rfl⟩ rfl rfl rfl rfl rfl (by kernel_rfl) Tryd.func5 (by kernel_rfl)
    (of_decide_eq_true (by kernel_rfl)) (by unfold Func.isWrapper; first | (rw [if_pos (by decide +kernel)]; kernel_rfl) | (rw [if_neg (by decide +kernel)]; exact ⟨rfl, rfl⟩))
    (fun os started H enc _ => lifted os started H enc)

/-- The statement. -/
theorem proved : Rows.ReplyStepsCardSaid :=
  Claim7.holds_tied_plain_at .later [] [.data] true (true, "e57c0cbd800b778e21685e285a2a306a4e81270476d92d363587e59b33fde4ab") false said (fun _ h => by cases h) (by kernel_rfl) (fun _ h => by cases h) replySteps_row_tie rfl ⟨rfl, rfl⟩ (by kernel_rfl) rfl
    (fun f fn hf hfn => by
      obtain rfl : f = 5 := Option.some.inj ((show Tryd.prog.funcNamed "rubrick/rubricklaw18.ReplySteps" = some 5 by kernel_rfl).symm.trans hf) |>.symm
      obtain rfl : fn = Tryd.f5 := (Option.some.inj (Tryd.func5.symm.trans hfn)).symm
      exact ⟨by kernel_rfl, fun j t ht => by
        have hall : (Tryd.f5.params.toList.all fun u => !Tryd.prog.wantsStandIn u) = true := by kernel_rfl
        have hm : t ∈ Tryd.f5.params.toList := by simpa using Array.mem_of_getElem? ht
        exact (show Tryd.prog.wantsStandIn t = false by simpa using List.all_eq_true.1 hall t hm)⟩)
    (by kernel_rfl)
#print axioms proved
end Go.Proofs.YtgofefjfckocbaaDoor.replyStepsDone
