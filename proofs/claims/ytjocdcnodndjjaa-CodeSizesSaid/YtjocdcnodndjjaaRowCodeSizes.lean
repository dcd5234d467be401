/- For every input the law CodeSizes returns true, and each argument reads behind the call as it read before. No condition. -/
import Derived.Test.YtjocdcnodndjjaaRows
import Derived.WalkKit
import Derived.ProofKit
import Derived.OpenShut
import Derived.Test.YtjocdcnodndjjaaPu02c
namespace Go.Proofs.Ytjocdcnodndjjaa.codeSizesDone
open Go.ChangeShapes Go.WideShapes Go.ChangeAt Go.RowKit
set_option linter.unusedVariables false

theorem own : ownKnob Try.prog.godebug = none := by kernel_rfl
theorem laidOut : laidOutB Try.prog = true := by kernel_rfl

theorem law (xs : List Rk.Dyn) (hx : Rk.FitsL [(.int .i64), (.int .i64)] xs) : ∃ k r, Rk.sem Rk.Gn k 3 0 xs = some r ∧ (r.headD default).get .bool = true := by
  obtain ⟨x0, xs, rfl, w0, hx⟩ := hx.uncons
  obtain ⟨x1, xs, rfl, w1, hx⟩ := hx.uncons
  obtain rfl := hx.unnil
  have hh : Rk.law02_CodeSizes x0 x1 = some true := Rk.L_CodeSizes x0 x1 w0 w1
  exact Rk.Tω_sem hh

theorem walk (W : World) (args : Array Value) (dss : List (List Rk.Dyn)) (h : Rk.ArgR W (· < W.heap.size) [false, false] [[(.int .i64)], [(.int .i64)]] args.toList dss) :
    Calls Try.prog 3 args W fun e W' => e = .returned (.bool true) ∧ Below W.heap.size W W' := by
  have hw := Rk.law_walk (G := Rk.Gn) (fun f i g h => by simp [Rk.Gn] at h) (f := 3) (gs := [false, false]) (ls := [[(.int .i64)], [(.int .i64)]]) rfl rfl h ⟨rfl, fun g u m h => by simp [Rk.Gn, Rk.En] at h⟩ law
  rw [Array.toArray_toList] at hw
  exact hw

set_option maxRecDepth 100000 in
theorem lifted (os : Os) (started : os.Started) (H : Type) (enc : TypeId × Value → H) :
    ReturnsInHanded {} Try.checked os 3 .any (Rows.codeSizesSpec.pre6 enc Try.prog Try.f3 Rows.codeSizesRow.domain false) (Rows.codeSizesSpec.post enc Try.prog Try.f3 false true false false) := by
  refine returnsInHanded_of_change (C := Try.checked) own started (by kernel_rfl) Try.func3
    (ChangeSpec.witness6 (enc := enc) (C := Try.checked) false ⟨#[], #[.int .i64 0, .int .i64 0], []⟩ 8 (by kernel_rfl) (by kernel_rfl) (by kernel_rfl) (by kernel_rfl)) ?_
  intro W base args ds gs before hval0 hW hcnd _
  have hval : ∀ (j : Nat) t v, Try.f3.params[j]? = some t → args[j]? = some v → Value.okWide Try.prog W .any base t v := hval0
  have hW' := hW
  obtain ⟨p, q, hA0, hV, rfl, hfz, hnd⟩ := hW
  have hA : DataW.TrodAll enc Try.prog W 0 (fun _ => true) true Try.f3.params.toList args.toList ds p := hA0
  obtain ⟨rfl, rfl⟩ := trodVars_none hV
  obtain ⟨dss, hdss⟩ := Rk.args_open (F := 20) Try.f3.params.toList [false, false] [[(.int .i64)], [(.int .i64)]] args.toList ds p base (by kernel_rfl) (by kernel_rfl)
    (fun j t v h1 h2 => hval j t v (by simpa using h1) (by simpa using h2)) hA
  have hlen := Rk.trodAll_len _ _ _ _ hA
  obtain ⟨d0, d1, rfl⟩ : ∃ d0 d1, ds = [d0, d1] := by
    match ds, hlen with
    | [d0, d1], _ => exact ⟨d0, d1, rfl⟩
  clear hA0 hval0
  refine (walk W args dss hdss).mono fun e W' ⟨he, bel⟩ => ?_
  subst he
  exact ⟨_, rfl, _, _, _, [], _, [], hW', trodAll_mk1 (shut_bool (by kernel_rfl) _), Rk.trodAll_below laidOut bel _ _ _ _ (by kernel_rfl) hA, rfl, bel.frame _, fun h => by cases h⟩

/-- The statement. -/
theorem proved : Rows.CodeSizesSaid :=
  OpenClaim.holds_of_wide 3 Try.f3 rfl rfl rfl rfl rfl rfl rfl ⟨rfl, rfl, rfl, rfl, rfl⟩ rfl rfl rfl rfl rfl (by kernel_rfl) Try.func3 (by kernel_rfl)
    (of_decide_eq_true (by kernel_rfl)) (by unfold Func.isWrapper; first | (rw [if_pos (by decide +kernel)]; kernel_rfl) | (rw [if_neg (by decide +kernel)]; exact ⟨rfl, rfl⟩))
    (fun os started H enc _ => lifted os started H enc)
#print axioms proved
end Go.Proofs.Ytjocdcnodndjjaa.codeSizesDone
