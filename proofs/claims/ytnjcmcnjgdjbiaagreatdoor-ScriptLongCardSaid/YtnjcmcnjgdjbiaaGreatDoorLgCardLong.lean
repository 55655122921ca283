/- ScriptLong: its tied card: the law returns true, whatever the input. Conditions: none. -/
import Derived.Test.YtnjcmcnjgdjbiaaGreatDoorCards
import Derived.Test.YtnjcmcnjgdjbiaaGreatDoorTie
import Derived.Test.YtnjcmcnjgdjbiaaGreatDoorLgGlobOf
import Derived.Test.YtnjcmcnjgdjbiaaGreatDoorLgLaid
import Derived.Test.YtnjcmcnjgdjbiaaGreatDoorLgLong
import Derived.Test.YtnjcmcnjgdjbiaaGreatDoorLgFactsLong
import Derived.WalkKit
import Derived.ProofKit
import Derived.OpenShut
import Derived.ChangeMaps5
import Derived.Deep.DeepHandedRow
import Derived.Deep.DeepWitnessRowRef
import Derived.Lib.LaidIn
import Derived.Lib.LaidU8
namespace Go.Proofs.YtnjcmcnjgdjbiaaGreatDoor
open Go.ChangeShapes Go.WideShapes Go.ChangeAt Go.RowKit

set_option maxRecDepth 100000 in
theorem cardLong_contract (H : Type) (enc : TypeId × Value → H) (W : World) (base : Nat) (args : Array Value) (ds gs : List (DataW H)) (before : List MemPlace)
    (hval : ∀ (j : Nat) t v, Tryz.f6.params[j]? = some t → args[j]? = some v → Value.okWide Tryz.prog W .any base t v)
    (hW : DataW.Whole enc Tryz.prog Tryz.f6.params.toList Rows.scriptLongSpec.vars false W args.toList ds gs before) (hR : (DataW.weightsEach Tryz.prog (Tryz.f6.params.toList ++ (OpenSpec.ofChange Rows.scriptLongSpec).bare.plain.varTypes Tryz.prog) (ds ++ gs)).all (· ≤ reachBytes) = true) (hL : laidMetH Tryz.prog Rows.scriptLongRow.laid W) (hsh : W.ShapedOpen Tryz.prog) :
    Calls Tryz.prog 6 args W fun e W' => ∃ v, e = .returned v ∧ Rows.scriptLongSpec.post enc Tryz.prog Tryz.f6 false true false false W args v W' := by
  have hW' := hW
  obtain ⟨p, q, hA0, hV, rfl, hfz, hnd⟩ := hW
  have hA : DataW.TrodAll enc Tryz.prog W 0 (fun _ => true) true Tryz.f6.params.toList args.toList ds p := hA0
  rw [show Tryz.f6.params = #[3] from rfl] at hA hval hR
  obtain ⟨v0, d0, rfl, rfl, h0⟩ := trodAll_one hA
  obtain ⟨rfl, rfl⟩ := trodVars_none hV
  obtain ⟨n0, rfl, rfl, rfl, wi0⟩ := open_int Tryz.underlying3 (hval 0 3 v0 (by simp) (by simp)) h0
  have walk := long_ n0 W (glob_of hL hsh)
  refine walk.mono fun e W' ⟨he, T⟩ => ?_
  subst he
  refine ⟨_, rfl, ?_⟩
  exact ⟨_, _, _, [], _, [], hW', trodAll_cons_mk (shut_bool Tryz.underlying4 _) trodAll_mk0, trodAll_mk1 (shut_int Tryz.underlying3 wi0), rfl, T.below.frame _, fun h => by cases h⟩

theorem cardLong_row (os : Os) {H : Type} (enc : TypeId × Value → H) :
    (OpenSpec.ofChange Rows.scriptLongSpec).preRow enc Tryz.prog Tryz.f6 Rows.scriptLongRow.domain false Rows.scriptLongRow.laid ((laidWorld os).forCall (fun _ _ => 0) ⟨#[], #[.int .i64 0], []⟩).memory #[.int .i64 0] := by
  have hw : (DataW.whole enc Tryz.prog ((laidWorld os).forCall (fun _ _ => 0) ⟨#[], #[.int .i64 0], []⟩).memory Tryz.f6.params.toList Rows.scriptLongSpec.vars false (#[.int .i64 0] : Array Value).toList 8).map (fun x => (x.1, x.2.1)) = some ([.lit (.int .i64 0)], []) := by kernel_rfl
  obtain ⟨⟨x1, x2, x3⟩, hx, hx1⟩ := Option.map_eq_some_iff.1 hw
  simp only [Prod.mk.injEq] at hx1
  obtain ⟨rfl, rfl⟩ := hx1
  exact OpenSpec.preRow_of_cond 8 hx (by kernel_rfl) (fun k hk => by cases hk) (by kernel_rfl) (laid_met os _)

set_option maxRecDepth 100000 in
set_option maxHeartbeats 2000000 in
theorem cardLong_lifted (os : Os) (started : os.Started) (H : Type) (enc : TypeId × Value → H) (F : Stop.Interp) :
    ReturnsInHanded {} Tryz.checked os 6 .any ((OpenSpec.ofChange Rows.scriptLongSpec).preRow enc Tryz.prog Tryz.f6 Rows.scriptLongRow.domain false Rows.scriptLongRow.laid) (((OpenSpec.ofChange Rows.scriptLongSpec).at F).post enc Tryz.prog Tryz.f6 false true false false) := by
  refine returnsInHanded_of_row (C := Tryz.checked) (s := OpenSpec.ofChange Rows.scriptLongSpec) own started (by kernel_rfl) Tryz.func6
    (witness_row_atRef (enc := enc) (C := Tryz.checked) false (laidWorld os) #[.int .i64 0] rfl (by kernel_rfl) (by kernel_rfl) (by kernel_rfl) (cardLong_row os enc)) ?_
  intro W base args ds gs before hval hW _ _ hR hL hsh _
  exact cardLong_contract H enc W base args ds gs before hval hW hR hL hsh

theorem jfLong : joinedFacts Tryz.prog 6 Tryz.f6 (OpenSpec.ofChange Rows.scriptLongSpec).bare Rows.scriptLongRow = true := by
  unfold joinedFacts
  rw [jfLong0, jfLong1, jfLong2, jfLong3, jfLong4, jfLong5, jfLong6, jfLong7, jfLong8, jfLong9, jfLong10, jfLong11, jfLong12, jfLong13, jfLong14, jfLong15, jfLong16, jfLong17, jfLong18, jfLong19, jfLong20, jfLong21, jfLong22, jfLong23, jfLong24, jfLong25, jfLong26, jfLong27, jfLong29, jfLong30, jfLong31]
  kernel_rfl



theorem jfLong_pinned : joinedFacts Tryz.pinned.checked.prog 6 Tryz.f6 (OpenSpec.ofChange Rows.scriptLongSpec).bare Rows.scriptLongRow = true := by
  rw [prog_pinned]
  exact jfLong

theorem cardLong_said : Rows.ScriptLongSaid :=
  OpenClaim.holds_of_cond 6 Tryz.f6 rfl rfl rfl rfl rfl rfl rfl ⟨rfl, rfl, rfl, rfl, rfl⟩ rfl rfl rfl rfl rfl (by kernel_rfl) Tryz.func6 jfLong_pinned
    (of_decide_eq_true (by kernel_rfl)) (by unfold Func.isWrapper; first | (rw [if_pos (by decide +kernel)]; kernel_rfl) | (rw [if_neg (by decide +kernel)]; exact ⟨rfl, rfl⟩))
    (fun os started H enc _ F => by rw [OpenClaim.pre_eq_preRow]; exact cardLong_lifted os started H enc F)

theorem cardLong_plain (f : FuncId) (fn : Func) (hf : Tryz.pinned.checked.prog.funcNamed "croft/croftlaw12.ScriptLong" = some f) (hfn : Tryz.pinned.checked.prog.funcs[f]? = some fn) :
    true = Tryz.pinned.checked.prog.looks [] ∧ ∀ (j : Nat) t, fn.params[j]? = some t → Tryz.pinned.checked.prog.wantsStandIn t = false := by
  obtain rfl : f = 6 := Option.some.inj ((show Tryz.prog.funcNamed "croft/croftlaw12.ScriptLong" = some 6 by kernel_rfl).symm.trans hf) |>.symm
  obtain rfl : fn = Tryz.f6 := (Option.some.inj (Tryz.func6.symm.trans hfn)).symm
  refine ⟨by kernel_rfl, fun j t ht => ?_⟩
  rw [show Tryz.f6.params = #[3] from rfl] at ht
  match j, ht with
  | 0, ht =>
    obtain rfl : t = 3 := by simpa using ht.symm
    show Tryz.prog.wantsStandIn 3 = false
    kernel_rfl
  | j + 1, ht => simp at ht

theorem scriptLong_holds : Rows.ScriptLongCardSaid :=
  Claim7.holds_tied_plain_at .later [] _ _ _ _ cardLong_said (fun _ h => by cases h) (by kernel_rfl) (fun _ h => by cases h) scriptLong_row_tie rfl ⟨rfl, rfl⟩ (by kernel_rfl) rfl cardLong_plain (by kernel_rfl)

#print axioms scriptLong_holds

end Go.Proofs.YtnjcmcnjgdjbiaaGreatDoor

