/- ScriptPrints: its tied card: the law returns true, whatever the input. Conditions: none. -/
import Derived.Test.YtnjcmcnjgdjbiaaGreatDoorCards
import Derived.Test.YtnjcmcnjgdjbiaaGreatDoorTie
import Derived.Test.YtnjcmcnjgdjbiaaGreatDoorGlobOf
import Derived.Test.YtnjcmcnjgdjbiaaGreatDoorLaid
import Derived.Test.YtnjcmcnjgdjbiaaGreatDoorPrints
import Derived.Test.YtnjcmcnjgdjbiaaGreatDoorOpenCalls
import Derived.Test.YtnjcmcnjgdjbiaaGreatDoorFactsPrints
import Derived.WalkKit
import Derived.ProofKit
import Derived.OpenShut
import Derived.ChangeMaps5
import Derived.Deep.DeepHandedRow
import Derived.Deep.DeepWitnessRowRef
import Derived.Lib.LaidIn
import Derived.Lib.LaidU8
namespace Go.Proofs.YtnjcmcnjgdjbiaaGreatDoor
open Go.ChangeShapes Go.WideShapes Go.ChangeAt Go.RowKit

set_option maxRecDepth 100000 in
theorem cardPrints_contract (H : Type) (enc : TypeId × Value → H) (W : World) (base : Nat) (args : Array Value) (ds gs : List (DataW H)) (before : List MemPlace)
    (hval : ∀ (j : Nat) t v, Tryz.f9.params[j]? = some t → args[j]? = some v → Value.okWide Tryz.prog W .any base t v)
    (hW : DataW.Whole enc Tryz.prog Tryz.f9.params.toList Rows.scriptPrintsSpec.vars false W args.toList ds gs before) (hR : (DataW.weightsEach Tryz.prog (Tryz.f9.params.toList ++ (OpenSpec.ofChange Rows.scriptPrintsSpec).bare.plain.varTypes Tryz.prog) (ds ++ gs)).all (· ≤ reachBytes) = true) (hL : laidMetH Tryz.prog Rows.scriptPrintsRow.laid W) (hsh : W.ShapedOpen Tryz.prog) :
    Calls Tryz.prog 9 args W fun e W' => ∃ v, e = .returned v ∧ Rows.scriptPrintsSpec.post enc Tryz.prog Tryz.f9 false true false false W args v W' := by
  have hW' := hW
  obtain ⟨p, q, hA0, hV, rfl, hfz, hnd⟩ := hW
  have hA : DataW.TrodAll enc Tryz.prog W 0 (fun _ => true) true Tryz.f9.params.toList args.toList ds p := hA0
  rw [show Tryz.f9.params = #[25] from rfl] at hA hval hR
  obtain ⟨v0, d0, rfl, rfl, h0⟩ := trodAll_one hA
  obtain ⟨rfl, rfl⟩ := trodVars_none hV
  obtain ⟨pa0, n0, ca0, cs0, ds0, rfl, RP0, OK0, hsz0⟩ := open_calls (okWide_slice Tryz.underlying25 (hval 0 25 v0 (by simp) (by simp))) h0
  have hn0 : (n0 + 2) * 72 ≤ 140737488355328 := by
    rcases hsz0 with rfl | ⟨el, sp, rfl, hle⟩
    · omega
    · have h := sized_slice hR (j := 0) rfl rfl Tryz.underlying25
      rw [bytes43] at h
      have h2 := Nat.mul_le_mul_right 72 hle
      have h3 : reachBytes = 140737488351232 := rfl
      omega
  have hlt0 : ∀ x ∈ p, x.block < W.heap.size := fun x hx => hW'.lt x (by simp [hx])
  have walk := prints_ pa0 n0 ca0 cs0 ds0 W (glob_of hL hsh) RP0 OK0 hn0
  refine walk.mono fun e W' ⟨he, T⟩ => ?_
  subst he
  have q0 := Below.trod (jfPrints1) (by kernel_rfl) (of_decide_eq_true (by kernel_rfl)) h0 T.below hlt0
  refine ⟨_, rfl, ?_⟩
  exact ⟨_, _, _, [], _, [], hW', trodAll_cons_mk (shut_bool Tryz.underlying4 _) trodAll_mk0, trodAll_mk1 q0, rfl, T.below.frame _, fun h => by cases h⟩

theorem cardPrints_row (os : Os) {H : Type} (enc : TypeId × Value → H) :
    (OpenSpec.ofChange Rows.scriptPrintsSpec).preRow enc Tryz.prog Tryz.f9 Rows.scriptPrintsRow.domain false Rows.scriptPrintsRow.laid ((laidWorld os).forCall (fun _ _ => 0) ⟨#[], #[.slice none 0 0], []⟩).memory #[.slice none 0 0] := by
  have hw : (DataW.whole enc Tryz.prog ((laidWorld os).forCall (fun _ _ => 0) ⟨#[], #[.slice none 0 0], []⟩).memory Tryz.f9.params.toList Rows.scriptPrintsSpec.vars false (#[.slice none 0 0] : Array Value).toList 8).map (fun x => (x.1, x.2.1)) = some ([.nil], []) := by kernel_rfl
  obtain ⟨⟨x1, x2, x3⟩, hx, hx1⟩ := Option.map_eq_some_iff.1 hw
  simp only [Prod.mk.injEq] at hx1
  obtain ⟨rfl, rfl⟩ := hx1
  exact OpenSpec.preRow_of_cond 8 hx (by kernel_rfl) (fun k hk => by cases hk) (by kernel_rfl) (laid_met os _)

set_option maxRecDepth 100000 in
set_option maxHeartbeats 2000000 in
theorem cardPrints_lifted (os : Os) (started : os.Started) (H : Type) (enc : TypeId × Value → H) (F : Stop.Interp) :
    ReturnsInHanded {} Tryz.checked os 9 .any ((OpenSpec.ofChange Rows.scriptPrintsSpec).preRow enc Tryz.prog Tryz.f9 Rows.scriptPrintsRow.domain false Rows.scriptPrintsRow.laid) (((OpenSpec.ofChange Rows.scriptPrintsSpec).at F).post enc Tryz.prog Tryz.f9 false true false false) := by
  refine returnsInHanded_of_row (C := Tryz.checked) (s := OpenSpec.ofChange Rows.scriptPrintsSpec) own started (by kernel_rfl) Tryz.func9
    (witness_row_atRef (enc := enc) (C := Tryz.checked) false (laidWorld os) #[.slice none 0 0] rfl (by kernel_rfl) (by kernel_rfl) (by kernel_rfl) (cardPrints_row os enc)) ?_
  intro W base args ds gs before hval hW _ _ hR hL hsh _
  exact cardPrints_contract H enc W base args ds gs before hval hW hR hL hsh

theorem jfPrints : joinedFacts Tryz.prog 9 Tryz.f9 (OpenSpec.ofChange Rows.scriptPrintsSpec).bare Rows.scriptPrintsRow = true := by
  unfold joinedFacts
  rw [jfPrints0, jfPrints1, jfPrints2, jfPrints3, jfPrints4, jfPrints5, jfPrints6, jfPrints7, jfPrints8, jfPrints9, jfPrints10, jfPrints11, jfPrints12, jfPrints13, jfPrints14, jfPrints15, jfPrints16, jfPrints17, jfPrints18, jfPrints19, jfPrints20, jfPrints21, jfPrints22, jfPrints23, jfPrints24, jfPrints25, jfPrints26, jfPrints27, jfPrints29, jfPrints30, jfPrints31]
  kernel_rfl



theorem jfPrints_pinned : joinedFacts Tryz.pinned.checked.prog 9 Tryz.f9 (OpenSpec.ofChange Rows.scriptPrintsSpec).bare Rows.scriptPrintsRow = true := by
  rw [prog_pinned]
  exact jfPrints

theorem cardPrints_said : Rows.ScriptPrintsSaid :=
  OpenClaim.holds_of_cond 9 Tryz.f9 rfl rfl rfl rfl rfl rfl rfl ⟨rfl, rfl, rfl, rfl, rfl⟩ rfl rfl rfl rfl rfl (by kernel_rfl) Tryz.func9 jfPrints_pinned
    (of_decide_eq_true (by kernel_rfl)) (by unfold Func.isWrapper; first | (rw [if_pos (by decide +kernel)]; kernel_rfl) | (rw [if_neg (by decide +kernel)]; exact ⟨rfl, rfl⟩))
    (fun os started H enc _ F => by rw [OpenClaim.pre_eq_preRow]; exact cardPrints_lifted os started H enc F)

theorem cardPrints_plain (f : FuncId) (fn : Func) (hf : Tryz.pinned.checked.prog.funcNamed "croft/croftlaw12.ScriptPrints" = some f) (hfn : Tryz.pinned.checked.prog.funcs[f]? = some fn) :
    true = Tryz.pinned.checked.prog.looks [] ∧ ∀ (j : Nat) t, fn.params[j]? = some t → Tryz.pinned.checked.prog.wantsStandIn t = false := by
  obtain rfl : f = 9 := Option.some.inj ((show Tryz.prog.funcNamed "croft/croftlaw12.ScriptPrints" = some 9 by kernel_rfl).symm.trans hf) |>.symm
  obtain rfl : fn = Tryz.f9 := (Option.some.inj (Tryz.func9.symm.trans hfn)).symm
  refine ⟨by kernel_rfl, fun j t ht => ?_⟩
  rw [show Tryz.f9.params = #[25] from rfl] at ht
  match j, ht with
  | 0, ht =>
    obtain rfl : t = 25 := by simpa using ht.symm
    show Tryz.prog.wantsStandIn 25 = false
    kernel_rfl
  | j + 1, ht => simp at ht

theorem scriptPrints_holds : Rows.ScriptPrintsCardSaid :=
  Claim7.holds_tied_plain_at .later [] _ _ _ _ cardPrints_said (fun _ h => by cases h) (by kernel_rfl) (fun _ h => by cases h) scriptPrints_row_tie rfl ⟨rfl, rfl⟩ (by kernel_rfl) rfl cardPrints_plain (by kernel_rfl)

#print axioms scriptPrints_holds

end Go.Proofs.YtnjcmcnjgdjbiaaGreatDoor

