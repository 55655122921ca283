/- ScriptCut: its tied card: the law returns true, whatever the input. Conditions: as each theorem states. -/
import Derived.Test.YtnjcmcnjgdjbiaaGreatDoorCards
import Derived.Test.YtnjcmcnjgdjbiaaGreatDoorTie
import Derived.Test.YtnjcmcnjgdjbiaaGreatDoorCutPartAa
import Derived.Test.YtnjcmcnjgdjbiaaGreatDoorCutPartAu
import Derived.Test.YtnjcmcnjgdjbiaaGreatDoorCutPartAv
import Derived.Test.YtnjcmcnjgdjbiaaGreatDoorCutPartAw
import Derived.WalkKit
import Derived.ProofKit
import Derived.OpenShut
import Derived.ChangeMaps5
import Derived.Deep.DeepHandedRow
import Derived.Deep.DeepWitnessRowRef
import Derived.Lib.LaidIn
import Derived.Lib.LaidU8
set_option maxRecDepth 100000
set_option maxHeartbeats 2000000
namespace Go.Proofs.YtnjcmcnjgdjbiaaGreatDoor
open Go.ChangeShapes Go.WideShapes Go.ChangeAt Go.RowKit
theorem cardCut_contract (H : Type) (enc : TypeId × Value → H) (W : World) (base : Nat) (args : Array Value) (ds gs : List (DataW H)) (before : List MemPlace)
  (hval : ∀ (j : Nat) t v, Tryz.f7.params[j]? = some t → args[j]? = some v → Value.okWide Tryz.prog W .any base t v)
  (hW : DataW.Whole enc Tryz.prog Tryz.f7.params.toList Rows.scriptCutSpec.vars false W args.toList ds gs before) (hR : (DataW.weightsEach Tryz.prog (Tryz.f7.params.toList ++ (OpenSpec.ofChange Rows.scriptCutSpec).bare.plain.varTypes Tryz.prog) (ds ++ gs)).all (· ≤ reachBytes) = true) (hL : laidMetH Tryz.prog Rows.scriptCutRow.laid W) (hsh : W.ShapedOpen Tryz.prog) :
  Calls Tryz.prog 7 args W fun e W' => ∃ v, e = .returned v ∧ Rows.scriptCutSpec.post enc Tryz.prog Tryz.f7 false true false false W args v W' := by
 have hW' := hW
 obtain ⟨p, q, hA0, hV, rfl, hfz, hnd⟩ := hW
 have hA : DataW.TrodAll enc Tryz.prog W 0 (fun _ => true) true Tryz.f7.params.toList args.toList ds p := hA0
 rw [show Tryz.f7.params = #[48, 25] from rfl] at hA hval hR
 obtain ⟨v0, v1, d0, d1, p0, p1, rfl, rfl, rfl, h0, h1⟩ := trodAll_two hA
 obtain ⟨rfl, rfl⟩ := trodVars_none hV
 obtain ⟨base0, limit0, order0, pa0, n0, ca0, cs0, ds0, rfl, hb0, H0, hsz0⟩ := open_script (by have hv := hval 0 48 v0 (by simp) (by simp); unfold Value.okWide at hv; rw [Tryz.underlying48] at hv; obtain ⟨cs, h1, h2, _⟩ := hv; exact ⟨cs, h1, by rw [h2]; exact cellsS.1⟩) h0
 have hn0 : n0 ≤ 140737488355328 := by
  rcases hsz0 with rfl | ⟨d0, el, sp, rfl, hle⟩
  ·omega
  ·exact small_rows hle (sized_script hR (j := 0) rfl rfl)
 have hlt0 : ∀ x ∈ p0, x.block < W.heap.size := fun x hx => hW'.lt x (by simp [hx])
 obtain ⟨pa1, n1, ca1, cs1, ds1, rfl, H1, hsz1⟩ := open_hslice (okWide_slice Tryz.underlying25 (hval 1 25 v1 (by simp) (by simp))) h1
 have hn1 : n1 ≤ 140737488355328 := by
  rcases hsz1 with rfl | ⟨el, sp, rfl, hle⟩
  ·omega
  ·have h := sized_slice hR (j := 1) rfl rfl Tryz.underlying25
   rw [bytesC] at h
   exact small_rows hle h
 have hlt1 : ∀ x ∈ p1, x.block < W.heap.size := fun x hx => hW'.lt x (by simp [hx])
 have walk := scut_ base0 limit0 order0 pa0 n0 ca0 cs0 ds0 pa1 n1 ca1 cs1 ds1 W (glob_of hL hsh) hb0 H0 H1 hn0 hn1
 refine walk.mono fun e W' ⟨he, T⟩ => ?_
 subst he
 have q0 := Below.trod (jfCut1) (by kernel_rfl) (of_decide_eq_true (by kernel_rfl)) h0 T.below hlt0
 have q1 := Below.trod (jfCut1) (by kernel_rfl) (of_decide_eq_true (by kernel_rfl)) h1 T.below hlt1
 refine ⟨_, rfl, ?_⟩
 exact ⟨_, _, _, [], _, [], hW', trodAll_cons_mk (shut_bool Tryz.underlying4 _) trodAll_mk0, trodAll_mk2 q0 q1, rfl, T.below.frame _, fun h => by cases h⟩
theorem cardCut_row (os : Os) {H : Type} (enc : TypeId × Value → H) :
  (OpenSpec.ofChange Rows.scriptCutSpec).preRow enc Tryz.prog Tryz.f7 Rows.scriptCutRow.domain false Rows.scriptCutRow.laid ((laidWorld os).forCall (fun _ _ => 0) ⟨#[], #[.agg #[.int .u64 0, .int .i64 0, .int .i64 0, .slice none 0 0], .slice none 0 0], []⟩).memory #[.agg #[.int .u64 0, .int .i64 0, .int .i64 0, .slice none 0 0], .slice none 0 0] := by
 have hw : (DataW.whole enc Tryz.prog ((laidWorld os).forCall (fun _ _ => 0) ⟨#[], #[.agg #[.int .u64 0, .int .i64 0, .int .i64 0, .slice none 0 0], .slice none 0 0], []⟩).memory Tryz.f7.params.toList Rows.scriptCutSpec.vars false (#[.agg #[.int .u64 0, .int .i64 0, .int .i64 0, .slice none 0 0], .slice none 0 0] : Array Value).toList 8).map (fun x => (x.1, x.2.1)) = some ([.agg [.agg [.lit (.int .u64 0), .lit (.int .i64 0), .lit (.int .i64 0)], .nil], .nil], []) := by kernel_rfl
 obtain ⟨⟨x1, x2, x3⟩, hx, hx1⟩ := Option.map_eq_some_iff.1 hw
 simp only [Prod.mk.injEq] at hx1
 obtain ⟨rfl, rfl⟩ := hx1
 exact OpenSpec.preRow_of_cond 8 hx (by kernel_rfl) (fun k hk => by cases hk) (by kernel_rfl) (laid_met os _)
theorem cardCut_lifted (os : Os) (started : os.Started) (H : Type) (enc : TypeId × Value → H) (F : Stop.Interp) :
  ReturnsInHanded {} Tryz.checked os 7 .any ((OpenSpec.ofChange Rows.scriptCutSpec).preRow enc Tryz.prog Tryz.f7 Rows.scriptCutRow.domain false Rows.scriptCutRow.laid) (((OpenSpec.ofChange Rows.scriptCutSpec).at F).post enc Tryz.prog Tryz.f7 false true false false) := by
 refine returnsInHanded_of_row (C := Tryz.checked) (s := OpenSpec.ofChange Rows.scriptCutSpec) own started (by kernel_rfl) Tryz.func7
  (witness_row_atRef (enc := enc) (C := Tryz.checked) false (laidWorld os) #[.agg #[.int .u64 0, .int .i64 0, .int .i64 0, .slice none 0 0], .slice none 0 0] rfl (by kernel_rfl) (by kernel_rfl) (by kernel_rfl) (cardCut_row os enc)) ?_
 intro W base args ds gs before hval hW _ _ hR hL hsh _
 exact cardCut_contract H enc W base args ds gs before hval hW hR hL hsh
theorem jfCut : joinedFacts Tryz.prog 7 Tryz.f7 (OpenSpec.ofChange Rows.scriptCutSpec).bare Rows.scriptCutRow = true := by
 unfold joinedFacts
 rw [jfCut0, jfCut1, jfCut2, jfCut3, jfCut4, jfCut5, jfCut6, jfCut7, jfCut8, jfCut9, jfCut10, jfCut11, jfCut12, jfCut13, jfCut14, jfCut15, jfCut16, jfCut17, jfCut18, jfCut19, jfCut20, jfCut21, jfCut22, jfCut23, jfCut24, jfCut25, jfCut26, jfCut27, jfCut29, jfCut30, jfCut31]
 kernel_rfl
theorem jfCut_pinned : joinedFacts Tryz.pinned.checked.prog 7 Tryz.f7 (OpenSpec.ofChange Rows.scriptCutSpec).bare Rows.scriptCutRow = true := by
 rw [prog_pinned]
 exact jfCut
theorem cardCut_said : Rows.ScriptCutSaid :=
 OpenClaim.holds_of_cond 7 Tryz.f7 rfl rfl rfl rfl rfl rfl rfl ⟨rfl, rfl, rfl, rfl, rfl⟩ rfl rfl rfl rfl rfl (by kernel_rfl) Tryz.func7 jfCut_pinned
  (of_decide_eq_true (by kernel_rfl)) (by unfold Func.isWrapper; first | (rw [if_pos (by decide +kernel)]; kernel_rfl) | (rw [if_neg (by decide +kernel)]; exact ⟨rfl, rfl⟩))
  (fun os started H enc _ F => by rw [OpenClaim.pre_eq_preRow]; exact cardCut_lifted os started H enc F)
theorem cardCut_plain (f : FuncId) (fn : Func) (hf : Tryz.pinned.checked.prog.funcNamed "croft/croftlaw12.ScriptCut" = some f) (hfn : Tryz.pinned.checked.prog.funcs[f]? = some fn) :
  true = Tryz.pinned.checked.prog.looks [] ∧ ∀ (j : Nat) t, fn.params[j]? = some t → Tryz.pinned.checked.prog.wantsStandIn t = false := by
 obtain rfl : f = 7 := Option.some.inj ((show Tryz.prog.funcNamed "croft/croftlaw12.ScriptCut" = some 7 by kernel_rfl).symm.trans hf) |>.symm
 obtain rfl : fn = Tryz.f7 := (Option.some.inj (Tryz.func7.symm.trans hfn)).symm
 refine ⟨by kernel_rfl, fun j t ht => ?_⟩
 rw [show Tryz.f7.params = #[48, 25] from rfl] at ht
 match j, ht with
 | 0, ht =>
  obtain rfl : t = 48 := by simpa using ht.symm
  show Tryz.prog.wantsStandIn 48 = false
  kernel_rfl
 | 1, ht =>
  obtain rfl : t = 25 := by simpa using ht.symm
  show Tryz.prog.wantsStandIn 25 = false
  kernel_rfl
 | j + 2, ht => simp at ht
theorem scriptCut_holds : Rows.ScriptCutCardSaid :=
 Claim7.holds_tied_plain_at .later [] _ _ _ _ cardCut_said (fun _ h => by cases h) (by kernel_rfl) (fun _ h => by cases h) scriptCut_row_tie rfl ⟨rfl, rfl⟩ (by kernel_rfl) rfl cardCut_plain (by kernel_rfl)
#print axioms scriptCut_holds
end Go.Proofs.YtnjcmcnjgdjbiaaGreatDoor
