/- ScriptReturns: its tied card: the law returns true, whatever the input. Conditions: none. -/
import Derived.Test.YtnjcmcnjgdjbiaaGreatDoorCards
import Derived.Test.YtnjcmcnjgdjbiaaGreatDoorTie
import Derived.Test.YtnjcmcnjgdjbiaaGreatDoorGlobOf
import Derived.Test.YtnjcmcnjgdjbiaaGreatDoorLaid
import Derived.Test.YtnjcmcnjgdjbiaaGreatDoorReturns
import Derived.Test.YtnjcmcnjgdjbiaaGreatDoorOpenCalls
import Derived.Test.YtnjcmcnjgdjbiaaGreatDoorFactsReturns
import Derived.WalkKit
import Derived.ProofKit
import Derived.OpenShut
import Derived.ChangeMaps5
import Derived.Deep.DeepHandedRow
import Derived.Deep.DeepWitnessRowRef
import Derived.Lib.LaidIn
import Derived.Lib.LaidU8
namespace Go.Proofs.YtnjcmcnjgdjbiaaGreatDoor
open Go.ChangeShapes Go.WideShapes Go.ChangeAt Go.RowKit

set_option maxRecDepth 100000 in
theorem cardReturns_contract (H : Type) (enc : TypeId × Value → H) (W : World) (base : Nat) (args : Array Value) (ds gs : List (DataW H)) (before : List MemPlace)
    (hval : ∀ (j : Nat) t v, Tryz.f10.params[j]? = some t → args[j]? = some v → Value.okWide Tryz.prog W .any base t v)
    (hW : DataW.Whole enc Tryz.prog Tryz.f10.params.toList Rows.scriptReturnsSpec.vars false W args.toList ds gs before) (hR : (DataW.weightsEach Tryz.prog (Tryz.f10.params.toList ++ (OpenSpec.ofChange Rows.scriptReturnsSpec).bare.plain.varTypes Tryz.prog) (ds ++ gs)).all (· ≤ reachBytes) = true) (hL : laidMetH Tryz.prog Rows.scriptReturnsRow.laid W) (hsh : W.ShapedOpen Tryz.prog) :
    Calls Tryz.prog 10 args W fun e W' => ∃ v, e = .returned v ∧ Rows.scriptReturnsSpec.post enc Tryz.prog Tryz.f10 false true false false W args v W' := by
  have hW' := hW
  obtain ⟨p, q, hA0, hV, rfl, hfz, hnd⟩ := hW
  have hA : DataW.TrodAll enc Tryz.prog W 0 (fun _ => true) true Tryz.f10.params.toList args.toList ds p := hA0
  rw [show Tryz.f10.params = #[25, 9] from rfl] at hA hval hR
  obtain ⟨v0, v1, d0, d1, p0, p1, rfl, rfl, rfl, h0, h1⟩ := trodAll_two hA
  obtain ⟨rfl, rfl⟩ := trodVars_none hV
  obtain ⟨pa0, n0, ca0, cs0, ds0, rfl, RP0, OK0, hsz0⟩ := open_calls (okWide_slice Tryz.underlying25 (hval 0 25 v0 (by simp) (by simp))) h0
  have hn0 : (n0 + 2) * 72 ≤ 140737488355328 := by
    rcases hsz0 with rfl | ⟨el, sp, rfl, hle⟩
    · omega
    · have h := sized_slice hR (j := 0) rfl rfl Tryz.underlying25
      rw [bytes43] at h
      have h2 := Nat.mul_le_mul_right 72 hle
      have h3 : reachBytes = 140737488351232 := rfl
      omega
  have hlt0 : ∀ x ∈ p0, x.block < W.heap.size := fun x hx => hW'.lt x (by simp [hx])
  obtain ⟨s1, rfl, rfl, rfl, ws1⟩ := Go.ChangeMaps.open_string Tryz.underlying9 (hval 1 9 v1 (by simp) (by simp)) h1
  have hs1 := sized_string hR (j := 1) rfl rfl
  rw [Array.length_toList] at hs1
  have hz1 : s1.size ≤ 140737488355328 := Nat.le_trans hs1 (by decide)
  have walk := returns_ pa0 n0 ca0 cs0 ds0 s1 W (glob_of hL hsh) RP0 OK0 hn0 hz1
  refine walk.mono fun e W' ⟨he, T⟩ => ?_
  subst he
  have q0 := Below.trod (jfReturns1) (by kernel_rfl) (of_decide_eq_true (by kernel_rfl)) h0 T.below hlt0
  refine ⟨_, rfl, ?_⟩
  exact ⟨_, _, _, [], _, [], hW', trodAll_cons_mk (shut_bool Tryz.underlying4 _) trodAll_mk0, trodAll_mk2 q0 (Go.ChangeMaps.shut_string Tryz.underlying9 ws1), rfl, T.below.frame _, fun h => by cases h⟩

theorem cardReturns_row (os : Os) {H : Type} (enc : TypeId × Value → H) :
    (OpenSpec.ofChange Rows.scriptReturnsSpec).preRow enc Tryz.prog Tryz.f10 Rows.scriptReturnsRow.domain false Rows.scriptReturnsRow.laid ((laidWorld os).forCall (fun _ _ => 0) ⟨#[], #[.slice none 0 0, .string ⟨#[]⟩], []⟩).memory #[.slice none 0 0, .string ⟨#[]⟩] := by
  have hw : (DataW.whole enc Tryz.prog ((laidWorld os).forCall (fun _ _ => 0) ⟨#[], #[.slice none 0 0, .string ⟨#[]⟩], []⟩).memory Tryz.f10.params.toList Rows.scriptReturnsSpec.vars false (#[.slice none 0 0, .string ⟨#[]⟩] : Array Value).toList 8).map (fun x => (x.1, x.2.1)) = some ([.nil, .lit (.string [])], []) := by kernel_rfl
  obtain ⟨⟨x1, x2, x3⟩, hx, hx1⟩ := Option.map_eq_some_iff.1 hw
  simp only [Prod.mk.injEq] at hx1
  obtain ⟨rfl, rfl⟩ := hx1
  exact OpenSpec.preRow_of_cond 8 hx (by kernel_rfl) (fun k hk => by cases hk) (by kernel_rfl) (laid_met os _)

set_option maxRecDepth 100000 in
set_option maxHeartbeats 2000000 in
theorem cardReturns_lifted (os : Os) (started : os.Started) (H : Type) (enc : TypeId × Value → H) (F : Stop.Interp) :
    ReturnsInHanded {} Tryz.checked os 10 .any ((OpenSpec.ofChange Rows.scriptReturnsSpec).preRow enc Tryz.prog Tryz.f10 Rows.scriptReturnsRow.domain false Rows.scriptReturnsRow.laid) (((OpenSpec.ofChange Rows.scriptReturnsSpec).at F).post enc Tryz.prog Tryz.f10 false true false false) := by
  refine returnsInHanded_of_row (C := Tryz.checked) (s := OpenSpec.ofChange Rows.scriptReturnsSpec) own started (by kernel_rfl) Tryz.func10
    (witness_row_atRef (enc := enc) (C := Tryz.checked) false (laidWorld os) #[.slice none 0 0, .string ⟨#[]⟩] rfl (by kernel_rfl) (by kernel_rfl) (by kernel_rfl) (cardReturns_row os enc)) ?_
  intro W base args ds gs before hval hW _ _ hR hL hsh _
  exact cardReturns_contract H enc W base args ds gs before hval hW hR hL hsh

theorem jfReturns : joinedFacts Tryz.prog 10 Tryz.f10 (OpenSpec.ofChange Rows.scriptReturnsSpec).bare Rows.scriptReturnsRow = true := by
  unfold joinedFacts
  rw [jfReturns0, jfReturns1, jfReturns2, jfReturns3, jfReturns4, jfReturns5, jfReturns6, jfReturns7, jfReturns8, jfReturns9, jfReturns10, jfReturns11, jfReturns12, jfReturns13, jfReturns14, jfReturns15, jfReturns16, jfReturns17, jfReturns18, jfReturns19, jfReturns20, jfReturns21, jfReturns22, jfReturns23, jfReturns24, jfReturns25, jfReturns26, jfReturns27, jfReturns29, jfReturns30, jfReturns31]
  kernel_rfl



theorem jfReturns_pinned : joinedFacts Tryz.pinned.checked.prog 10 Tryz.f10 (OpenSpec.ofChange Rows.scriptReturnsSpec).bare Rows.scriptReturnsRow = true := by
  rw [prog_pinned]
  exact jfReturns

theorem cardReturns_said : Rows.ScriptReturnsSaid :=
  OpenClaim.holds_of_cond 10 Tryz.f10 rfl rfl rfl rfl rfl rfl rfl ⟨rfl, rfl, rfl, rfl, rfl⟩ rfl rfl rfl rfl rfl (by kernel_rfl) Tryz.func10 jfReturns_pinned
    (of_decide_eq_true (by kernel_rfl)) (by unfold Func.isWrapper; first | (rw [if_pos (by decide +kernel)]; kernel_rfl) | (rw [if_neg (by decide +kernel)]; exact ⟨rfl, rfl⟩))
    (fun os started H enc _ F => by rw [OpenClaim.pre_eq_preRow]; exact cardReturns_lifted os started H enc F)

theorem cardReturns_plain (f : FuncId) (fn : Func) (hf : Tryz.pinned.checked.prog.funcNamed "croft/croftlaw12.ScriptReturns" = some f) (hfn : Tryz.pinned.checked.prog.funcs[f]? = some fn) :
    true = Tryz.pinned.checked.prog.looks [] ∧ ∀ (j : Nat) t, fn.params[j]? = some t → Tryz.pinned.checked.prog.wantsStandIn t = false := by
  obtain rfl : f = 10 := Option.some.inj ((show Tryz.prog.funcNamed "croft/croftlaw12.ScriptReturns" = some 10 by kernel_rfl).symm.trans hf) |>.symm
  obtain rfl : fn = Tryz.f10 := (Option.some.inj (Tryz.func10.symm.trans hfn)).symm
  refine ⟨by kernel_rfl, fun j t ht => ?_⟩
  rw [show Tryz.f10.params = #[25, 9] from rfl] at ht
  match j, ht with
  | 0, ht =>
    obtain rfl : t = 25 := by simpa using ht.symm
    show Tryz.prog.wantsStandIn 25 = false
    kernel_rfl
  | 1, ht =>
    obtain rfl : t = 9 := by simpa using ht.symm
    show Tryz.prog.wantsStandIn 9 = false
    kernel_rfl
  | j + 2, ht => simp at ht

theorem scriptReturns_holds : Rows.ScriptReturnsCardSaid :=
  Claim7.holds_tied_plain_at .later [] _ _ _ _ cardReturns_said (fun _ h => by cases h) (by kernel_rfl) (fun _ h => by cases h) scriptReturns_row_tie rfl ⟨rfl, rfl⟩ (by kernel_rfl) rfl cardReturns_plain (by kernel_rfl)

#print axioms scriptReturns_holds

end Go.Proofs.YtnjcmcnjgdjbiaaGreatDoor

