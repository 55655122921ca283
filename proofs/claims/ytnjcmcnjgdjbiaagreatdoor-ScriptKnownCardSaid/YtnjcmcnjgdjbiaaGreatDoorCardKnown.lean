/- ScriptKnown: its tied card: the law returns true, whatever the input. Conditions: none. -/
import Derived.Test.YtnjcmcnjgdjbiaaGreatDoorCards
import Derived.Test.YtnjcmcnjgdjbiaaGreatDoorTie
import Derived.Test.YtnjcmcnjgdjbiaaGreatDoorGlobOf
import Derived.Test.YtnjcmcnjgdjbiaaGreatDoorKnown
import Derived.Test.YtnjcmcnjgdjbiaaGreatDoorFactsKnown
import Derived.WalkKit
import Derived.ProofKit
import Derived.OpenShut
import Derived.Deep.DeepHandedRow
import Derived.Deep.DeepWitnessRowRef
import Derived.Lib.LaidIn
import Derived.Lib.LaidU8
namespace Go.Proofs.YtnjcmcnjgdjbiaaGreatDoor
open Go.ChangeShapes Go.WideShapes Go.ChangeAt Go.RowKit

theorem known_contract (H : Type) (enc : TypeId × Value → H) (W : World) (base : Nat) (args : Array Value) (ds gs : List (DataW H)) (before : List MemPlace)
    (hval : ∀ (j : Nat) t v, Tryz.f3.params[j]? = some t → args[j]? = some v → Value.okWide Tryz.prog W .any base t v)
    (hW : DataW.Whole enc Tryz.prog Tryz.f3.params.toList Rows.scriptKnownSpec.vars false W args.toList ds gs before) (hL : laidMetH Tryz.prog Rows.scriptKnownRow.laid W) (hsh : W.ShapedOpen Tryz.prog) :
    Calls Tryz.prog 3 args W fun e W' => ∃ v, e = .returned v ∧ Rows.scriptKnownSpec.post enc Tryz.prog Tryz.f3 false true false false W args v W' := by
  have hW' := hW
  obtain ⟨p, q, hA0, hV, rfl, hfz, hnd⟩ := hW
  have hA : DataW.TrodAll enc Tryz.prog W 0 (fun _ => true) true Tryz.f3.params.toList args.toList ds p := hA0
  rw [show Tryz.f3.params = #[] from rfl] at hA hval
  obtain ⟨hargs, rfl, rfl⟩ := trodAll_nil hA
  obtain rfl : args = #[] := by cases args; simp_all
  obtain ⟨rfl, rfl⟩ := trodVars_none hV
  clear hA0
  have walk := known_ W (glob_of hL hsh)
  refine walk.mono fun e W' ⟨he, T⟩ => ?_
  subst he
  refine ⟨_, rfl, ?_⟩
  exact ⟨_, _, _, [], [], [], hW', trodAll_cons_mk (shut_bool Tryz.underlying4 _) trodAll_mk0, trodAll_mk0, rfl, T.below.frame _, fun h => by cases h⟩

theorem own : ownKnob Tryz.prog.godebug = none := by kernel_rfl

noncomputable abbrev N0 : Nat := (World.settled Tryz.prog default).heap.size

/-- the witness's world: the settled one, the listed variables holding what their initialisers lay -/
noncomputable def laidWorld (os : Os) : World :=
  let N := (World.settled Tryz.prog os).heap.size
  let w0 := World.holding Tryz.prog os ⟨#[.cells #[.string ⟨#[105, 110, 118, 97, 108, 105, 100, 32, 115, 121, 110, 116, 97, 120]⟩] 365, .cells #[.string ⟨#[118, 97, 108, 117, 101, 32, 111, 117, 116, 32, 111, 102, 32, 114, 97, 110, 103, 101]⟩] 365], #[], []⟩
  let put (h : Array Obj) (g : Nat) (cs : Array Value) : Array Obj := h.modify g fun
    | .cells _ t frozen => .cells cs t frozen
    | o => o
  let h1 := put w0.heap 1 #[.int .u64 16, .int .u64 32, .int .u64 64, .int .u64 128, .int .u64 256, .int .u64 512, .int .u64 1024, .int .u64 2048]
  let h2 := put h1 2 (Lib.pow10Tab.map fun z => Value.int .u64 z).toArray
  let h3 := put h2 3 (Lib.firstTab.map fun z => Value.int .u8 z).toArray
  let h4 := put h3 4 #[.int .u8 128, .int .u8 191, .int .u8 160, .int .u8 191, .int .u8 128, .int .u8 159, .int .u8 144, .int .u8 191, .int .u8 128, .int .u8 143, .int .u8 0, .int .u8 0, .int .u8 0, .int .u8 0, .int .u8 0, .int .u8 0, .int .u8 0, .int .u8 0, .int .u8 0, .int .u8 0, .int .u8 0, .int .u8 0, .int .u8 0, .int .u8 0, .int .u8 0, .int .u8 0, .int .u8 0, .int .u8 0, .int .u8 0, .int .u8 0, .int .u8 0, .int .u8 0]
  let h5 := put h4 5 #[.iface 363 (.pointer (some ⟨N, 0, none⟩))]
  let h6 := put h5 6 #[.iface 363 (.pointer (some ⟨N + 1, 0, none⟩))]
  let h7 := put h6 7 #[.int .u8 0, .int .u8 1, .int .u8 28, .int .u8 2, .int .u8 29, .int .u8 14, .int .u8 24, .int .u8 3, .int .u8 30, .int .u8 22, .int .u8 20, .int .u8 15, .int .u8 25, .int .u8 17, .int .u8 4, .int .u8 8, .int .u8 31, .int .u8 27, .int .u8 13, .int .u8 23, .int .u8 21, .int .u8 19, .int .u8 16, .int .u8 7, .int .u8 26, .int .u8 12, .int .u8 18, .int .u8 6, .int .u8 11, .int .u8 5, .int .u8 10, .int .u8 9]
  let h8 := put h7 8 #[.int .u8 0, .int .u8 1, .int .u8 56, .int .u8 2, .int .u8 57, .int .u8 49, .int .u8 28, .int .u8 3, .int .u8 61, .int .u8 58, .int .u8 42, .int .u8 50, .int .u8 38, .int .u8 29, .int .u8 17, .int .u8 4, .int .u8 62, .int .u8 47, .int .u8 59, .int .u8 36, .int .u8 45, .int .u8 43, .int .u8 51, .int .u8 22, .int .u8 53, .int .u8 39, .int .u8 33, .int .u8 30, .int .u8 24, .int .u8 18, .int .u8 12, .int .u8 5, .int .u8 63, .int .u8 55, .int .u8 48, .int .u8 27, .int .u8 60, .int .u8 41, .int .u8 37, .int .u8 16, .int .u8 46, .int .u8 35, .int .u8 44, .int .u8 21, .int .u8 52, .int .u8 32, .int .u8 23, .int .u8 11, .int .u8 54, .int .u8 26, .int .u8 40, .int .u8 15, .int .u8 34, .int .u8 20, .int .u8 31, .int .u8 10, .int .u8 25, .int .u8 14, .int .u8 19, .int .u8 9, .int .u8 13, .int .u8 8, .int .u8 7, .int .u8 6]
  { w0 with heap := h8 }

theorem laid_met (os : Os) (args : Array Value) : laidMet Tryz.prog laidAll ((laidWorld os).forCall (fun _ _ => 0) ⟨#[], args, []⟩).memory :=
  (LaidIn.of_run [1, 2, 3, 4, 5, 6, 7, 8, N0, N0 + 1] 8 (by kernel_rfl) (by kernel_rfl) (by kernel_rfl) (by kernel_rfl)).met

theorem known_row (os : Os) {H : Type} (enc : TypeId × Value → H) :
    (OpenSpec.ofChange Rows.scriptKnownSpec).preRow enc Tryz.prog Tryz.f3 Rows.scriptKnownRow.domain false Rows.scriptKnownRow.laid ((laidWorld os).forCall (fun _ _ => 0) ⟨#[], #[], []⟩).memory #[] := by
  have hw : (DataW.whole enc Tryz.prog ((laidWorld os).forCall (fun _ _ => 0) ⟨#[], #[], []⟩).memory Tryz.f3.params.toList Rows.scriptKnownSpec.vars false (#[] : Array Value).toList 8).map (fun x => (x.1, x.2.1)) = some ([], []) := by kernel_rfl
  obtain ⟨⟨x1, x2, x3⟩, hx, hx1⟩ := Option.map_eq_some_iff.1 hw
  simp only [Prod.mk.injEq] at hx1
  obtain ⟨rfl, rfl⟩ := hx1
  exact OpenSpec.preRow_of_cond 8 hx (by kernel_rfl) (fun k hk => by cases hk) (by kernel_rfl) (laid_met os _)

set_option maxRecDepth 100000 in
set_option maxHeartbeats 2000000 in
theorem known_lifted (os : Os) (started : os.Started) (H : Type) (enc : TypeId × Value → H) (F : Stop.Interp) :
    ReturnsInHanded {} Tryz.checked os 3 .any ((OpenSpec.ofChange Rows.scriptKnownSpec).preRow enc Tryz.prog Tryz.f3 Rows.scriptKnownRow.domain false Rows.scriptKnownRow.laid) (((OpenSpec.ofChange Rows.scriptKnownSpec).at F).post enc Tryz.prog Tryz.f3 false true false false) := by
  refine returnsInHanded_of_row (C := Tryz.checked) (s := OpenSpec.ofChange Rows.scriptKnownSpec) own started (by kernel_rfl) Tryz.func3
    (witness_row_atRef (enc := enc) (C := Tryz.checked) false (laidWorld os) #[] rfl (by kernel_rfl) (by kernel_rfl) (by kernel_rfl) (known_row os enc)) ?_
  intro W base args ds gs before hval hW _ _ _ hL hsh _
  exact known_contract H enc W base args ds gs before hval hW hL hsh

theorem jfKnown : joinedFacts Tryz.prog 3 Tryz.f3 (OpenSpec.ofChange Rows.scriptKnownSpec).bare Rows.scriptKnownRow = true := by
  unfold joinedFacts
  rw [jfKnown0, jfKnown1, jfKnown2, jfKnown3, jfKnown4, jfKnown5, jfKnown6, jfKnown7, jfKnown8, jfKnown9, jfKnown10, jfKnown11, jfKnown12, jfKnown13, jfKnown14, jfKnown15, jfKnown16, jfKnown17, jfKnown18, jfKnown19, jfKnown20, jfKnown21, jfKnown22, jfKnown23, jfKnown24, jfKnown25, jfKnown26, jfKnown27, jfKnown29, jfKnown30, jfKnown31]
  kernel_rfl

theorem prog_pinned : Tryz.pinned.checked.prog = Tryz.prog := rfl

theorem jfKnown_pinned : joinedFacts Tryz.pinned.checked.prog 3 Tryz.f3 (OpenSpec.ofChange Rows.scriptKnownSpec).bare Rows.scriptKnownRow = true := by
  rw [prog_pinned]
  exact jfKnown

theorem known_said : Rows.ScriptKnownSaid :=
  OpenClaim.holds_of_cond 3 Tryz.f3 rfl rfl rfl rfl rfl rfl rfl ⟨rfl, rfl, rfl, rfl, rfl⟩ rfl rfl rfl rfl rfl (by kernel_rfl) Tryz.func3 jfKnown_pinned
    (of_decide_eq_true (by kernel_rfl)) (by unfold Func.isWrapper; first | (rw [if_pos (by decide +kernel)]; kernel_rfl) | (rw [if_neg (by decide +kernel)]; exact ⟨rfl, rfl⟩))
    (fun os started H enc _ F => by rw [OpenClaim.pre_eq_preRow]; exact known_lifted os started H enc F)

theorem known_plain (f : FuncId) (fn : Func) (hf : Tryz.pinned.checked.prog.funcNamed "croft/croftlaw12.ScriptKnown" = some f) (hfn : Tryz.pinned.checked.prog.funcs[f]? = some fn) :
    true = Tryz.pinned.checked.prog.looks [] ∧ ∀ (j : Nat) t, fn.params[j]? = some t → Tryz.pinned.checked.prog.wantsStandIn t = false := by
  obtain rfl : f = 3 := Option.some.inj ((show Tryz.prog.funcNamed "croft/croftlaw12.ScriptKnown" = some 3 by kernel_rfl).symm.trans hf) |>.symm
  obtain rfl : fn = Tryz.f3 := (Option.some.inj (Tryz.func3.symm.trans hfn)).symm
  refine ⟨by kernel_rfl, fun j t ht => ?_⟩
  rw [show Tryz.f3.params = #[] from rfl] at ht
  simp at ht

theorem scriptKnown_holds : Rows.ScriptKnownCardSaid :=
  Claim7.holds_tied_plain_at .later [] _ _ _ _ known_said (fun _ h => by cases h) (by kernel_rfl) (fun _ h => by cases h) scriptKnown_row_tie rfl ⟨rfl, rfl⟩ (by kernel_rfl) rfl known_plain (by kernel_rfl)

#print axioms scriptKnown_holds

end Go.Proofs.YtnjcmcnjgdjbiaaGreatDoor

