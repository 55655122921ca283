/- Conditions: as each theorem states. -/
import Derived.Test.YtnjcmcnjgdjbiaaGreatDoorKpPartAn
import Derived.Test.YtnjcmcnjgdjbiaaGreatDoorKpPartAo
import Derived.Test.YtnjcmcnjgdjbiaaGreatDoorKpPartAp
set_option maxRecDepth 100000
set_option maxHeartbeats 2000000
namespace Go.Proofs.YtnjcmcnjgdjbiaaGreatDoor
open Go.ChangeShapes Go.WideShapes Go.ChangeAt Go.RowKit
theorem yt (H:Type) (enc:TypeId × Value→H) (W:World) (base:Nat) (args:Array Value) (ds gs:List (DataW H)) (before:List MemPlace)
  (hval:∀ (j:Nat) t v,Tryz.f8.params[j]? = some t→args[j]? = some v→Value.okWide Tryz.prog W .any base t v)
  (hW:DataW.Whole enc Tryz.prog Tryz.f8.params.toList Rows.scriptKeptSpec.vars false W args.toList ds gs before) (hR:(DataW.weightsEach Tryz.prog (Tryz.f8.params.toList++(OpenSpec.ofChange Rows.scriptKeptSpec).bare.plain.varTypes Tryz.prog) (ds++gs)).all (·≤reachBytes)=true) (hL:laidMetH Tryz.prog Rows.scriptKeptRow.laid W) (hsh:W.ShapedOpen Tryz.prog) :
  Calls Tryz.prog 8 args W fun e W'=>∃ v,e=.returned v∧Rows.scriptKeptSpec.post enc Tryz.prog Tryz.f8 false true false false W args v W':=by
 have hW':=hW;obtain ⟨p,q,hA0,hV,rfl,hfz,hnd⟩:=hW;have hA:DataW.TrodAll enc Tryz.prog W 0 (fun _=>true) true Tryz.f8.params.toList args.toList ds p:=hA0;rw [show Tryz.f8.params=#[48,9] from rfl] at hA hval hR;obtain ⟨v0,v1,d0,d1,p0,p1,rfl,rfl,rfl,h0,h1⟩:=trodAll_two hA;obtain ⟨rfl,rfl⟩:=trodVars_none hV;obtain ⟨base0,limit0,Xx,pa0,n0,ca0,cs0,ds0,rfl,hb0,H0,hsz0⟩:=Hz (by have hv:=hval 0 48 v0 (by simp) (by simp);unfold Value.okWide at hv;rw [Tryz.underlying48] at hv;obtain ⟨cs,h1,h2,_⟩:=hv;exact ⟨cs,h1,by rw [h2];exact cellsS.1⟩) h0
 have hn0:n0≤140737488355328:=by
  rcases hsz0 with rfl | ⟨d0,el,sp,rfl,hle⟩
  ·omega
  ·exact KO hle (Gl hR (j:=0) rfl rfl)
 have aaU:∀ x∈p0,x.block<W.heap.size:=fun x hx=>hW'.lt x (by simp [hx])
 obtain ⟨s1,rfl,rfl,rfl,wK⟩:=Go.ChangeMaps.open_string Tryz.underlying9 (hval 1 9 v1 (by simp) (by simp)) h1;have hs1:=sized_string hR (j:=1) rfl rfl;rw [Array.length_toList] at hs1;have hz1:s1.size≤140737488355328:=Nat.le_trans hs1 (by decide);have walk:=Yp base0 limit0 Xx pa0 n0 ca0 cs0 ds0 s1 W (SH hL hsh) hb0 H0;refine walk.mono fun e W' ⟨he,T⟩=>?_
 subst he;have q0:=Below.trod (I8) (by kernel_rfl) (of_decide_eq_true (by kernel_rfl)) h0 T.below aaU;refine ⟨_,rfl,?_⟩;exact ⟨_,_,_,[],_,[],hW',trodAll_cons_mk (shut_bool Tryz.underlying4 _) trodAll_mk0,trodAll_mk2 q0 (Go.ChangeMaps.shut_string Tryz.underlying9 wK),rfl,T.below.frame _,fun h=>by cases h⟩
theorem Gm (os:Os) {H:Type} (enc:TypeId × Value→H) :
  (OpenSpec.ofChange Rows.scriptKeptSpec).preRow enc Tryz.prog Tryz.f8 Rows.scriptKeptRow.domain false Rows.scriptKeptRow.laid ((rC os).forCall (fun _ _=>0) ⟨#[],#[.agg #[.int .u64 0,.int .i64 0,.int .i64 0,.slice none 0 0],.string ⟨#[]⟩],[]⟩).memory #[.agg #[.int .u64 0,.int .i64 0,.int .i64 0,.slice none 0 0],.string ⟨#[]⟩]:=by
 have hw:(DataW.whole enc Tryz.prog ((rC os).forCall (fun _ _=>0) ⟨#[],#[.agg #[.int .u64 0,.int .i64 0,.int .i64 0,.slice none 0 0],.string ⟨#[]⟩],[]⟩).memory Tryz.f8.params.toList Rows.scriptKeptSpec.vars false (#[.agg #[.int .u64 0,.int .i64 0,.int .i64 0,.slice none 0 0],.string ⟨#[]⟩]:Array Value).toList 8).map (fun x=>(x.1,x.2.1))=some ([.agg [.agg [.lit (.int .u64 0),.lit (.int .i64 0),.lit (.int .i64 0)],.nil],.lit (.string [])],[]):=by kernel_rfl
 obtain ⟨⟨x1,x2,x3⟩,hx,hx1⟩:=Option.map_eq_some_iff.1 hw;simp only [Prod.mk.injEq] at hx1;obtain ⟨rfl,rfl⟩:=hx1;exact OpenSpec.preRow_of_cond 8 hx (by kernel_rfl) (fun k hk=>by cases hk) (by kernel_rfl) (Oc os _)
theorem Bq (os:Os) (started:os.Started) (H:Type) (enc:TypeId × Value→H) (F:Stop.Interp) :
  ReturnsInHanded {} Tryz.checked os 8 .any ((OpenSpec.ofChange Rows.scriptKeptSpec).preRow enc Tryz.prog Tryz.f8 Rows.scriptKeptRow.domain false Rows.scriptKeptRow.laid) (((OpenSpec.ofChange Rows.scriptKeptSpec).at F).post enc Tryz.prog Tryz.f8 false true false false):=by
 refine returnsInHanded_of_row (C:=Tryz.checked) (s:=OpenSpec.ofChange Rows.scriptKeptSpec) own started (by kernel_rfl) Tryz.func8
  (witness_row_atRef (enc:=enc) (C:=Tryz.checked) false (rC os) #[.agg #[.int .u64 0,.int .i64 0,.int .i64 0,.slice none 0 0],.string ⟨#[]⟩] rfl (by kernel_rfl) (by kernel_rfl) (by kernel_rfl) (Gm os enc)) ?_
 intro W base args ds gs before hval hW _ _ hR hL hsh _;exact yt H enc W base args ds gs before hval hW hR hL hsh
theorem Xy:joinedFacts Tryz.prog 8 Tryz.f8 (OpenSpec.ofChange Rows.scriptKeptSpec).bare Rows.scriptKeptRow=true:=by
 unfold joinedFacts;rw [UE,I8,UF,UG,UH,UJ,UK,UL,UM,UN,QT,QU,QV,QW,QX,QY,QZ,Q0,Q5,Q6,Q7,Q8,Q9,Ra,Rb,Rc,Rf,Rh,Ri,Rj,Rk]
 kernel_rfl
theorem DY:joinedFacts Tryz.pinned.checked.prog 8 Tryz.f8 (OpenSpec.ofChange Rows.scriptKeptSpec).bare Rows.scriptKeptRow=true:=by
 rw [Gp];exact Xy
theorem DZ:Rows.ScriptKeptSaid :=
 OpenClaim.holds_of_cond 8 Tryz.f8 rfl rfl rfl rfl rfl rfl rfl ⟨rfl,rfl,rfl,rfl,rfl⟩ rfl rfl rfl rfl rfl (by kernel_rfl) Tryz.func8 DY
  (of_decide_eq_true (by kernel_rfl)) (by unfold Func.isWrapper;first | (rw [if_pos (by decide +kernel)];kernel_rfl) | (rw [if_neg (by decide +kernel)];exact ⟨rfl,rfl⟩))
  (fun os started H enc _ F=>by rw [OpenClaim.pre_eq_preRow];exact Bq os started H enc F)
theorem Ch (f:FuncId) (fn:Func) (hf:Tryz.pinned.checked.prog.funcNamed "croft/croftlaw12.ScriptKept" = some f) (hfn:Tryz.pinned.checked.prog.funcs[f]? = some fn) :
  true=Tryz.pinned.checked.prog.looks []∧∀ (j:Nat) t,fn.params[j]? = some t→Tryz.pinned.checked.prog.wantsStandIn t=false:=by
 obtain rfl:f=8:=Option.some.inj ((show Tryz.prog.funcNamed "croft/croftlaw12.ScriptKept" = some 8 by kernel_rfl).symm.trans hf) |>.symm
 obtain rfl:fn=Tryz.f8:=(Option.some.inj (Tryz.func8.symm.trans hfn)).symm;refine ⟨by kernel_rfl,fun j t ht=>?_⟩;rw [show Tryz.f8.params=#[48,9] from rfl] at ht
 match j,ht with
 | 0,ht =>
  obtain rfl:t=48:=by simpa using ht.symm
  show Tryz.prog.wantsStandIn 48=false
  kernel_rfl
 | 1,ht =>
  obtain rfl:t=9:=by simpa using ht.symm
  show Tryz.prog.wantsStandIn 9=false
  kernel_rfl
 | j+2,ht=>simp at ht
theorem scriptKept_holds:Rows.ScriptKeptCardSaid :=
 Claim7.holds_tied_plain_at .later [] _ _ _ _ DZ (fun _ h=>by cases h) (by kernel_rfl) (fun _ h=>by cases h) scriptKept_row_tie rfl ⟨rfl,rfl⟩ (by kernel_rfl) rfl Ch (by kernel_rfl)
#print axioms scriptKept_holds
end Go.Proofs.YtnjcmcnjgdjbiaaGreatDoor
