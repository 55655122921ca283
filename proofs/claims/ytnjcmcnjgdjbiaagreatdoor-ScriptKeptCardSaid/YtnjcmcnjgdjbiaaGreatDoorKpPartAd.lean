/- The walks of package pagemap, sixth part: Run. Conditions: as each theorem states. -/
import Derived.Test.YtnjcmcnjgdjbiaaGreatDoorKpPartAc
import Derived.Lib.AppendZeros
import Derived.Maps.AppendAt
import Derived.Deep.RegionLaw
import Derived.Test.YtnjcmcnjgdjbiaaGreatDoorKpPartAb
set_option maxRecDepth 100000
set_option maxHeartbeats 2000000
namespace Go.Proofs.YtnjcmcnjgdjbiaaGreatDoor
open Go.RowKit
attribute [-go_sem] Go.run_neq_struct
def bK (kind order:Int) (k:Nat):Pg:=aD (if k=0 then kind else kind+1) order
def uI (ps:List Pg) (j:Nat) (kind order:Int):Nat→List Pg
 | 0=>ps
 | k+1=>(uI ps j kind order k).set (j+k) (bK kind order k)
theorem gU (ps:List Pg) (j:Nat) (kind order:Int) (k:Nat):(uI ps j kind order k).length=ps.length:=by
 induction k with
 | zero=>rfl
 | succ k ih=>rw [uI,List.length_set,ih]
def Mp.runK (μ:Mp) (j:Nat) (kind order:Int) (k:Nat):Mp:={ μ with pages:=uI μ.pages j kind order k }
def Mp.run (μ:Mp) (j o:Nat) (kind:Int):Mp:=μ.runK j kind o (2^o)
structure LA (w:World) (L:aT) (μ:Mp) (j:Nat) (kind order:Int) (k:Nat) (wr:World):Prop where
 rep:aI wr L (μ.runK j kind order k)
 touch:Touch (fun b=>some b=L.gv.ownBlock) w wr
theorem aI.D8 {w:World} {L:aT} {μ:Mp} (R:aI w L μ) (j o:Nat) (ho:o≤μ.order) (hj:(j:Int).tmod (2^o:Nat)=0) (hle:j+2^o≤μ.pages.length) :
  Calls Tryz.prog 240 #[.pointer (some ⟨L.mb,0,none⟩),.int .i64 j,.int .i64 o,.int .i64 2] w fun e w'=>e=.returned (.int .i64 0)∧aI w' L (μ.run j o 2)∧Touch (fun b=>some b=L.gv.ownBlock) w w':=by
 have Rt:=R.ok.order;have hl:=R.ok.len;have qG:o≤8:=by omega
 have hpw:=fD qG;have hwp:=lF qG;obtain ⟨pa,cap,hv,hcap⟩:=R.wB;have c0:=R.blk.cell 0;simp at c0;have c1:=R.blk.cell 1;simp [hv] at c1;have HD:decide ((0:Int)≤(o:Int)∧(o:Int)≤(μ.order:Int))=true:=by simp;omega
 have HW:∀ w1:World,Calls Tryz.prog 277 #[.int .i64 o,.int .i64 0,.int .i64 μ.order] w1 fun e w'=>e=.returned (.bool true)∧w'=w1:=by
  intro w1;have:=lG o 0 μ.order w1;rw [HD] at this;exact this.mono fun _ _ h=>⟨h.1,h.2.symm⟩
 replace HW:=Hd HW
 have HR:=Hd R;have Ev:(2:Int)^o=((2^o:Nat):Int):=by simp
 unfold Mp.run;generalize hy:2^o=y at *;have hy0:¬(y=0):=by omega
 have hj0:decide ((j:Int)<0)=false:=by simp
 have hgt:decide ((μ.pages.length:Int)-y<j)=false:=by simp;omega
 have hwy:IntKind.i64.wrap (2^o)=(y:Int):=by rw [Ev];exact IntWalk.i64_in _ (by omega)
 have hws:IntKind.i64.wrap ((μ.pages.length:Int)-y)=(μ.pages.length:Int)-y:=IntWalk.i64_in _ (by omega)
 replace Ev:=Hd Ev
 replace hy:=Hd hy
 clear hwp HD R hv
 go_enter Tryz.func240,Tryz.ntmps240
 go_wp2_with fail
 go_quiet (first | (go_at_call 277;refine Calls.quiet_of_same (HW.out _)))
 have HT0:=Hd ((Touch.refl Nothing w).drewN nq)
 go_wp2_with fail
 go_loopw [51] (fun a wr=>∃ k:Nat,k≤y∧a=.int .i64 k∧LA w L μ j 2 o k wr) (fun a _=>y-(intOf a).toNat)
 case atStart =>
  exact ⟨0,Nat.zero_le _,rfl,HR.out.aj HT0.out,HT0.out.none_⟩
 case round =>
  obtain ⟨k,hk,rfl,hF⟩:=hrel;by_cases hlt':k<y
  ·obtain ⟨p,hp⟩:∃ p,(μ.runK j 2 o k).pages[j+k]? = some p:=⟨_,List.getElem?_eq_getElem (by simp [Mp.runK,gU];omega)⟩;have HF:=Hd hF;have HP:=Hd hp;clear hF hp;rcases Nat.eq_zero_or_pos k with hk0 | hk0
   ·replace hk0:¬(0<k):=by omega
    have hq:(bK 2 o k)=(aD 2 o):=by unfold bK;rw [if_pos (by omega)]
    go_wp2_with fail
    refine (wC 2 o _).mono ?_
    rintro e w2 ⟨rfl,rfl⟩;unfold Pg.val aD
    go_wp2_with fail
    have hB:=aC.new (wr.alloc (.cells #[.int .i64 2,.int .i64 o,.int .i64 0,.int .i64 0,.int .i64 (-1),.int .i64 (-1),.int .i64 (-1),.int .u64 0,.int .u64 0,.int .u64 0,.int .u64 0] 128)) #[.int .i64 2,.int .i64 o,.int .i64 0,.int .i64 0,.int .i64 (-1),.int .i64 (-1),.int .i64 (-1),.int .u64 0,.int .u64 0,.int .u64 0,.int .u64 0] 128;have hT:=((Touch.refl Nothing wr).alloc (.cells #[.int .i64 2,.int .i64 o,.int .i64 0,.int .i64 0,.int .i64 (-1),.int .i64 (-1),.int .i64 (-1),.int .u64 0,.int .u64 0,.int .u64 0,.int .u64 0] 128)).alloc (.cells #[.int .i64 2,.int .i64 o,.int .i64 0,.int .i64 0,.int .i64 (-1),.int .i64 (-1),.int .i64 (-1),.int .u64 0,.int .u64 0,.int .u64 0,.int .u64 0] 128);simp only [World.size_alloc] at hB;generalize (World.alloc (World.alloc wr _) _)=W at *;generalize wr.heap.size+1=b at *;have nG:=HF.out.rep.aj hT;obtain ⟨g,cap',hv',pV,hcell,hfree⟩:=nG.page HP.out;have c1':=nG.blk.cell 1;simp [hv'] at c1';have hlen:(μ.runK j 2 o k).pages.length=μ.pages.length:=by simp [Mp.runK,gU]
    rw [hlen] at c1';obtain ⟨m,hm⟩:∃ m,m=j+k:=⟨_,rfl⟩;have Ru:IntKind.i64.wrap ((j:Int)+k)=(m:Int):=by rw [hm];exact IntWalk.i64_in _ (by omega)
    have hml:(m:Int)<(μ.pages.length:Int):=by omega
    rw [←hm] at hcell;have f0:=hfree (m*11);have d0:=hcell 0 _ rfl;have e0:=hB.cell 0;simp only [Nat.add_zero] at d0;have d1:=hcell 1 _ rfl;have f1:=hfree (m*11+1);have e1:=hB.cell 1;have d2:=hcell 2 _ rfl;have f2:=hfree (m*11+2);have e2:=hB.cell 2;have d3:=hcell 3 _ rfl;have f3:=hfree (m*11+3);have e3:=hB.cell 3;have d4:=hcell 4 _ rfl;have f4:=hfree (m*11+4);have e4:=hB.cell 4;have d5:=hcell 5 _ rfl;have f5:=hfree (m*11+5);have e5:=hB.cell 5;have d6:=hcell 6 _ rfl;have f6:=hfree (m*11+6);have e6:=hB.cell 6;have d7:=hcell 7 _ rfl;have f7:=hfree (m*11+7);have e7:=hB.cell 7;have d8:=hcell 8 _ rfl;have f8:=hfree (m*11+8);have e8:=hB.cell 8;have d9:=hcell 9 _ rfl;have f9:=hfree (m*11+9);have e9:=hB.cell 9;have zQ:=hcell 10 _ rfl;have f10:=hfree (m*11+10);have e10:=hB.cell 10;simp at e0 e1 e2 e3 e4 e5 e6 e7 e8 e9 e10;have HB:=Hd hB;have HRW:=Hd nG;have HT:=Hd (HF.out.touch.trans hT.none_);have HM:=Hd hm;have HV:=Hd hv';have HL:=Hd hlen;have HQ:=Hd hq;clear hB nG hT hcell hfree hm hv' pV hlen hq;by_cases heq:p=aD 2 o
    ·have hpe:pq p (aD 2 o)=true:=(kU _ _).2 heq
     have hneq:∀ w:World,(binOp .neq 128 (.agg #[.int .i64 p.kind,.int .i64 p.order,.int .i64 p.cls,.int .i64 p.live,.int .i64 p.next,.int .i64 p.prev,.int .i64 p.first,.int .u64 p.b0,.int .u64 p.b1,.int .u64 p.b2,.int .u64 p.b3]) (.agg #[.int .i64 2,.int .i64 o,.int .i64 0,.int .i64 0,.int .i64 (-1),.int .i64 (-1),.int .i64 (-1),.int .u64 0,.int .u64 0,.int .u64 0,.int .u64 0])).run Tryz.prog w=.ok (.bool false) w:=fun w=>by
      have:=oO p (aD 2 o) w;rw [hpe] at this;exact this
     clear hpe;have HE:=Hd heq;clear heq
     go_quiet (fail)
     have hrw:μ.runK j 2 o (k+1)=μ.runK j 2 o k:=by
      show (μ.runK j 2 o k).aA (j+k) (bK 2 o k)=_
      rw [HQ.out,←HE.out,Mp.kT HP.out]
     replace hrw:=Hd hrw
     go_wp2_with fail
     go_roundw
     case rel =>
      refine ⟨k+1,hlt',by go_num,?_,HT.out.drewN _⟩;rw [hrw.out];exact HRW.out.aj ((Touch.refl Nothing W).drewN nq)
     case measure=>simp [intOf];omega
    ·have hpe:pq p (aD 2 o)=false:=by
      have:=mt (kU p (aD 2 o)).1 heq;exact Bool.eq_false_iff.2 this
     have hneq:∀ w:World,(binOp .neq 128 (.agg #[.int .i64 p.kind,.int .i64 p.order,.int .i64 p.cls,.int .i64 p.live,.int .i64 p.next,.int .i64 p.prev,.int .i64 p.first,.int .u64 p.b0,.int .u64 p.b1,.int .u64 p.b2,.int .u64 p.b3]) (.agg #[.int .i64 2,.int .i64 o,.int .i64 0,.int .i64 0,.int .i64 (-1),.int .i64 (-1),.int .i64 (-1),.int .u64 0,.int .u64 0,.int .u64 0,.int .u64 0])).run Tryz.prog w=.ok (.bool true) w:=fun w=>by
      have:=oO p (aD 2 o) w;rw [hpe] at this;exact this
     clear hpe;clear heq
     go_quiet (fail)
     go_wp2_with fail
     refine wp_region_still_tail 8 (by kernel_rfl) (by kernel_rfl) ?_
     simp only [List.take_succ_cons,List.take_zero,List.drop_succ_cons,List.drop_zero,World.drew_eq]
     repeat still_step
     refine wpStill_nil ?_
     go_wp2_with fail
     have hok:(aD 2 o).ok:=nE _ _ (by omega) (by omega);obtain ⟨r1,r2⟩:=(HRW.out.aj ((Touch.refl Nothing W).drewN (nq+1))).sV (q:=aD 2 o) (g:=g) (cap:=cap') HP.out HV.out hok
     go_roundw
     case rel =>
      refine ⟨k+1,hlt',by go_num,?_,?_⟩
      ·show aI _ L ((μ.runK j 2 o k).aA (j+k) (bK 2 o k))
       rw [HQ.out,HM.out];exact r1
      ·rw [HM.out];exact (HT.out.drewN (nq+1)).trans (r2.mono (fun b _ e=>by rw [HV.out,e];rfl))
     case measure=>simp [intOf];omega
   ·have hq:(bK 2 o k)=(aD 3 o):=by unfold bK;rw [if_neg (by omega)];rfl
    go_wp2_with fail
    refine (wC 2 o _).mono ?_
    rintro e w2 ⟨rfl,rfl⟩;unfold Pg.val aD
    go_wp2_with fail
    have hB:=aC.new (wr.alloc (.cells #[.int .i64 2,.int .i64 o,.int .i64 0,.int .i64 0,.int .i64 (-1),.int .i64 (-1),.int .i64 (-1),.int .u64 0,.int .u64 0,.int .u64 0,.int .u64 0] 128)) #[.int .i64 3,.int .i64 o,.int .i64 0,.int .i64 0,.int .i64 (-1),.int .i64 (-1),.int .i64 (-1),.int .u64 0,.int .u64 0,.int .u64 0,.int .u64 0] 128;have hT:=((Touch.refl Nothing wr).alloc (.cells #[.int .i64 2,.int .i64 o,.int .i64 0,.int .i64 0,.int .i64 (-1),.int .i64 (-1),.int .i64 (-1),.int .u64 0,.int .u64 0,.int .u64 0,.int .u64 0] 128)).alloc (.cells #[.int .i64 3,.int .i64 o,.int .i64 0,.int .i64 0,.int .i64 (-1),.int .i64 (-1),.int .i64 (-1),.int .u64 0,.int .u64 0,.int .u64 0,.int .u64 0] 128);simp only [World.size_alloc] at hB;generalize (World.alloc (World.alloc wr _) _)=W at *;generalize wr.heap.size+1=b at *;have nG:=HF.out.rep.aj hT;obtain ⟨g,cap',hv',pV,hcell,hfree⟩:=nG.page HP.out;have c1':=nG.blk.cell 1;simp [hv'] at c1';have hlen:(μ.runK j 2 o k).pages.length=μ.pages.length:=by simp [Mp.runK,gU]
    rw [hlen] at c1';obtain ⟨m,hm⟩:∃ m,m=j+k:=⟨_,rfl⟩;have Ru:IntKind.i64.wrap ((j:Int)+k)=(m:Int):=by rw [hm];exact IntWalk.i64_in _ (by omega)
    have hml:(m:Int)<(μ.pages.length:Int):=by omega
    rw [←hm] at hcell;have f0:=hfree (m*11);have d0:=hcell 0 _ rfl;have e0:=hB.cell 0;simp only [Nat.add_zero] at d0;have d1:=hcell 1 _ rfl;have f1:=hfree (m*11+1);have e1:=hB.cell 1;have d2:=hcell 2 _ rfl;have f2:=hfree (m*11+2);have e2:=hB.cell 2;have d3:=hcell 3 _ rfl;have f3:=hfree (m*11+3);have e3:=hB.cell 3;have d4:=hcell 4 _ rfl;have f4:=hfree (m*11+4);have e4:=hB.cell 4;have d5:=hcell 5 _ rfl;have f5:=hfree (m*11+5);have e5:=hB.cell 5;have d6:=hcell 6 _ rfl;have f6:=hfree (m*11+6);have e6:=hB.cell 6;have d7:=hcell 7 _ rfl;have f7:=hfree (m*11+7);have e7:=hB.cell 7;have d8:=hcell 8 _ rfl;have f8:=hfree (m*11+8);have e8:=hB.cell 8;have d9:=hcell 9 _ rfl;have f9:=hfree (m*11+9);have e9:=hB.cell 9;have zQ:=hcell 10 _ rfl;have f10:=hfree (m*11+10);have e10:=hB.cell 10;simp at e0 e1 e2 e3 e4 e5 e6 e7 e8 e9 e10;have HB:=Hd hB;have HRW:=Hd nG;have HT:=Hd (HF.out.touch.trans hT.none_);have HM:=Hd hm;have HV:=Hd hv';have HL:=Hd hlen;have HQ:=Hd hq;clear hB nG hT hcell hfree hm hv' pV hlen hq;by_cases heq:p=aD 3 o
    ·have hpe:pq p (aD 3 o)=true:=(kU _ _).2 heq
     have hneq:∀ w:World,(binOp .neq 128 (.agg #[.int .i64 p.kind,.int .i64 p.order,.int .i64 p.cls,.int .i64 p.live,.int .i64 p.next,.int .i64 p.prev,.int .i64 p.first,.int .u64 p.b0,.int .u64 p.b1,.int .u64 p.b2,.int .u64 p.b3]) (.agg #[.int .i64 3,.int .i64 o,.int .i64 0,.int .i64 0,.int .i64 (-1),.int .i64 (-1),.int .i64 (-1),.int .u64 0,.int .u64 0,.int .u64 0,.int .u64 0])).run Tryz.prog w=.ok (.bool false) w:=fun w=>by
      have:=oO p (aD 3 o) w;rw [hpe] at this;exact this
     clear hpe;have HE:=Hd heq;clear heq
     go_quiet (fail)
     have hrw:μ.runK j 2 o (k+1)=μ.runK j 2 o k:=by
      show (μ.runK j 2 o k).aA (j+k) (bK 2 o k)=_
      rw [HQ.out,←HE.out,Mp.kT HP.out]
     replace hrw:=Hd hrw
     go_wp2_with fail
     go_roundw
     case rel =>
      refine ⟨k+1,hlt',by go_num,?_,HT.out.drewN _⟩;rw [hrw.out];exact HRW.out.aj ((Touch.refl Nothing W).drewN nq)
     case measure=>simp [intOf];omega
    ·have hpe:pq p (aD 3 o)=false:=by
      have:=mt (kU p (aD 3 o)).1 heq;exact Bool.eq_false_iff.2 this
     have hneq:∀ w:World,(binOp .neq 128 (.agg #[.int .i64 p.kind,.int .i64 p.order,.int .i64 p.cls,.int .i64 p.live,.int .i64 p.next,.int .i64 p.prev,.int .i64 p.first,.int .u64 p.b0,.int .u64 p.b1,.int .u64 p.b2,.int .u64 p.b3]) (.agg #[.int .i64 3,.int .i64 o,.int .i64 0,.int .i64 0,.int .i64 (-1),.int .i64 (-1),.int .i64 (-1),.int .u64 0,.int .u64 0,.int .u64 0,.int .u64 0])).run Tryz.prog w=.ok (.bool true) w:=fun w=>by
      have:=oO p (aD 3 o) w;rw [hpe] at this;exact this
     clear hpe;clear heq
     go_quiet (fail)
     go_wp2_with fail
     refine wp_region_still_tail 8 (by kernel_rfl) (by kernel_rfl) ?_
     simp only [List.take_succ_cons,List.take_zero,List.drop_succ_cons,List.drop_zero,World.drew_eq]
     repeat still_step
     refine wpStill_nil ?_
     go_wp2_with fail
     have hok:(aD 3 o).ok:=nE _ _ (by omega) (by omega);obtain ⟨r1,r2⟩:=(HRW.out.aj ((Touch.refl Nothing W).drewN (nq+1))).sV (q:=aD 3 o) (g:=g) (cap:=cap') HP.out HV.out hok
     go_roundw
     case rel =>
      refine ⟨k+1,hlt',by go_num,?_,?_⟩
      ·show aI _ L ((μ.runK j 2 o k).aA (j+k) (bK 2 o k))
       rw [HQ.out,HM.out];exact r1
      ·rw [HM.out];exact (HT.out.drewN (nq+1)).trans (r2.mono (fun b _ e=>by rw [HV.out,e];rfl))
     case measure=>simp [intOf];omega
  ·obtain rfl:k=y:=by omega
   have HF:=Hd hF;clear hF
   go_wp2_with fail
   go_ret
   exact ⟨rfl,HF.out.rep,HF.out.touch⟩
end Go.Proofs.YtnjcmcnjgdjbiaaGreatDoor
namespace Go.Proofs.YtnjcmcnjgdjbiaaGreatDoor
open Go.RowKit
attribute [-go_sem] Go.run_neq_struct
theorem aI.XJ {w:World} {L:aT} {μ:Mp} (R:aI w L μ) (j o:Nat) (ho:o≤μ.order) (hj:(j:Int).tmod (2^o:Nat)=0) (hle:j+2^o≤μ.pages.length) :
  Calls Tryz.prog 240 #[.pointer (some ⟨L.mb,0,none⟩),.int .i64 j,.int .i64 o,.int .i64 0] w fun e w'=>e=.returned (.int .i64 0)∧aI w' L (μ.run j o 0)∧Touch (fun b=>some b=L.gv.ownBlock) w w':=by
 have Rt:=R.ok.order;have hl:=R.ok.len;have qG:o≤8:=by omega
 have hpw:=fD qG;have hwp:=lF qG;obtain ⟨pa,cap,hv,hcap⟩:=R.wB;have c0:=R.blk.cell 0;simp at c0;have c1:=R.blk.cell 1;simp [hv] at c1;have HD:decide ((0:Int)≤(o:Int)∧(o:Int)≤(μ.order:Int))=true:=by simp;omega
 have HW:∀ w1:World,Calls Tryz.prog 277 #[.int .i64 o,.int .i64 0,.int .i64 μ.order] w1 fun e w'=>e=.returned (.bool true)∧w'=w1:=by
  intro w1;have:=lG o 0 μ.order w1;rw [HD] at this;exact this.mono fun _ _ h=>⟨h.1,h.2.symm⟩
 replace HW:=Hd HW
 have HR:=Hd R;have Ev:(2:Int)^o=((2^o:Nat):Int):=by simp
 unfold Mp.run;generalize hy:2^o=y at *;have hy0:¬(y=0):=by omega
 have hj0:decide ((j:Int)<0)=false:=by simp
 have hgt:decide ((μ.pages.length:Int)-y<j)=false:=by simp;omega
 have hwy:IntKind.i64.wrap (2^o)=(y:Int):=by rw [Ev];exact IntWalk.i64_in _ (by omega)
 have hws:IntKind.i64.wrap ((μ.pages.length:Int)-y)=(μ.pages.length:Int)-y:=IntWalk.i64_in _ (by omega)
 replace Ev:=Hd Ev
 replace hy:=Hd hy
 clear hwp HD R hv
 go_enter Tryz.func240,Tryz.ntmps240
 go_wp2_with fail
 go_quiet (first | (go_at_call 277;refine Calls.quiet_of_same (HW.out _)))
 have HT0:=Hd ((Touch.refl Nothing w).drewN nq)
 go_wp2_with fail
 go_loopw [51] (fun a wr=>∃ k:Nat,k≤y∧a=.int .i64 k∧LA w L μ j 0 o k wr) (fun a _=>y-(intOf a).toNat)
 case atStart =>
  exact ⟨0,Nat.zero_le _,rfl,HR.out.aj HT0.out,HT0.out.none_⟩
 case round =>
  obtain ⟨k,hk,rfl,hF⟩:=hrel;by_cases hlt':k<y
  ·obtain ⟨p,hp⟩:∃ p,(μ.runK j 0 o k).pages[j+k]? = some p:=⟨_,List.getElem?_eq_getElem (by simp [Mp.runK,gU];omega)⟩;have HF:=Hd hF;have HP:=Hd hp;clear hF hp;rcases Nat.eq_zero_or_pos k with hk0 | hk0
   ·replace hk0:¬(0<k):=by omega
    have hq:(bK 0 o k)=(aD 0 o):=by unfold bK;rw [if_pos (by omega)]
    go_wp2_with fail
    refine (wC 0 o _).mono ?_
    rintro e w2 ⟨rfl,rfl⟩;unfold Pg.val aD
    go_wp2_with fail
    have hB:=aC.new (wr.alloc (.cells #[.int .i64 0,.int .i64 o,.int .i64 0,.int .i64 0,.int .i64 (-1),.int .i64 (-1),.int .i64 (-1),.int .u64 0,.int .u64 0,.int .u64 0,.int .u64 0] 128)) #[.int .i64 0,.int .i64 o,.int .i64 0,.int .i64 0,.int .i64 (-1),.int .i64 (-1),.int .i64 (-1),.int .u64 0,.int .u64 0,.int .u64 0,.int .u64 0] 128;have hT:=((Touch.refl Nothing wr).alloc (.cells #[.int .i64 0,.int .i64 o,.int .i64 0,.int .i64 0,.int .i64 (-1),.int .i64 (-1),.int .i64 (-1),.int .u64 0,.int .u64 0,.int .u64 0,.int .u64 0] 128)).alloc (.cells #[.int .i64 0,.int .i64 o,.int .i64 0,.int .i64 0,.int .i64 (-1),.int .i64 (-1),.int .i64 (-1),.int .u64 0,.int .u64 0,.int .u64 0,.int .u64 0] 128);simp only [World.size_alloc] at hB;generalize (World.alloc (World.alloc wr _) _)=W at *;generalize wr.heap.size+1=b at *;have nG:=HF.out.rep.aj hT;obtain ⟨g,cap',hv',pV,hcell,hfree⟩:=nG.page HP.out;have c1':=nG.blk.cell 1;simp [hv'] at c1';have hlen:(μ.runK j 0 o k).pages.length=μ.pages.length:=by simp [Mp.runK,gU]
    rw [hlen] at c1';obtain ⟨m,hm⟩:∃ m,m=j+k:=⟨_,rfl⟩;have Ru:IntKind.i64.wrap ((j:Int)+k)=(m:Int):=by rw [hm];exact IntWalk.i64_in _ (by omega)
    have hml:(m:Int)<(μ.pages.length:Int):=by omega
    rw [←hm] at hcell;have f0:=hfree (m*11);have d0:=hcell 0 _ rfl;have e0:=hB.cell 0;simp only [Nat.add_zero] at d0;have d1:=hcell 1 _ rfl;have f1:=hfree (m*11+1);have e1:=hB.cell 1;have d2:=hcell 2 _ rfl;have f2:=hfree (m*11+2);have e2:=hB.cell 2;have d3:=hcell 3 _ rfl;have f3:=hfree (m*11+3);have e3:=hB.cell 3;have d4:=hcell 4 _ rfl;have f4:=hfree (m*11+4);have e4:=hB.cell 4;have d5:=hcell 5 _ rfl;have f5:=hfree (m*11+5);have e5:=hB.cell 5;have d6:=hcell 6 _ rfl;have f6:=hfree (m*11+6);have e6:=hB.cell 6;have d7:=hcell 7 _ rfl;have f7:=hfree (m*11+7);have e7:=hB.cell 7;have d8:=hcell 8 _ rfl;have f8:=hfree (m*11+8);have e8:=hB.cell 8;have d9:=hcell 9 _ rfl;have f9:=hfree (m*11+9);have e9:=hB.cell 9;have zQ:=hcell 10 _ rfl;have f10:=hfree (m*11+10);have e10:=hB.cell 10;simp at e0 e1 e2 e3 e4 e5 e6 e7 e8 e9 e10;have HB:=Hd hB;have HRW:=Hd nG;have HT:=Hd (HF.out.touch.trans hT.none_);have HM:=Hd hm;have HV:=Hd hv';have HL:=Hd hlen;have HQ:=Hd hq;clear hB nG hT hcell hfree hm hv' pV hlen hq;by_cases heq:p=aD 0 o
    ·have hpe:pq p (aD 0 o)=true:=(kU _ _).2 heq
     have hneq:∀ w:World,(binOp .neq 128 (.agg #[.int .i64 p.kind,.int .i64 p.order,.int .i64 p.cls,.int .i64 p.live,.int .i64 p.next,.int .i64 p.prev,.int .i64 p.first,.int .u64 p.b0,.int .u64 p.b1,.int .u64 p.b2,.int .u64 p.b3]) (.agg #[.int .i64 0,.int .i64 o,.int .i64 0,.int .i64 0,.int .i64 (-1),.int .i64 (-1),.int .i64 (-1),.int .u64 0,.int .u64 0,.int .u64 0,.int .u64 0])).run Tryz.prog w=.ok (.bool false) w:=fun w=>by
      have:=oO p (aD 0 o) w;rw [hpe] at this;exact this
     clear hpe;have HE:=Hd heq;clear heq
     go_quiet (fail)
     have hrw:μ.runK j 0 o (k+1)=μ.runK j 0 o k:=by
      show (μ.runK j 0 o k).aA (j+k) (bK 0 o k)=_
      rw [HQ.out,←HE.out,Mp.kT HP.out]
     replace hrw:=Hd hrw
     go_wp2_with fail
     go_roundw
     case rel =>
      refine ⟨k+1,hlt',by go_num,?_,HT.out.drewN _⟩;rw [hrw.out];exact HRW.out.aj ((Touch.refl Nothing W).drewN nq)
     case measure=>simp [intOf];omega
    ·have hpe:pq p (aD 0 o)=false:=by
      have:=mt (kU p (aD 0 o)).1 heq;exact Bool.eq_false_iff.2 this
     have hneq:∀ w:World,(binOp .neq 128 (.agg #[.int .i64 p.kind,.int .i64 p.order,.int .i64 p.cls,.int .i64 p.live,.int .i64 p.next,.int .i64 p.prev,.int .i64 p.first,.int .u64 p.b0,.int .u64 p.b1,.int .u64 p.b2,.int .u64 p.b3]) (.agg #[.int .i64 0,.int .i64 o,.int .i64 0,.int .i64 0,.int .i64 (-1),.int .i64 (-1),.int .i64 (-1),.int .u64 0,.int .u64 0,.int .u64 0,.int .u64 0])).run Tryz.prog w=.ok (.bool true) w:=fun w=>by
      have:=oO p (aD 0 o) w;rw [hpe] at this;exact this
     clear hpe;clear heq
     go_quiet (fail)
     go_wp2_with fail
     refine wp_region_still_tail 8 (by kernel_rfl) (by kernel_rfl) ?_
     simp only [List.take_succ_cons,List.take_zero,List.drop_succ_cons,List.drop_zero,World.drew_eq]
     repeat still_step
     refine wpStill_nil ?_
     go_wp2_with fail
     have hok:(aD 0 o).ok:=nE _ _ (by omega) (by omega);obtain ⟨r1,r2⟩:=(HRW.out.aj ((Touch.refl Nothing W).drewN (nq+1))).sV (q:=aD 0 o) (g:=g) (cap:=cap') HP.out HV.out hok
     go_roundw
     case rel =>
      refine ⟨k+1,hlt',by go_num,?_,?_⟩
      ·show aI _ L ((μ.runK j 0 o k).aA (j+k) (bK 0 o k))
       rw [HQ.out,HM.out];exact r1
      ·rw [HM.out];exact (HT.out.drewN (nq+1)).trans (r2.mono (fun b _ e=>by rw [HV.out,e];rfl))
     case measure=>simp [intOf];omega
   ·have hq:(bK 0 o k)=(aD 1 o):=by unfold bK;rw [if_neg (by omega)];rfl
    go_wp2_with fail
    refine (wC 0 o _).mono ?_
    rintro e w2 ⟨rfl,rfl⟩;unfold Pg.val aD
    go_wp2_with fail
    have hB:=aC.new (wr.alloc (.cells #[.int .i64 0,.int .i64 o,.int .i64 0,.int .i64 0,.int .i64 (-1),.int .i64 (-1),.int .i64 (-1),.int .u64 0,.int .u64 0,.int .u64 0,.int .u64 0] 128)) #[.int .i64 1,.int .i64 o,.int .i64 0,.int .i64 0,.int .i64 (-1),.int .i64 (-1),.int .i64 (-1),.int .u64 0,.int .u64 0,.int .u64 0,.int .u64 0] 128;have hT:=((Touch.refl Nothing wr).alloc (.cells #[.int .i64 0,.int .i64 o,.int .i64 0,.int .i64 0,.int .i64 (-1),.int .i64 (-1),.int .i64 (-1),.int .u64 0,.int .u64 0,.int .u64 0,.int .u64 0] 128)).alloc (.cells #[.int .i64 1,.int .i64 o,.int .i64 0,.int .i64 0,.int .i64 (-1),.int .i64 (-1),.int .i64 (-1),.int .u64 0,.int .u64 0,.int .u64 0,.int .u64 0] 128);simp only [World.size_alloc] at hB;generalize (World.alloc (World.alloc wr _) _)=W at *;generalize wr.heap.size+1=b at *;have nG:=HF.out.rep.aj hT;obtain ⟨g,cap',hv',pV,hcell,hfree⟩:=nG.page HP.out;have c1':=nG.blk.cell 1;simp [hv'] at c1';have hlen:(μ.runK j 0 o k).pages.length=μ.pages.length:=by simp [Mp.runK,gU]
    rw [hlen] at c1';obtain ⟨m,hm⟩:∃ m,m=j+k:=⟨_,rfl⟩;have Ru:IntKind.i64.wrap ((j:Int)+k)=(m:Int):=by rw [hm];exact IntWalk.i64_in _ (by omega)
    have hml:(m:Int)<(μ.pages.length:Int):=by omega
    rw [←hm] at hcell;have f0:=hfree (m*11);have d0:=hcell 0 _ rfl;have e0:=hB.cell 0;simp only [Nat.add_zero] at d0;have d1:=hcell 1 _ rfl;have f1:=hfree (m*11+1);have e1:=hB.cell 1;have d2:=hcell 2 _ rfl;have f2:=hfree (m*11+2);have e2:=hB.cell 2;have d3:=hcell 3 _ rfl;have f3:=hfree (m*11+3);have e3:=hB.cell 3;have d4:=hcell 4 _ rfl;have f4:=hfree (m*11+4);have e4:=hB.cell 4;have d5:=hcell 5 _ rfl;have f5:=hfree (m*11+5);have e5:=hB.cell 5;have d6:=hcell 6 _ rfl;have f6:=hfree (m*11+6);have e6:=hB.cell 6;have d7:=hcell 7 _ rfl;have f7:=hfree (m*11+7);have e7:=hB.cell 7;have d8:=hcell 8 _ rfl;have f8:=hfree (m*11+8);have e8:=hB.cell 8;have d9:=hcell 9 _ rfl;have f9:=hfree (m*11+9);have e9:=hB.cell 9;have zQ:=hcell 10 _ rfl;have f10:=hfree (m*11+10);have e10:=hB.cell 10;simp at e0 e1 e2 e3 e4 e5 e6 e7 e8 e9 e10;have HB:=Hd hB;have HRW:=Hd nG;have HT:=Hd (HF.out.touch.trans hT.none_);have HM:=Hd hm;have HV:=Hd hv';have HL:=Hd hlen;have HQ:=Hd hq;clear hB nG hT hcell hfree hm hv' pV hlen hq;by_cases heq:p=aD 1 o
    ·have hpe:pq p (aD 1 o)=true:=(kU _ _).2 heq
     have hneq:∀ w:World,(binOp .neq 128 (.agg #[.int .i64 p.kind,.int .i64 p.order,.int .i64 p.cls,.int .i64 p.live,.int .i64 p.next,.int .i64 p.prev,.int .i64 p.first,.int .u64 p.b0,.int .u64 p.b1,.int .u64 p.b2,.int .u64 p.b3]) (.agg #[.int .i64 1,.int .i64 o,.int .i64 0,.int .i64 0,.int .i64 (-1),.int .i64 (-1),.int .i64 (-1),.int .u64 0,.int .u64 0,.int .u64 0,.int .u64 0])).run Tryz.prog w=.ok (.bool false) w:=fun w=>by
      have:=oO p (aD 1 o) w;rw [hpe] at this;exact this
     clear hpe;have HE:=Hd heq;clear heq
     go_quiet (fail)
     have hrw:μ.runK j 0 o (k+1)=μ.runK j 0 o k:=by
      show (μ.runK j 0 o k).aA (j+k) (bK 0 o k)=_
      rw [HQ.out,←HE.out,Mp.kT HP.out]
     replace hrw:=Hd hrw
     go_wp2_with fail
     go_roundw
     case rel =>
      refine ⟨k+1,hlt',by go_num,?_,HT.out.drewN _⟩;rw [hrw.out];exact HRW.out.aj ((Touch.refl Nothing W).drewN nq)
     case measure=>simp [intOf];omega
    ·have hpe:pq p (aD 1 o)=false:=by
      have:=mt (kU p (aD 1 o)).1 heq;exact Bool.eq_false_iff.2 this
     have hneq:∀ w:World,(binOp .neq 128 (.agg #[.int .i64 p.kind,.int .i64 p.order,.int .i64 p.cls,.int .i64 p.live,.int .i64 p.next,.int .i64 p.prev,.int .i64 p.first,.int .u64 p.b0,.int .u64 p.b1,.int .u64 p.b2,.int .u64 p.b3]) (.agg #[.int .i64 1,.int .i64 o,.int .i64 0,.int .i64 0,.int .i64 (-1),.int .i64 (-1),.int .i64 (-1),.int .u64 0,.int .u64 0,.int .u64 0,.int .u64 0])).run Tryz.prog w=.ok (.bool true) w:=fun w=>by
      have:=oO p (aD 1 o) w;rw [hpe] at this;exact this
     clear hpe;clear heq
     go_quiet (fail)
     go_wp2_with fail
     refine wp_region_still_tail 8 (by kernel_rfl) (by kernel_rfl) ?_
     simp only [List.take_succ_cons,List.take_zero,List.drop_succ_cons,List.drop_zero,World.drew_eq]
     repeat still_step
     refine wpStill_nil ?_
     go_wp2_with fail
     have hok:(aD 1 o).ok:=nE _ _ (by omega) (by omega);obtain ⟨r1,r2⟩:=(HRW.out.aj ((Touch.refl Nothing W).drewN (nq+1))).sV (q:=aD 1 o) (g:=g) (cap:=cap') HP.out HV.out hok
     go_roundw
     case rel =>
      refine ⟨k+1,hlt',by go_num,?_,?_⟩
      ·show aI _ L ((μ.runK j 0 o k).aA (j+k) (bK 0 o k))
       rw [HQ.out,HM.out];exact r1
      ·rw [HM.out];exact (HT.out.drewN (nq+1)).trans (r2.mono (fun b _ e=>by rw [HV.out,e];rfl))
     case measure=>simp [intOf];omega
  ·obtain rfl:k=y:=by omega
   have HF:=Hd hF;clear hF
   go_wp2_with fail
   go_ret
   exact ⟨rfl,HF.out.rep,HF.out.touch⟩
end Go.Proofs.YtnjcmcnjgdjbiaaGreatDoor
namespace Go.Proofs.YtnjcmcnjgdjbiaaGreatDoor
open Go.RowKit
section
variable {P:Program} (w:World)
theorem sW (t tn ty e:TypeId) (i:TypeInfo) (z:Value) (k kn:IntKind) (ht:P.underlying t=some (.slice e)) (htn:P.underlying tn=some (.int kn)) (hi:P.info? e=some i) (hz:i.zero=some z)
  (hzs:z.cells.size=i.size) (hsz:0<i.size)
  (g sLen sCap:Nat) (cur:Array Value) (hg:w.heap[g]? = some (.cells cur e (0,0))) (m:Nat) (h0:0<m) (h63:m≤1000000) (hby:i.bytes≤1000000)
  (h1:∀ u∈(Builtin.zeroCells z.cells m).toList,u.oneCell'=true) (hroom:sLen+m≤sCap) (hfit:(sLen+m)*i.size≤cur.size) :
  (Builtin.append_ #[t,tn] ty #[.slice (some ⟨g,0,none⟩) sLen sCap,.int k m]).run P w =
   .ok (.slice (some ⟨g,0,none⟩) (sLen+m) sCap) (w.setRow g (cur.toList.take (sLen*i.size)++(Builtin.zeroCells z.cells m).toList++cur.toList.drop (sLen*i.size+(Builtin.zeroCells z.cells m).toList.length)).toArray):=by
 have hl:(Builtin.zeroCells z.cells m).toList.length=m*i.size:=by rw [Array.length_toList,size_zeroCells,hzs]
 have hst:=run_storeCells_at P g (sLen*i.size) e (Builtin.zeroCells z.cells m).toList 0 cur w hg (by rw [hl];rw [Nat.add_mul] at hfit;omega) h1;simp only [Nat.add_zero] at hst;have hw:IntKind.i64.wrap (m:Int)=m:=by rw [IntKind.wrap_i64];omega
 have hneg:¬((m:Int)<0):=by omega
 have hm0:m≠0:=by omega
 have hns:¬(m*i.size=0):=Nat.mul_ne_zero hm0 (by omega);have hmb:m*i.bytes≤1000000*1000000:=Nat.mul_le_mul h63 hby
 have h48i:¬(281474976710656<(m:Int)*(i.bytes:Int)):=by
  rw [←Int.natCast_mul];omega
 simp [Builtin.append_,run_underlying ht,run_underlying htn,sizeOf,typeInfo,zeroValue,hi,hz,asInt,asIntOf,hw,hneg,hns,h48i,hroom,Addr.add_lit,hst]
theorem run_append_grow_zeros (t tn ty e:TypeId) (i:TypeInfo) (z:Value) (k kn:IntKind) (ht:P.underlying t=some (.slice e)) (htn:P.underlying tn=some (.int kn)) (hi:P.info? e=some i) (hz:i.zero=some z)
  (hsz:0<i.size) (b:Addr) (sLen sCap:Nat) (olds:List Value) (hlo:olds.length=sLen*i.size) (holds:∀ j v,olds[j]? = some v→w.cell? (b.add j)=some v)
  (m:Nat) (h0:0<m) (h63:sLen+m≤1000000) (hby:i.bytes≤1000000) (hg:sCap<sLen+m) (hfit:Builtin.nextslicecap (sLen+m) sCap*i.bytes≤281474976710656) :
  (Builtin.append_ #[t,tn] ty #[.slice (some b) sLen sCap,.int k m]).run P w =
   .ok (.slice (some ⟨w.heap.size,0,none⟩) (sLen+m) (grownCap w (sLen+m) sCap e))
    (w.drew.alloc (.cells (olds.toArray++Builtin.zeroCells z.cells m++Builtin.zeroCells z.cells (grownCap w (sLen+m) sCap e-(sLen+m))) e)):=by
 have hn:¬(sLen+m≤sCap):=by omega
 have h63':¬(9223372036854775807<((sLen:Int)+(m:Int))):=by omega
 have h48':¬(281474976710656<Builtin.nextslicecap (sLen+m) sCap*i.bytes):=by omega
 have hfo:=run_firstCells_some (P:=P) w.drew i.size sLen b sLen sCap olds hlo (by simpa using holds);have hw:IntKind.i64.wrap (m:Int)=m:=by rw [IntKind.wrap_i64];omega
 have hneg:¬((m:Int)<0):=by omega
 have hm0:m≠0:=by omega
 have hns:¬(m*i.size=0):=Nat.mul_ne_zero hm0 (by omega);have hmb:m*i.bytes≤1000000*1000000:=Nat.mul_le_mul (by omega) hby
 have h48i:¬(281474976710656<(m:Int)*(i.bytes:Int)):=by
  rw [←Int.natCast_mul];omega
 simp [Builtin.append_,run_underlying ht,run_underlying htn,sizeOf,typeInfo,zeroValue,hi,hz,asInt,asIntOf,hw,hneg,hns,h48i,hn,h63',h48',Question.forced,hfo,newRow,grownCap]
theorem sZ (t tn ty e:TypeId) (i:TypeInfo) (z:Value) (k kn:IntKind) (ht:P.underlying t=some (.slice e)) (htn:P.underlying tn=some (.int kn)) (hi:P.info? e=some i) (hz:i.zero=some z)
  (hzs:z.cells.size=i.size) (hsz:0<i.size) (hby:i.bytes≤1000000) (v:Value) (n:Nat) (xs:List Value) (hown:w.ownsRow 0 e i.size v n xs) (m:Nat) (h0:0<m) (h63:n+m≤1000000)
  (h1:∀ u∈(Builtin.zeroCells z.cells m).toList,u.oneCell'=true) :
  ∃ g cap w',(Builtin.append_ #[t,tn] ty #[v,.int k m]).run P w=.ok (.slice (some ⟨g,0,none⟩) (n+m) cap) w' ∧
   w'.ownsRow 0 e i.size (.slice (some ⟨g,0,none⟩) (n+m) cap) (n+m) (xs++(Builtin.zeroCells z.cells m).toList)∧w.grownBy w' v.ownBlock∧(v.ownBlock=some g∨g=w.heap.size)∧g<w'.heap.size:=by
 have hl:(Builtin.zeroCells z.cells m).toList.length=m*i.size:=by rw [Array.length_toList,size_zeroCells,hzs]
 have hlen:(xs++(Builtin.zeroCells z.cells m).toList).length=(n+m)*i.size:=by rw [List.length_append,hown.1,hl,Nat.add_mul]
 have grown:∀ (old:Nat),old<n+m→∀ (row:Option Nat),
   (w.drew.alloc (.cells (xs.toArray++Builtin.zeroCells z.cells m++Builtin.zeroCells z.cells (grownCap w (n+m) old e-(n+m))) e)).ownsRow 0 e i.size
    (.slice (some ⟨w.heap.size,0,none⟩) (n+m) (grownCap w (n+m) old e)) (n+m) (xs++(Builtin.zeroCells z.cells m).toList) ∧
   w.grownBy (w.drew.alloc (.cells (xs.toArray++Builtin.zeroCells z.cells m++Builtin.zeroCells z.cells (grownCap w (n+m) old e-(n+m))) e)) row:=by
  intro old ho row;have hge:=grownCap_ge w (n+m) old e;have hcm:grownCap w (n+m) old e≤maxLen:=grownCap_le_maxLen w (n+m) old e (by simp only [maxLen];omega);refine ⟨⟨hlen,.inr ⟨w.heap.size,_,_,rfl,Nat.zero_le _,heap_alloc_new w.drew _,hge,hcm,?_,?_⟩⟩,⟨rfl,rfl,rfl,by simp,fun k hk _=>Below.heap_alloc w.drew _ k hk⟩⟩
  ·simp only [Array.size_append,List.size_toArray,size_zeroCells,hzs,hown.1,←Nat.add_mul]
   congr 1
   omega
  ·simp only [Array.toList_append,List.append_assoc];rw [←List.append_assoc,←hlen];exact List.take_left
 have hbytes:(n+m)*i.bytes≤140737488355328:=by
  have:=Nat.mul_le_mul h63 hby;omega
 rcases hown.2 with ⟨rfl,rfl⟩ | ⟨g,cap,cur,rfl,hbg,hg,hnc,hcm,hcs,htake⟩
 ·have hx:xs = []:=List.eq_nil_of_length_eq_zero (by simpa using hown.1);subst hx;have hr:=Lib.run_append_nil_zeros (P:=P) w t tn ty e i z k kn ht htn hi hz m h0 hsz (by omega) (by rw [Nat.zero_add] at hbytes;omega);have hgr:=grown 0 (by omega) (Value.ownBlock (.slice none 0 0));simp only [Nat.zero_add,List.nil_append,Array.empty_append] at hgr ⊢;exact ⟨_,_,_,hr,hgr.1,hgr.2,.inr rfl,by simp⟩
 ·by_cases hroom:n+m≤cap
  ·have hr:=sW (P:=P) w t tn ty e i z k kn ht htn hi hz hzs hsz g n cap cur hg m h0 (by omega) hby h1 hroom (by rw [hcs];exact Nat.mul_le_mul_right _ hroom);refine ⟨g,cap,_,hr,⟨hlen,.inr ⟨g,cap,_,rfl,hbg,setRow_heap w g cur _ e _ hg,hroom,hcm,?_,?_⟩⟩,⟨rfl,rfl,rfl,by simp,fun k _ hk=>setRow_other w g k _ (fun e=>hk (by simp [Value.ownBlock,e]))⟩,.inl rfl,?_⟩
   ·have hfit:n*i.size+m*i.size≤cur.size:=by rw [hcs,←Nat.add_mul];exact Nat.mul_le_mul_right _ hroom
    simp only [List.size_toArray,List.length_append,List.length_take,List.length_drop,Array.length_toList,size_zeroCells,hzs];omega
   ·rw [htake,←hlen];exact List.take_left
   ·have:=(Array.getElem?_eq_some_iff.1 hg).1;simpa using this
  ·have holds:∀ j u,xs[j]? = some u→w.cell? ((⟨g,0,none⟩:Addr).add j)=some u:=hown.cells (g:=g) rfl;have hr:=run_append_grow_zeros (P:=P) w t tn ty e i z k kn ht htn hi hz hsz ⟨g,0,none⟩ n cap xs hown.1 holds m h0 h63 hby (by omega) (growslice_fits (by omega) hbytes);have hgr:=grown cap (by omega) (Value.ownBlock (.slice (some ⟨g,0,none⟩) n cap));exact ⟨_,_,_,hr,hgr.1,hgr.2,.inr rfl,by simp⟩
theorem Bz {ops:Array Oper} {o:Oper} {a:Act} {K:Act→World→Prop} {Q:Exit→Act→World→Prop} {E:Prop} (hgd:o.guard=none) (f:FuncId) (xs:Array Operand) (ts:Array TypeId)
  (ho:o.op=.call { callee:=.value (.func f),args:=xs,argTypes:=ts }) (args:Array Value) (hargs:(xs.map a.eval)=args) (v:Value)
  (hc:Calls P f args w fun e w'=>e=.returned v∧w=w') (hcf:(callFunc f args).run P w=.ok (.enter f args) w) (h:K (a.put o.dst v) w) :
  if Region.wanted o (yielded ops a.tmps)=true then Oper.wp P o a w K Q else E:=by
 have hw:Region.wanted o (yielded ops a.tmps)=true:=by simp [Region.wanted,hgd]
 rw [if_pos hw];unfold Oper.wp
 have hr:(execOp a.eval o).run P w=.ok (.enter f args) w:=by
  simp [execOp,ho,resolve,invoke,hargs,go_sem,hcf]
 rw [hr,Oper.upon_enter];refine hc.mono ?_
 rintro e w' ⟨rfl,rfl⟩;exact h
theorem zT {ops:Array Oper} {o:Oper} {a:Act} {K:Act→World→Prop} {Q:Exit→Act→World→Prop} {E:Prop} (hgd:o.guard=none) (f:FuncId) (x:Operand) (ts:Array TypeId)
  (ho:o.op=.call { callee:=.value (.func f),args:=#[x],argTypes:=ts }) (u:Value) (hx:a.eval x=u) (v:Value)
  (hc:Calls P f #[u] w fun e w'=>e=.returned v∧w=w') (hcf:(callFunc f #[u]).run P w=.ok (.enter f #[u]) w) (h:K (a.put o.dst v) w) :
  if Region.wanted o (yielded ops a.tmps)=true then Oper.wp P o a w K Q else E :=
 Bz w hgd f #[x] ts ho #[u] (by simp [hx]) v hc hcf h
theorem yh {ops:Array Oper} {o:Oper} {a:Act} {K:Act→World→Prop} {Q:Exit→Act→World→Prop} {E:Prop} (hgd:o.guard=none) (so xo:Operand) (t tn:TypeId)
  (ho:o.op=.call { callee:=.builtin .append,args:=#[so,xo],argTypes:=#[t,tn] }) (e:TypeId) (i:TypeInfo) (z:Value) (k kn:IntKind) (ht:P.underlying t=some (.slice e)) (htn:P.underlying tn=some (.int kn))
  (hi:P.info? e=some i) (hz:i.zero=some z) (size:Nat) (hsize:i.size=size)
  (hzs:z.cells.size=size) (hsz:0<size) (hby:i.bytes≤1000000) (v:Value) (n:Nat) (xs:List Value) (hs:a.eval so=v) (hown:w.ownsRow 0 e size v n xs) (m:Nat) (hx:a.eval xo=.int k m) (h0:0<m) (h63:n+m≤1000000)
  (h1:∀ u∈(Builtin.zeroCells z.cells m).toList,u.oneCell'=true) (H:Nat) (hH:w.heap.size=H)
  (h:∀ g cap w',w'.ownsRow 0 e size (.slice (some ⟨g,0,none⟩) (n+m) cap) (n+m) (xs++(Builtin.zeroCells z.cells m).toList)→w.grownBy w' v.ownBlock→(v.ownBlock=some g∨g=H)→g<w'.heap.size→K (a.put o.dst (.slice (some ⟨g,0,none⟩) (n+m) cap)) w') :
  if Region.wanted o (yielded ops a.tmps)=true then Oper.wp P o a w K Q else E:=by
 have hw:Region.wanted o (yielded ops a.tmps)=true:=by simp [Region.wanted,hgd]
 rw [if_pos hw];subst hsize;obtain ⟨g,cap,w',hr,h2,h3,h4,h5⟩:=sZ (P:=P) w t tn o.type e i z k kn ht htn hi hz hzs hsz hby v n xs hown m h0 h63 h1;refine Lib.wp_append_run w so xo t tn ho v (.int k m) hs hx _ w' hr ?_
 exact h g cap w' h2 h3 (by rw [←hH];exact h4) h5
end
theorem LB {l:List Nat} (h:l.Nodup) (i a:Nat) (ha:a∉l):(l.set i a).Nodup:=by
 induction l generalizing i with
 | nil=>simp
 | cons x l ih =>
  rw [List.nodup_cons] at h;simp only [List.mem_cons,not_or] at ha;cases i with
  | zero=>simp only [List.set_cons_zero,List.nodup_cons];exact ⟨ha.2,h.2⟩
  | succ i =>
   simp only [List.set_cons_succ,List.nodup_cons];refine ⟨fun hm=>?_,ih h.2 i ha.2⟩;rcases List.mem_or_eq_of_mem_set hm with h1 | h1
   ·exact h.1 h1
   ·exact ha.1 h1.symm
theorem LC (l:List (Nat × Nat)):∀ (k b:Nat) (p:Nat × Nat),l[k]? = some p→((l.set k (p.1,b)).flatMap fun p=>[p.1,p.2])=(l.flatMap fun p=>[p.1,p.2]).set (2*k+1) b:=by
 induction l with
 | nil=>intro k b p h;simp at h
 | cons q l ih =>
  intro k b p h;cases k with
  | zero =>
   simp at h;subst h;rfl
  | succ k =>
   have:=ih k b p (by simpa using h);rw [List.set_cons_succ,List.flatMap_cons,List.flatMap_cons,this,List.set_append_right _ _ (by simp;omega)];rw [show 2*(k+1)+1 - [q.1,q.2].length=2*k+1 from by simp;omega]
def aT.setW (L:aT) (k:Nat) (l:Nat × Nat) (b:Nat):aT:={ L with sets:=L.sets.set k (l.1,b) }
theorem aT.Ig {L:aT} {k:Nat} {l:Nat × Nat} (b:Nat) (hl:L.sets[k]? = some l):∃ i,(L.setW k l b).fp=L.fp.set i b:=by
 refine ⟨(L.gv.ownBlock.toList++L.sv.ownBlock.toList).length+(2*k+1)+1,?_⟩;unfold aT.fp aT.setW;rw [List.set_cons_succ,LC _ _ _ _ hl,List.set_append_right _ _ (by omega)];rw [show (L.gv.ownBlock.toList++L.sv.ownBlock.toList).length+(2*k+1)-(L.gv.ownBlock.toList++L.sv.ownBlock.toList).length=2*k+1 from by omega]
def Mp.mW (μ:Mp) (k:Nat) (s:gT):Mp:={ μ with pairs:=μ.pairs.set k s }
theorem aI.repaired {w w':World} {L:aT} {μ:Mp} (R:aI w L μ) {k b:Nat} {l:Nat × Nat} {s:gT} (hl:L.sets[k]? = some l) (hk:k<μ.order) (hb:w.heap.size≤b)
  (h:gL w' (l.1,b) s) (T:Touch (fun i=>i=l.1) w w'):aI w' (L.setW k l b) (μ.mW k s):=by
 obtain ⟨_,a1,_,a2,_,a3,a4⟩:=R.Co hl;have hp:=R.ok.pairs;have hlt:=R.lt;refine ⟨R.blk.touch T a1,R.pages.touch T (fun g hg e=>a2 (by rw [hg,e])),?_,?_,?_,⟨R.ok.order,R.ok.len,by simp [Mp.mW,hp],R.ok.page⟩⟩
 ·have h1:=R.pairs.touch T (fun g hg e=>a3 (by rw [hg,e]))
  have e1:((L.setW k l b).sets.map fun l=>Value.pointer (some ⟨l.1,0,none⟩))=L.sets.map fun l=>Value.pointer (some ⟨l.1,0,none⟩):=by
   unfold aT.setW;apply List.ext_getElem?;intro j;simp only [List.getElem?_map,List.getElem?_set];split
   ·rename_i e
    subst e;rw [hl];split
    ·rfl
    ·rename_i h;exact (h (List.getElem?_eq_some_iff.1 hl).1).elim
   ·rfl
  rw [e1];simpa [Mp.mW,aT.setW] using h1
 ·intro j a t ha ht;by_cases hj:j=k
  ·subst hj;have hs:=(List.getElem?_eq_some_iff.1 hl).1;simp [aT.setW,hs] at ha;simp [Mp.mW,show j<μ.pairs.length from by omega] at ht;rw [←ha,←ht];exact h
  ·have ha':L.sets[j]? = some a:=by simpa [aT.setW,List.getElem?_set,Ne.symm hj] using ha
   have:=a4 j a ha' hj;refine (R.sets j a t ha' ?_).touch T this.1 this.2.2.1;simpa [Mp.mW,List.getElem?_set,Ne.symm hj] using ht
 ·obtain ⟨i,hi⟩:=aT.Ig b hl;rw [hi];exact LB R.apart i b (fun hm=>by have:=hlt b hm;omega)
def aT.heads (L:aT):List Nat:=L.sets.map Prod.fst
theorem aT.Jt {L:aT} {k:Nat} {l:Nat × Nat} (b:Nat) (hl:L.sets[k]? = some l):(L.setW k l b).heads=L.heads:=by
 unfold aT.heads aT.setW;apply List.ext_getElem?;intro j;simp only [List.getElem?_map,List.getElem?_set];split
 ·rename_i e
  subst e;rw [hl];split
  ·rfl
  ·rename_i h;exact (h (List.getElem?_eq_some_iff.1 hl).1).elim
 ·rfl
def reset (n k:Nat) (s:gT):gT:=⟨n/2^(k+1),oN s.ws (n/2^(k+1))⟩
def Mp.iO (μ:Mp):Nat→Mp
 | 0=>μ
 | k+1=>(μ.iO k).mW k (reset μ.pages.length k (μ.pairs.getD k ⟨0,[]⟩))
theorem Mp.jw (μ:Mp) (k:Nat):(μ.iO k).pages=μ.pages∧(μ.iO k).order=μ.order∧(μ.iO k).pairs.length=μ.pairs.length:=by
 induction k with
 | zero=>exact ⟨rfl,rfl,rfl⟩
 | succ k ih =>
  refine ⟨ih.1,ih.2.1,?_⟩
  show ((μ.iO k).pairs.set _ _).length=_
  rw [List.length_set,ih.2.2]
theorem Mp.Gy (μ:Mp) (k j:Nat) (h:k≤j):(μ.iO k).pairs[j]? = μ.pairs[j]? := by
 induction k with
 | zero=>rfl
 | succ k ih =>
  show ((μ.iO k).pairs.set _ _)[j]? = _
  rw [List.getElem?_set,if_neg (by omega)];exact ih (by omega)
def Mp.paired (μ:Mp):Mp:=μ.iO μ.order
structure aT.Next (w:World) (L L':aT):Prop where
 mb:L'.mb=L.mb
 gv:L'.gv=L.gv
 sv:L'.sv=L.sv
 heads:L'.heads=L.heads
 fresh:∀ k∈L'.fp,k∈L.fp∨w.heap.size≤k
structure Ih (w:World) (L:aT) (μ:Mp) (k:Nat) (wr:World) (L':aT):Prop where
 rep:aI wr L' (μ.iO k)
 next:L.Next w L'
 touch:Touch (·∈L.heads) w wr
def U9 (w:World) (L:aT) (μ:Mp) (k:Nat) (e:Ending) (w':World):Prop:=∃ L',e=.returned (.tuple #[])∧Ih w L μ k w' L'
theorem aI.Ij {w:World} {L:aT} {μ:Mp} (R:aI w L μ) :
  Calls Tryz.prog 258 #[.pointer (some ⟨L.mb,0,none⟩)] w (U9 w L μ μ.order):=by
 have hp:=R.ok.pairs;have hl:=R.ok.len;have ho:=R.ok.order;have c2:=R.blk.cell 2
 have hsv:∃ pa cap,L.sv=.slice pa μ.order cap∧μ.order≤cap:=by
  rcases R.pairs.2 with ⟨h,h0⟩ | ⟨g,cap,cur,h,_,_,hc,_⟩
  ·exact ⟨none,0,by rw [h,←hp,h0],by omega⟩
  ·exact ⟨_,cap,by rw [h,hp],by omega⟩
 obtain ⟨pa,cap,hv,hcap⟩:=hsv;simp [hv] at c2;have HR:=Hd R;have HV:=Hd hv;clear R hv
 go_enter Tryz.func258,Tryz.ntmps258
 go_wp2_with fail
 go_loopw [9] (fun a wr=>∃ k:Nat,k≤μ.order∧a=.int .i64 k∧∃ L',Ih w L μ k wr L') (fun a _=>μ.order-(intOf a).toNat)
 case atStart =>
  exact ⟨0,Nat.zero_le _,rfl,L,HR.out,⟨rfl,rfl,rfl,rfl,fun k hk=>.inl hk⟩,Touch.refl _ _⟩
 case round =>
  obtain ⟨k,hk,rfl,L',hF⟩:=hrel;have HF:=Hd hF;clear hF;by_cases hlt:k<μ.order
  ·obtain ⟨e1,e2,e3⟩:=μ.jw k;obtain ⟨g,cp,l,hv',hc',hl',hg,hs⟩:=HF.out.rep.setAt (k:=k) (by rw [e2];exact hlt);have Va:=HF.out.next.sv
   have hpa:pa=some ⟨g,0,none⟩:=by
    have:=(HV.out.symm.trans Va.symm).trans hv';simp at this;exact this.1
   subst hpa;have c1:=HF.out.rep.blk.cell 1;obtain ⟨pg,cg,hgv,hcg⟩:=HF.out.rep.wB;simp [hgv] at c1;rw [e1] at c1;have hmb:=HF.out.next.mb;rw [hmb] at c1
   have hge:(μ.iO k).pairs.getD k ⟨0,[]⟩=μ.pairs.getD k ⟨0,[]⟩:=by
    rw [List.getD_eq_getElem?_getD,List.getD_eq_getElem?_getD,μ.Gy k k (Nat.le_refl _)]
   rw [hge] at hs;have hlo:μ.pages.length/2^(k+1)≤1048576:=Nat.le_trans (Nat.div_le_self _ _) (by omega);have hsh:(μ.pages.length:Int)/2^(k+1)=((μ.pages.length/2^(k+1):Nat):Int):=by simp
   have hk1:((k:Int)+1).toNat=k+1:=by omega
   have HS:=Hd (hs.TA (μ.pages.length/2^(k+1)) hlo);have HL:=Hd hl';have HE:=Hd (And.intro e1 (And.intro e2 e3));have HM:=Hd hmb;have hkl:(k:Int)<(μ.order:Int):=by omega
   clear hs hl' e1 e2 e3 hgv hcg hv' hc' Va hge hmb hlo;generalize hq:μ.pages.length/2^(k+1)=q at *;have HQ:=Hd hq;clear hq
   go_wp2_with fail
   refine HS.out.mono ?_
   rintro e w2 ⟨b,rfl,h1,h2,h3⟩;have hrep:=HF.out.rep.repaired (k:=k) (b:=b) HL.out (by rw [HE.out.2.1];exact hlt) h1 h2 h3;have HR2:=Hd hrep;have HT2:=Hd h3;have HB:=Hd h1;clear hrep h1 h2 h3
   go_wp2_with fail
   go_roundw
   case rel =>
    refine ⟨k+1,hlt,by go_num,L'.setW k l b,⟨?_,⟨HF.out.next.mb,HF.out.next.gv,HF.out.next.sv,(aT.Jt b HL.out).trans HF.out.next.heads,?_⟩,?_⟩⟩
    ·have:=HR2.out;rw [←HQ.out] at this;exact this
    ·intro x hx;obtain ⟨i,hi⟩:=aT.Ig b HL.out;rw [hi] at hx;rcases List.mem_or_eq_of_mem_set hx with h | h
     ·exact HF.out.next.fresh x h
     ·right;have:=HF.out.touch.size;have:=HB.out;omega
    ·refine HF.out.touch.trans (HT2.out.mono (fun x _ e=>?_));rw [e,←HF.out.next.heads];exact List.mem_map.2 ⟨l,List.mem_of_getElem? HL.out,rfl⟩
   case measure=>simp [intOf];omega
  ·obtain rfl:k=μ.order:=by omega
   go_wp2_with fail
   go_end0
   exact ⟨L',rfl,HF.out⟩
attribute [local go_sem ↓] Go.wp_at_zero Go.wp_at_succ
def eH:Pg:=⟨0,0,0,0,0,0,0,0,0,0,0⟩
theorem LD:eH.ok:=⟨by decide,by decide,by decide,by decide,by decide,by decide,by decide,by decide,by decide,by decide,by decide⟩
theorem LG:∀ (r:Nat),r<11→eH.cells[r]? = some (eH.val.cells[r]!)
 | 0,_=>rfl
 | 1,_=>rfl
 | 2,_=>rfl
 | 3,_=>rfl
 | 4,_=>rfl
 | 5,_=>rfl
 | 6,_=>rfl
 | 7,_=>rfl
 | 8,_=>rfl
 | 9,_=>rfl
 | 10,_=>rfl
theorem DT (l:List Pg):(l.flatMap Pg.cells).length=l.length*11:=by
 induction l with
 | nil=>rfl
 | cons p l ih=>rw [List.flatMap_cons,List.length_append,ih,p.size,List.length_cons];omega
theorem Ct (m:Nat):(Builtin.zeroCells eH.val.cells m).toList=(List.replicate m eH).flatMap Pg.cells:=by
 have hs:eH.val.cells.size=11:=rfl;apply List.ext_getElem?;intro i;by_cases h:i<m*11
 ·have hr:i%11<11:=Nat.mod_lt _ (by omega);have:=flat_get (List.replicate m eH) (i/11) eH (by rw [List.getElem?_replicate,if_pos (by omega)]) (i%11) _ (LG _ hr);rw [show i/11*11+i%11=i from by omega] at this;rw [this];unfold Builtin.zeroCells;rw [hs,Array.getElem?_toList,Array.getElem?_map];simp [h]
 ·rw [List.getElem?_eq_none,List.getElem?_eq_none]
  ·rw [DT,List.length_replicate];omega
  ·rw [Array.length_toList,size_zeroCells,hs];omega
theorem OA (m:Nat):∀ u∈(Builtin.zeroCells eH.val.cells m).toList,u.oneCell'=true:=by
 intro u hu;rw [Ct,List.mem_flatMap] at hu;obtain ⟨p,hp,hu⟩:=hu;rw [List.eq_of_mem_replicate hp] at hu;simp only [Pg.cells,List.mem_cons,List.not_mem_nil,or_false] at hu;rcases hu with rfl | rfl | rfl | rfl | rfl | rfl | rfl | rfl | rfl | rfl | rfl <;> rfl
theorem TF:(Tryz.prog.info? 128).map (fun i=>(i.zero,i.size,i.bytes))=some (some eH.val,11,88):=by kernel_rfl
def Mp.more (μ:Mp):Mp:={ μ with pages:=μ.pages++List.replicate (2^μ.order) eH }
theorem aT.Rv {L:aT} {v:Value} {g:Nat} (hg:v.ownBlock=some g) (h:L.gv.ownBlock=some g∨g∉L.fp) (hn:L.fp.Nodup) :
  ({ L with gv:=v }:aT).fp.Nodup∧∀ k∈({ L with gv:=v }:aT).fp,k∈L.fp∨k=g:=by
 rcases h with h | h
 ·have e:({ L with gv:=v }:aT).fp=L.fp:=by simp only [aT.fp,hg,h]
  rw [e];exact ⟨hn,fun k hk=>.inl hk⟩
 ·have e:({ L with gv:=v }:aT).fp=L.mb::([g]++L.sv.ownBlock.toList++L.sets.flatMap fun l=>[l.1,l.2]):=by simp only [aT.fp,hg,Option.toList_some]
  rw [e];simp only [aT.fp,List.nodup_cons,List.nodup_append,List.mem_cons,List.mem_append,not_or,List.not_mem_nil,or_false,not_false_eq_true] at hn h ⊢;obtain ⟨⟨⟨h1,h2⟩,h3⟩,⟨h4,h5,h6⟩,h7,h8⟩:=hn;obtain ⟨k1,⟨k2,k3⟩,k4⟩:=h;refine ⟨⟨⟨⟨fun e=>k1 e.symm,h2⟩,h3⟩,⟨by simp,h5,?_⟩,h7,?_⟩,?_⟩
  ·intro a ha b hb e;rw [ha] at e;exact k3 (e▸hb)
  ·intro a ha b hb;rcases ha with rfl | ha
   ·intro e;exact k4 (e▸hb)
   ·exact h8 a (.inr ha) b hb
  ·intro k hk;rcases hk with rfl | (rfl | hk) | hk
   ·exact .inl (.inl rfl)
   ·exact .inr rfl
   ·exact .inl (.inr (.inl (.inr hk)))
   ·exact .inl (.inr (.inr hk))
structure y7 (w w':World) (L L':aT) (μ μ':Mp):Prop where
 rep:aI w' L' μ'
 mb:L'.mb=L.mb
 fresh:∀ k∈L'.fp,k∈L.fp∨w.heap.size≤k
 touch:Touch (·∈L.fp) w w'
def Mp.grow (μ:Mp):Mp:=μ.more.paired.run μ.pages.length μ.order 2
def Grown (w:World) (L:aT) (μ μ':Mp) (e:Ending) (w':World):Prop:=∃ L',e=.returned (.tuple #[])∧y7 w w' L L' μ μ'
theorem aI.more {w w':World} {L:aT} {μ:Mp} (R:aI w L μ) {g cap:Nat} (h:Row w' 128 11 (.slice (some ⟨g,0,none⟩) (μ.pages.length+2^μ.order) cap) (μ.pages.length+2^μ.order) (μ.pages.flatMap Pg.cells++(Builtin.zeroCells eH.val.cells (2^μ.order)).toList))
  (hb:aC w' L.mb 194 [.int .i64 (μ.order:Nat),.slice (some ⟨g,0,none⟩) (μ.pages.length+2^μ.order) cap,L.sv]) (hg:L.gv.ownBlock=some g∨g∉L.fp)
  (T:Touch (fun k=>k=L.mb∨some k=L.gv.ownBlock) w w') (hle:μ.pages.length+2^μ.order≤1024) :
  aI w' { L with gv:=.slice (some ⟨g,0,none⟩) (μ.pages.length+2^μ.order) cap } μ.more:=by
 have hn:=R.apart;have hz:=Ct (2^μ.order);have hnn:=(aT.Rv (v:=.slice (some ⟨g,0,none⟩) (μ.pages.length+2^μ.order) cap) rfl hg hn).1
 have hmb:∀ k,L.sv.ownBlock=some k∨(∃ l∈L.sets,k=l.1∨k=l.2)→¬(k=L.mb∨some k=L.gv.ownBlock):=by
  intro k hk;simp only [aT.fp,List.nodup_cons,List.nodup_append,List.mem_append,not_or,Option.mem_toList,List.mem_flatMap,not_exists,not_and] at hn;obtain ⟨⟨⟨h1,h2⟩,h3⟩,⟨h4,h5,h6⟩,h7,h8⟩:=hn;rintro (rfl | e)
  ·rcases hk with hk | ⟨l,hl,hk⟩
   ·exact h2 hk
   ·exact h3 l hl (by rcases hk with hk | hk <;> rw [hk] <;> simp)
  ·rcases hk with hk | ⟨l,hl,hk⟩
   ·exact h6 k e.symm k hk rfl
   ·exact h8 k (.inl e.symm) k ⟨l,hl,by rcases hk with hk | hk <;> rw [hk] <;> simp⟩ rfl
 refine ⟨?_,?_,R.pairs.touch T (fun k hk=>hmb k (.inl hk)),?_,hnn,⟨R.ok.order,by simpa [Mp.more] using hle,R.ok.pairs,?_⟩⟩
 ·exact hb
 ·rw [hz] at h;have e:μ.more.pages.length=μ.pages.length+2^μ.order:=by simp [Mp.more]
  rw [e]
  show Row w' 128 11 _ _ ((μ.pages++_).flatMap Pg.cells)
  rw [List.flatMap_append];exact h
 ·intro i l s hl hs;have hm:=List.mem_of_getElem? hl;exact (R.sets i l s hl hs).touch T (hmb _ (.inr ⟨l,hm,.inl rfl⟩)) (hmb _ (.inr ⟨l,hm,.inr rfl⟩))
 ·intro p hp;rcases List.mem_append.1 hp with hp | hp
  ·exact R.ok.page p hp
  ·rw [List.eq_of_mem_replicate hp];exact LD
theorem aI.XK {w:World} {L:aT} {μ:Mp} (R:aI w L μ) (hle:μ.pages.length+2^μ.order≤1024) (hd:μ.pages.length%2^μ.order=0) :
  Calls Tryz.prog 249 #[.pointer (some ⟨L.mb,0,none⟩)] w (Grown w L μ μ.grow):=by
 obtain ⟨pa,cap,hv,hcap⟩:=R.wB;have c1:=R.blk.cell 1;have f1:=R.blk.free 1;simp [hv] at c1;have zR:=R.blk.lt;have hpw:=fD R.ok.order;have hs1:=R.Jr;have hs2:=(R.aj (Touch.refl Nothing w).drew).Jr;have hown:=(R.aj (Touch.refl Nothing w).drew).pages;have HR:=Hd R;have HV:=Hd hv;have HDv:=Hd hd;obtain ⟨i,hi,hz,hsz,hby⟩:=info_parts TF;have hw1:IntKind.i64.wrap ((μ.pages.length:Int)+((2^μ.order:Nat):Int))=(μ.pages.length:Int)+((2^μ.order:Nat):Int):=IntWalk.i64_in _ (by omega);have hH:w.drew.heap.size=w.heap.size:=rfl;generalize hy:2^μ.order=y at *;have HY:=Hd hy;have tq:=Hd hs1;have HS2:=Hd hs2;have HOWN:=Hd hown;have HI:=Hd (And.intro hi (And.intro hz (And.intro hsz hby)));have hfit:¬((1024:Int)<(μ.pages.length:Int)+y):=by omega
 clear R hv hs1 hs2 hown hi hz hsz hby hd hy hw1
 go_enter Tryz.func249,Tryz.ntmps249
 go_wp2_with fail
 refine tq.out.mono ?_
 rintro e w2 ⟨rfl,rfl⟩
 go_wp2_with fail
 have hcf:∀ W:World,(callFunc 257 #[.pointer (some ⟨L.mb,0,none⟩)]).run Tryz.prog W=.ok (.enter 257 #[.pointer (some ⟨L.mb,0,none⟩)]) W:=fun W=>by simp [go_sem]
 have kF:=Hd hcf
 have hne0:some L.mb≠(Value.slice pa μ.pages.length cap).ownBlock:=by
  rw [←HV.out];intro e;exact (HR.out.Rq e.symm).1 rfl
 have yF:=Hd hne0;clear hne0;clear hcf;have sK:L.mb<w.drew.heap.size:=zR
 go_region_law (first | (refine zT _ (by rfl) 257 (.tmp 18) #[117] (by rfl) (.pointer (some ⟨L.mb,0,none⟩)) (by rfl) (.int .i64 (y:Nat)) HS2.out (kF.out _) ?_) | (refine yh _ (by rfl) _ _ 191 3 (by rfl) 128 i eH.val .i64 .i64 Tryz.underlying191 Tryz.underlying3 HI.out.1 HI.out.2.1 11 HI.out.2.2.1 rfl (by omega) (by rw [HI.out.2.2.2];omega) (.slice pa μ.pages.length cap) μ.pages.length _ (by rfl) (by rw [←HV.out];exact HOWN.out) y (by rfl) (by omega) (by omega) (OA _) w.heap.size hH ?_;intro g cap' w3 hown3 hgrow hat Ep;have c3:w3.cell? ⟨L.mb,1,none⟩=some (.slice pa μ.pages.length cap):=(hgrow.cell_far _ sK yF.out).trans c1;have f3:w3.frozen? ⟨L.mb,1,none⟩=false:=(hgrow.frozen_far _ sK yF.out).trans f1))
 all_goals
  have hgm:g≠L.mb:=by
   rintro rfl;rcases hat with h | h
   ·exact yF.out h.symm
   ·omega
  have hgf:L.gv.ownBlock=some g∨g∉L.fp:=by
   rcases hat with h | h
   ·left;rw [HV.out];exact h
   ·right;intro hm;have:=HR.out.lt g hm;omega
  have oL:Touch (fun k=>k=L.mb∨some k=L.gv.ownBlock) w w3:=((Touch.refl Nothing w).drew).none_.trans (Touch.bT hgrow (fun k hk=>.inr (by rw [HV.out];exact hk.symm)));have hB3:aC w3 L.mb 194 [.int .i64 (μ.order:Nat),L.gv,L.sv]:=HR.out.blk.drew.touch (Touch.bT (S:=fun k=>some k=L.gv.ownBlock) hgrow (fun k hk=>by rw [HV.out];exact hk.symm)) (by rw [HV.out];exact yF.out);have hB4:=hB3.set 1 (.slice (some ⟨g,0,none⟩) (μ.pages.length+y) cap');have LH:=Touch.cellAt w3 L.mb 1 (.slice (some ⟨g,0,none⟩) (μ.pages.length+y) cap');have hO4:=Row.touch hown3 LH (fun k hk e=>hgm (by simp [Value.ownBlock] at hk;omega));have Cr:Touch (fun k=>k=L.mb∨some k=L.gv.ownBlock) w (w3.setCell ⟨L.mb,1,none⟩ (.slice (some ⟨g,0,none⟩) (μ.pages.length+y) cap')):=oL.trans (LH.mono (fun k _ e=>.inl e));have zS:=HR.out.more (g:=g) (cap:=cap') (by rw [HY.out];exact hO4) (by rw [HY.out];exact hB4) hgf Cr (by rw [HY.out];omega);rw [HY.out] at zS;have HR4:=Hd zS;have eu:=Hd Cr;have HP:=Hd zS.Ij;have HG:=Hd hat;clear zS Cr hO4 LH hB4 hB3 oL hgf hown3 hgrow hat c3 f3 c1 f1;generalize World.setCell w3 _ _=w4 at *
  go_wp2_with fail
  refine HP.out.mono ?_
  rintro e w5 ⟨L5,rfl,zU⟩;have e5:=μ.more.jw μ.more.order;have hl5:(μ.more.iO μ.more.order).pages.length=μ.pages.length+y:=by rw [e5.1];simp [Mp.more,HY.out]
  have Vb:(μ.more.iO μ.more.order).order=μ.order:=e5.2.1;have c0:=zU.rep.blk.cell 0;rw [zU.next.mb] at c0;simp only [List.getElem?_cons_zero,Vb] at c0;have wD:=Hd (zU.rep.D8 μ.pages.length μ.order (by rw [Vb];exact Nat.le_refl _) (by rw [HY.out];exact (Int.ofNat_tmod _ _).symm.trans (by rw [HDv.out];rfl)) (by rw [HY.out,hl5];exact Nat.le_refl _));rw [zU.next.mb] at wD;have eX:=Hd zU;clear zU e5 hl5 Vb;clear hH
  go_wp2_with fail
  refine wD.out.mono ?_
  rintro e w6 ⟨rfl,hr1,hr2⟩;have HA:=Hd hr1;have HB:=Hd hr2;clear hr1 hr2
  go_wp2_with fail
  go_end0
  obtain ⟨n1,n2⟩:=aT.Rv (L:=L) (v:=.slice (some ⟨g,0,none⟩) (μ.pages.length+y) cap') (g:=g) rfl (by
   rcases HG.out with h | h
   ·left;rw [HV.out];exact h
   ·right;intro hm;have:=HR.out.lt g hm;omega) HR.out.apart
  have hfr:∀ k∈L5.fp,k∈L.fp∨w.heap.size≤k:=by
   intro k hk;rcases eX.out.next.fresh k hk with h | h
   ·rcases n2 k h with h | h
    ·exact .inl h
    ·rcases HG.out with h' | h'
     ·left;rw [h];rw [←HV.out] at h';simp [aT.fp,h']
     ·exact .inr (by omega)
   ·have:=eu.out.size;exact .inr (by omega)
  have t1:Touch (·∈L.fp) w w4:=eu.out.mono (fun k _ e=>by
   rcases e with rfl | e
   ·simp [aT.fp]
   ·simp [aT.fp,e.symm])
  have t2:Touch (·∈L.fp) w w5:=t1.trans' eX.out.touch (fun k hk e=>by
   obtain ⟨l,hl,rfl⟩:=List.mem_map.1 e;simp only [aT.fp,List.mem_cons,List.mem_append,List.mem_flatMap];exact .inr (.inr ⟨l,hl,by simp⟩))
  have t3:Touch (·∈L.fp) w w6:=t2.trans' HB.out (fun k hk e=>by
   have hm:k∈L5.fp:=by simp [aT.fp,e.symm]
   rcases hfr k hm with h | h
   ·exact h
   ·omega)
  exact ⟨L5,rfl,HA.out,eX.out.next.mb,hfr,t3⟩
end Go.Proofs.YtnjcmcnjgdjbiaaGreatDoor
namespace Go.Proofs.YtnjcmcnjgdjbiaaGreatDoor
open Go.RowKit
attribute [local go_sem ↓] Go.wp_at_zero Go.wp_at_succ
theorem zV {P:Program} (w:World) {ops:Array Oper} {o:Oper} {a:Act} {K:Act→World→Prop} {Q:Exit→Act→World→Prop} {E:Prop} (hgd:o.guard=none) (f:FuncId) (x:Operand) (ts:Array TypeId)
  (ho:o.op=.call { callee:=.value (.func f),args:=#[x],argTypes:=ts }) (u:Value) (hx:a.eval x=u) {Post:Ending→World→Prop}
  (hc:Calls P f #[u] w Post) (hcf:(callFunc f #[u]).run P w=.ok (.enter f #[u]) w) (h:∀ e w',Post e w'→∃ v,e=.returned v∧K (a.put o.dst v) w') :
  if Region.wanted o (yielded ops a.tmps)=true then Oper.wp P o a w K Q else E:=by
 have hw:Region.wanted o (yielded ops a.tmps)=true:=by simp [Region.wanted,hgd]
 rw [if_pos hw];unfold Oper.wp;have hargs:(#[x].map a.eval)=#[u]:=by simp [hx]
 generalize #[x]=xs at ho hargs
 have hr:(execOp a.eval o).run P w=.ok (.enter f #[u]) w:=by
  simp [execOp,ho,resolve,invoke,hargs,go_sem,hcf]
 rw [hr,Oper.upon_enter];refine hc.mono ?_
 intro e w' hp;obtain ⟨v,rfl,hk⟩:=h e w' hp;exact hk
def jf:gT:=⟨0,oN [] 0⟩
structure jE (w:World) (mb:Nat) (o k:Nat) (sv:Value) (sets:List (Nat × Nat)) (wr:World):Prop where
 blk:aC wr mb 194 [.int .i64 o,.slice none 0 0,sv]
 row:Row wr 218 1 sv k (sets.map fun l=>.pointer (some ⟨l.1,0,none⟩))
 each:∀ l∈sets,gL wr l jf
 apart:(mb::(sv.ownBlock.toList++sets.flatMap fun l=>[l.1,l.2])).Nodup
 fresh:∀ i∈mb::(sv.ownBlock.toList++sets.flatMap fun l=>[l.1,l.2]),w.heap.size≤i
 touch:Touch Nothing w wr
theorem jE.lt {w wr:World} {mb o k:Nat} {sv:Value} {sets:List (Nat × Nat)} (R:jE w mb o k sv sets wr):∀ i∈mb::(sv.ownBlock.toList++sets.flatMap fun l=>[l.1,l.2]),i<wr.heap.size:=by
 intro i hi;simp only [List.mem_cons,List.mem_append,Option.mem_toList,List.mem_flatMap,List.not_mem_nil,or_false] at hi;rcases hi with rfl | hi | ⟨l,hl,rfl | rfl⟩
 ·exact R.blk.lt
 ·exact R.row.lt hi
 ·exact (R.each l hl).blk.lt
 ·exact (R.each l hl).words.lt
theorem jE.drew {w wr:World} {mb o k:Nat} {sv:Value} {sets:List (Nat × Nat)} (R:jE w mb o k sv sets wr):jE w mb o k sv sets wr.drew :=
 ⟨R.blk.drew,R.row.touch (Touch.refl Nothing wr).drew (fun _ _ h=>h),fun l hl=>(R.each l hl).touch (Touch.refl Nothing wr).drew (fun h=>h) (fun h=>h),R.apart,R.fresh,R.touch.drew⟩
theorem jE.step {w W w1 w3 w4:World} {mb o k:Nat} {sv:Value} {sets:List (Nat × Nat)} (R:jE w mb o k sv sets W) {l:Nat × Nat} (hs:gL w1 l jf) (h1:W.heap.size≤l.1) (h2:W.heap.size≤l.2) (T1:Touch Nothing W w1)
  {g cap:Nat} (hown:Row w3 218 1 (.slice (some ⟨g,0,none⟩) (k+1) cap) (k+1) ((sets.map fun l=>.pointer (some ⟨l.1,0,none⟩))++[.pointer (some ⟨l.1,0,none⟩)]))
  (T3:Touch (fun i=>some i=sv.ownBlock) w1 w3) (hg:sv.ownBlock=some g∨w1.heap.size≤g) (he:w4=w3.setCell ⟨mb,2,none⟩ (.slice (some ⟨g,0,none⟩) (k+1) cap)) :
  jE w mb o (k+1) (.slice (some ⟨g,0,none⟩) (k+1) cap) (sets++[l]) w4:=by
 have hlt:=R.lt;have hap:=R.apart;have hfr:=R.fresh;simp only [List.nodup_cons,List.nodup_append,List.mem_append,not_or,Option.mem_toList] at hap;obtain ⟨⟨a1,a2⟩,a3,a4,a5⟩:=hap;have hl1:=hs.blk.lt;have hl2:=hs.words.lt;have hmb:mb<W.heap.size:=R.blk.lt
 have hgm:g≠mb:=by
  rintro rfl;rcases hg with h | h
  ·exact a1 h
  ·have:=T1.size;omega
 have aad:¬(some mb=sv.ownBlock):=fun e=>a1 e.symm
 have hS:=Touch.cellAt w3 mb 2 (.slice (some ⟨g,0,none⟩) (k+1) cap);rw [←he] at hS
 have hset:∀ a∈sets,∀ x,(x=a.1∨x=a.2)→¬(some x=sv.ownBlock)∧¬(x=mb)∧x<W.heap.size:=by
  intro a ha x hx;have hm:x∈sets.flatMap fun l=>[l.1,l.2]:=List.mem_flatMap.2 ⟨a,ha,by rcases hx with h | h <;> simp [h]⟩
  refine ⟨fun e=>a5 x e.symm x hm rfl,fun e=>a2 (e▸hm),hlt x (by simp only [List.mem_cons,List.mem_append];exact .inr (.inr hm))⟩
 have BA:∀ x,(x=l.1∨x=l.2)→¬(some x=sv.ownBlock)∧¬(x=mb)∧W.heap.size≤x:=by
  intro x hx;have hx':W.heap.size≤x:=by rcases hx with h | h <;> omega
  refine ⟨fun e=>?_,by omega,hx'⟩;have:=R.row.lt e.symm;omega
 subst he
 have hgs:∀ a∈sets,g≠a.1∧g≠a.2:=by
  intro a ha;have q1:=hset a ha a.1 (.inl rfl);have q2:=hset a ha a.2 (.inr rfl);have:=T1.size;rcases hg with h | h
  ·exact ⟨fun e=>q1.1 (by rw [h,e]),fun e=>q2.1 (by rw [h,e])⟩
  ·exact ⟨by omega,by omega⟩
 have hgl:g≠l.1∧g≠l.2:=by
  rcases hg with h | h
  ·have:=R.row.lt h;exact ⟨by omega,by omega⟩
  ·exact ⟨by omega,by omega⟩
 have aae:w.heap.size≤mb:=hfr mb (by simp)
 have OB:w.heap.size≤g:=by
  rcases hg with h | h
  ·exact hfr g (by simp [h])
  ·have:=T1.size;have:=R.touch.size;omega
 refine ⟨?_,?_,?_,?_,?_,?_⟩
 ·exact ((R.blk.touch T1 (fun h=>h)).touch T3 aad).set 2 _
 ·rw [List.map_append];exact hown.touch hS (fun i hi e=>by simp [Value.ownBlock] at hi;omega)
 ·intro a ha;rcases List.mem_append.1 ha with ha | ha
  ·have q1:=hset a ha a.1 (.inl rfl);have q2:=hset a ha a.2 (.inr rfl);exact (((R.each a ha).touch T1 (fun h=>h) (fun h=>h)).touch T3 q1.1 q2.1).touch hS q1.2.1 q2.2.1
  ·rw [List.mem_singleton] at ha;subst ha;have q1:=BA a.1 (.inl rfl);have q2:=BA a.2 (.inr rfl);exact (hs.touch T3 q1.1 q2.1).touch hS q1.2.1 q2.2.1
 ·simp only [Value.ownBlock,Option.toList_some,List.flatMap_append,List.flatMap_cons,List.flatMap_nil,List.append_nil,List.nodup_cons,List.mem_append,List.nodup_append,List.mem_flatMap,List.mem_cons,List.not_mem_nil,or_false,not_or,not_exists,not_and];have ne:=hs.ne;refine ⟨⟨fun e=>hgm e.symm,fun a ha=>⟨fun e=>(hset a ha a.1 (.inl rfl)).2.1 e.symm,fun e=>(hset a ha a.2 (.inr rfl)).2.1 e.symm⟩,by omega,by omega⟩,⟨fun h=>h,List.nodup_nil⟩,⟨a4,⟨ne,fun h=>h,List.nodup_nil⟩,?_⟩,?_⟩
  ·rintro a ⟨x,hx,hax⟩ b hb e;have:=(hset x hx a hax).2.2;have:=(BA b hb).2.2;omega
  ·rintro a rfl b hb e;rcases hb with ⟨x,hx,rfl | rfl⟩ | rfl | rfl
   ·exact (hgs x hx).1 e
   ·exact (hgs x hx).2 e
   ·exact hgl.1 e
   ·exact hgl.2 e
 ·intro i hi;simp only [Value.ownBlock,Option.toList_some,List.flatMap_append,List.flatMap_cons,List.flatMap_nil,List.append_nil,List.mem_cons,List.mem_append,List.not_mem_nil,or_false,List.mem_flatMap] at hi;have hW:=R.touch.size;rcases hi with rfl | rfl | ⟨a,ha,hx⟩ | rfl | rfl
  ·exact aae
  ·exact OB
  ·exact hfr i (by simp only [List.mem_cons,List.mem_append,List.mem_flatMap];exact .inr (.inr ⟨a,ha,by simpa using hx⟩))
  ·omega
  ·omega
 ·exact ((R.touch.trans T1).trans' T3 (fun i hi e=>by have:=hfr i (by simp [e.symm]);omega)).trans' hS (fun i hi e=>by omega)
theorem jE.ready {w W w1:World} {mb o k:Nat} {sv:Value} {sets:List (Nat × Nat)} (R:jE w mb o k sv sets W) {pa:Option Addr} {cap:Nat} (hsv:sv=.slice pa k cap) (hT:Touch Nothing W w1) (l:Nat × Nat) :
  Row (w1.alloc (.cells #[.pointer (some ⟨l.1,0,none⟩)] 218)) 218 1 (.slice pa k cap) k (sets.map fun l=>.pointer (some ⟨l.1,0,none⟩)) ∧
  ∀ j u,[Value.pointer (some ⟨l.1,0,none⟩)][j]? = some u→(w1.alloc (.cells #[.pointer (some ⟨l.1,0,none⟩)] 218)).cell? ((⟨w1.heap.size,0,none⟩:Addr).add j)=some u:=by
 have h:=R.row.touch hT (fun _ _ h=>h);rw [hsv] at h;exact ⟨World.ownsRow.alloc h _,fJ (aC.new w1 #[.pointer (some ⟨l.1,0,none⟩)] 218)⟩
theorem TH:(Tryz.prog.info? 218).map (fun i=>(i.zero,i.size,i.bytes))=some (some (.pointer none),1,8):=by kernel_rfl
def lH (o:Nat):Mp:=⟨o,[],List.replicate o jf⟩
def Vd (w:World) (μ:Mp) (e:Ending) (w':World):Prop :=
 ∃ L,e=.returned (.pointer (some ⟨L.mb,0,none⟩))∧aI w' L μ∧Touch Nothing w w'∧∀ k∈L.fp,w.heap.size≤k
theorem jE.done {w wr:World} {mb o:Nat} {sv:Value} {sets:List (Nat × Nat)} (R:jE w mb o o sv sets wr) (ho:o≤8):aI wr ⟨mb,.slice none 0 0,sv,sets⟩ (lH o):=by
 refine ⟨R.blk,⟨rfl,.inl ⟨rfl,rfl⟩⟩,?_,?_,by simpa [aT.fp,Value.ownBlock] using R.apart,⟨ho,by simp [lH],by simp [lH],by simp [lH]⟩⟩
 ·simpa [lH] using R.row
 ·intro i l s hl hs;have h1:=R.each l (List.mem_of_getElem? hl);have:s=jf:=List.eq_of_mem_replicate (List.mem_of_getElem? hs);rw [this];exact h1
theorem Ve (o:Nat) (ho:o≤8) (w:World):Calls Tryz.prog 85 #[.int .i64 o] w (Vd w (lH o)):=by
 obtain ⟨i0,hi0,hz0,hz1,hz2⟩:=info_parts TH;have hcf:∀ W:World,(callFunc 130 #[.int .i64 0]).run Tryz.prog W=.ok (.enter 130 #[.int .i64 0]) W:=fun W=>by simp [go_sem]
 have kF:=Hd hcf;clear hcf;have hmin:min (o:Int) 8=o:=by omega
 have hmax:max 0 (o:Int)=o:=by omega
 go_enter Tryz.func85,Tryz.ntmps85
 go_wp2_with fail
 generalize hmb:w.heap.size=mb at *;have Yu:=Hd hmb
 go_loopw [13] (fun a wr=>∃ k:Nat,k≤o∧a=.int .i64 k∧∃ sv sets,jE w mb o k sv sets wr) (fun a _=>o-(intOf a).toNat)
 case atStart =>
  refine ⟨0,Nat.zero_le _,rfl,.slice none 0 0,[],⟨?_,⟨rfl,.inl ⟨rfl,rfl⟩⟩,by simp,by simp [Value.ownBlock],by simp [Value.ownBlock,Yu.out],(Touch.refl _ _).alloc _⟩⟩;rw [←Yu.out];exact aC.new w _ _
 case round =>
  obtain ⟨k,hk,rfl,sv,sets,hF⟩:=hrel;by_cases hlt':k<o
  ·have acz:sets.length=k:=by have:=hF.row.1;simpa using this
   have hD:=hF.drew
   have hsv:∃ pa cap,sv=.slice pa k cap:=by
    rcases hD.row.2 with ⟨h,h0⟩ | ⟨g,cap,cur,h,_⟩
    ·exact ⟨none,0,by rw [h,h0]⟩
    ·exact ⟨_,cap,h⟩
   obtain ⟨pa,cap,hsv⟩:=hsv;have c2:=hF.blk.cell 2;have f2:=hF.blk.free 2;simp [hsv] at c2;have zR:mb<wr.heap.size:=hF.blk.lt;have sK:mb<wr.drew.heap.size:=zR;have HN:=Hd (Tx 0 wr.drew (by omega));have HF:=Hd hD;have Ew:=Hd hsv
   have hne0:some mb≠(Value.slice pa k cap).ownBlock:=by
    rw [←hsv];intro e;have:=hD.apart;simp [e.symm] at this
   have yF:=Hd hne0;clear hF hD hne0 hsv hmb
   go_wp2_with fail
   go_region_law (first | (refine zV _ (by rfl) 130 _ #[3] (by rfl) (.int .i64 0) (by rfl) HN.out (kF.out _) ?_;rintro e w1 ⟨l,rfl,h1,h2,hs,hT⟩;refine ⟨_,rfl,?_⟩;have c2':w1.cell? ⟨mb,2,none⟩=some (.slice pa k cap):=(hT.cell sK (fun h=>h)).trans c2;have f2':w1.frozen? ⟨mb,2,none⟩=false:=(hT.frozen sK (fun h=>h)).trans f2;have Yv:mb<w1.heap.size:=Nat.lt_of_lt_of_le sK hT.size;have tq:=Hd hs;have HT1:=Hd hT;have nS:=Hd h1;have HL2:=Hd h2;have Ey:=Hd (HF.out.ready Ew.out hT l);clear hs hT h1 h2) | (refine step_append_lies _ (by rfl) _ _ _ (by rfl) 0 218 i0 _ 1 8 Tryz.underlying192 hi0 hz0 hz1 hz2 rfl (by omega) (.slice pa k cap) k _ (by rfl) Ey.out.1 ⟨w1.heap.size,0,none⟩ 1 1 [.pointer (some ⟨l.1,0,none⟩)] (by rfl) (by rfl) Ey.out.2 (by simp [Value.oneCell']) (by omega) (by unfold maxLen;omega) (by omega) (by simp) (w1.heap.size+1) (by simp) ?_;intro gg cap' w3 hown3 hgrow hat Ep;have c3':w3.cell? ⟨mb,2,none⟩=some (.slice pa k cap):=(hgrow.cell_far _ (by simp;omega) yF.out).trans ((World.cell?_alloc_past _ _ _ Yv).trans c2');have f3':w3.frozen? ⟨mb,2,none⟩=false:=(hgrow.frozen_far _ (by simp;omega) yF.out).trans ((World.frozen?_alloc_past _ _ _ Yv).trans f2')))
   all_goals
    have hst:jE w mb o (k+1) (.slice (some ⟨gg,0,none⟩) (k+1) cap') (sets++[l]) (w3.setCell ⟨mb,2,none⟩ (.slice (some ⟨gg,0,none⟩) (k+1) cap')):=by
     refine HF.out.step tq.out nS.out HL2.out HT1.out hown3 ?_ ?_ rfl
     ·exact (((Touch.refl Nothing w1).alloc _).none_).trans (Touch.bT hgrow (fun i hi=>by rw [Ew.out];exact hi.symm))
     ·rw [Ew.out];rcases hat with h | h
      ·exact .inl h
      ·exact .inr (by omega)
    have HST:=Hd hst;clear hst hown3 hgrow hat c3' f3' c2' f2' c2 f2;generalize World.setCell w3 _ _=w4 at *
    go_wp2_with fail
    go_roundw
    case rel=>exact ⟨k+1,hlt',by go_num,_,_,HST.out⟩
    case measure=>simp [intOf];omega
  ·obtain rfl:k=o:=by omega
   have HF:=Hd hF;clear hF
   go_wp2_with fail
   go_ret
   refine ⟨⟨mb,.slice none 0 0,sv,sets⟩,rfl,HF.out.done ho,HF.out.touch,?_⟩;intro i hi;exact HF.out.fresh i (by simpa [aT.fp,Value.ownBlock] using hi)
end Go.Proofs.YtnjcmcnjgdjbiaaGreatDoor
namespace Go.Proofs.YtnjcmcnjgdjbiaaGreatDoor
open Go.RowKit
abbrev Li (w:World) (lb sb h:Nat):Prop:=aC w lb 310 [.pointer (some ⟨sb,0,none⟩),.int .u64 h]
def Sp.aQ (σ:Sp) (p v:Nat):Sp:=σ.put p (bL v)
theorem OC (sb h:Nat) (w:World) :
  Calls Tryz.prog 182 #[.pointer (some ⟨sb,0,none⟩),.int .u64 h] w fun e w'=>e=.returned (.pointer (some ⟨w.heap.size,0,none⟩))∧w'=w.alloc (.cells #[.pointer (some ⟨sb,0,none⟩),.int .u64 h] 310):=by
 go_enter Tryz.func182,Tryz.ntmps182
 go_wp2
 go_ret
 exact ⟨rfl,rfl⟩
theorem Sp.has.word2 {σ:Sp} {p:Nat} (H:σ.has p 16) (o:σ.ok):σ.has p 8∧σ.has (p+8) 8∧p+16≤18446744073709551615:=by
 refine ⟨?_,H.sub o (by omega) (by omega),?_⟩
 ·have:=H.sub o (k:=0) (m:=8) (by omega) (by omega);simpa using this
 ·have:=H.top o;have:=o.wo;omega
theorem zX {w:World} {L:bM} {σ:Sp} (R:aP w L σ) {lb h p:Nat} (B:Li w lb L.sb h) (H:σ.has p 16) :
  Calls Tryz.prog 285 #[.pointer (some ⟨lb,0,none⟩),.int .u64 p] w fun e w'=>e=.returned (.tuple #[.int .u64 (σ.word p:Nat),.int .u64 (σ.word (p+8):Nat),.bool true])∧Touch Nothing w w':=by
 obtain ⟨H1,H2,h16⟩:=H.word2 R.ok;have HW:=Hd (R.uy p H1);have c0:=B.cell 0;simp at c0;have HR:=Hd R;have HB:=Hd B;have hH2:=Hd H2;clear R B H H1 H2
 go_enter Tryz.func285,Tryz.ntmps285
 go_wp2_with fail
 refine HW.out.mono ?_
 rintro e w1 ⟨rfl,T1⟩;have c0':=(HB.out.touch T1 (fun h=>h)).cell 0;simp at c0';have HW2:=Hd ((HR.out.aj T1).uy (p+8) hH2.out);have hw8:((p+8:Nat):Int)=(p:Int)+8:=by omega
 rw [hw8] at HW2;have HT:=Hd T1;clear T1 c0 hw8
 go_wp2_with fail
 refine HW2.out.mono ?_
 rintro e w2 ⟨rfl,T2⟩;have HT2:=Hd T2;clear T2
 go_wp2_with fail
 exact bodyPost_ret (v:=.tuple #[.int .u64 (σ.word p:Nat),.int .u64 (σ.word (p+8):Nat),.bool true]) (by simp [results,Tryz.results285,go_sem];omega) rfl ⟨rfl,HT.out.trans HT2.out⟩
theorem int_ne {a b:Nat} (h:a≠b):((a:Int) == b)=false:=by rw [beq_eq_false_iff_ne];omega
theorem jy {a:Nat} (h:a≠0):((a:Int) == 0)=false:=by rw [beq_eq_false_iff_ne];omega
structure Sound (σ:Sp) (h p next prev:Nat):Prop where
 head:prev=0↔p=h
 prev:prev≠0→σ.has prev 16∧σ.word prev=p
 next:next≠0→σ.has next 16∧σ.word (next+8)=p
theorem Vf {w:World} {L:bM} {σ:Sp} (R:aP w L σ) {lb h p next prev:Nat} (B:Li w lb L.sb h) (S:Sound σ h p next prev) :
  Calls Tryz.prog 286 #[.pointer (some ⟨lb,0,none⟩),.int .u64 p,.int .u64 next,.int .u64 prev] w fun e w'=>e=.returned (.bool true)∧Touch Nothing w w':=by
 have c1:=B.cell 1;simp at c1;have HR:=Hd R;have HB:=Hd B;by_cases hp:prev=0
 ·have Vg:=S.head.1 hp;subst hp Vg;by_cases hn:next=0
  ·subst hn;clear R B S
   go_enter Tryz.func286,Tryz.ntmps286
   go_wp2_with fail
   go_ret
   exact ⟨rfl,Touch.refl _ _⟩
  ·obtain ⟨n1,n2⟩:=S.next hn;have HL:=Hd (zX R B n1);rw [n2] at HL;have hn':=jy hn;clear R B S n1 n2
   go_enter Tryz.func286,Tryz.ntmps286
   go_wp2_with fail
   refine HL.out.mono ?_
   rintro e w1 ⟨rfl,T1⟩;have HT:=Hd T1;clear T1
   go_wp2_with fail
   go_ret
   exact ⟨rfl,HT.out⟩
 ·have Vg:p≠h:=fun e=>hp (S.head.2 e)
  have hp':=jy hp;have acK:=int_ne Vg;obtain ⟨m1,m2⟩:=S.prev hp;have HM:=Hd (zX R B m1);rw [m2] at HM;by_cases hn:next=0
  ·subst hn;clear R B S m1 m2
   go_enter Tryz.func286,Tryz.ntmps286
   go_wp2_with fail
   refine HM.out.mono ?_
   rintro e w1 ⟨rfl,T1⟩;have HT:=Hd T1;clear T1
   go_wp2_with fail
   go_ret
   exact ⟨rfl,HT.out⟩
  ·obtain ⟨n1,n2⟩:=S.next hn;have hn':=jy hn;have HL:=Hd (fun w1 (T:Touch Nothing w w1)=>zX (R.aj T) (B.touch T (fun h=>h)) n1);rw [n2] at HL;clear R B S m1 m2 n1 n2
   go_enter Tryz.func286,Tryz.ntmps286
   go_wp2_with fail
   refine HM.out.mono ?_
   rintro e w1 ⟨rfl,T1⟩;have HT:=Hd T1;clear T1
   go_wp2_with fail
   refine (HL.out _ HT.out).mono ?_
   rintro e w2 ⟨rfl,T2⟩;have HT2:=Hd T2;clear T2
   go_wp2_with fail
   go_ret
   exact ⟨rfl,HT.out.trans HT2.out⟩
def pushed (σ:Sp) (h p:Nat):Sp:=if h=0 then (σ.aQ p h).aQ (p+8) 0 else ((σ.aQ p h).aQ (p+8) 0).aQ (h+8) p
structure LS (w0 w:World) (L:bM) (lb:Nat) (σ:Sp) (h:Nat):Prop where
 rep:aP w L σ
 list:Li w lb L.sb h
 out:lb∉L.fp
 touch:Touch (fun k=>k∈L.eD∨k=lb) w0 w
theorem LS.aj {w0 w w':World} {L:bM} {lb h:Nat} {σ:Sp} (S:LS w0 w L lb σ h) (T:Touch Nothing w w'):LS w0 w' L lb σ h :=
 ⟨S.rep.aj T,S.list.touch T (fun h=>h),S.out,S.touch.trans T.none_⟩
theorem LS.links {w0 w:World} {L:bM} {lb h p:Nat} {σ:Sp} (S:LS w0 w L lb σ h) (H:σ.has p 16) :
  Calls Tryz.prog 285 #[.pointer (some ⟨lb,0,none⟩),.int .u64 p] w fun e w'=>e=.returned (.tuple #[.int .u64 (σ.word p:Nat),.int .u64 (σ.word (p+8):Nat),.bool true])∧LS w0 w' L lb σ h :=
 (zX S.rep S.list H).mono fun _ _ ⟨h1,h2⟩=>⟨h1,S.aj h2⟩
theorem LS.sound {w0 w:World} {L:bM} {lb h p next prev:Nat} {σ:Sp} (S:LS w0 w L lb σ h) (H:Sound σ h p next prev) :
  Calls Tryz.prog 286 #[.pointer (some ⟨lb,0,none⟩),.int .u64 p,.int .u64 next,.int .u64 prev] w fun e w'=>e=.returned (.bool true)∧LS w0 w' L lb σ h :=
 (Vf S.rep S.list H).mono fun _ _ ⟨h1,h2⟩=>⟨h1,S.aj h2⟩
theorem LS.aQ {w0 w:World} {L:bM} {lb h p:Nat} {σ:Sp} (S:LS w0 w L lb σ h) (v:Nat) (H:σ.has p 8) (hv:v<18446744073709551616) :
  Calls Tryz.prog 143 #[.pointer (some ⟨L.sb,0,none⟩),.int .u64 p,.int .u64 v] w fun e w'=>e=.returned (.int .i64 0)∧LS w0 w' L lb (σ.aQ p v) h:=by
 have hrb:lb∉L.eD:=fun hm=>S.out (by simp [bM.fp,hm])
 exact (S.rep.qF p v H hv).mono fun _ _ ⟨h1,h2,h3⟩=>⟨h1,h2,S.list.touch h3 hrb,S.out,S.touch.trans (h3.mono (fun k _ e=>.inl e))⟩
theorem LS.head {w0 w:World} {L:bM} {lb h:Nat} {σ:Sp} (S:LS w0 w L lb σ h) (v:Nat):LS w0 (w.setCell ⟨lb,1,none⟩ (.int .u64 v)) L lb σ v:=by
 have T:=Touch.cellAt w lb 1 (.int .u64 v);exact ⟨S.rep.touch T (fun k hk e=>S.out (e▸hk)),S.list.set 1 _,S.out,S.touch.trans (T.mono (fun k _ e=>.inr e))⟩
theorem LS.cells {w0 w:World} {L:bM} {lb h:Nat} {σ:Sp} (S:LS w0 w L lb σ h):w.cell? ⟨lb,0,none⟩=some (.pointer (some ⟨L.sb,0,none⟩))∧w.cell? ⟨lb,1,none⟩=some (.int .u64 h)∧w.frozen? ⟨lb,1,none⟩=false :=
 ⟨S.list.cell 0,S.list.cell 1,S.list.free 1⟩
theorem Sp.tu {σ:Sp} {p v q n:Nat} (H:σ.has q n):(σ.aQ p v).has q n:=Sp.Br.2 H
def Linked (w:World) (L:bM) (lb:Nat) (σ:Sp) (h:Nat) (v:Value) (e:Ending) (w':World):Prop:=e=.returned v∧LS w w' L lb σ h
theorem LS.push {w0 w:World} {L:bM} {σ:Sp} {lb h p:Nat} (S:LS w0 w L lb σ h) (H:σ.has p 16) (hh:h≠0→σ.has h 16∧σ.word (h+8)=0) (h64:h<18446744073709551616) :
  Calls Tryz.prog 275 #[.pointer (some ⟨lb,0,none⟩),.int .u64 p] w (Linked w0 L lb (pushed σ h p) p (.int .i64 0)):=by
 obtain ⟨H1,H2,h16⟩:=H.word2 S.rep.ok;have Ju:p<18446744073709551616:=by omega
 have HS:=Hd S;have HH:=Hd H;have acL:(p:Int)<(p:Int)+8:=by omega
 have kg:=Hd (And.intro H1 H2);have hw8:((p+8:Nat):Int)=(p:Int)+8:=by omega
 have Yw:=Hd hw8;have HHH:=Hd hh;by_cases h0:h=0
 ·subst h0;clear S H H1 H2 hh hw8;unfold pushed
  go_enter Tryz.func275,Tryz.ntmps275
  go_wp2_with fail
  refine (HS.out.links HH.out).mono ?_
  rintro e w1 ⟨rfl,S1⟩;obtain ⟨c0,c1,f1⟩:=S1.cells;have tq:=Hd (S1.aj (Touch.refl Nothing w1).drew);clear S1
  go_wp2_with fail
  refine wp_region_still_tail 9 (by kernel_rfl) (by kernel_rfl) ?_
  simp only [List.take_succ_cons,List.take_zero,List.drop_succ_cons,List.drop_zero,World.drew_eq]
  repeat still_step
  refine wpStill_nil ?_
  go_wp2_with fail
  refine (tq.out.aQ 0 kg.out.1 (by omega)).mono ?_
  rintro e w2 ⟨rfl,S2⟩;obtain ⟨d0,d1,g1⟩:=S2.cells;have HS2:=Hd S2;have HC:=Hd (S2.aQ (p:=p+8) 0 (Sp.tu kg.out.2) (by omega));rw [Yw.out] at HC;clear S2 c0 c1 f1
  go_wp2_with fail
  refine HC.out.mono ?_
  rintro e w3 ⟨rfl,S3⟩;obtain ⟨e0,e1,k1⟩:=S3.cells;have jS:=Hd S3;clear S3 d0 d1 g1
  go_wp2_with fail
  go_ret
  exact ⟨rfl,jS.out.head p⟩
 ·have h0':=jy h0;obtain ⟨Ez,Ik⟩:=hh h0;obtain ⟨K1,K2,k16⟩:=Ez.word2 S.rep.ok;have HK:=Hd (And.intro Ez (And.intro Ik (And.intro K1 K2)));have LJ:=Hd (show ((h+8:Nat):Int)=(h:Int)+8 by omega);have H0:=Hd h0;clear S H H1 H2 hh hw8 Ez Ik K1 K2;unfold pushed;rw [if_neg H0.out]
  go_enter Tryz.func275,Tryz.ntmps275
  go_wp2_with fail
  refine (HS.out.links HH.out).mono ?_
  rintro e w1 ⟨rfl,S1⟩;obtain ⟨c0,c1,f1⟩:=S1.cells;have vO:=Hd (S1.links HK.out.1);rw [HK.out.2.1] at vO;clear S1
  go_wp2_with fail
  refine vO.out.mono ?_
  rintro e w2 ⟨rfl,S2⟩;obtain ⟨d0,d1,g1⟩:=S2.cells;have HS2:=Hd (S2.aj (Touch.refl Nothing w2).drew);clear S2 c0 c1 f1
  go_wp2_with fail
  refine wp_region_still_tail 9 (by kernel_rfl) (by kernel_rfl) ?_
  simp only [List.take_succ_cons,List.take_zero,List.drop_succ_cons,List.drop_zero,World.drew_eq]
  repeat still_step
  refine wpStill_nil ?_
  go_wp2_with fail
  refine (HS2.out.aQ h kg.out.1 h64).mono ?_
  rintro e w3 ⟨rfl,S3⟩;obtain ⟨e0,e1,k1⟩:=S3.cells;have HC:=Hd (S3.aQ (p:=p+8) 0 (Sp.tu kg.out.2) (by omega));rw [Yw.out] at HC;clear S3 d0 d1 g1
  go_wp2_with fail
  refine HC.out.mono ?_
  rintro e w4 ⟨rfl,S4⟩;obtain ⟨m0,m1,n1⟩:=S4.cells;have Yx:=Hd ((S4.aj (Touch.refl Nothing w4).drew).aQ (p:=h+8) p (Sp.tu (Sp.tu HK.out.2.2.2)) Ju);rw [LJ.out] at Yx;have hwh:IntKind.u64.wrap ((h:Int)+8)=(h:Int)+8:=IntWalk.u64_in _ (by omega);clear S4 e0 e1 k1
  go_wp2_with fail
  refine wp_region_still_tail 10 (by kernel_rfl) (by kernel_rfl) ?_
  simp only [List.take_succ_cons,List.take_zero,List.drop_succ_cons,List.drop_zero,World.drew_eq]
  repeat still_step
  refine wpStill_nil ?_
  go_wp2_with fail
  refine Yx.out.mono ?_
  rintro e w5 ⟨rfl,S5⟩;obtain ⟨q0,q1,r1⟩:=S5.cells;have rG:=Hd S5;clear S5 m0 m1 n1
  go_wp2_with fail
  go_ret
  exact ⟨rfl,rG.out.head p⟩
def cK (σ:Sp) (next prev:Nat):Sp:=if prev=0 then σ else σ.aQ prev next
def removed (σ:Sp) (next prev:Nat):Sp:=if next=0 then cK σ next prev else (cK σ next prev).aQ (next+8) prev
theorem LS.Cv {w0 w:World} {L:bM} {σ:Sp} {lb h p next prev:Nat} (S:LS w0 w L lb σ h) (H:σ.has p 16) (hn:σ.word p=next) (hp:σ.word (p+8)=prev) (D:Sound σ h p next prev) (n64:next<18446744073709551616) (p64:prev<18446744073709551616) :
  Calls Tryz.prog 255 #[.pointer (some ⟨lb,0,none⟩),.int .u64 p] w (Linked w0 L lb (removed σ next prev) (if prev=0 then next else h) (.int .i64 0)):=by
 have HL:=Hd (S.links H);rw [hn,hp] at HL;have HD:=Hd D;have HS:=Hd S;have ok:=S.rep.ok;by_cases p0:prev=0
 ·subst p0;by_cases n0:next=0
  ·subst n0;clear S H hn hp D;unfold removed cK;rw [if_pos rfl,if_pos rfl,if_pos rfl]
   go_enter Tryz.func255,Tryz.ntmps255
   go_wp2_with fail
   refine HL.out.mono ?_
   rintro e w1 ⟨rfl,S1⟩;have HC:=Hd (S1.sound HD.out);clear S1
   go_wp2_with fail
   refine HC.out.mono ?_
   rintro e w2 ⟨rfl,S2⟩;obtain ⟨c0,c1,f1⟩:=S2.cells;have HS2:=Hd S2;clear S2
   go_wp2_with fail
   go_ret
   exact ⟨rfl,HS2.out.head 0⟩
  ·have hn':=jy n0;obtain ⟨k1,k2⟩:=D.next n0;obtain ⟨m1,m2,m3⟩:=k1.word2 ok;have HK:=Hd m2;have LJ:=Hd (show ((next+8:Nat):Int)=(next:Int)+8 by omega);have N0:=Hd n0;have hwn:IntKind.u64.wrap ((next:Int)+8)=(next:Int)+8:=IntWalk.u64_in _ (by omega);clear S H hn hp D k1 k2 m1 m2;unfold removed cK;rw [if_pos rfl,if_neg N0.out,if_pos rfl]
   go_enter Tryz.func255,Tryz.ntmps255
   go_wp2_with fail
   refine HL.out.mono ?_
   rintro e w1 ⟨rfl,S1⟩;have HC:=Hd (S1.sound HD.out);clear S1
   go_wp2_with fail
   refine HC.out.mono ?_
   rintro e w2 ⟨rfl,S2⟩;obtain ⟨c0,c1,f1⟩:=S2.cells;have oP:=Hd ((S2.head next).aQ (p:=next+8) 0 HK.out (by omega));rw [LJ.out] at oP;clear S2
   go_wp2_with fail
   refine oP.out.mono ?_
   rintro e w3 ⟨rfl,S3⟩;have jS:=Hd S3;clear S3
   go_wp2_with fail
   go_ret
   exact ⟨rfl,jS.out⟩
 ·have hp':=jy p0;obtain ⟨j1,j2⟩:=D.prev p0;obtain ⟨i1,i2,i3⟩:=j1.word2 ok;have HJ:=Hd i1;have P0:=Hd p0;by_cases n0:next=0
  ·subst n0;clear S H hn hp D j1 j2 i1 i2;unfold removed cK;rw [if_neg P0.out,if_pos rfl,if_neg P0.out]
   go_enter Tryz.func255,Tryz.ntmps255
   go_wp2_with fail
   refine HL.out.mono ?_
   rintro e w1 ⟨rfl,S1⟩;have HC:=Hd (S1.sound HD.out);clear S1
   go_wp2_with fail
   refine HC.out.mono ?_
   rintro e w2 ⟨rfl,S2⟩;obtain ⟨c0,c1,f1⟩:=S2.cells;have oP:=Hd (S2.aQ (p:=prev) 0 HJ.out (by omega));clear S2
   go_wp2_with fail
   refine oP.out.mono ?_
   rintro e w3 ⟨rfl,S3⟩;have jS:=Hd S3;clear S3
   go_wp2_with fail
   go_ret
   exact ⟨rfl,jS.out⟩
  ·have hn':=jy n0;obtain ⟨k1,k2⟩:=D.next n0;obtain ⟨m1,m2,m3⟩:=k1.word2 ok;have HK:=Hd m2;have LJ:=Hd (show ((next+8:Nat):Int)=(next:Int)+8 by omega);have N0:=Hd n0;have hwn:IntKind.u64.wrap ((next:Int)+8)=(next:Int)+8:=IntWalk.u64_in _ (by omega);clear S H hn hp D j1 j2 i1 i2 k1 k2 m1 m2;unfold removed cK;rw [if_neg P0.out,if_neg N0.out,if_neg P0.out]
   go_enter Tryz.func255,Tryz.ntmps255
   go_wp2_with fail
   refine HL.out.mono ?_
   rintro e w1 ⟨rfl,S1⟩;have HC:=Hd (S1.sound HD.out);clear S1
   go_wp2_with fail
   refine HC.out.mono ?_
   rintro e w2 ⟨rfl,S2⟩;obtain ⟨c0,c1,f1⟩:=S2.cells;have oP:=Hd (S2.aQ (p:=prev) next HJ.out n64);clear S2
   go_wp2_with fail
   refine oP.out.mono ?_
   rintro e w3 ⟨rfl,S3⟩;obtain ⟨d0,d1,g1⟩:=S3.cells;have oQ:=Hd (S3.aQ (p:=next+8) prev (Sp.tu HK.out) p64);rw [LJ.out] at oQ;clear S3 c0 c1 f1
   go_wp2_with fail
   refine oQ.out.mono ?_
   rintro e w4 ⟨rfl,S4⟩;have yG:=Hd S4;clear S4
   go_wp2_with fail
   go_ret
   exact ⟨rfl,yG.out⟩
theorem Jv (f:Nat→Nat) (hf:∀ a,f a<256) (p n:Nat):leBytes f p n<256^n:=by
 induction n with
 | zero=>simp [leBytes]
 | succ n ih =>
  rw [leBytes,Nat.pow_succ];have h1:=hf (p+n);have h2:f (p+n)*256^n≤255*256^n:=Nat.mul_le_mul_right _ (by omega);omega
theorem Sp.ok.word_lt {σ:Sp} (o:σ.ok) (p:Nat):σ.word p<18446744073709551616:=Jv σ.mem o.byte p 8
theorem LS.nY {w0 w:World} {L:bM} {σ:Sp} {lb:Nat} (S:LS w0 w L lb σ 0) :
  Calls Tryz.prog 283 #[.pointer (some ⟨lb,0,none⟩)] w fun e w'=>e=.returned (.tuple #[.int .u64 0,.int .i64 9])∧w=w':=by
 obtain ⟨c0,c1,f1⟩:=S.cells;clear S
 go_enter Tryz.func283,Tryz.ntmps283
 go_wp2_with fail
 go_ret2
 exact ⟨rfl,rfl⟩
theorem LS.pop {w0 w:World} {L:bM} {σ:Sp} {lb h next:Nat} (S:LS w0 w L lb σ h) (h0:h≠0) (H:σ.has h 16) (hn:σ.word h=next) (hp:σ.word (h+8)=0) (D:next≠0→σ.has next 16∧σ.word (next+8)=h) (n64:next<18446744073709551616) :
  Calls Tryz.prog 283 #[.pointer (some ⟨lb,0,none⟩)] w (Linked w0 L lb (removed σ next 0) next (.tuple #[.int .u64 h,.int .i64 0])):=by
 have HR:=Hd (S.Cv H hn hp ⟨by simp,by simp,D⟩ n64 (by omega));obtain ⟨c0,c1,f1⟩:=S.cells;have h0':=jy h0;clear S H hn hp D
 go_enter Tryz.func283,Tryz.ntmps283
 go_wp2_with fail
 refine HR.out.mono ?_
 rintro e w1 ⟨rfl,S1⟩
 replace S1:LS w0 w1 L lb (removed σ next 0) next:=by simpa using S1
 have tq:=Hd S1;clear S1
 go_wp2_with fail
 go_ret2
 exact ⟨rfl,tq.out⟩
end Go.Proofs.YtnjcmcnjgdjbiaaGreatDoor
