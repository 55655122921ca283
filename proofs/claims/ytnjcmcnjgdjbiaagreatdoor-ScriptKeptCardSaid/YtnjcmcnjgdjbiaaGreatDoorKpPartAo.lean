/- Conditions: as each theorem states. -/
import Derived.Test.YtnjcmcnjgdjbiaaGreatDoorKpPartAl
import Derived.ChangeMaps5
import Derived.Deep.Slices
import Derived.SizedLaws
set_option maxRecDepth 100000
set_option maxHeartbeats 1000000
namespace Go.Proofs.YtnjcmcnjgdjbiaaGreatDoor
open Go.ChangeShapes Go.WideShapes Go.RowKit
section
variable {H:Type} {enc:TypeId × Value→H} {W:World}
theorem NS:Tryz.prog.cellsOf 43=7:=by kernel_rfl
theorem Xw:Tryz.prog.bytesOf 43=72:=by kernel_rfl
theorem nu:Tryz.prog.cellsOf 3=1∧Tryz.prog.cellsOf 33=1∧Tryz.prog.cellsOf 4=1∧Tryz.prog.cellsOf 34=1∧Tryz.prog.cellsOf 5=1:=⟨by kernel_rfl,by kernel_rfl,by kernel_rfl,by kernel_rfl,by kernel_rfl⟩
theorem Hw {fuel:Nat} {v:Value} {x:DataW H × List MemPlace} (h:DataW.trod enc Tryz.prog W 0 (fun _=>true) true fuel 34 [v]=some x) :
  ∃ dp dn dc d,v=.slice dp dn dc∧Src W (· < W.heap.size) dp dn dc d∧(dp=none→dn=0)∧dn≤maxLen:=by
 rcases open_ints Tryz.underlying34 Tryz.underlying5 nu.2.2.2.2 h with ⟨h1,_⟩ | ⟨a,len,cap,zs,h1,_,hl,hmx,hz,_,hc,hw⟩
 ·obtain rfl:v=.slice none 0 0:=by simpa using h1
  exact ⟨none,0,0,[],rfl,⟨rfl,Nat.le_refl _,fun h=>absurd rfl h⟩,fun _=>rfl,Nat.zero_le _⟩
 ·obtain rfl:v=.slice (some a) len cap:=by simpa using h1
  have hz':zs.length=cap:=by simpa using hz
  refine ⟨some a,len,cap,(zs.take len).map (fun z=>UInt8.ofNat z.toNat),rfl,⟨by simp;omega,hl,fun hne=>?_⟩,(fun h=>by cases h),Nat.le_trans hl hmx⟩
  have hpos:0<zs.length:=by
   rcases Nat.eq_zero_or_pos zs.length with h0 | h0
   ·exfalso;apply hne;rw [List.eq_nil_of_length_eq_zero h0];simp
   ·exact h0
  obtain ⟨b,off,rfl,hcc⟩:=ints_at hc hpos;refine ⟨b,off,rfl,World.block_lt_of_cell? W _ (hcc 0 hpos),fun j y hj=>?_⟩;rw [List.getElem?_map,Option.map_eq_some_iff] at hj;obtain ⟨z,hz1,rfl⟩:=hj;rw [List.getElem?_take] at hz1;split at hz1
  ·obtain ⟨hjl,hzz⟩:=List.getElem?_eq_some_iff.1 hz1;have hb:=bounds_u8 (hw z (List.mem_of_getElem? hz1));rw [hcc j hjl];have hg:zs.getD j 0=z:=by rw [List.getD,hz1];rfl
   rw [hg];have e:(UInt8.ofNat z.toNat).toNat=z.toNat:=by simp;omega
   rw [e]
   congr 2
   omega
  ·cases hz1
theorem KN {fuel:Nat} {cs:List Value} {x:DataW H × List MemPlace} (h:DataW.trod enc Tryz.prog W 0 (fun _=>true) true fuel 43 cs=some x) :
  ∃ (c:au) (d:List UInt8),cs=c.cells∧((Lit.int .i64 c.op).wf=true∧c.p<dF∧c.a<dF∧c.b<dF)∧Src W (· < W.heap.size) c.dp c.dn c.dc d∧(c.dp=none→c.dn=0)∧c.dn≤maxLen:=by
 obtain ⟨xs,n,rfl,rfl,hcl,hxl,hf⟩:=DataW.trod_struct Tryz.underlying43 h;rw [NS] at hcl
 match cs,hcl with
 | [c0,c1,c2,c3,c4,c5,c6],_ =>
  have hx7:xs.length=7:=hxl;have at_:∀ i,i<7→∃ y,xs[i]? = some y:=fun i hi=>⟨_,List.getElem?_eq_getElem (by omega)⟩
  obtain ⟨y0,e0⟩:=at_ 0 (by omega);obtain ⟨y1,e1⟩:=at_ 1 (by omega);obtain ⟨y2,e2⟩:=at_ 2 (by omega);obtain ⟨y3,e3⟩:=at_ 3 (by omega);obtain ⟨y4,e4⟩:=at_ 4 (by omega);obtain ⟨y5,e5⟩:=at_ 5 (by omega);obtain ⟨y6,e6⟩:=at_ 6 (by omega);have f0:DataW.trod enc Tryz.prog W 0 (fun _=>true) true n 3 (([c0,c1,c2,c3,c4,c5,c6].drop 0).take (Tryz.prog.cellsOf 3))=some y0:=(hf 0 ⟨ "Op", 3,0,false, "", "", 0⟩ rfl).trans e0;rw [nu.1] at f0;have f1:DataW.trod enc Tryz.prog W 0 (fun _=>true) true n 3 (([c0,c1,c2,c3,c4,c5,c6].drop 1).take (Tryz.prog.cellsOf 3))=some y1:=(hf 1 ⟨ "Ref", 3,1,false, "", "", 8⟩ rfl).trans e1;rw [nu.1] at f1;have f2:DataW.trod enc Tryz.prog W 0 (fun _=>true) true n 33 (([c0,c1,c2,c3,c4,c5,c6].drop 2).take (Tryz.prog.cellsOf 33))=some y2:=(hf 2 ⟨ "P", 33,2,false, "", "", 16⟩ rfl).trans e2;rw [nu.2.1] at f2;have f3:DataW.trod enc Tryz.prog W 0 (fun _=>true) true n 33 (([c0,c1,c2,c3,c4,c5,c6].drop 3).take (Tryz.prog.cellsOf 33))=some y3:=(hf 3 ⟨ "A", 33,3,false, "", "", 24⟩ rfl).trans e3;rw [nu.2.1] at f3;have f4:DataW.trod enc Tryz.prog W 0 (fun _=>true) true n 33 (([c0,c1,c2,c3,c4,c5,c6].drop 4).take (Tryz.prog.cellsOf 33))=some y4:=(hf 4 ⟨ "B", 33,4,false, "", "", 32⟩ rfl).trans e4;rw [nu.2.1] at f4;have f5:DataW.trod enc Tryz.prog W 0 (fun _=>true) true n 4 (([c0,c1,c2,c3,c4,c5,c6].drop 5).take (Tryz.prog.cellsOf 4))=some y5:=(hf 5 ⟨ "Deny", 4,5,false, "", "", 40⟩ rfl).trans e5;rw [nu.2.2.1] at f5;have f6:DataW.trod enc Tryz.prog W 0 (fun _=>true) true n 34 (([c0,c1,c2,c3,c4,c5,c6].drop 6).take (Tryz.prog.cellsOf 34))=some y6:=(hf 6 ⟨ "Data", 34,6,false, "", "", 48⟩ rfl).trans e6;rw [nu.2.2.2.1] at f6;obtain ⟨op,h0,_,w0⟩:=DataW.trod_int Tryz.underlying3 f0;obtain ⟨ref,h1,_,w1⟩:=DataW.trod_int Tryz.underlying3 f1;obtain ⟨p,h2,_,w2⟩:=DataW.trod_int Tryz.underlying33 f2;obtain ⟨a,h3,_,w3⟩:=DataW.trod_int Tryz.underlying33 f3;obtain ⟨b,h4,_,w4⟩:=DataW.trod_int Tryz.underlying33 f4;obtain ⟨deny,h5,_⟩:=DataW.trod_bool Tryz.underlying4 f5;obtain ⟨dp,dn,dc,d,h6,R⟩:=Hw f6;obtain rfl:c0=.int .i64 op:=by simpa using h0
  obtain rfl:c1=.int .i64 ref:=by simpa using h1
  obtain rfl:c2=.int .u64 p:=by simpa using h2
  obtain rfl:c3=.int .u64 a:=by simpa using h3
  obtain rfl:c4=.int .u64 b:=by simpa using h4
  obtain rfl:c5=.bool deny:=by simpa using h5
  subst h6;have k2:0≤p∧p≤18446744073709551615:=bounds_u64 w2;have k3:0≤a∧a≤18446744073709551615:=bounds_u64 w3;have k4:0≤b∧b≤18446744073709551615:=bounds_u64 w4;refine ⟨⟨op,ref,p.toNat,a.toNat,b.toNat,deny,dp,dn,dc⟩,d,?_,⟨w0,?_,?_,?_⟩,R⟩
  ·show _ = [_,_,_,_,_,_,_]
   rw [Int.toNat_of_nonneg k2.1,Int.toNat_of_nonneg k3.1,Int.toNat_of_nonneg k4.1]
  ·show p.toNat<18446744073709551616;omega
  ·show a.toNat<18446744073709551616;omega
  ·show b.toNat<18446744073709551616;omega
theorem Hy {fuel:Nat} {a:Option Addr} {len cap:Nat} {x:DataW H × List MemPlace} (hf':DataW.trod enc Tryz.prog W 0 (fun _=>true) true fuel 25 [.slice a len cap]=some x) :
  ∃ cs ds,Handed W a len cap cs ds∧(len=0∨∃ el sp,x.1=.slice el sp∧len≤el.length+sp.length):=by
 rcases Go.Deep.open_slice Tryz.underlying25 hf' with ⟨h1,_⟩ | ⟨a',len',cap',m,nn,E,Pl,h1,_,hl,_,hm,hx,he⟩
 ·obtain ⟨rfl,rfl,rfl⟩:a=none∧len=0∧cap=0:=by simpa using h1
  exact ⟨[],[],⟨⟨rfl,rfl,fun h=>absurd h (by omega)⟩,fun _=>⟨rfl,rfl⟩,fun c hc=>(by cases hc),fun c hc=>(by cases hc)⟩,.inl rfl⟩
 ·obtain ⟨rfl,rfl,rfl⟩:a=some a'∧len=len'∧cap=cap':=by simpa using h1
  obtain rfl:m=cap:=by simpa using hm
  rw [NS] at he
  have each:∀ i,i<len→∃ cd:au × List UInt8,(∀ (j:Nat) u,cd.1.cells[j]? = some u→W.cell? (a'.add (i*7+j))=some u)∧((Lit.int .i64 cd.1.op).wf=true∧cd.1.p<dF∧cd.1.a<dF∧cd.1.b<dF)∧Src W (· < W.heap.size) cd.1.dp cd.1.dn cd.1.dc cd.2∧(cd.1.dp=none→cd.1.dn=0)∧cd.1.dn≤maxLen:=fun i hi=>by
   obtain ⟨cs',h1,h2⟩:=he i (by omega);obtain ⟨c,d,rfl,ok,R⟩:=KN h2;obtain ⟨_,hlen,hc⟩:=World.cells?_some h1;refine ⟨(c,d),fun j u hj=>?_,ok,R⟩;have Df:j<7:=by rw [←hlen];exact (List.getElem?_eq_some_iff.1 hj).1
   have:=hc j Df;rw [Go.Deep.add_add] at this;exact this.trans hj
  haveI:Inhabited (au × List UInt8):=⟨(⟨0,0,0,0,0,false,none,0,0⟩,[])⟩
  obtain ⟨f,hf⟩:=Go.Deep.choose_lt each;refine ⟨(List.range len).map (fun i=>(f i).1),(List.range len).map (fun i=>(f i).2),⟨⟨by simp,by simp,fun hpos=>?_⟩,(fun h=>by cases h),fun c hc=>?_,fun c hc=>?_⟩,.inr ⟨_,_,(by rw [hx]),by simp⟩⟩
  ·have h00:=(hf 0 hpos).1 0 _ rfl;obtain ⟨g,off,spot⟩:=a';have hspot:spot=none:=by simpa [Addr.add] using World.cell?_spot h00
   subst hspot;refine ⟨g,off,rfl,World.block_lt_of_cell? W _ h00,fun i c d hc hd=>?_⟩;rw [List.getElem?_map,Option.map_eq_some_iff] at hc hd;obtain ⟨i1,hi1,rfl⟩:=hc;obtain ⟨i2,hi2,rfl⟩:=hd;obtain ⟨hil,rfl⟩:=List.getElem?_eq_some_iff.1 hi1;obtain ⟨_,rfl⟩:=List.getElem?_eq_some_iff.1 hi2;simp only [List.getElem_range,List.length_range] at hil ⊢;obtain ⟨q1,_,q3⟩:=hf i hil;refine ⟨fun j u hj=>?_,q3.1⟩;have:=q1 j u hj;rw [Go.WideShapes.add_plain] at this;rw [Nat.add_assoc];exact this
  ·obtain ⟨i,hi,rfl⟩:=List.mem_map.1 hc;exact (hf i (by simpa using hi)).2.1
  ·obtain ⟨i,hi,rfl⟩:=List.mem_map.1 hc;exact (hf i (by simpa using hi)).2.2.2
theorem cellsS:Tryz.prog.cellsOf 48=4∧Tryz.prog.cellsOf 46=3∧Tryz.prog.cellsOf 25=1∧Tryz.prog.cellsOf 33=1∧Tryz.prog.cellsOf 3=1:=⟨by kernel_rfl,by kernel_rfl,by kernel_rfl,by kernel_rfl,by kernel_rfl⟩
theorem Hz {v:Value} {D:DataW H} {p:List MemPlace} (hv:∃ cs,v=.agg cs∧cs.size=4) (h:DataW.Trod enc Tryz.prog W 0 (fun _=>true) true 48 v D p) :
  ∃ (base:Nat) (limit order:Int) (pa:Option Addr) (n ca:Nat) (cs:List au) (ds:List (List UInt8)),v=.agg #[.int .u64 base,.int .i64 limit,.int .i64 order,.slice pa n ca]∧base<18446744073709551616∧Handed W pa n ca cs ds∧(n=0∨∃ d0 el sp,D=.agg [d0,.slice el sp]∧n≤el.length+sp.length):=by
 obtain ⟨cv,rfl,hsz⟩:=hv;obtain ⟨fuel,hf⟩:=h;have hf':DataW.trod enc Tryz.prog W 0 (fun _=>true) true fuel 48 cv.toList=some (D,p):=by simpa [Value.cells] using hf
 obtain ⟨xs,m,rfl,hD,hcl,hxl,rR⟩:=DataW.trod_struct Tryz.underlying48 hf';have hl4:cv.toList.length=4:=by simpa using hsz
 match hcv:cv.toList,hl4 with
 | [c0,c1,c2,c3],_ =>
  obtain rfl:cv=#[c0,c1,c2,c3]:=by rw [←Array.toArray_toList (xs:=cv),hcv]
  have hx2:xs.length=2:=hxl;obtain ⟨y0,e0⟩:∃ y,xs[0]? = some y:=⟨_,List.getElem?_eq_getElem (by omega)⟩;obtain ⟨y1,e1⟩:∃ y,xs[1]? = some y:=⟨_,List.getElem?_eq_getElem (by omega)⟩;have f0:DataW.trod enc Tryz.prog W 0 (fun _=>true) true m 46 (([c0,c1,c2,c3].drop 0).take (Tryz.prog.cellsOf 46))=some y0:=(rR 0 ⟨"C", 46,0,false, "", "", 0⟩ rfl).trans e0;rw [cellsS.2.1] at f0;have f1:DataW.trod enc Tryz.prog W 0 (fun _=>true) true m 25 (([c0,c1,c2,c3].drop 3).take (Tryz.prog.cellsOf 25))=some y1:=(rR 1 ⟨"Calls", 25,3,false, "", "", 24⟩ rfl).trans e1;rw [cellsS.2.2.1] at f1;obtain ⟨zs,m2,rfl,hy0,ac8,hzl,hfz⟩:=DataW.trod_struct Tryz.underlying46 f0;have hz3:zs.length=3:=hzl;obtain ⟨z0,g0⟩:∃ y,zs[0]? = some y:=⟨_,List.getElem?_eq_getElem (by omega)⟩;obtain ⟨z1,g1⟩:∃ y,zs[1]? = some y:=⟨_,List.getElem?_eq_getElem (by omega)⟩;obtain ⟨z2,g2⟩:∃ y,zs[2]? = some y:=⟨_,List.getElem?_eq_getElem (by omega)⟩;have k0:DataW.trod enc Tryz.prog W 0 (fun _=>true) true m2 33 (([c0,c1,c2].drop 0).take (Tryz.prog.cellsOf 33))=some z0:=(hfz 0 ⟨"Base", 33,0,false, "", "", 0⟩ rfl).trans g0;rw [cellsS.2.2.2.1] at k0;have k1:DataW.trod enc Tryz.prog W 0 (fun _=>true) true m2 3 (([c0,c1,c2].drop 1).take (Tryz.prog.cellsOf 3))=some z1:=(hfz 1 ⟨"Limit", 3,1,false, "", "", 8⟩ rfl).trans g1;rw [cellsS.2.2.2.2] at k1;have k2:DataW.trod enc Tryz.prog W 0 (fun _=>true) true m2 3 (([c0,c1,c2].drop 2).take (Tryz.prog.cellsOf 3))=some z2:=(hfz 2 ⟨"Order", 3,2,false, "", "", 16⟩ rfl).trans g2;rw [cellsS.2.2.2.2] at k2;obtain ⟨b,h0,_,w0⟩:=DataW.trod_int Tryz.underlying33 k0;obtain ⟨l,h1,_,w1⟩:=DataW.trod_int Tryz.underlying3 k1;obtain ⟨o,h2,_,w2⟩:=DataW.trod_int Tryz.underlying3 k2;obtain rfl:c0=.int .u64 b:=by simpa using h0
  obtain rfl:c1=.int .i64 l:=by simpa using h1
  obtain rfl:c2=.int .i64 o:=by simpa using h2
  have q0:0≤b∧b≤18446744073709551615:=bounds_u64 w0
  have hs:∃ a len cap,c3=.slice a len cap:=by
   rcases Go.Deep.open_slice Tryz.underlying25 f1 with ⟨h1,_⟩ | ⟨a',len',cap',m,nn,E,Pl,h1,_⟩
   ·exact ⟨none,0,0,by simpa using h1⟩
   ·exact ⟨some a',len',cap',by simpa using h1⟩
  obtain ⟨a,len,cap,rfl⟩:=hs;obtain ⟨cs,ds,H1,H2⟩:=Hy f1;refine ⟨b.toNat,l,o,a,len,cap,cs,ds,by rw [Int.toNat_of_nonneg q0.1],by omega,H1,?_⟩;rcases H2 with h | ⟨el,sp,h,h'⟩
  ·exact .inl h
  ·refine .inr ⟨y0.1,el,sp,?_,h'⟩
   have:xs = [y0,y1]:=by
    match xs,hx2 with
    | [u,v],_=>simp at e0 e1;rw [e0,e1]
   rw [this] at hD;have hd:=(Prod.mk.inj hD).1;rw [hd,List.map_cons,List.map_cons,h];rfl
theorem Gl {ts:List TypeId} {ds:List (DataW H)} (h:(DataW.weightsEach Tryz.prog ts ds).all (·≤reachBytes)=true) {j:Nat} {d0:DataW H} {el sp:List (DataW H)} (ht:ts[j]? = some 48) (hd:ds[j]? = some (.agg [d0,.slice el sp])):(el.length+sp.length)*72≤reachBytes:=by
 have:=List.all_eq_true.1 h _ (DataW.weights_mem_each ht hd ((el.length+sp.length)*72) (by
  simp [DataW.weights,Tryz.underlying48,Tryz.underlying25,DataW.weightsEach,Xw]))
 simpa using this
theorem KO {n a b:Nat} (h:n≤a+b) (h2:(a+b)*72≤reachBytes):n≤140737488355328:=by
 have h3:reachBytes=140737488351232:=rfl;omega
end
end Go.Proofs.YtnjcmcnjgdjbiaaGreatDoor
