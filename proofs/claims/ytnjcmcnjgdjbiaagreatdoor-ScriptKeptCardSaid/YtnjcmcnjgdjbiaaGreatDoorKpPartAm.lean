/- Conditions: as each theorem states. -/
import Derived.Test.YtnjcmcnjgdjbiaaGreatDoorKpPartAl
import Derived.Lib.ItoaNum
set_option maxRecDepth 100000
set_option maxHeartbeats 8000000
namespace Go.Proofs.YtnjcmcnjgdjbiaaGreatDoor
open Go.RowKit
def Room (w:World) (g n:Nat):Prop:=∃ C fz,w.heap[g]? = some (.cells C 5 fz)∧n≤C.size∧(fz=(0,0)∨fz=(C.size,C.size+1))
theorem Room.cell {w:World} {g n:Nat} (h:Room w g n) (j:Nat) (hj:j<n):(∃ u,w.cell? ⟨g,j,none⟩=some u)∧w.frozen? ⟨g,j,none⟩=false:=by
 obtain ⟨C,fz,hb,hn,hf⟩:=h;refine ⟨⟨C[j]'(by omega),?_⟩,?_⟩
 ·rw [Lib.cell_of_heap hb];exact Array.getElem?_eq_getElem (by omega)
 ·rcases hf with rfl | rfl
  ·simp [World.frozen?,hb]
  ·simp [World.frozen?,hb];omega
theorem Room.lt {w:World} {g n:Nat} (h:Room w g n):g<w.heap.size:=by
 obtain ⟨C,fz,hb,_⟩:=h;exact (Array.getElem?_eq_some_iff.1 hb).1
theorem Room.touch {w w':World} {g n:Nat} {S:Nat→Prop} (h:Room w g n) (T:Touch S w w') (hs:¬S g):Room w' g n:=by
 have hl:=h.lt;obtain ⟨C,fz,hb,hn,hf⟩:=h;exact ⟨C,fz,(T.block g hl hs).trans hb,hn,hf⟩
theorem Room.set {w:World} {g n:Nat} (h:Room w g n) (b j:Nat) (u:Value):Room (w.setCell ⟨b,j,none⟩ u) g n:=by
 by_cases hbg:b=g
 ·subst hbg;obtain ⟨C,fz,hb,hn,hf⟩:=h;refine ⟨C.setIfInBounds j u,fz,?_,by simpa using hn,by simpa using hf⟩;have hl:=(Array.getElem?_eq_some_iff.1 hb).1;have he:=(Array.getElem?_eq_some_iff.1 hb).2;simp [World.setCell,Array.getElem?_modify,hb]
 ·exact h.touch (Touch.cellAt w b j u) (fun e=>hbg e.symm)
def nP (w:World) (B:Nat) (c:au) (d:List UInt8):Prop:=∃ g,c.dp=some ⟨g,0,none⟩∧B≤g∧c.dn=d.length∧c.dn≤c.dc∧Room w g d.length∧∀ (j:Nat) x,d[j]? = some x→w.cell? ⟨g,j,none⟩=some (.int .u8 x.toNat)
theorem nP.touch {w w':World} {B:Nat} {c:au} {d:List UInt8} {S:Nat→Prop} (h:nP w B c d) (T:Touch S w w') (hs:∀ g,c.dp=some ⟨g,0,none⟩→¬S g):nP w' B c d:=by
 obtain ⟨g,hp,hB,hn,hc,hr,hx⟩:=h;refine ⟨g,hp,hB,hn,hc,hr.touch T (hs g hp),fun j x hj=>?_⟩;rw [T.cell (p:=⟨g,j,none⟩) hr.lt (hs g hp)];exact hx j x hj
theorem nP.grown {w w':World} {B:Nat} {c:au} {d:List UInt8} (h:nP w B c d) {B' n:Nat} {v:Value} {xs:List Value} (ho:w.ownsRow B' 43 7 v n xs) (hg:w.grownBy w' v.ownBlock):nP w' B c d :=
 h.touch (Touch.bT (S:=fun i=>v.ownBlock=some i) hg (fun i hi=>hi)) fun g hp e=>by
  obtain ⟨g',hp',_,_,_,⟨C,fz,hb,_⟩,_⟩:=h;rw [hp] at hp';cases hp';rcases ho.2 with ⟨rfl,_⟩ | ⟨g1,cap,cur,rfl,_,h1,_⟩
  ·cases e
  ·cases e;rw [hb] at h1;cases h1
theorem nP.src {w:World} {B:Nat} {c:au} {d:List UInt8} {A:Nat→Prop} (h:nP w B c d) (hA:∀ g,c.dp=some ⟨g,0,none⟩→A g):Src w A c.dp c.dn c.dc d:=by
 obtain ⟨g,hp,hB,hn,hc,hr,hx⟩:=h;exact ⟨hn,hc,fun _=>⟨g,0,hp,hA g hp,fun j x hj=>by rw [Nat.zero_add];exact hx j x hj⟩⟩
theorem Bh (w:World) (s:ByteArray):Touch Nothing w (Lib.bytesWorld w 5 s) :=
 ⟨rfl,rfl,rfl,by rw [Lib.bytesWorld_size];omega,fun k hk _=>Lib.bytesWorld_at_old w 5 s k hk⟩
theorem Ko (w:World) (d:List UInt8):Room (Lib.bytesWorld w 5 ⟨d.toArray⟩) w.heap.size d.length∧∀ (j:Nat) x,d[j]? = some x→(Lib.bytesWorld w 5 ⟨d.toArray⟩).cell? ⟨w.heap.size,j,none⟩=some (.int .u8 x.toNat):=by
 refine ⟨⟨_,_,Lib.bytesWorld_at_new w 5 ⟨d.toArray⟩,by simp [Lib.bytesCells],.inr rfl⟩,fun j x hj=>?_⟩;obtain ⟨hl,rfl⟩:=List.getElem?_eq_some_iff.1 hj;rw [Lib.bytesWorld_cell w 5 ⟨d.toArray⟩ j (by show j<d.toArray.size;simpa using hl)];simp [List.getD,hl]
theorem Qo {w:World} {A:Nat→Prop} {dp:Option Addr} {dn dc:Nat} {d:List UInt8} (h:Src w A dp dn dc d) (hnil:dp=none→dn=0):(convert 34 9 (.slice dp dn dc)).run Tryz.prog w=.ok (.string ⟨d.toArray⟩) w:=by
 obtain rfl:=h.len;cases dp with
 | none =>
  obtain rfl:d = []:=List.eq_nil_of_length_eq_zero (hnil rfl);exact run_convert_bytes_nil w 34 5 Tryz.underlying34 Tryz.underlying5 _ _ 9 Tryz.underlying9
 | some a =>
  refine run_convert_bytes_back w 34 9 5 a dc d Tryz.underlying34 Tryz.underlying5 Tryz.underlying9 (fun j hj=>?_);obtain ⟨g,off,hp,_,hc⟩:=h.data (by intro e;rw [e] at hj;simp at hj);cases hp;rw [Lib.add_plain];exact hc j _ (List.getElem?_eq_getElem hj)
structure zx (w:World) (cs:List au) (ds:List (List UInt8)) (k:Nat) (v:Value) (wr:World) (ks:List au):Prop where
 own:wr.ownsRow w.heap.size 43 7 v k (ks.flatMap au.cells)
 len:ks.length=k
 each:∀ (i:Nat) c0 d c,cs[i]? = some c0→ds[i]? = some d→ks[i]? = some c→pY c c0∧nP wr w.heap.size c d
 touch:Touch Nothing w wr
theorem zx.more {w wr w3 w4:World} {cs:List au} {ds:List (List UInt8)} {k:Nat} {v v':Value} {ks:List au} {c0 c:au} {d:List UInt8} {o:Obj} (C:zx w cs ds k v wr ks) (hc:cs[k]? = some c0) (hd:ds[k]? = some d) (T:Touch Nothing wr w3) (hl:pY c c0) (hy:nP w3 w.heap.size c d)
  (ho:w4.ownsRow w.heap.size 43 7 v' (k+1) (ks.flatMap au.cells++c.cells)) (hg:(w3.alloc o).grownBy w4 v.ownBlock):zx w cs ds (k+1) v' w4 (ks++[c]):=by
 have T1:Touch Nothing w3 (w3.alloc o):=(Touch.refl _ _).alloc _;have how:=aZ C.own (T.trans T1) (fun _ _ _ h=>h);have TG:Touch (fun i=>v.ownBlock=some i) (w3.alloc o) w4:=Touch.bT hg (fun i hi=>hi);refine ⟨by simpa using ho,by simp [C.len],fun i c1 d1 c2 h1 h2 h3=>?_,(C.touch.trans (T.trans T1)).trans' TG (fun i hi h=>by have:=(World.ownsRow.lt how i h).1;omega)⟩;rcases Nat.lt_or_ge i k with hi | hi
 ·rw [List.getElem?_append_left (by rw [C.len];exact hi)] at h3;obtain ⟨l1,y1⟩:=C.each i c1 d1 c2 h1 h2 h3;exact ⟨l1,(y1.touch (T.trans T1) (fun _ _ h=>h)).grown how hg⟩
 ·rw [List.getElem?_append_right (by rw [C.len];exact hi),C.len] at h3;obtain ⟨hi2,rfl⟩:=List.getElem?_eq_some_iff.1 h3;have hik:i=k:=by simp at hi2;omega
  subst hik;rw [hc] at h1;cases h1;rw [hd] at h2;cases h2;simp only [Nat.sub_self,List.getElem_cons_zero];exact ⟨hl,(hy.touch T1 (fun _ _ h=>h)).grown how hg⟩
def IZ (w:World) (cs:List au) (ds:List (List UInt8)) (n:Nat) (v:Value) (w':World):Prop :=
 ∃ (g cap:Nat) (ks:List au),v=.slice (some ⟨g,0,none⟩) (n+2) cap∧w.heap.size≤g∧n+2≤cap∧ks.length=n∧(∀ (i:Nat) (c0:au) (d:List UInt8) (c:au),cs[i]? = some c0→ds[i]? = some d→ks[i]? = some c→pY c c0∧nP w' w.heap.size c d)∧Touch Nothing w w' ∧
  (∃ C,w'.heap[g]? = some (.cells C 43 (0,0)))∧(∀ (i j:Nat) (c:au) (u:Value),ks[i]? = some c→c.cells[j]? = some u→w'.cell? ⟨g,i*7+j,none⟩=some u)∧w'.cell? ⟨g,n*7+6,none⟩=some (.slice none 0 0)∧w'.cell? ⟨g,(n+1)*7+6,none⟩=some (.slice none 0 0)
theorem zx.done {w wr w1:World} {cs:List au} {ds:List (List UInt8)} {n:Nat} {v v':Value} {ks:List au} {o:Obj} {ys:List Value} (C:zx w cs ds n v wr ks) (hy0:ys[6]? = some (.slice none 0 0)) (hy7:ys[13]? = some (.slice none 0 0))
  (ho:w1.ownsRow w.heap.size 43 7 v' (n+2) (ks.flatMap au.cells++ys)) (hg:(wr.alloc o).grownBy w1 v.ownBlock):IZ w cs ds n v' w1:=by
 have T1:Touch Nothing wr (wr.alloc o):=(Touch.refl _ _).alloc _;have how:=aZ C.own T1 (fun _ _ _ h=>h);have TG:Touch (fun i=>v.ownBlock=some i) (wr.alloc o) w1:=Touch.bT hg (fun i hi=>hi);have hl:(ks.flatMap au.cells).length=n*7:=C.own.1;rcases ho.2 with ⟨_,h⟩ | ⟨g,cap,cur,rfl,hB,hb,hcap,hmx,hs,ht⟩
 ·omega
 have at_:∀ (i:Nat) u,(ks.flatMap au.cells++ys)[i]? = some u→w1.cell? ⟨g,i,none⟩=some u:=fun i u hi=>by
  rw [Lib.cell_of_heap hb];rw [←ht,List.getElem?_take] at hi;split at hi
  ·rw [←Array.getElem?_toList];exact hi
  ·cases hi
 have mark:∀ (i:Nat) u,ys[i]? = some u→w1.cell? ⟨g,n*7+i,none⟩=some u:=fun i u hi=>at_ _ _ (by
  rw [List.getElem?_append_right (by omega),hl,Nat.add_sub_cancel_left];exact hi)
 refine ⟨g,cap,ks,rfl,hB,hcap,C.len,fun i c0 d c h1 h2 h3=>?_,(C.touch.trans T1).trans' TG (fun i hi h=>by have:=(World.ownsRow.lt how i h).1;omega),⟨cur,hb⟩,fun i j c u hc hj=>?_,mark 6 _ hy0,?_⟩
 ·obtain ⟨l1,y1⟩:=C.each i c0 d c h1 h2 h3;exact ⟨l1,(y1.touch T1 (fun _ _ h=>h)).grown how hg⟩
 ·have hi:=(List.getElem?_eq_some_iff.1 hc).1;have Df:j<7:=(List.getElem?_eq_some_iff.1 hj).1;have:=C.len;refine at_ _ _ ?_
  rw [List.getElem?_append_left (by omega),vU ks i j Df,hc];exact hj
 ·have h:=mark 13 _ hy7;rwa [show n*7+13=(n+1)*7+6 by omega] at h
theorem Qp (pa:Option Addr) (n ca:Nat) (cs:List au) (ds:List (List UInt8)) {A:Nat→Prop} (w:World) (R:vT w A pa n cs ds) (hA:∀ k,A k→k<w.heap.size) (hnil:∀ c∈cs,c.dp=none→c.dn=0) (hn:(n+2)*72≤140737488355328) :
  Calls Tryz.prog 21 #[.slice pa n ca] w fun e w'=>∃ v,e=.returned v∧IZ w cs ds n v w':=by
 have HR:=Hd R;have Zm:=Hd hA;have Kq:=Hd hnil;obtain ⟨i0,hi0,hz0,hz1,hz2⟩:=info_parts Fy;have HC0:=Hd (show zx w cs ds 0 (.slice none 0 0) w [] from ⟨World.ownsRow_nil _ _ _ _,rfl,fun i c0 d c _ _ h=>(by simp at h),Touch.refl _ _⟩);clear R hA hnil
 go_enter Tryz.func21,Tryz.ntmps21
 go_wp2_with fail
 go_loopw [3,4] (fun v a wr=>∃ (k:Nat) (ks:List au),k≤n∧a=.int .i64 k∧zx w cs ds k v wr ks) (fun _ a _=>n-(intOf a).toNat)
 case atStart=>exact ⟨0,[],by omega,rfl,HC0.out⟩
 case round =>
  obtain ⟨k,ks,hk,rfl,hC⟩:=hrel;have HC:=Hd hC;have hsz:=hC.touch.size;clear hC;by_cases hlt:k<n
  ·have hlt2:(k:Int)<(n:Int):=by omega
   have hR2:=HR.out.keep (w':=wr) (fun j _ hj=>HC.out.touch.block j hj (fun h=>h));obtain ⟨ga,oa,hpa,Sr,ea⟩:=hR2.each (by omega);subst hpa;obtain ⟨c,hc⟩:∃ c,cs[k]? = some c:=⟨_,List.getElem?_eq_getElem (by have:=HR.out.len;omega)⟩;obtain ⟨dat,hdat⟩:∃ x,ds[k]? = some x:=⟨_,List.getElem?_eq_getElem (by have:=HR.out.len2;omega)⟩;have HA:=Hd (ea k c dat hc hdat);have Zt:=Hd (And.intro hc hdat);have hni:=Kq.out c (List.mem_of_getElem? hc);obtain ⟨op,ref,p,a,b,deny,dp,dn,dc⟩:=c;have HNi:=Hd hni;clear ea hc hdat hR2 hni Sr;have a0:wr.cell? ⟨ga,oa+k*7,none⟩=some (.int .i64 op):=HA.out.1 0 _ rfl;have a1:wr.cell? ⟨ga,oa+k*7+1,none⟩=some (.int .i64 ref):=HA.out.1 1 _ rfl;have a2:wr.cell? ⟨ga,oa+k*7+2,none⟩=some (.int .u64 p):=HA.out.1 2 _ rfl;have a3:wr.cell? ⟨ga,oa+k*7+3,none⟩=some (.int .u64 a):=HA.out.1 3 _ rfl;have a4:wr.cell? ⟨ga,oa+k*7+4,none⟩=some (.int .u64 b):=HA.out.1 4 _ rfl;have a5:wr.cell? ⟨ga,oa+k*7+5,none⟩=some (.bool deny):=HA.out.1 5 _ rfl;have a6:wr.cell? ⟨ga,oa+k*7+6,none⟩=some (.slice dp dn dc):=HA.out.1 6 _ rfl;have hga:ga<wr.heap.size:=World.block_lt_of_cell? wr _ a0;have HT1:=Hd ((Touch.refl Nothing wr).alloc (.cells #[.int .i64 op,.int .i64 ref,.int .u64 p,.int .u64 a,.int .u64 b,.bool deny,.slice dp dn dc] 43));have HB1:=Hd (aC.new wr #[.int .i64 op,.int .i64 ref,.int .u64 p,.int .u64 a,.int .u64 b,.bool deny,.slice dp dn dc] 43);have Zu:=Hd (show Src (wr.alloc (.cells #[.int .i64 op,.int .i64 ref,.int .u64 p,.int .u64 a,.int .u64 b,.bool deny,.slice dp dn dc] 43)) A dp dn dc dat from HA.out.2.keep (fun j _ hj=>HT1.out.block j hj (fun h=>h)))
   go_wp2_with fail
   rw [Qo Zu.out HNi.out]
   go_wp2_with fail
   rw [Lib.run_convert_string_bytes _ 9 34 5 ⟨dat.toArray⟩ Tryz.underlying9 Tryz.underlying34 Tryz.underlying5];have HT2:=Hd (HT1.out.trans (Bh _ ⟨dat.toArray⟩));have HB2:=Hd (HB1.out.touch (Bh _ ⟨dat.toArray⟩) (fun h=>h));have tF:=Hd (Ko (wr.alloc (.cells #[.int .i64 op,.int .i64 ref,.int .u64 p,.int .u64 a,.int .u64 b,.bool deny,.slice dp dn dc] 43)) dat);have M8:=Hd (grownCap_ge (wr.alloc (.cells #[.int .i64 op,.int .i64 ref,.int .u64 p,.int .u64 a,.int .u64 b,.bool deny,.slice dp dn dc] 43)) dat.length 0 5);rw [show (wr.alloc (.cells #[.int .i64 op,.int .i64 ref,.int .u64 p,.int .u64 a,.int .u64 b,.bool deny,.slice dp dn dc] 43)).heap.size=wr.heap.size+1 by simp] at tF ⊢;rw [show (⟨dat.toArray⟩:ByteArray).size=dat.length by simp [ByteArray.size]];generalize grownCap (wr.alloc (.cells #[.int .i64 op,.int .i64 ref,.int .u64 p,.int .u64 a,.int .u64 b,.bool deny,.slice dp dn dc] 43)) dat.length 0 5=gc at *;generalize Lib.bytesWorld (wr.alloc (.cells #[.int .i64 op,.int .i64 ref,.int .u64 p,.int .u64 a,.int .u64 b,.bool deny,.slice dp dn dc] 43)) 5 ⟨dat.toArray⟩=w2 at *;have c6:w2.cell? ⟨wr.heap.size,6,none⟩=some (.slice dp dn dc):=HB2.out.cell 6;have z6:w2.frozen? ⟨wr.heap.size,6,none⟩=false:=HB2.out.free 6;clear a0 a1 a2 a3 a4 a5 a6 Zu HA HT1 HB1
   go_upto_region 7 with fail
   have HB3:=Hd (show aC (w2.setCell ⟨wr.heap.size,6,none⟩ (.slice (some ⟨wr.heap.size+1,0,none⟩) dat.length gc)) wr.heap.size 43 [.int .i64 op,.int .i64 ref,.int .u64 p,.int .u64 a,.int .u64 b,.bool deny,.slice (some ⟨wr.heap.size+1,0,none⟩) dat.length gc] from HB2.out.set 6 _);have HT3:=Hd (HT2.out.setCell (p:=⟨wr.heap.size,6,none⟩) (fun h=>by simp only at h;omega) (.slice (some ⟨wr.heap.size+1,0,none⟩) dat.length gc))
   have HY3:=Hd (show nP (w2.setCell ⟨wr.heap.size,6,none⟩ (.slice (some ⟨wr.heap.size+1,0,none⟩) dat.length gc)) w.heap.size ⟨op,ref,p,a,b,deny,some ⟨wr.heap.size+1,0,none⟩,dat.length,gc⟩ dat by
    obtain ⟨h1,h2⟩:=tF.out;refine ⟨wr.heap.size+1,rfl,by omega,rfl,M8.out,h1.set _ _ _,fun j x hj=>?_⟩;rw [(Touch.cellAt w2 wr.heap.size 6 _).cell (p:=⟨wr.heap.size+1,j,none⟩) h1.lt (by simp)];exact h2 j x hj)
   clear c6 z6 HB2 HT2 tF;generalize w2.setCell ⟨wr.heap.size,6,none⟩ (.slice (some ⟨wr.heap.size+1,0,none⟩) dat.length gc)=w3 at *;have b0:w3.cell? ⟨wr.heap.size,0,none⟩=some (.int .i64 op):=HB3.out.cell 0;have b1:w3.cell? ⟨wr.heap.size,1,none⟩=some (.int .i64 ref):=HB3.out.cell 1;have b2:w3.cell? ⟨wr.heap.size,2,none⟩=some (.int .u64 p):=HB3.out.cell 2;have b3:w3.cell? ⟨wr.heap.size,3,none⟩=some (.int .u64 a):=HB3.out.cell 3;have b4:w3.cell? ⟨wr.heap.size,4,none⟩=some (.int .u64 b):=HB3.out.cell 4;have b5:w3.cell? ⟨wr.heap.size,5,none⟩=some (.bool deny):=HB3.out.cell 5;have b6:w3.cell? ⟨wr.heap.size,6,none⟩=some (.slice (some ⟨wr.heap.size+1,0,none⟩) dat.length gc):=HB3.out.cell 6;have HOW:=Hd (aZ HC.out.own HT3.out (fun _ _ _ h=>h));have qR:=Hd (fJ (aC.new w3 #[.int .i64 op,.int .i64 ref,.int .u64 p,.int .u64 a,.int .u64 b,.bool deny,.slice (some ⟨wr.heap.size+1,0,none⟩) dat.length gc] 43));have hs3:w.heap.size≤w3.heap.size:=Nat.le_trans hsz HT3.out.size
   go_wp2_with (at_builtin;refine wpList_append_own _ rfl _ _ 25 rfl w.heap.size 43 i0 _ 7 72 Tryz.underlying25 hi0 hz0 hz1 hz2 rfl (by decide) _ _ _ rfl (HOW.out.alloc _) ⟨w3.heap.size,0,none⟩ 1 1 [.int .i64 op,.int .i64 ref,.int .u64 p,.int .u64 a,.int .u64 b,.bool deny,.slice (some ⟨wr.heap.size+1,0,none⟩) dat.length gc] rfl rfl qR.out (by simp [Value.oneCell']) (by unfold maxLen;omega) (by omega) (by simp;omega) ?_;intro v' w4 hown hgrow _)
   have HCM:=Hd (HC.out.more Zt.out.1 Zt.out.2 HT3.out (c:=⟨op,ref,p,a,b,deny,some ⟨wr.heap.size+1,0,none⟩,dat.length,gc⟩) ⟨rfl,rfl,rfl,rfl,rfl,rfl⟩ HY3.out hown hgrow);clear hown hgrow b0 b1 b2 b3 b4 b5 b6
   go_wp2_with fail
   exact ⟨⟨k+1,_,by omega,by go_num,HCM.out⟩,by simp [intOf];omega⟩
  ·obtain rfl:k=n:=by omega
   have hlt2:¬(k:Int)<(k:Int):=by omega
   have qR:=Hd (fJ (aC.new wr #[.int .i64 77,.int .i64 0,.int .u64 0,.int .u64 0,.int .u64 0,.bool false,.slice none 0 0,.int .i64 78,.int .i64 0,.int .u64 0,.int .u64 0,.int .u64 0,.bool false,.slice none 0 0] 43))
   go_wp2_with (at_builtin;refine wpList_append_own _ rfl _ _ 25 rfl w.heap.size 43 i0 _ 7 72 Tryz.underlying25 hi0 hz0 hz1 hz2 rfl (by decide) _ _ _ rfl (HC.out.own.alloc _) ⟨wr.heap.size,0,none⟩ 2 2 [.int .i64 77,.int .i64 0,.int .u64 0,.int .u64 0,.int .u64 0,.bool false,.slice none 0 0,.int .i64 78,.int .i64 0,.int .u64 0,.int .u64 0,.int .u64 0,.bool false,.slice none 0 0] rfl rfl qR.out (by simp [Value.oneCell']) (by unfold maxLen;omega) (by omega) (by simp;omega) ?_;intro v' w4 hown hgrow _)
   have HD:=Hd (HC.out.done rfl rfl hown hgrow);clear hown hgrow
   go_wp2_with fail
   go_ret
   exact ⟨_,rfl,HD.out⟩
end Go.Proofs.YtnjcmcnjgdjbiaaGreatDoor
namespace Go.Proofs.YtnjcmcnjgdjbiaaGreatDoor
theorem Bj (at_ wd:Nat) (p:Pg) (b:Nat × Nat):∀ m,b∈fQ at_ wd p m↔∃ x,x<m∧p.bit x=true∧b=(at_+x*wd,wd)
 | 0=>by simp [fQ]
 | m+1=>by
  unfold fQ;rw [List.mem_append,Bj at_ wd p b m];constructor
  ·rintro (⟨x,h1,h2⟩ | h)
   ·exact ⟨x,by omega,h2⟩
   ·split at h
    ·next hb=>exact ⟨m,by omega,hb,by simpa using h⟩
    ·simp at h
  ·rintro ⟨x,h1,h2,h3⟩;by_cases e:x=m
   ·subst e;right;rw [if_pos h2];simp [h3]
   ·exact .inl ⟨x,by omega,h2,h3⟩
theorem xq {β:Bu} {ps:List Int} {F C L:Nat→List Nat} (I:HS β ps F C L) {i:Nat} {p:Pg} (hp:β.μ.pages[i]? = some p) (P S:Nat) :
  (P,S)∈jK (β.addr i) p↔(∃ k,k≤β.μ.order∧bf β.μ.pages i k 2∧P=β.addr i∧S=4096*2^k)∨∃ c x,c<8∧Cell β i c x∧P=β.addr i+x*aB c∧S=aB c:=by
 have hnc:∀ {c x},Cell β i c x→p.kind=4∧p.cls=(c:Int)∧x<aR c∧p.bit x=true:=by
  rintro c x ⟨q,hq,h1,h2,h3,h4⟩;obtain rfl:p=q:=Option.some.inj (hp.symm.trans hq);exact ⟨h1,h2,h3,h4⟩
 unfold jK;split
 ·next h2 =>
  obtain ⟨a,k,hk,hb,hin,ho,_,hx⟩:=I.inv.isLive hp (.inl h2);have hxa:=hx.1 h2;subst hxa;rw [List.mem_singleton,ho];constructor
  ·intro e;exact .inl ⟨k,hk,hb,congrArg Prod.fst e,congrArg Prod.snd e⟩
  ·rintro (⟨k',hk',hb',rfl,rfl⟩ | ⟨c,x,hc,h,_⟩)
   ·have:=hb.same hb' (aS _ _) (aS _ _);rw [this.2.1];rfl
   ·have:=(hnc h).1;omega
 ·next h2 =>
  have hno:∀ k,¬bf β.μ.pages i k 2:=by
   intro k hb;have e:=Option.some.inj (hp.symm.trans (hb.page (aS _ _)));apply h2;rw [e];simp [bK,aD]
  split
  ·next h4 =>
   have D:=I.slab.pages i p hp h4;obtain ⟨c,hc⟩:=Int.eq_ofNat_of_zero_le D.cls.1;have hc:p.cls=(c:Int):=hc;have hc8:c<8:=by have:=D.cls.2;omega
   rw [Bj,hc,Int.toNat_natCast];constructor
   ·rintro ⟨x,h1,hb,e⟩;exact .inr ⟨c,x,hc8,⟨p,hp,h4,hc,h1,hb⟩,congrArg Prod.fst e,congrArg Prod.snd e⟩
   ·rintro (⟨k,_,hb,_⟩ | ⟨d,x,hd,h,e1,e2⟩)
    ·exact (hno k hb).elim
    ·obtain ⟨_,h5,h6,h7⟩:=hnc h;have:d=c:=by omega
     subst this;exact ⟨x,h6,h7,by rw [e1,e2]⟩
  ·next h4 =>
   constructor
   ·intro h;simp at h
   ·rintro (⟨k,_,hb,_⟩ | ⟨d,x,hd,h,_⟩)
    ·exact (hno k hb).elim
    ·exact (h4 (hnc h).1).elim
theorem Dp {β:Bu} {ps:List Int} {F C L:Nat→List Nat} (I:HS β ps F C L) (b:Nat × Nat):∀ m,m≤β.μ.pages.length→(b∈dI β m↔∃ i,i<m∧b∈jK (β.addr i) (β.μ.pages.getD i eH))
 | 0,_=>by simp [dI]
 | m+1,hm=>by
  unfold dI;rw [List.mem_append,Dp I b m (by omega)];constructor
  ·rintro (⟨i,h1,h2⟩ | h)
   ·exact ⟨i,by omega,h2⟩
   ·exact ⟨m,by omega,h⟩
  ·rintro ⟨i,h1,h2⟩;by_cases e:i=m
   ·subst e;exact .inr h2
   ·exact .inl ⟨i,by omega,h2⟩
theorem xu {β:Bu} {i:Nat} {p:Pg} (h:β.μ.pages[i]? = some p):β.μ.pages.getD i eH=p:=by
 rw [List.getD_eq_getElem?_getD,h];rfl
theorem HS.Qq {β:Bu} {ps:List Int} {F C L:Nat→List Nat} (I:HS β ps F C L) (P S:Nat):(P,S)∈dI β β.μ.pages.length↔Live β P S:=by
 rw [Dp I _ _ (Nat.le_refl _)];constructor
 ·rintro ⟨i,hi,h⟩;have hp:β.μ.pages[i]? = some β.μ.pages[i]:=List.getElem?_eq_getElem hi;rw [xu hp] at h;rcases (xq I hp P S).1 h with ⟨k,h1,h2,h3,h4⟩ | ⟨c,x,h1,h2,h3,h4⟩
  ·exact .inl ⟨i,k,h1,h2,h3,h4⟩
  ·exact .inr ⟨i,c,x,h1,h2,h3,h4⟩
 ·rintro (⟨a,k,h1,h2,h3,h4⟩ | ⟨i,c,x,h1,h2,h3,h4⟩)
  ·have hp:=h2.page (aS _ _);refine ⟨a,(List.getElem?_eq_some_iff.1 hp).1,?_⟩;rw [xu hp];exact (xq I hp P S).2 (.inl ⟨k,h1,h2,h3,h4⟩)
  ·have h2':=h2;obtain ⟨p,hp,_⟩:=h2;refine ⟨i,(List.getElem?_eq_some_iff.1 hp).1,?_⟩;rw [xu hp];exact (xq I hp P S).2 (.inr ⟨c,x,h1,h2',h3,h4⟩)
end Go.Proofs.YtnjcmcnjgdjbiaaGreatDoor
namespace Go.Proofs.YtnjcmcnjgdjbiaaGreatDoor
open Go.RowKit Go.MuLone
def WK (w:World) (hb s pb:Nat) (K:ay) (β:Bu) (ps:List Int) (l:List (Nat × Nat)) (e:Ending) (w':World):Prop :=
 ∃ v,bC w hb s pb K β ps v e w'∧w'.ownsRow w.heap.size 71 2 v l.length (l.flatMap nN)
theorem ak.lived {w:World} {hb s pb:Nat} {K:ay} {β:Bu} {ps:List Int} (R:ak 0 w hb s pb K β ps) :
  Calls Tryz.prog 27 #[.pointer (some ⟨hb,0,none⟩)] w (WK w hb s pb K β ps (dI β β.μ.pages.length)):=by
 obtain ⟨c0,-,-,-,-,f0⟩:=R.cells;have R1:=R.locked 1;have fP:=Hd R1.xO;have HR1:=Hd R1;have HL:=Hd R.lt;clear R R1
 go_enter_defers Tryz.func27,Tryz.ntmps27
 go_wp2_with (go_at_call 58;refine (lock_free Tryz.muLib ⟨hb,0,none⟩ _ c0 f0).mono ?_;rintro e w' ⟨rfl,rfl⟩)
 generalize hw1:w.setCell ⟨hb,0,none⟩ (.int .i32 1)=w1 at *;refine fP.out.mono ?_
 rintro e w2 ⟨v,rfl,V⟩;have HW1:=Hd hw1;have HV:=Hd V;have R2:=HR1.out.aj V.touch;have hm:=R2.cells.1;have fm:=R2.cells.2.2.2.2.2;clear hw1 R2 V c0 f0
 go_wp2
 refine leaves_cons (f:=59) (args:=#[.pointer (some ⟨hb,0,none⟩)]) (by simp) (by simp [go_sem]) ?_
 refine (unlock_deferred Tryz.muLib ⟨hb,0,none⟩ .returning _ hm fm).mono ?_
 rintro e u' w'' ⟨rfl,rfl,rfl⟩;refine ⟨_,results_tmp rfl _ _ _,v,ak.iX HW1.out.symm HR1.out HV.out.touch,?_⟩
 have hsz:w1.heap.size=w.heap.size:=by
  have h2:=HW1.out;subst h2;simp [World.setCell]
 have ho:=HV.out.own;rw [hsz] at ho
 exact aZ ho (Touch.cellAt w2 hb 0 _) (fun i hi hv e=>by
  have:=(World.ownsRow.lt ho i hv).1;have:=HL.out hb (by simp);omega)
end Go.Proofs.YtnjcmcnjgdjbiaaGreatDoor
namespace Go.Proofs.YtnjcmcnjgdjbiaaGreatDoor
open Go.RowKit
theorem Eff.few {β β':Bu} {F L:Nat→List Nat} {x:Cq} {q:Option Nat} {a:An} (h:Eff β F L x q β' a):a.data.length≤65536:=by
 cases h
 case read h1 h2 h3 h4=>simp only [rZ];omega
 all_goals simp [fZ,lq]
theorem Run.few {β:Bu} {ps:List Int} {xs:List Cp} {st:Nat→Bu × List Int} {ax:List An} (R:Run β ps xs st ax):∀ (i:Nat) a,ax[i]? = some a→a.data.length≤65536:=by
 intro i a ha;obtain ⟨x,hx⟩:∃ x,xs[i]? = some x:=⟨_,List.getElem?_eq_getElem (by have:=R.len;have:=(List.getElem?_eq_some_iff.1 ha).1;omega)⟩;obtain ⟨⟨F,C,L,_,E⟩,_⟩:=R.step i x a hx ha;exact E.few
structure KS (w W:World) (B1 B2 hb1 s1 cB:Nat) (K1:ay) (hb2 s2 dQ:Nat) (K2:ay) (β:Bu) (ps:List Int) (va vb:Value) (aa bb:List aG) (ax:List An) (i:Nat):Prop where
 over:Touch (w.heap.size≤·) w W
 h1:ak 0 W hb1 s1 cB K1 β ps
 h2:ak 0 W hb2 s2 dQ K2 β ps
 far:∀ j∈hb1::s1::cB::K1.fp,j∉hb2::s2::dQ::K2.fp
 low:w.heap.size≤hb1∧w.heap.size≤hb2
 nine:9≤w.heap.size
 F5:W.ownsRow B1 38 7 va aa.length (aa.flatMap aG.cells)
 Kr:W.ownsRow B2 38 7 vb bb.length (bb.flatMap aG.cells)
 la:aa.length=ax.length
 lb:bb.length=ax.length
 ea:∀ (j:Nat) a x,i≤j→aa[j]? = some a→ax[j]? = some x→iI W a x
 eb:∀ (j:Nat) b x,bb[j]? = some b→ax[j]? = some x→iI W b x
 away:∀ a∈aa,∀ g,a.block=some g→w.heap.size≤g∧g∉hb1::s1::cB::K1.fp∧g∉hb2::s2::dQ::K2.fp∧(∀ b∈bb,b.block≠some g)∧va.ownBlock≠some g∧vb.ownBlock≠some g
 dist:aa.Pairwise fun a b=>∀ g,a.block=some g→b.block≠some g
theorem Uq {aa:List aG} (h:aa.Pairwise fun a b=>∀ g,a.block=some g→b.block≠some g) {i j:Nat} {a b:aG} (hi:aa[i]? = some a) (hj:aa[j]? = some b) (hlt:i<j) (g:Nat) (hg:a.block=some g):b.block≠some g:=by
 obtain ⟨h1,rfl⟩:=List.getElem?_eq_some_iff.1 hi;obtain ⟨h2,rfl⟩:=List.getElem?_eq_some_iff.1 hj;exact List.pairwise_iff_getElem.1 h i j h1 h2 hlt g hg
theorem KS.turn {w W W':World} {B1 B2 hb1 s1 cB:Nat} {K1:ay} {hb2 s2 dQ:Nat} {K2:ay} {β:Bu} {ps:List Int} {va vb:Value} {aa bb:List aG} {ax:List An} {i:Nat} {a:aG}
  (H:KS w W B1 B2 hb1 s1 cB K1 hb2 s2 dQ K2 β ps va vb aa bb ax i) (hi:aa[i]? = some a) (T:Touch (fun g=>a.block=some g) W W'):KS w W' B1 B2 hb1 s1 cB K1 hb2 s2 dQ K2 β ps va vb aa bb ax (i+1):=by
 have ha:=H.away a (List.mem_of_getElem? hi);have h9:=H.nine
 refine ⟨H.over.trans' T (fun k _ hk=>(ha k hk).1),H.h1.touch T (fun k hk h=>(ha k h).2.1 hk) (fun k hk h=>by have:=(ha k h).1;omega),H.h2.touch T (fun k hk h=>(ha k h).2.2.1 hk) (fun k hk h=>by have:=(ha k h).1;omega),H.far,H.low,h9,
  aZ H.F5 T (fun g _ hg h=>(ha g h).2.2.2.2.1 hg),aZ H.Kr T (fun g _ hg h=>(ha g h).2.2.2.2.2 hg),H.la,H.lb,fun j b x hj hb hx=>?_,fun j b x hb hx=>?_,H.away,H.dist⟩
 ·exact (H.ea j b x (by omega) hb hx).touch T (fun g hg h=>Uq H.dist hi hb (by omega) g h hg)
 ·exact (H.eb j b x hb hx).touch T (fun g hg h=>(ha g h).2.2.2.1 b (List.mem_of_getElem? hb) hg)
theorem KS.still {w W W':World} {B1 B2 hb1 s1 cB:Nat} {K1:ay} {hb2 s2 dQ:Nat} {K2:ay} {β:Bu} {ps:List Int} {va vb:Value} {aa bb:List aG} {ax:List An} {i:Nat}
  (H:KS w W B1 B2 hb1 s1 cB K1 hb2 s2 dQ K2 β ps va vb aa bb ax i) (T:Touch Nothing W W'):KS w W' B1 B2 hb1 s1 cB K1 hb2 s2 dQ K2 β ps va vb aa bb ax i :=
 ⟨H.over.trans T.none_,H.h1.aj T,H.h2.aj T,H.far,H.low,H.nine,aZ H.F5 T (fun _ _ _ h=>h),aZ H.Kr T (fun _ _ _ h=>h),H.la,H.lb,fun j b x hj hb hx=>(H.ea j b x hj hb hx).touch T (fun _ _ h=>h),fun j b x hb hx=>(H.eb j b x hb hx).touch T (fun _ _ h=>h),H.away,H.dist⟩
theorem zy {w:World} {B:Nat} {g cap n:Nat} {aa:List aG} (h:w.ownsRow B 38 7 (.slice (some ⟨g,0,none⟩) n cap) aa.length (aa.flatMap aG.cells)) (i:Nat) (a:aG) (hi:aa[i]? = some a) (j:Nat) (u:Value) (hu:a.cells[j]? = some u):w.cell? ⟨g,i*7+j,none⟩=some u:=by
 have hj:j<7:=by have:=(List.getElem?_eq_some_iff.1 hu).1;simpa [aG.cells] using this
 have hil:=(List.getElem?_eq_some_iff.1 hi).1
 have hn:aa.length=n:=by
  rcases h.2 with ⟨h,_⟩ | ⟨g1,c1,cur,h,_⟩
  ·cases h
  ·cases h;rfl
 subst hn;rw [World.ownsRow.cellAt h (i*7+j) (by omega)];exact oZ aa i a hi j u hu
theorem Nq {c c0:au} {d:List UInt8} (h:pY c c0):pF c d=pF c0 d:=by
 obtain ⟨h1,h2,h3,h4,h5,h6⟩:=h;unfold pF;rw [h1,h2,h3,h4,h5,h6]
theorem Qr {cs ks:List au} {ds:List (List UInt8)} (hl:ks.length=cs.length) (h:∀ (i:Nat) (c0:au) (d:List UInt8) (c:au),cs[i]? = some c0→ds[i]? = some d→ks[i]? = some c→pY c c0):List.zipWith pF ks ds=List.zipWith pF cs ds:=by
 apply List.ext_getElem?;intro i;rw [List.getElem?_zipWith,List.getElem?_zipWith];cases hc:cs[i]? with
 | none =>
  have h1:=List.getElem?_eq_none_iff.1 hc;rw [List.getElem?_eq_none_iff.2 (by omega:ks.length≤i)]
 | some c0 =>
  obtain ⟨c,hk⟩:∃ c,ks[i]? = some c:=⟨_,List.getElem?_eq_getElem (by have:=(List.getElem?_eq_some_iff.1 hc).1;omega)⟩;rw [hk];cases hd:ds[i]? with
  | none=>rfl
  | some d=>simp only [Nq (h i c0 d c hc hd hk)]
def yg (w:World) (hb1 s1 cB:Nat) (K1:ay) (hb2 s2 dQ:Nat) (K2:ay) (j:Nat):Prop:=j<w.heap.size∧j∉hb1::s1::cB::K1.fp∧j∉hb2::s2::dQ::K2.fp
structure Kp (w w7:World) (N6 hb1 s1 cB:Nat) (K1:ay) (hb2 s2 dQ:Nat) (K2:ay) (pa:Option Addr) (n ca gx cx:Nat) (ax:List An) (st:Nat→Bu × List Int):Prop where
 one:Calls Tryz.prog 15 #[.pointer (some ⟨hb1,0,none⟩),.slice (some ⟨gx,0,none⟩) n cx] w7 (zw w7 (yg w7 hb1 s1 cB K1 hb2 s2 dQ K2) hb1 s1 cB K1 n ax st)
 two:∀ {w8:World} {nQ:ay} {aa:List aG} {v:Value} {W:World},nO w7 (yg w7 hb1 s1 cB K1 hb2 s2 dQ K2) hb1 s1 cB K1 ax st n v w8 nQ aa→Touch (fun g=>N6≤g∧g<w7.heap.size) w8 W →
  Calls Tryz.prog 15 #[.pointer (some ⟨hb2,0,none⟩),.slice pa n ca] W (zw W (· < w.heap.size) hb2 s2 dQ K2 n ax st)
 three:∀ {w8:World} {nQ:ay} {aa:List aG} {v:Value} {W:World} {vV:ay} {bb:List aG} {v':Value} {W2:World},nO w7 (yg w7 hb1 s1 cB K1 hb2 s2 dQ K2) hb1 s1 cB K1 ax st n v w8 nQ aa→Touch (fun g=>N6≤g∧g<w7.heap.size) w8 W →
  nO W (· < w.heap.size) hb2 s2 dQ K2 ax st n v' W2 vV bb→KS w W2 w7.heap.size W.heap.size hb1 s1 cB nQ hb2 s2 dQ vV (st n).1 (st n).2 v v' aa bb ax 0
 few:∀ (i:Nat) a,ax[i]? = some a→a.data.length≤65536
 len:ax.length=n
 last:∃ F C L,HS (st n).1 (st n).2 F C L
theorem Yg {w w7:World} {N6 hb1 s1 cB:Nat} {K1:ay} {hb2 s2 dQ:Nat} {K2:ay} {pa:Option Addr} {n ca gx cx:Nat} {β:Bu} {ps:List Int} {F C L:Nat→List Nat} {cs ks:List au} {ds:List (List UInt8)}
  (I:HS β ps F C L) (H:Handed w pa n ca cs ds) (T:Touch Nothing w w7) (h9:9≤w.heap.size) (R1:ak 0 w7 hb1 s1 cB K1 β ps) (R2:ak 0 w7 hb2 s2 dQ K2 β ps) (hN:N6≤w7.heap.size) (hwN:w.heap.size≤N6)
  (F1:∀ j∈hb1::s1::cB::K1.fp,w.heap.size≤j∧j<N6) (F2:∀ j∈hb2::s2::dQ::K2.fp,w.heap.size≤j∧j<N6) (far:∀ j∈hb1::s1::cB::K1.fp,j∉hb2::s2::dQ::K2.fp) (hn:n≤4096)
  (hgx:N6≤gx) (hgl:0<n→gx<w7.heap.size) (hkl:ks.length=n) (hk:∀ (i:Nat) (c0:au) (d:List UInt8) (c:au),cs[i]? = some c0→ds[i]? = some d→ks[i]? = some c→pY c c0∧nP w7 N6 c d)
  (hxc:∀ (i j:Nat) (c:au) (u:Value),ks[i]? = some c→c.cells[j]? = some u→w7.cell? ⟨gx,i*7+j,none⟩=some u):∃ ax st,Kp w w7 N6 hb1 s1 cB K1 hb2 s2 dQ K2 pa n ca gx cx ax st:=by
 have hcl:cs.length=n:=H.rd.len.symm;have hdl:ds.length=n:=H.rd.len2.symm;obtain ⟨st,ax,RA⟩:=I.run (List.zipWith pF cs ds) (Qn H.ok);have hxl:(List.zipWith pF cs ds).length=n:=by rw [List.length_zipWith];omega
 have hal:ax.length=n:=RA.len.trans hxl;have htk:ax.take n=ax:=List.take_of_length_le (by omega);have hz:=Qr (cs:=cs) (ks:=ks) (ds:=ds) (by omega) (fun i c0 d c h1 h2 h3=>(hk i c0 d c h1 h2 h3).1);have Ca:∀ j,N6≤j→j<w7.heap.size→yg w7 hb1 s1 cB K1 hb2 s2 dQ K2 j:=fun j h1 h2=>⟨h2,fun h=>by have:=F1 j h;omega,fun h=>by have:=F2 j h;omega⟩
 have Qs:∀ i,i∈hb1::s1::K1.fp→i∈hb1::s1::cB::K1.fp:=fun i h=>by
  simp only [List.mem_cons] at h ⊢;rcases h with h | h | h
  ·exact .inl h
  ·exact .inr (.inl h)
  ·exact .inr (.inr (.inr h))
 have Kt:∀ i,i∈hb2::s2::K2.fp→i∈hb2::s2::dQ::K2.fp:=fun i h=>by
  simp only [List.mem_cons] at h ⊢;rcases h with h | h | h
  ·exact .inl h
  ·exact .inr (.inl h)
  ·exact .inr (.inr (.inr h))
 have TW:∀ {w8:World} {nQ:ay} {aa:List aG} {v:Value} {W:World},nO w7 (yg w7 hb1 s1 cB K1 hb2 s2 dQ K2) hb1 s1 cB K1 ax st n v w8 nQ aa→Touch (fun g=>N6≤g∧g<w7.heap.size) w8 W→Touch (w.heap.size≤·) w W:=by
  intro w8 nQ aa v W PA D;exact ((T.none_ (S:=(w.heap.size≤·))).trans' PA.touch (fun i _ h=>(F1 i (Qs i h)).1)).trans' D (fun i _ h=>by omega)
 have R2W:∀ {w8:World} {nQ:ay} {aa:List aG} {v:Value} {W:World},nO w7 (yg w7 hb1 s1 cB K1 hb2 s2 dQ K2) hb1 s1 cB K1 ax st n v w8 nQ aa→Touch (fun g=>N6≤g∧g<w7.heap.size) w8 W→ak 0 W hb2 s2 dQ K2 β ps:=by
  intro w8 nQ aa v W PA D;exact (R2.touch PA.touch (fun k hk h=>far k (Qs k h) hk) (fun k hk h=>by have:=F1 k (Qs k h);omega)).touch D (fun k hk h=>by have:=F2 k hk;omega) (fun k hk h=>by omega)
 refine ⟨ax,st,⟨?_,?_,?_,RA.few,hal,?_⟩⟩
 ·refine Nl (cs:=ks) (ds:=ds) R1 ⟨hkl.symm,hdl.symm,fun h0=>⟨gx,0,rfl,Ca gx hgx (hgl h0),fun i c d hc hd=>⟨fun j u hj=>?_,?_⟩⟩⟩ (fun j hj=>⟨hj.1,hj.2.1⟩) hn (fun c hc=>?_) (by rw [hz];exact RA)
  ·rw [Nat.zero_add];exact hxc i j c u hc hj
  ·obtain ⟨c0,h0⟩:∃ c0,cs[i]? = some c0:=⟨_,List.getElem?_eq_getElem (by have:=(List.getElem?_eq_some_iff.1 hc).1;omega)⟩;have hy:=(hk i c0 d c h0 hd hc).2;refine hy.src (fun g hg=>?_);obtain ⟨g',hp,hB,_,_,hr,_⟩:=hy;rw [hg] at hp;cases hp;exact Ca g hB hr.lt
  ·obtain ⟨i,hi⟩:=List.mem_iff_getElem?.1 hc;have hil:=(List.getElem?_eq_some_iff.1 hi).1;obtain ⟨c0,h0⟩:∃ c0,cs[i]? = some c0:=⟨_,List.getElem?_eq_getElem (by omega)⟩;obtain ⟨d,hd⟩:∃ d,ds[i]? = some d:=⟨_,List.getElem?_eq_getElem (by omega)⟩;rw [(hk i c0 d c h0 hd hi).1.2.2.1];exact (H.ok c0 (List.mem_of_getElem? h0)).2.1
 ·intro w8 nQ aa v W PA D;have TT:=TW PA D;exact Nl (R2W PA D) (H.rd.keep (fun k _ hk=>TT.block k hk (by omega))) (fun j hj=>⟨Nat.lt_of_lt_of_le hj TT.size,fun h=>by have:=F2 j h;omega⟩) hn (fun c hc=>(H.ok c hc).2.1) RA
 ·intro w8 nQ aa v W vV bb v' W2 PA D PB;have TT:=TW PA D;have z8:=PA.touch.size;have zW:=D.size;have zB:=PB.touch.size;have hl8:=PA.heap.lt;have Dq:=PA.answers;have Nr:=PB.answers;rw [htk] at Dq Nr
  have k1:∀ j∈hb1::s1::cB::nQ.fp,j∈hb1::s1::cB::K1.fp∨w7.heap.size≤j:=fun j hj=>by
   simp only [List.mem_cons] at hj ⊢;rcases hj with h | h | h | h
   ·exact .inl (.inl h)
   ·exact .inl (.inr (.inl h))
   ·exact .inl (.inr (.inr (.inl h)))
   ·exact (PA.next.fresh j h).elim (fun h=>.inl (.inr (.inr (.inr h)))) .inr
  have k2:∀ j∈hb2::s2::dQ::vV.fp,j∈hb2::s2::dQ::K2.fp∨W.heap.size≤j:=fun j hj=>by
   simp only [List.mem_cons] at hj ⊢;rcases hj with h | h | h | h
   ·exact .inl (.inl h)
   ·exact .inl (.inr (.inl h))
   ·exact .inl (.inr (.inr (.inl h)))
   ·exact (PB.next.fresh j h).elim (fun h=>.inl (.inr (.inr (.inr h)))) .inr
  have TB:Touch (fun g=>w.heap.size≤g∧g<N6) W W2:=PB.touch.mono (fun i _ h=>F2 i (Kt i h));refine ⟨TT.trans' TB (fun i _ h=>h.1),?_,PB.heap,fun j hj hj2=>?_,⟨(F1 hb1 (by simp)).1,(F2 hb2 (by simp)).1⟩,h9,?_,Nr.own,Dq.len,Nr.len,fun j a x _ ha hx=>?_,Nr.each,fun a ha g hg=>?_,PA.dist⟩
  ·refine (PA.heap.touch D (fun k hk h=>PA.away k (Ca k h.1 h.2) hk) (fun k hk h=>by omega)).touch PB.touch (fun k hk h=>?_) (fun k hk h=>by have:=F2 k (Kt k h);omega);rcases k1 k hk with h1 | h1
   ·exact far k h1 (Kt k h)
   ·have:=F2 k (Kt k h);omega
  ·rcases k1 j hj with h1 | h1
   ·rcases k2 j hj2 with h2 | h2
    ·exact far j h1 h2
    ·have:=F1 j h1;omega
   ·rcases k2 j hj2 with h2 | h2
    ·have:=F2 j h2;omega
    ·have:=hl8 j hj;omega
  ·exact aZ (aZ Dq.own D (fun g hg _ h=>by omega)) TB (fun g hg _ h=>by omega)
  ·have hb:=PA.new a (List.mem_of_getElem? ha);exact ((Dq.each j a x ha hx).touch D (fun g hg h=>by have:=hb g hg;omega)).touch TB (fun g hg h=>by have:=hb g hg;omega)
  ·have hb:=PA.new a ha g hg;obtain ⟨i,hi⟩:=List.mem_iff_getElem?.1 ha;obtain ⟨x,hx⟩:∃ x,ax[i]? = some x:=⟨_,List.getElem?_eq_getElem (by have:=(List.getElem?_eq_some_iff.1 hi).1;have:=Dq.len;omega)⟩;have hA:=Dq.each i a x hi hx;have hg8:=(World.ownsRow.lt hA.own g hg).2;refine ⟨by omega,Dq.data a ha g hg,fun h=>?_,fun b hb2 hbg=>by have:=PB.new b hb2 g hbg;omega,kY hA.own Dq.own (by decide) g hg,fun h=>by have:=(World.ownsRow.lt Nr.own g h).1;omega⟩;rcases k2 g h with h2 | h2
   ·have:=F2 g h2;omega
   ·omega
 ·have:=RA.inv n (by omega);exact this
structure r9 (w wr:World) (D:Nat→Prop) (gx f m:Nat):Prop where
 touch:Touch D w wr
 row:gx<wr.heap.size
 each:∀ (i:Nat),i<m→∃ (dp:Option Addr) (dn dc:Nat),wr.cell? ⟨gx,i*7+f,none⟩=some (.slice dp dn dc)∧dn≤9223372036854775807∧(0<dn→∃ g,dp=some ⟨g,0,none⟩∧D g∧g≠gx∧Room wr g dn)
structure qy (w wr:World) (D:Nat→Prop) (gx f m i:Nat) (dp:Option Addr) (dn dc:Nat):Prop where
 all:r9 w wr D gx f m
 cell:wr.cell? ⟨gx,i*7+f,none⟩=some (.slice dp dn dc)
 room:0<dn→∃ g,dp=some ⟨g,0,none⟩∧D g∧g≠gx∧Room wr g dn
theorem r9.at_ {w wr:World} {D:Nat→Prop} {gx f m:Nat} (H:r9 w wr D gx f m) (i:Nat) (hi:i<m):∃ dp dn dc,qy w wr D gx f m i dp dn dc∧dn≤9223372036854775807:=by
 obtain ⟨dp,dn,dc,h1,h2,h3⟩:=H.each i hi;exact ⟨dp,dn,dc,⟨H,h1,h3⟩,h2⟩
theorem qy.set {w wr:World} {D:Nat→Prop} {gx f m i dn dc g:Nat} (H:qy w wr D gx f m i (some ⟨g,0,none⟩) dn dc) (h0:0<dn) (k:Nat) (u:Value):qy w (wr.setCell ⟨g,k,none⟩ u) D gx f m i (some ⟨g,0,none⟩) dn dc:=by
 obtain ⟨g',e,hD,hne,_⟩:=H.room h0;cases e;have TC:=Touch.cellAt wr g k u;have hcell:∀ j,(wr.setCell ⟨g,k,none⟩ u).cell? ⟨gx,j,none⟩=wr.cell? ⟨gx,j,none⟩:=fun j=>TC.cell (p:=⟨gx,j,none⟩) H.all.row (fun e=>hne e.symm)
 refine ⟨⟨H.all.touch.trans (TC.mono (fun j _ h=>by subst h;exact hD)),Nat.lt_of_lt_of_le H.all.row TC.size,fun j hj=>?_⟩,(hcell _).trans H.cell,fun h=>?_⟩
 ·obtain ⟨dp,RL,Mg,h1,h2,h3⟩:=H.all.each j hj;refine ⟨dp,RL,Mg,(hcell _).trans h1,h2,fun h=>?_⟩;obtain ⟨g2,e1,e2,e3,e4⟩:=h3 h;exact ⟨g2,e1,e2,e3,e4.set g k u⟩
 ·obtain ⟨g2,e1,e2,e3,e4⟩:=H.room h;exact ⟨g2,e1,e2,e3,e4.set g k u⟩
theorem r9.copied {w6 w7 w8:World} {cs ks:List au} {ds:List (List UInt8)} {n gx:Nat} {S:Nat→Prop} (hkl:ks.length=n) (hcl:cs.length=n) (hdl:ds.length=n) (hsm:∀ d∈ds,d.length≤9223372036854775807) (hgx:w6.heap.size≤gx)
  (hk:∀ (i:Nat) (c0:au) (d:List UInt8) (c:au),cs[i]? = some c0→ds[i]? = some d→ks[i]? = some c→pY c c0∧nP w7 w6.heap.size c d) (hX:∃ C,w7.heap[gx]? = some (.cells C 43 (0,0)))
  (hxc:∀ (i j:Nat) (c:au) (u:Value),ks[i]? = some c→c.cells[j]? = some u→w7.cell? ⟨gx,i*7+j,none⟩=some u) (h0:w7.cell? ⟨gx,n*7+6,none⟩=some (.slice none 0 0)) (h1:w7.cell? ⟨gx,(n+1)*7+6,none⟩=some (.slice none 0 0))
  (T:Touch S w7 w8) (hS:∀ j,w6.heap.size≤j→j<w7.heap.size→¬S j):r9 w8 w8 (fun g=>w6.heap.size≤g∧g<w7.heap.size) gx 6 (n+2):=by
 obtain ⟨CX,hX⟩:=hX;have hgl:=(Array.getElem?_eq_some_iff.1 hX).1;have hcell:∀ j,w8.cell? ⟨gx,j,none⟩=w7.cell? ⟨gx,j,none⟩:=fun j=>T.cell (p:=⟨gx,j,none⟩) hgl (hS gx hgx hgl)
 refine ⟨Touch.refl _ _,Nat.lt_of_lt_of_le hgl T.size,fun i hi=>?_⟩;by_cases hin:i<n
 ·obtain ⟨c,hc⟩:∃ c,ks[i]? = some c:=⟨_,List.getElem?_eq_getElem (by omega)⟩;obtain ⟨c0,hc0⟩:∃ c,cs[i]? = some c:=⟨_,List.getElem?_eq_getElem (by omega)⟩;obtain ⟨d,hd⟩:∃ d,ds[i]? = some d:=⟨_,List.getElem?_eq_getElem (by omega)⟩;obtain ⟨g,hp,hB,hn,hdc,hr,_⟩:=(hk i c0 d c hc0 hd hc).2;have hlt:=hr.lt
  have hne:g≠gx:=by
   rintro rfl;obtain ⟨C,fz,hb,_⟩:=hr;rw [hX] at hb;cases hb
  refine ⟨c.dp,c.dn,c.dc,(hcell _).trans (hxc i 6 c _ hc rfl),by rw [hn];exact hsm d (List.mem_of_getElem? hd),fun _=>⟨g,hp,⟨hB,hlt⟩,hne,?_⟩⟩;rw [hn];exact hr.touch T (hS g hB hlt)
 ·rcases (show i=n∨i=n+1 by omega) with rfl | rfl
  ·exact ⟨none,0,0,(hcell _).trans h0,by omega,fun h=>by omega⟩
  ·exact ⟨none,0,0,(hcell _).trans h1,by omega,fun h=>by omega⟩
structure RS (w W:World) (hb1 s1 cB:Nat) (K1:ay) (hb2 s2 dQ:Nat) (K2:ay) (β:Bu) (ps:List Int) (v1 v2:Value) (l:List (Nat × Nat)):Prop where
 over:Touch (w.heap.size≤·) w W
 h1:ak 0 W hb1 s1 cB K1 β ps
 h2:ak 0 W hb2 s2 dQ K2 β ps
 far:∀ j∈hb1::s1::cB::K1.fp,j∉hb2::s2::dQ::K2.fp
 low:w.heap.size≤hb1∧w.heap.size≤hb2
 nine:9≤w.heap.size
 r1:W.ownsRow 0 71 2 v1 l.length (l.flatMap nN)
 r2:W.ownsRow 0 71 2 v2 l.length (l.flatMap nN)
 a1:∀ g,v1.ownBlock=some g→g≠hb1∧g≠hb2
 a2:∀ g,v2.ownBlock=some g→g≠hb1∧g≠hb2
theorem F6 {w:World} {B e size n:Nat} {v:Value} {xs:List Value} (h:w.ownsRow B e size v n xs):w.ownsRow 0 e size v n xs:=by
 refine ⟨h.1,?_⟩;rcases h.2 with h | ⟨g,cap,cur,h1,h2,h3⟩
 ·exact .inl h
 ·exact .inr ⟨g,cap,cur,h1,Nat.zero_le _,h3⟩
theorem RS.Yh {w W W':World} {hb1 s1 cB:Nat} {K1:ay} {hb2 s2 dQ:Nat} {K2:ay} {β:Bu} {ps:List Int} {v1 v2 v:Value} {l:List (Nat × Nat)} {e:Ending} (H:RS w W hb1 s1 cB K1 hb2 s2 dQ K2 β ps v1 v2 l) (L:bC W hb1 s1 cB K1 β ps v e W') :
  RS w W' hb1 s1 cB K1 hb2 s2 dQ K2 β ps v1 v2 l:=by
 obtain ⟨_,R,T⟩:=L;have hl:=H.low;have h9:=H.nine;exact ⟨H.over.trans' T (fun i _ h=>by subst h;exact hl.1),R,H.h2.touch T (fun k hk h=>by subst h;exact H.far k (by simp) hk) (fun k hk h=>by subst h;omega),H.far,hl,h9,aZ H.r1 T (fun g _ hg h=>(H.a1 g hg).1 h),aZ H.r2 T (fun g _ hg h=>(H.a2 g hg).1 h),H.a1,H.a2⟩
theorem RS.Yi {w W W':World} {hb1 s1 cB:Nat} {K1:ay} {hb2 s2 dQ:Nat} {K2:ay} {β:Bu} {ps:List Int} {v1 v2 v:Value} {l:List (Nat × Nat)} {e:Ending} (H:RS w W hb1 s1 cB K1 hb2 s2 dQ K2 β ps v1 v2 l) (L:bC W hb2 s2 dQ K2 β ps v e W') :
  RS w W' hb1 s1 cB K1 hb2 s2 dQ K2 β ps v1 v2 l:=by
 obtain ⟨_,R,T⟩:=L;have hl:=H.low;have h9:=H.nine;exact ⟨H.over.trans' T (fun i _ h=>by subst h;exact hl.2),H.h1.touch T (fun k hk h=>by subst h;exact H.far k hk (by simp)) (fun k hk h=>by subst h;omega),R,H.far,hl,h9,aZ H.r1 T (fun g _ hg h=>(H.a1 g hg).2 h),aZ H.r2 T (fun g _ hg h=>(H.a2 g hg).2 h),H.a1,H.a2⟩
theorem RS.still {w W W':World} {hb1 s1 cB:Nat} {K1:ay} {hb2 s2 dQ:Nat} {K2:ay} {β:Bu} {ps:List Int} {v1 v2:Value} {l:List (Nat × Nat)} (H:RS w W hb1 s1 cB K1 hb2 s2 dQ K2 β ps v1 v2 l) (T:Touch Nothing W W') :
  RS w W' hb1 s1 cB K1 hb2 s2 dQ K2 β ps v1 v2 l :=
 ⟨H.over.trans T.none_,H.h1.aj T,H.h2.aj T,H.far,H.low,H.nine,aZ H.r1 T (fun _ _ _ h=>h),aZ H.r2 T (fun _ _ _ h=>h),H.a1,H.a2⟩
theorem KS.WL {w W W1 W2:World} {B1 B2 hb1 s1 cB:Nat} {K1:ay} {hb2 s2 dQ:Nat} {K2:ay} {β:Bu} {ps:List Int} {va vb v1 v2:Value} {aa bb:List aG} {ax:List An} {i:Nat} {l:List (Nat × Nat)} {e e2:Ending}
  (H:KS w W B1 B2 hb1 s1 cB K1 hb2 s2 dQ K2 β ps va vb aa bb ax i) (L1:bC W hb1 s1 cB K1 β ps v1 e W1) (o1:W1.ownsRow W.heap.size 71 2 v1 l.length (l.flatMap nN)) (L2:bC W1 hb2 s2 dQ K2 β ps v2 e2 W2) (o2:W2.ownsRow W1.heap.size 71 2 v2 l.length (l.flatMap nN)) :
  RS w W2 hb1 s1 cB K1 hb2 s2 dQ K2 β ps v1 v2 l:=by
 obtain ⟨_,R1,T1⟩:=L1;obtain ⟨_,R2,T2⟩:=L2;have hl:=H.low;have h9:=H.nine;have q1:=H.h1.lt hb1 (by simp);have q2:=H.h2.lt hb2 (by simp);have z1:=T1.size;have p1:∀ g,v1.ownBlock=some g→W.heap.size≤g:=fun g hg=>(World.ownsRow.lt o1 g hg).1
 have p2:∀ g,v2.ownBlock=some g→W1.heap.size≤g:=fun g hg=>(World.ownsRow.lt o2 g hg).1
 exact ⟨(H.over.trans' T1 (fun i _ h=>by subst h;exact hl.1)).trans' T2 (fun i _ h=>by subst h;exact hl.2),R1.touch T2 (fun k hk h=>by subst h;exact H.far k hk (by simp)) (fun k hk h=>by subst h;omega),R2,H.far,hl,h9,
  F6 (aZ o1 T2 (fun g _ hg h=>by have:=p1 g hg;omega)),F6 o2,fun g hg=>by have:=p1 g hg;omega,fun g hg=>by have:=p2 g hg;omega⟩
theorem KS.Qt {w W W1:World} {B1 B2 hb1 s1 cB:Nat} {K1:ay} {hb2 s2 dQ:Nat} {K2:ay} {β:Bu} {ps:List Int} {va vb v1:Value} {aa bb:List aG} {ax:List An} {i:Nat} {e:Ending}
  (H:KS w W B1 B2 hb1 s1 cB K1 hb2 s2 dQ K2 β ps va vb aa bb ax i) (L1:bC W hb1 s1 cB K1 β ps v1 e W1):ak 0 W1 hb2 s2 dQ K2 β ps:=by
 obtain ⟨_,_,T⟩:=L1;have hl:=H.low;have h9:=H.nine;exact H.h2.touch T (fun k hk h=>by subst h;exact H.far k (by simp) hk) (fun k hk h=>by subst h;omega)
theorem Dr:∀ (l:List (Nat × Nat)) (i:Nat) (P S:Nat),l[i]? = some (P,S)→(l.flatMap nN)[i*2]? = some (.int .u64 P)∧(l.flatMap nN)[i*2+1]? = some (.int .u64 S)
 | [],i,P,S,h=>by simp at h
 | b::l,0,P,S,h=>by
  simp at h;subst h;exact ⟨rfl,rfl⟩
 | b::l,i+1,P,S,h=>by
  have:=Dr l i P S (by simpa using h);rw [show (i+1)*2=i*2+2 by omega,show i*2+2+1=i*2+1+2 by omega];exact this
theorem su {w:World} {g cap n:Nat} {l:List (Nat × Nat)} (h:w.ownsRow 0 71 2 (.slice (some ⟨g,0,none⟩) n cap) l.length (l.flatMap nN)) (i P S:Nat) (hi:l[i]? = some (P,S)):w.cell? ⟨g,i*2,none⟩=some (.int .u64 P)∧w.cell? ⟨g,i*2+1,none⟩=some (.int .u64 S):=by
 have hil:=(List.getElem?_eq_some_iff.1 hi).1
 have hn:n=l.length:=by
  rcases h.2 with ⟨h,_⟩ | ⟨g1,c1,cur,h,_⟩
  ·cases h
  ·cases h;rfl
 subst hn;obtain ⟨h1,h2⟩:=Dr l i P S hi;rw [World.ownsRow.cellAt h (i*2) (by omega),World.ownsRow.cellAt h (i*2+1) (by omega)];exact ⟨h1,h2⟩
theorem HS.reads {β:Bu} {ps:List Int} {F C L:Nat→List Nat} (I:HS β ps F C L) {i P S:Nat} (hi:(dI β β.μ.pages.length)[i]? = some (P,S)):0<S∧∀ (w:World) (hb s pb:Nat) (K:ay),ak 0 w hb s pb K β ps→Calls Tryz.prog 28 #[.pointer (some ⟨hb,0,none⟩),.int .u64 P,.int .u64 S] w (Am w hb s pb K β ps S (bR (lQ β P S))):=by
 have hL:=(I.Qq P S).1 (List.mem_of_getElem? hi);have h0:0<S:=hL.pos.1;refine ⟨h0,fun w hb s pb K R=>?_⟩;rcases I.read P S (I.qx hL) h0 with ⟨_,H⟩ | ⟨h,_⟩
 ·rw [yT R];exact H w hb s pb K R
 ·exact absurd ⟨P,S,hL,Nat.le_refl _,Nat.le_refl _⟩ h
theorem F7 {w:World} {g:Nat} {d:List UInt8} (h:aC w g 5 (bR d)):(convert 34 9 (.slice (some ⟨g,0,none⟩) d.length d.length)).run Tryz.prog w=.ok (.string ⟨d.toArray⟩) w:=by
 refine run_convert_bytes_back w 34 9 5 ⟨g,0,none⟩ d.length d Tryz.underlying34 Tryz.underlying5 Tryz.underlying9 (fun j hj=>?_);rw [Lib.add_plain,Nat.zero_add];rw [h.cell j];simp [bR,hj]
abbrev jM (w:World) (b:Nat) (s:ByteArray) (i:Nat) (bad:Bool):Prop:=aC w b 154 [.string s,.int .i64 i,.bool bad]
def cur (s:ByteArray) (i:Nat) (bad:Bool):Txt.Cu:=⟨s.data.toList.drop i,bad⟩
def iJ (s:ByteArray) (b:Nat) (w:World) (c:Txt.Cu) (w':World):Prop:=∃ i bad,i≤s.size∧jM w' b s i bad∧c=cur s i bad∧Touch (· = b) w w'
theorem dx (s:ByteArray) (i:Nat) (h:i<s.size):s.data.toList.drop i=s[i]'h::s.data.toList.drop (i+1):=by
 have hz:s.data.toList.length=s.size:=by rw [Array.length_toList];rfl
 rw [List.drop_eq_getElem_cons (by omega)];rfl
theorem iV (s:ByteArray) (i:Nat) (h:s.size≤i):s.data.toList.drop i = []:=by
 have hz:s.data.toList.length=s.size:=by rw [Array.length_toList];rfl
 exact List.drop_eq_nil_of_le (by omega)
theorem iJ.set {s:ByteArray} {b i i':Nat} {bad:Bool} {w:World} {c:Txt.Cu} (C:jM w b s i bad) (h:i'≤s.size) (hc:c=cur s i' bad) (n:Nat):iJ s b w c ((w.drewN n).setCell ⟨b,1,none⟩ (.int .i64 i')) :=
 ⟨i',bad,h,(C.drewN n).set 1 _,hc,((Touch.refl (· = b) w).drewN n).setCell (S:=(· = b)) (p:=⟨b,1,none⟩) (fun _=>rfl) _⟩
theorem iJ.mark {s:ByteArray} {b i:Nat} {bad:Bool} {w:World} {c:Txt.Cu} (C:jM w b s i bad) (h:i≤s.size) (hc:c=cur s i true) (n:Nat):iJ s b w c ((w.drewN n).setCell ⟨b,2,none⟩ (.bool true)) :=
 ⟨i,true,h,(C.drewN n).set 2 _,hc,((Touch.refl (· = b) w).drewN n).setCell (S:=(· = b)) (p:=⟨b,2,none⟩) (fun _=>rfl) _⟩
theorem iJ.same {s:ByteArray} {b i:Nat} {bad:Bool} {w:World} {c:Txt.Cu} (C:jM w b s i bad) (h:i≤s.size) (hc:c=cur s i bad) (n:Nat):iJ s b w c (w.drewN n) :=
 ⟨i,bad,h,C.drewN n,hc,(Touch.refl _ w).drewN n⟩
def Ur (s:ByteArray) (b i:Nat) (bad:Bool) (w:World) (e:Ending) (w':World):Prop:=e=.returned (.tuple #[])∧iJ s b w (Txt.blank (cur s i bad)) w'
theorem vF {x y:UInt8} (h:x≠y):(((x.toNat:Int)) == (y.toNat:Int))=false:=by
 rw [beq_eq_false_iff_ne];exact fun e=>h (UInt8.toNat_inj.1 (by omega))
theorem Bl (s:ByteArray) (b i:Nat) (bad:Bool) (w:World) (hs:s.size≤1048576) (hi:i≤s.size) (C:jM w b s i bad):Calls Tryz.prog 80 #[.pointer (some ⟨b,0,none⟩)] w (Ur s b i bad w):=by
 have HC:=Hd C;have c0:w.cell? ⟨b,0,none⟩=some (.string s):=C.cell 0;have c1:w.cell? ⟨b,1,none⟩=some (.int .i64 i):=C.cell 1;have c2:w.cell? ⟨b,2,none⟩=some (.bool bad):=C.cell 2;have f1:=C.free 1;have f2:=C.free 2;have hb:=C.lt;clear C;by_cases hlt:i<s.size
 ·by_cases h32:s[i]'hlt=32
  ·have HB:=Hd (show Txt.blank (cur s i bad)=cur s (i+1) bad by unfold Txt.blank cur;rw [dx s i hlt];simp only [];rw [if_pos h32]);have hx:((((s[i]'hlt).toNat:Nat):Int) != 32)=false:=by rw [h32];rfl
   have hd:decide (s.size≤i)=false:=by simp;omega
   clear h32
   go_enter Tryz.func80,Tryz.ntmps80
   go_wp2_with fail
   go_quiet (fail)
   go_wp2_with fail
   refine bodyPost_ret (results_none rfl _ _ _) rfl ?_
   exact ⟨rfl,iJ.set HC.out (by omega) HB.out _⟩
  ·have HB:=Hd (show Txt.blank (cur s i bad)=cur s i true by unfold Txt.blank cur;rw [dx s i hlt];simp only [];rw [if_neg h32]);have hx:((((s[i]'hlt).toNat:Nat):Int) != 32)=true:=by have h:((((s[i]'hlt).toNat:Nat):Int) == 32)=false:=vF h32;rw [bne,h];rfl
   have hd:decide (s.size≤i)=false:=by simp;omega
   clear h32
   go_enter Tryz.func80,Tryz.ntmps80
   go_wp2_with fail
   go_quiet (fail)
   go_wp2_with fail
   refine bodyPost_ret (results_none rfl _ _ _) rfl ?_
   exact ⟨rfl,iJ.mark HC.out (by omega) HB.out _⟩
 ·have HB:=Hd (show Txt.blank (cur s i bad)=cur s i true by unfold Txt.blank cur;rw [iV s i (by omega)]);have hd:decide (s.size≤i)=true:=by simp;omega
  go_enter Tryz.func80,Tryz.ntmps80
  go_wp2_with fail
  go_quiet (fail)
  go_wp2_with fail
  refine bodyPost_ret (results_none rfl _ _ _) rfl ?_
  exact ⟨rfl,iJ.mark HC.out (by omega) HB.out _⟩
def Signed (s:ByteArray) (b i:Nat) (bad:Bool) (x:UInt8) (w:World) (e:Ending) (w':World):Prop:=e=.returned (.bool (Txt.sign x (cur s i bad)).1)∧iJ s b w (Txt.sign x (cur s i bad)).2 w'
theorem Ee (s:ByteArray) (b i:Nat) (bad:Bool) (x:UInt8) (w:World) (hs:s.size≤1048576) (hi:i≤s.size) (C:jM w b s i bad):Calls Tryz.prog 81 #[.pointer (some ⟨b,0,none⟩),.int .u8 x.toNat] w (Signed s b i bad x w):=by
 have HC:=Hd C;have c0:w.cell? ⟨b,0,none⟩=some (.string s):=C.cell 0;have c1:w.cell? ⟨b,1,none⟩=some (.int .i64 i):=C.cell 1;have f1:=C.free 1;have hb:=C.lt;clear C;by_cases hlt:i<s.size
 ·by_cases he:s[i]'hlt=x
  ·have HB:=Hd (show Txt.sign x (cur s i bad)=(true,cur s (i+1) bad) by unfold Txt.sign cur;rw [dx s i hlt];simp only [];rw [if_pos he]);have hx:(((s[i]'hlt).toNat) == x.toNat)=true:=by rw [he];simp
   have hx2:((((s[i]'hlt).toNat:Nat):Int) == (x.toNat:Int))=true:=by rw [he];simp
   have hd:decide (i<s.size)=true:=by simp;omega
   clear he
   go_enter Tryz.func81,Tryz.ntmps81
   go_wp2_with fail
   go_quiet (fail)
   go_wp2_with fail
   go_ret
   exact ⟨by rw [HB.out];rfl,by rw [HB.out];exact iJ.set HC.out (by omega) rfl _⟩
  ·have HB:=Hd (show Txt.sign x (cur s i bad)=(false,cur s i bad) by unfold Txt.sign cur;rw [dx s i hlt];simp only [];rw [if_neg he]);have hx2:((((s[i]'hlt).toNat:Nat):Int) == (x.toNat:Int))=false:=vF he;have hx:(((s[i]'hlt).toNat) == x.toNat)=false:=by rw [beq_eq_false_iff_ne];exact fun e=>he (UInt8.toNat_inj.1 e)
   have hd:decide (i<s.size)=true:=by simp;omega
   clear he
   go_enter Tryz.func81,Tryz.ntmps81
   go_wp2_with fail
   go_quiet (fail)
   go_wp2_with fail
   go_ret
   exact ⟨by rw [HB.out];rfl,by rw [HB.out];exact iJ.same HC.out (by omega) rfl _⟩
 ·have HB:=Hd (show Txt.sign x (cur s i bad)=(false,cur s i bad) by unfold Txt.sign cur;rw [iV s i (by omega)]);have hd:decide (i<s.size)=false:=by simp;omega
  go_enter Tryz.func81,Tryz.ntmps81
  go_wp2_with fail
  go_quiet (fail)
  go_wp2_with fail
  go_ret
  exact ⟨by rw [HB.out];rfl,by rw [HB.out];exact iJ.same HC.out (by omega) rfl _⟩
theorem Bn (x:UInt8) (w:World):Calls Tryz.prog 128 #[.int .u8 x.toNat] w fun e w'=>e=.returned (.int .i64 (Txt.half x))∧w'=w:=by
 have hx:=x.toNat_lt;by_cases h1:48≤x.toNat∧x.toNat≤57
 ·have H:=Hd (show ((x.toNat:Int)-48)=((Txt.half x:Nat):Int) by unfold Txt.half;rw [if_pos h1];omega);obtain ⟨a,c⟩:=h1;have a':(48:Int)≤(x.toNat:Int):=by omega
  have c':(x.toNat:Int)≤57:=by omega
  go_enter Tryz.func128,Tryz.ntmps128
  go_wp2_with fail
  go_ret
  rw [←H.out];trivial
 ·by_cases h2:97≤x.toNat∧x.toNat≤102
  ·have H:=Hd (show ((x.toNat:Int)-97)+10=((Txt.half x:Nat):Int) by unfold Txt.half;rw [if_neg h1,if_pos h2];omega);obtain ⟨a,c⟩:=h2;have a':(97:Int)≤(x.toNat:Int):=by omega
   have c':(x.toNat:Int)≤102:=by omega
   have d':¬(x.toNat:Int)≤57:=by omega
   clear h1
   go_enter Tryz.func128,Tryz.ntmps128
   go_wp2_with fail
   go_ret
   rw [←H.out];trivial
  ·have H:=Hd (show Txt.half x=16 by unfold Txt.half;rw [if_neg h1,if_neg h2]);have hc:x.toNat<48∨(57<x.toNat∧x.toNat<97)∨102<x.toNat:=by omega
   clear h1 h2;rcases hc with hc | ⟨hc,hc2⟩ | hc
   ·have a1:¬(48:Int)≤(x.toNat:Int):=by omega
    have a2:¬(97:Int)≤(x.toNat:Int):=by omega
    go_enter Tryz.func128,Tryz.ntmps128
    go_wp2_with fail
    go_ret
    rw [H.out];trivial
   ·have a1:¬(x.toNat:Int)≤57:=by omega
    have a2:¬(97:Int)≤(x.toNat:Int):=by omega
    go_enter Tryz.func128,Tryz.ntmps128
    go_wp2_with fail
    go_ret
    rw [H.out];trivial
   ·have a1:¬(x.toNat:Int)≤57:=by omega
    have a2:¬(x.toNat:Int)≤102:=by omega
    go_enter Tryz.func128,Tryz.ntmps128
    go_wp2_with fail
    go_ret
    rw [H.out];trivial
structure mh (s:ByteArray) (b i0:Nat) (iA:Bool) (w:World) (i v:Nat) (bad:Bool) (wr:World):Prop where
 lo:i0≤i
 hi:i≤s.size
 at_:jM wr b s i bad
 vlt:v<18446744073709551616
 law:Txt.dW (s.data.toList.drop i0) 0 iA=Txt.dW (s.data.toList.drop i) v bad
 touch:Touch (· = b) w wr
def qz (v d:Nat):Nat:=(v*10+d)%18446744073709551616
def oh (v d:Nat):Bool:=decide ((18446744073709551615-d)/10<v)
theorem He (s:ByteArray) (i v:Nat) (bad:Bool) (h:i<s.size) (hd:Txt.dR (s[i]'h)=true) :
  Txt.dW (s.data.toList.drop i) v bad=Txt.dW (s.data.toList.drop (i+1)) (qz v ((s[i]'h).toNat-48)) (bad || oh v ((s[i]'h).toNat-48)):=by
 rw [dx s i h]
 conv=>lhs;unfold Txt.dW
 rw [if_pos hd];rfl
theorem Hf (s:ByteArray) (i v:Nat) (bad:Bool) (h:i<s.size) (hd:Txt.dR (s[i]'h)=false):Txt.dW (s.data.toList.drop i) v bad=(v,bad,s.data.toList.drop i):=by
 rw [dx s i h];unfold Txt.dW;rw [if_neg (by rw [hd];simp)]
theorem Hg (s:ByteArray) (i v:Nat) (bad:Bool) (h:s.size≤i):Txt.dW (s.data.toList.drop i) v bad=(v,bad,s.data.toList.drop i):=by
 rw [iV s i h];unfold Txt.dW;rfl
theorem Qu (v d:Nat) (_hd:d<10):IntKind.u64.wrap (IntKind.u64.wrap ((v:Int)*10)+(d:Int))=((qz v d:Nat):Int):=by
 unfold qz IntKind.wrap;simp [IntKind.signed,IntKind.bits]
theorem mh.more {s:ByteArray} {b i0 i v:Nat} {iA bad:Bool} {w wr:World} (R:mh s b i0 iA w i v bad wr) (h:i<s.size) (hd:Txt.dR (s[i]'h)=true) (n:Nat) (d:Nat) (hdd:d=(s[i]'h).toNat-48) :
  (oh v d=false→mh s b i0 iA w (i+1) (qz v d) bad ((wr.drewN n).setCell ⟨b,1,none⟩ (.int .i64 ((i:Int)+1)))) ∧
  (oh v d=true→mh s b i0 iA w (i+1) (qz v d) true (((wr.drewN n).setCell ⟨b,2,none⟩ (.bool true)).setCell ⟨b,1,none⟩ (.int .i64 ((i:Int)+1)))):=by
 subst hdd;have hl:=He s i v bad h hd;have hlo:=R.lo;refine ⟨fun ho=>⟨by omega,h,?_,Nat.mod_lt _ (by omega),?_,?_⟩,fun ho=>⟨by omega,h,?_,Nat.mod_lt _ (by omega),?_,?_⟩⟩
 ·exact (R.at_.drewN n).set 1 _
 ·rw [R.law,hl,ho,Bool.or_false]
 ·exact (R.touch.drewN n).setCell (S:=(· = b)) (p:=⟨b,1,none⟩) (fun _=>rfl) _
 ·exact ((R.at_.drewN n).set 2 _).set 1 _
 ·rw [R.law,hl,ho,Bool.or_true]
 ·exact ((R.touch.drewN n).setCell (S:=(· = b)) (p:=⟨b,2,none⟩) (fun _=>rfl) _).setCell (S:=(· = b)) (p:=⟨b,1,none⟩) (fun _=>rfl) _
def aaI (s:ByteArray) (b i:Nat) (bad:Bool) (w:World) (e:Ending) (w':World):Prop:=e=.returned (.int .u64 (Txt.number (cur s i bad)).1)∧iJ s b w (Txt.number (cur s i bad)).2 w'
theorem sw {s:ByteArray} {i0 i v:Nat} {iA bad:Bool} (h0:i0≤i) (h1:i≤s.size) (hl:Txt.dW (s.data.toList.drop i0) 0 iA=(v,bad,s.data.toList.drop i)) :
  (Txt.number (cur s i0 iA)).1=v∧∀ z:Bool,z=(bad || decide (i=i0) || (decide (i0+1<i) && (s.data.toList.drop i0).head? == some 48))→(Txt.number (cur s i0 iA)).2=cur s i z:=by
 have hz:s.data.toList.length=s.size:=by rw [Array.length_toList];rfl
 have e1:decide ((s.data.toList.drop i).length=(s.data.toList.drop i0).length)=decide (i=i0):=by
  simp only [List.length_drop,decide_eq_decide];omega
 have e2:decide ((s.data.toList.drop i).length+1<(s.data.toList.drop i0).length)=decide (i0+1<i):=by
  simp only [List.length_drop,decide_eq_decide];omega
 unfold Txt.number cur;simp only [hl];refine ⟨trivial,fun z hz=>?_⟩;rw [e1,e2,hz]
theorem yU {s:ByteArray} {b i:Nat} {bad bad':Bool} {wr w2:World} (C:jM wr b s i bad) (C2:jM w2 b s (i+1) bad') (h:i<s.size) :
  s.size-(intOf ((w2.cell? ⟨b,1,none⟩).getD (.int .i64 0))).toNat<s.size-(intOf ((wr.cell? ⟨b,1,none⟩).getD (.int .i64 0))).toNat:=by
 have e1:w2.cell? ⟨b,1,none⟩=some (.int .i64 ((i+1:Nat):Int)):=C2.cell 1;have e2:wr.cell? ⟨b,1,none⟩=some (.int .i64 (i:Int)):=C.cell 1;rw [e1,e2];simp only [Option.getD_some,intOf];omega
theorem mh.mark {s:ByteArray} {b i0 i v:Nat} {iA bad:Bool} {w wr:World} {c:Txt.Cu} (R:mh s b i0 iA w i v bad wr) (hc:c=cur s i true) (n:Nat):iJ s b w c ((wr.drewN n).setCell ⟨b,2,none⟩ (.bool true)) :=
 ⟨i,true,R.hi,(R.at_.drewN n).set 2 _,hc,(R.touch.drewN n).setCell (S:=(· = b)) (p:=⟨b,2,none⟩) (fun _=>rfl) _⟩
theorem mh.same {s:ByteArray} {b i0 i v:Nat} {iA bad:Bool} {w wr:World} {c:Txt.Cu} (R:mh s b i0 iA w i v bad wr) (hc:c=cur s i bad) (n:Nat):iJ s b w c (wr.drewN n) :=
 ⟨i,bad,R.hi,R.at_.drewN n,hc,R.touch.drewN n⟩
inductive Us (s:ByteArray) (i0 i:Nat) (iA bad:Bool):Prop
 | none_ (h:i=i0) (c:(Txt.number (cur s i0 iA)).2=cur s i true)
 | one (h:i=i0+1) (c:(Txt.number (cur s i0 iA)).2=cur s i bad)
 | zero (h:i0+1<i) (h0:i0<s.size) (hx:((((s[i0]'h0).toNat:Nat):Int) == 48)=true) (c:(Txt.number (cur s i0 iA)).2=cur s i true)
 | more (h:i0+1<i) (h0:i0<s.size) (hx:((((s[i0]'h0).toNat:Nat):Int) == 48)=false) (c:(Txt.number (cur s i0 iA)).2=cur s i bad)
theorem xA {s:ByteArray} {i0 i v:Nat} {iA bad:Bool} (h0:i0≤i) (h1:i≤s.size) (hl:Txt.dW (s.data.toList.drop i0) 0 iA=(v,bad,s.data.toList.drop i)):Us s i0 i iA bad:=by
 have h2:=(sw h0 h1 hl).2;by_cases ha:i=i0
 ·exact .none_ ha (h2 true (by simp [ha]))
 ·by_cases hb:i=i0+1
  ·exact .one hb (h2 bad (by simp [hb]))
  ·have hlt:i0<s.size:=by omega
   have hh:(s.data.toList.drop i0).head? = some (s[i0]'hlt):=by rw [dx s i0 hlt];rfl
   by_cases hx:s[i0]'hlt=48
   ·refine .zero (by omega) hlt (by rw [hx];rfl) (h2 true ?_);rw [hh,hx];have:decide (i0+1<i)=true:=by simp;omega
    rw [this];simp
   ·refine .more (by omega) hlt (vF hx) (h2 bad ?_);rw [hh];have:((some (s[i0]'hlt)) == some 48)=false:=by simpa using hx
    rw [this];simp [ha]
theorem vG (s:ByteArray) (b i0:Nat) (iA:Bool) (w:World) (hs:s.size≤1048576) (hi:i0≤s.size) (C:jM w b s i0 iA):Calls Tryz.prog 82 #[.pointer (some ⟨b,0,none⟩)] w (aaI s b i0 iA w):=by
 have bG:=Hd (show mh s b i0 iA w i0 0 iA w from ⟨Nat.le_refl _,hi,C,by omega,rfl,Touch.refl _ _⟩);have c1:w.cell? ⟨b,1,none⟩=some (.int .i64 i0):=C.cell 1;clear C
 go_enter Tryz.func82,Tryz.ntmps82
 go_wp2_with fail
 go_loopw [4] (fun a wr=>∃ i v bad,a=.int .u64 (v:Nat)∧mh s b i0 iA w i v bad wr) (fun _ wr=>s.size-(intOf ((wr.cell? ⟨b,1,none⟩).getD (.int .i64 0))).toNat)
 case atStart=>exact ⟨i0,0,iA,rfl,bG.out⟩
 case round =>
  clear c1;obtain ⟨i,v,bad,rfl,R⟩:=hrel;have HR:=Hd R;have c0:wr.cell? ⟨b,0,none⟩=some (.string s):=R.at_.cell 0;have c1:wr.cell? ⟨b,1,none⟩=some (.int .i64 i):=R.at_.cell 1;have c2:wr.cell? ⟨b,2,none⟩=some (.bool bad):=R.at_.cell 2;have f1:=R.at_.free 1;have f2:=R.at_.free 2;have hb:=R.at_.lt;have hi1:=R.hi;have hlo:=R.lo;clear R;by_cases hlt:i<s.size
  ·have hd0:decide (i<s.size)=true:=by simp;omega
   by_cases hd:Txt.dR (s[i]'hlt)=true
   ·have hdb:=(Txt.mM _).1 hd;have hx1:decide ((48:Int)≤(((s[i]'hlt).toNat:Nat):Int))=true:=by simp;omega
    have hx2:decide ((((s[i]'hlt).toNat:Nat):Int)≤57)=true:=by simp;omega
    have HM:=Hd (fun n=>HR.out.more hlt hd n);obtain ⟨d,hdd⟩:∃ d,d=(s[i]'hlt).toNat-48:=⟨_,rfl⟩;have hd9:d<10:=by omega
    have hw1:IntKind.u8.wrap ((((s[i]'hlt).toNat:Nat):Int)-48)=(d:Int):=by
     rw [show ((((s[i]'hlt).toNat:Nat):Int)-48)=(d:Int) by omega];unfold IntKind.wrap;simp [IntKind.signed,IntKind.bits];omega
    have hw2:IntKind.u64.wrap (d:Int)=(d:Int):=by
     unfold IntKind.wrap;simp [IntKind.signed,IntKind.bits];omega
    have HM:=Hd (HR.out.more hlt hd · d hdd);clear hd hdb hdd
    go_wp2_with fail
    go_quiet (fail)
    go_wp2_with fail
    go_quiet (fail)
    clear hw1 hw2
    go_wp2_with fail
    ·have ho:oh v d=true:=by unfold oh;simp;omega
     exact ⟨⟨i+1,_,true,by rw [Qu v d hd9],(HM.out _).2 ho⟩,yU HR.out.at_ ((HM.out _).2 ho).at_ hlt⟩
    ·have ho:oh v d=false:=by unfold oh;simp;omega
     exact ⟨⟨i+1,_,bad,by unfold qz;rw [Nat.mod_eq_of_lt (by omega)];simp,(HM.out _).1 ho⟩,yU HR.out.at_ ((HM.out _).1 ho).at_ hlt⟩
   ·have hd':Txt.dR (s[i]'hlt)=false:=by simpa using hd
    have hr:(((s[i]'hlt).toNat:Nat):Int)<48∨(57<(((s[i]'hlt).toNat:Nat):Int)):=by
     have hn:¬(48≤(s[i]'hlt).toNat∧(s[i]'hlt).toNat≤57):=fun e=>hd ((Txt.mM _).2 e)
     omega
    have HL:=Hd (HR.out.law.trans (Hf s i v bad hlt hd'));clear hd hd';rcases hr with hr | hr
    ·have hx1:decide ((48:Int)≤(((s[i]'hlt).toNat:Nat):Int))=false:=by simp;omega
     have HE:=xA hlo hi1 HL.out;have HV:=Hd (sw hlo hi1 HL.out).1;clear hlo hi1;cases HE with
     | none_ he hc =>
      subst he;have HC:=Hd hc;clear hc
      go_wp2_with fail
      go_quiet (fail)
      go_wp2_with fail
      go_ret
      exact ⟨by rw [HV.out];rfl,HR.out.mark HC.out _⟩
     | one he hc =>
      have e1:((i:Int) == (i0:Int))=false:=by rw [beq_eq_false_iff_ne];omega
      have e2:(i:Int)≤(i0:Int)+1:=by omega
      have HC:=Hd hc;clear hc he
      go_wp2_with fail
      go_quiet (fail)
      go_wp2_with fail
      go_ret
      exact ⟨by rw [HV.out];rfl,HR.out.same HC.out _⟩
     | zero he h0 hx hc =>
      have e1:((i:Int) == (i0:Int))=false:=by rw [beq_eq_false_iff_ne];omega
      have e2:(i0:Int)+1<(i:Int):=by omega
      have HC:=Hd hc;clear hc he
      go_wp2_with fail
      go_quiet (fail)
      go_wp2_with fail
      go_ret
      exact ⟨by rw [HV.out];rfl,HR.out.mark HC.out _⟩
     | more he h0 hx hc =>
      have e1:((i:Int) == (i0:Int))=false:=by rw [beq_eq_false_iff_ne];omega
      have e2:(i0:Int)+1<(i:Int):=by omega
      have HC:=Hd hc;clear hc he
      go_wp2_with fail
      go_quiet (fail)
      go_wp2_with fail
      go_ret
      exact ⟨by rw [HV.out];rfl,HR.out.same HC.out _⟩
    ·have hx1:decide ((48:Int)≤(((s[i]'hlt).toNat:Nat):Int))=true:=by simp;omega
     have hx2:decide ((((s[i]'hlt).toNat:Nat):Int)≤57)=false:=by simp;omega
     have HE:=xA hlo hi1 HL.out;have HV:=Hd (sw hlo hi1 HL.out).1;clear hlo hi1;cases HE with
     | none_ he hc =>
      subst he;have HC:=Hd hc;clear hc
      go_wp2_with fail
      go_quiet (fail)
      go_wp2_with fail
      go_ret
      exact ⟨by rw [HV.out];rfl,HR.out.mark HC.out _⟩
     | one he hc =>
      have e1:((i:Int) == (i0:Int))=false:=by rw [beq_eq_false_iff_ne];omega
      have e2:(i:Int)≤(i0:Int)+1:=by omega
      have HC:=Hd hc;clear hc he
      go_wp2_with fail
      go_quiet (fail)
      go_wp2_with fail
      go_ret
      exact ⟨by rw [HV.out];rfl,HR.out.same HC.out _⟩
     | zero he h0 hx hc =>
      have e1:((i:Int) == (i0:Int))=false:=by rw [beq_eq_false_iff_ne];omega
      have e2:(i0:Int)+1<(i:Int):=by omega
      have HC:=Hd hc;clear hc he
      go_wp2_with fail
      go_quiet (fail)
      go_wp2_with fail
      go_ret
      exact ⟨by rw [HV.out];rfl,HR.out.mark HC.out _⟩
     | more he h0 hx hc =>
      have e1:((i:Int) == (i0:Int))=false:=by rw [beq_eq_false_iff_ne];omega
      have e2:(i0:Int)+1<(i:Int):=by omega
      have HC:=Hd hc;clear hc he
      go_wp2_with fail
      go_quiet (fail)
      go_wp2_with fail
      go_ret
      exact ⟨by rw [HV.out];rfl,HR.out.same HC.out _⟩
  ·have hd0:decide (i<s.size)=false:=by simp;omega
   have HL:=Hd (HR.out.law.trans (Hg s i v bad (by omega)));have HE:=xA hlo hi1 HL.out;have HV:=Hd (sw hlo hi1 HL.out).1;clear hlo hi1;cases HE with
   | none_ he hc =>
    subst he;have HC:=Hd hc;clear hc
    go_wp2_with fail
    go_quiet (fail)
    go_wp2_with fail
    go_ret
    exact ⟨by rw [HV.out];rfl,HR.out.mark HC.out _⟩
   | one he hc =>
    have e1:((i:Int) == (i0:Int))=false:=by rw [beq_eq_false_iff_ne];omega
    have e2:(i:Int)≤(i0:Int)+1:=by omega
    have HC:=Hd hc;clear hc he
    go_wp2_with fail
    go_quiet (fail)
    go_wp2_with fail
    go_ret
    exact ⟨by rw [HV.out];rfl,HR.out.same HC.out _⟩
   | zero he h0 hx hc =>
    have e1:((i:Int) == (i0:Int))=false:=by rw [beq_eq_false_iff_ne];omega
    have e2:(i0:Int)+1<(i:Int):=by omega
    have HC:=Hd hc;clear hc he
    go_wp2_with fail
    go_quiet (fail)
    go_wp2_with fail
    go_ret
    exact ⟨by rw [HV.out];rfl,HR.out.mark HC.out _⟩
   | more he h0 hx hc =>
    have e1:((i:Int) == (i0:Int))=false:=by rw [beq_eq_false_iff_ne];omega
    have e2:(i0:Int)+1<(i:Int):=by omega
    have HC:=Hd hc;clear hc he
    go_wp2_with fail
    go_quiet (fail)
    go_wp2_with fail
    go_ret
    exact ⟨by rw [HV.out];rfl,HR.out.same HC.out _⟩
abbrev byteCells (l:List UInt8):List Value:=l.map fun x=>.int .u8 x.toNat
theorem Ns:(Tryz.prog.info? 5).map (fun i=>(i.zero,i.size,i.bytes))=some (some (.int .u8 0),1,1):=by kernel_rfl
structure nR (s:ByteArray) (b i0:Nat) (bad:Bool) (w:World) (i:Nat) (v:Value) (out:List UInt8) (wr:World):Prop where
 lo:i0≤i
 hi:i≤s.size
 len:2*out.length=i-i0
 at_:jM wr b s i bad
 law:Txt.dY (s.data.toList.drop i0)=(out++(Txt.dY (s.data.toList.drop i)).1,(Txt.dY (s.data.toList.drop i)).2)
 own:wr.ownsRow w.heap.size 5 1 v out.length (byteCells out)
 touch:Touch (· = b) w wr
def Yj (s:ByteArray) (b i0:Nat) (bad:Bool) (w:World) (e:Ending) (w':World):Prop :=
 ∃ dp dn dc,e=.returned (.slice dp dn dc)∧w'.ownsRow w.heap.size 5 1 (.slice dp dn dc) (Txt.fU (cur s i0 bad)).1.length (byteCells (Txt.fU (cur s i0 bad)).1)∧iJ s b w (Txt.fU (cur s i0 bad)).2 w'
theorem Ut {s:ByteArray} {i j:Nat} {x y:Bool} (hi:i≤s.size) (hj:j≤s.size) (h:cur s i x=cur s j y):i=j∧x=y:=by
 have hz:s.data.toList.length=s.size:=by rw [Array.length_toList];rfl
 unfold cur at h;simp only [Txt.Cu.mk.injEq] at h;have:=congrArg List.length h.1;simp only [List.length_drop] at this;exact ⟨by omega,h.2⟩
theorem WM (x:UInt8) (w:World):Calls Tryz.prog 128 #[.int .u8 x.toNat] w fun e w'=>e=.returned (.int .i64 (Txt.half x))∧w=w' :=
 (Bn x w).mono fun _ _ h=>⟨h.1,h.2.symm⟩
theorem vH (x:UInt8):Txt.half x≤16:=by
 unfold Txt.half;split
 ·omega
 ·split <;> omega
theorem vI {w:World} {B e n k:Nat} {v:Value} {xs:List Value} (h:w.ownsRow B e k v n xs) (m:Nat):(w.drewN m).ownsRow B e k v n xs:=h
theorem sD {w:World} {B e n k b:Nat} {v:Value} {xs:List Value} (h:w.ownsRow B e k v n xs) (hb:b<B):v.ownBlock≠some b:=fun e=>by
 have:=(World.ownsRow.lt h b e).1;omega
theorem qW {P:Program} {f:FuncId} {args:Array Value} {w:World} {a n:Nat} {v:Value} (h:Calls P f args (w.drewN (a+n)) fun e w'=>e=.returned v∧w'=w.drewN (a+n)) :
  Calls P f args (w.drewN (a+n)) fun e w'=>e=.returned v∧∃ m,w'=w.drewN (a+m) :=
 h.mono fun _ _ h=>⟨h.1,n,h.2⟩
theorem iy {w:World} {B e k n:Nat} {v:Value} {xs:List Value} (h:w.ownsRow B e k v n xs):∃ dp dc,v=.slice dp n dc:=by
 rcases h.2 with ⟨h1,h2⟩ | ⟨g,cap,cur,h1,_⟩
 ·exact ⟨none,0,by rw [h1,h2]⟩
 ·exact ⟨_,_,h1⟩
theorem Hl (s:ByteArray) (i:Nat) (h:i<s.size) (h32:s[i]'h=32):Txt.dY (s.data.toList.drop i)=([],false,s.data.toList.drop i):=by
 rw [dx s i h,h32];cases s.data.toList.drop (i+1) <;> simp [Txt.dY]
theorem Nt (s:ByteArray) (i:Nat) (h:s.size≤i):Txt.dY (s.data.toList.drop i)=([],false,s.data.toList.drop i):=by
 rw [iV s i h];rfl
theorem Ku (s:ByteArray) (i:Nat) (h:i<s.size) (h32:s[i]'h≠32) (h2:s.size≤i+1):Txt.dY (s.data.toList.drop i)=([],true,s.data.toList.drop i):=by
 rw [dx s i h,iV s (i+1) h2];simp [Txt.dY,h32]
theorem Dt (s:ByteArray) (i:Nat) (h:i<s.size) (h32:s[i]'h≠32) (h2:i+1<s.size) (hx:Txt.half (s[i]'h)=16∨Txt.half (s[i+1]'h2)=16):Txt.dY (s.data.toList.drop i)=([],true,s.data.toList.drop i):=by
 rw [dx s i h,dx s (i+1) h2];unfold Txt.dY;rw [if_neg h32,if_pos hx]
theorem Kv (s:ByteArray) (i:Nat) (h:i<s.size) (h32:s[i]'h≠32) (h2:i+1<s.size) (hx:Txt.half (s[i]'h)≠16) (hy:Txt.half (s[i+1]'h2)≠16) :
  Txt.dY (s.data.toList.drop i)=((Txt.half (s[i]'h)*16+Txt.half (s[i+1]'h2)).toUInt8::(Txt.dY (s.data.toList.drop (i+2))).1,(Txt.dY (s.data.toList.drop (i+2))).2):=by
 rw [dx s i h,dx s (i+1) h2]
 conv=>lhs;unfold Txt.dY
 rw [if_neg h32,if_neg (fun e=>e.elim hx hy)]
theorem Nu (x y:UInt8) (_hx:Txt.half x≠16) (_hy:Txt.half y≠16):IntKind.u8.wrap ((Txt.half x:Int)*16+(Txt.half y:Int))=((Txt.half x*16+Txt.half y).toUInt8.toNat:Int):=by
 have h1:=vH x;have h2:=vH y;unfold IntKind.wrap;simp [IntKind.signed,IntKind.bits,Nat.toUInt8]
theorem nR.more {s:ByteArray} {b i0 i:Nat} {bad:Bool} {w wr w1:World} {v v':Value} {out:List UInt8} {k:Nat} {o:Obj} (R:nR s b i0 bad w i v out wr) (h:i<s.size) (h32:s[i]'h≠32) (h2:i+1<s.size) (hx:Txt.half (s[i]'h)≠16)
  (hy:Txt.half (s[i+1]'h2)≠16) (hb:b<w.heap.size)
  (hown:w1.ownsRow w.heap.size 5 1 v' (out.length+1) (byteCells out++[.int .u8 (IntKind.u8.wrap ((Txt.half (s[i]'h):Int)*16+(Txt.half (s[i+1]'h2):Int)))]))
  (hgrow:((wr.drewN k).alloc o).grownBy w1 v.ownBlock):jM w1 b s i bad∧nR s b i0 bad w (i+2) v' (out++[(Txt.half (s[i]'h)*16+Txt.half (s[i+1]'h2)).toUInt8]) (w1.setCell ⟨b,1,none⟩ (.int .i64 ((i:Int)+2))):=by
 have hlo:=R.lo;have hln:=R.len;have hne:=sD R.own hb;have hT:Touch (fun j=>w.heap.size≤j) wr w1:=(((Touch.refl _ wr).drewN k).alloc o).trans' (Touch.bT (S:=fun j=>w.heap.size≤j) hgrow (fun j hj=>(World.ownsRow.lt R.own j hj).1)) (fun _ _ h=>h);have hC:jM w1 b s i bad:=R.at_.touch hT (by omega);refine ⟨hC,⟨by omega,h2,by simp;omega,?_,?_,?_,?_⟩⟩
 ·have:=hC.set 1 (.int .i64 ((i:Int)+2));exact this
 ·rw [R.law,Kv s i h h32 h2 hx hy];simp
 ·rw [show (out++[(Txt.half (s[i]'h)*16+Txt.half (s[i+1]'h2)).toUInt8]).length=out.length+1 by simp]
  have e:byteCells (out++[(Txt.half (s[i]'h)*16+Txt.half (s[i+1]'h2)).toUInt8])=byteCells out++[.int .u8 (IntKind.u8.wrap ((Txt.half (s[i]'h):Int)*16+(Txt.half (s[i+1]'h2):Int)))]:=by
   rw [Nu _ _ hx hy];simp [byteCells]
  rw [e];exact hown.kept (row:=some b) ⟨rfl,rfl,rfl,by simp [World.setCell],fun j _ hj=>Below.heap_setCell _ _ _ _ (fun e=>hj (by simp [e]))⟩ (Or.inr (sD hown hb))
 ·exact (R.touch.trans' hT (fun j hj h=>by omega)).setCell (S:=(· = b)) (p:=⟨b,1,none⟩) (fun _=>rfl) _
theorem F8 {s:ByteArray} {b i j:Nat} {bad bad':Bool} {wr w2:World} (C:jM wr b s i bad) (C2:jM w2 b s j bad') (h:i<s.size) (hj:i<j) :
  s.size-(intOf ((w2.cell? ⟨b,1,none⟩).getD (.int .i64 0))).toNat<s.size-(intOf ((wr.cell? ⟨b,1,none⟩).getD (.int .i64 0))).toNat:=by
 have e1:w2.cell? ⟨b,1,none⟩=some (.int .i64 (j:Int)):=C2.cell 1;have e2:wr.cell? ⟨b,1,none⟩=some (.int .i64 (i:Int)):=C.cell 1;rw [e1,e2];simp only [Option.getD_some,intOf];omega
theorem nR.mark {s:ByteArray} {b i0 i:Nat} {bad:Bool} {w wr:World} {v:Value} {out:List UInt8} {c:Txt.Cu} (R:nR s b i0 bad w i v out wr) (hb:b<w.heap.size) (hc:c=cur s i true) (n:Nat) :
  ((wr.drewN n).setCell ⟨b,2,none⟩ (.bool true)).ownsRow w.heap.size 5 1 v out.length (byteCells out)∧iJ s b w c ((wr.drewN n).setCell ⟨b,2,none⟩ (.bool true)) :=
 ⟨(vI R.own n).kept (row:=some b) ⟨rfl,rfl,rfl,by simp [World.setCell],fun j _ hj=>Below.heap_setCell _ _ _ _ (fun e=>hj (by simp [e]))⟩ (Or.inr (sD R.own hb)),
  ⟨i,true,R.hi,(R.at_.drewN n).set 2 _,hc,(R.touch.drewN n).setCell (S:=(· = b)) (p:=⟨b,2,none⟩) (fun _=>rfl) _⟩⟩
theorem nR.same {s:ByteArray} {b i0 i:Nat} {bad:Bool} {w wr:World} {v:Value} {out:List UInt8} {c:Txt.Cu} (R:nR s b i0 bad w i v out wr) (hc:c=cur s i bad) (n:Nat) :
  (wr.drewN n).ownsRow w.heap.size 5 1 v out.length (byteCells out)∧iJ s b w c (wr.drewN n) :=
 ⟨vI R.own n,⟨i,bad,R.hi,R.at_.drewN n,hc,R.touch.drewN n⟩⟩
theorem WO (s:ByteArray) (b i0:Nat) (bad:Bool) (w:World) (hs:s.size≤1048576) (hi:i0≤s.size) (C:jM w b s i0 bad):Calls Tryz.prog 83 #[.pointer (some ⟨b,0,none⟩)] w (Yj s b i0 bad w):=by
 have HC:=Hd C;have HS:=Hd (Ee s b i0 bad 45 w hs hi C);have hb:=C.lt;clear C;obtain ⟨t0,hi0,hz0,hz1,hz2⟩:=info_parts Ns
 go_enter Tryz.func83,Tryz.ntmps83
 go_wp2_with fail
 refine HS.out.mono ?_
 rintro e w1 ⟨rfl,C1⟩;cases hsg:(Txt.sign 45 (cur s i0 bad)).1 with
 | true =>
  have vO:=Hd C1;have HD:=Hd (show Txt.fU (cur s i0 bad)=([],(Txt.sign 45 (cur s i0 bad)).2) by unfold Txt.fU;rw [if_pos hsg]);clear C1 hsg
  go_wp2_with fail
  go_ret
  exact ⟨none,0,0,rfl,by rw [HD.out];exact World.ownsRow_nil _ _ _ _,by rw [HD.out];exact vO.out⟩
 | false =>
  have hsame:(Txt.sign 45 (cur s i0 bad)).2=cur s i0 bad:=by
   unfold Txt.sign at hsg ⊢;split
   ·rfl
   ·split
    ·rename_i h1 h2
     rw [h1] at hsg;simp only [if_pos h2] at hsg;cases hsg
    ·rfl
  rw [hsame] at C1;obtain ⟨j,bad',hj,C2,hcc,T1⟩:=C1;obtain ⟨rfl,rfl⟩:=Ut hi hj hcc;have bG:=Hd (show nR s b i0 bad w i0 (.slice none 0 0) [] w1 from ⟨Nat.le_refl _,hi,by simp,C2,by simp,World.ownsRow_nil _ _ _ _,T1⟩)
  have HD:=Hd (show Txt.fU (cur s i0 bad)=(if (Txt.dY (s.data.toList.drop i0)).2.1 then ((Txt.dY (s.data.toList.drop i0)).1,⟨(Txt.dY (s.data.toList.drop i0)).2.2,true⟩) else ((Txt.dY (s.data.toList.drop i0)).1,⟨(Txt.dY (s.data.toList.drop i0)).2.2,bad || decide ((Txt.dY (s.data.toList.drop i0)).1.length=0) || decide (65536<(Txt.dY (s.data.toList.drop i0)).1.length)⟩)) by
   unfold Txt.fU;rw [hsg];rfl)
  have hc1:w1.cell? ⟨b,1,none⟩=some (.int .i64 i0):=C2.cell 1;clear hsame hcc hsg T1 C2
  go_wp2_with fail
  go_loopw [3] (fun v wr=>∃ i out,nR s b i0 bad w i v out wr) (fun _ wr=>s.size-(intOf ((wr.cell? ⟨b,1,none⟩).getD (.int .i64 0))).toNat)
  case atStart=>exact ⟨i0,[],bG.out⟩
  case round =>
   clear hc1;obtain ⟨i,out,R⟩:=hrel;have HR:=Hd R;have c0:wr.cell? ⟨b,0,none⟩=some (.string s):=R.at_.cell 0;have c1:wr.cell? ⟨b,1,none⟩=some (.int .i64 i):=R.at_.cell 1;have c2:wr.cell? ⟨b,2,none⟩=some (.bool bad):=R.at_.cell 2;have f1:=R.at_.free 1;have f2:=R.at_.free 2;have hb2:=R.at_.lt;have hi1:=R.hi;have hlo:=R.lo;have hln:=R.len;clear R;by_cases hlt:i<s.size
   ·have hd0:decide (i<s.size)=true:=by simp;omega
    by_cases h32:s[i]'hlt=32
    ·have HB:=Hd (Hl s i hlt h32);have hx1:((((s[i]'hlt).toNat:Nat):Int) != 32)=false:=by rw [h32];rfl
     clear h32;obtain ⟨dp,dc,rfl⟩:=iy HR.out.own;have pQ:=Hd (show Txt.fU (cur s i0 bad)=(out,cur s i (bad || decide (out.length=0) || decide (65536<out.length))) by rw [HD.out,HR.out.law,HB.out];simp [cur]);rcases Nat.eq_zero_or_pos out.length with hz | hz
     ·have HX:=Hd (show Txt.fU (cur s i0 bad)=(out,cur s i true) by rw [pQ.out,hz];simp);have e1:(out.length == 0)=true:=by rw [hz];rfl
      have e2:((out.length:Int) == 0)=true:=by rw [hz];rfl
      clear hln hz
      go_wp2_with fail
      go_quiet (fail)
      go_wp2_with fail
      go_ret
      exact ⟨dp,out.length,dc,rfl,by rw [HX.out];exact (HR.out.mark hb rfl _).1,by rw [HX.out];exact (HR.out.mark hb rfl _).2⟩
     ·have e1:(out.length == 0)=false:=by rw [beq_eq_false_iff_ne];omega
      have e2:((out.length:Int) == 0)=false:=by rw [beq_eq_false_iff_ne];omega
      by_cases hbig:65536<out.length
      ·have HX:=Hd (show Txt.fU (cur s i0 bad)=(out,cur s i true) by rw [pQ.out];simp [hbig]);have e3:(65536:Int)<(out.length:Int):=by omega
       clear hbig hln hz
       go_wp2_with fail
       go_quiet (fail)
       go_wp2_with fail
       go_ret
       exact ⟨dp,out.length,dc,rfl,by rw [HX.out];exact (HR.out.mark hb rfl _).1,by rw [HX.out];exact (HR.out.mark hb rfl _).2⟩
      ·have HX:=Hd (show Txt.fU (cur s i0 bad)=(out,cur s i bad) by rw [pQ.out,(by rw [decide_eq_false_iff_not];omega:decide (out.length=0)=false),(by rw [decide_eq_false_iff_not];omega:decide (65536<out.length)=false),Bool.or_false,Bool.or_false]);have e3:(out.length:Int)≤65536:=by omega
       clear hbig hln hz
       go_wp2_with fail
       go_quiet (fail)
       go_wp2_with fail
       go_ret
       exact ⟨dp,out.length,dc,rfl,by rw [HX.out];exact (HR.out.same rfl _).1,by rw [HX.out];exact (HR.out.same rfl _).2⟩
    ·have hx1:((((s[i]'hlt).toNat:Nat):Int) != 32)=true:=by have h:((((s[i]'hlt).toNat:Nat):Int) == 32)=false:=vF h32;rw [bne,h];rfl
     have hw1:IntKind.i64.wrap ((i:Int)+1)=(i:Int)+1:=IntWalk.i64_in _ (by omega);by_cases hl2:i+1<s.size
     ·have hd1:decide ((s.size:Int)≤(i:Int)+1)=false:=by simp;omega
      have q2:((i:Int)+1).toNat<s.size:=by omega
      have p1:(0:Int)≤(i:Int)+1:=by omega
      have p2:(i:Int)+1<(s.size:Int):=by omega
      by_cases ha:Txt.half (s[i]'hlt)=16
      ·have HB:=Hd (Dt s i hlt h32 hl2 (.inl ha));have pQ:=Hd (show Txt.fU (cur s i0 bad)=(out,cur s i true) by rw [HD.out,HR.out.law,HB.out];simp [cur]);obtain ⟨dp,dc,rfl⟩:=iy HR.out.own;have t1:((Txt.half (s[i]'hlt):Int) == 16)=true:=by rw [ha];rfl
       clear h32 ha
       go_wp2_with fail
       go_quiet (fail)
       go_wp2_with fail
       go_quiet ((go_at_call 128;exact qW (Bn _ _)))
       go_wp2_with fail
       go_ret
       exact ⟨dp,out.length,dc,rfl,by rw [pQ.out];exact (HR.out.mark hb rfl _).1,by rw [pQ.out];exact (HR.out.mark hb rfl _).2⟩
      ·by_cases F9:Txt.half (s[i+1]'hl2)=16
       ·have HB:=Hd (Dt s i hlt h32 hl2 (.inr F9));have pQ:=Hd (show Txt.fU (cur s i0 bad)=(out,cur s i true) by rw [HD.out,HR.out.law,HB.out];simp [cur]);obtain ⟨dp,dc,rfl⟩:=iy HR.out.own;have t1:((Txt.half (s[i]'hlt):Int) == 16)=false:=by rw [beq_eq_false_iff_ne];omega
        have t2:((Txt.half (s[i+1]'hl2):Int) == 16)=true:=by rw [F9];rfl
        clear h32 ha F9
        go_wp2_with fail
        go_quiet (fail)
        go_wp2_with fail
        go_quiet ((go_at_call 128;exact qW (Bn _ _)))
        go_wp2_with fail
        go_ret
        exact ⟨dp,out.length,dc,rfl,by rw [pQ.out];exact (HR.out.mark hb rfl _).1,by rw [pQ.out];exact (HR.out.mark hb rfl _).2⟩
       ·have hla:=vH (s[i]'hlt);have hlb:=vH (s[i+1]'hl2);have t1:((Txt.half (s[i]'hlt):Int) == 16)=false:=by rw [beq_eq_false_iff_ne];omega
        have t2:((Txt.half (s[i+1]'hl2):Int) == 16)=false:=by rw [beq_eq_false_iff_ne];omega
        have m1:IntKind.i64.wrap ((Txt.half (s[i]'hlt):Int)*16)=(Txt.half (s[i]'hlt):Int)*16:=IntWalk.i64_in _ (by omega);have m2:IntKind.i64.wrap ((Txt.half (s[i]'hlt):Int)*16+(Txt.half (s[i+1]'hl2):Int))=(Txt.half (s[i]'hlt):Int)*16+(Txt.half (s[i+1]'hl2):Int):=IntWalk.i64_in _ (by omega);have HM:=Hd (fun v' w1 k o=>HR.out.more (w1:=w1) (v':=v') (k:=k) (o:=o) hlt h32 hl2 ha F9 hb);clear h32 ha F9 hla hlb
        go_wp2_with fail
        go_quiet (fail)
        go_wp2_with fail
        go_quiet ((go_at_call 128;exact qW (Bn _ _)))
        go_wp2_with fail
        have HOW:=Hd HR.out.own;have Zv:=Hd (sD HR.out.own hb);have hsz:w.heap.size≤wr.heap.size:=HR.out.touch.size
        go_region_held3 (fun w'=>w'.cell? ⟨b,0,none⟩=some (.string s)∧w'.cell? ⟨b,1,none⟩=some (.int .i64 i)) (first | go_keep | (refine ⟨(hgrow.cell_far _ (by simp;omega) (Ne.symm Zv.out)).trans (by simp [*]),(hgrow.cell_far _ (by simp;omega) (Ne.symm Zv.out)).trans (by simp [*])⟩)) (first | (go_at_call 128;refine (WM _ _).mono ?_;rintro e w' ⟨rfl,rfl⟩) | (refine step_append_lies _ (by rfl) _ _ _ (by rfl) w.heap.size 5 t0 _ 1 1 Tryz.underlying34 hi0 hz0 hz1 hz2 rfl (by omega) u3 out.length (byteCells out) (by rfl) (((vI HOW.out _).alloc _).drew) ⟨wr.heap.size,0,none⟩ 1 1 [.int .u8 _] (by rfl) (by rfl) (World.news_of_block (cs:=#[.int .u8 _]) (t:=5) (fr:=(0,0)) (heap_alloc_new _ _)) (by simp [Value.oneCell']) (by omega) (by unfold maxLen;omega) (by omega) (by simp;omega) (wr.heap.size+1) (by simp) ?_;intro gg cap w1 hown1 hgrow hat hlt))
        all_goals
         obtain ⟨WQ,Zw⟩:=HM.out _ _ _ _ hown1 hgrow;have HR1:=Hd Zw;have f1':=WQ.free 1;have c1':w1.cell? ⟨b,1,none⟩=some (.int .i64 i):=WQ.cell 1;clear Zw WQ hown1 hgrow hat
         go_wp2_with fail
         exact ⟨⟨i+2,_,HR1.out⟩,F8 HR.out.at_ HR1.out.at_ (by assumption) (by omega)⟩
     ·have HB:=Hd (Ku s i hlt h32 (by omega));have hd1:decide ((s.size:Int)≤(i:Int)+1)=true:=by simp;omega
      have pQ:=Hd (show Txt.fU (cur s i0 bad)=(out,cur s i true) by rw [HD.out,HR.out.law,HB.out];simp [cur]);obtain ⟨dp,dc,rfl⟩:=iy HR.out.own;clear h32
      go_wp2_with fail
      go_quiet (fail)
      go_wp2_with fail
      go_quiet (fail)
      go_wp2_with fail
      go_ret
      exact ⟨dp,out.length,dc,rfl,by rw [pQ.out];exact (HR.out.mark hb rfl _).1,by rw [pQ.out];exact (HR.out.mark hb rfl _).2⟩
   ·have hd0:decide (i<s.size)=false:=by simp;omega
    have HB:=Hd (Nt s i (by omega));obtain ⟨dp,dc,rfl⟩:=iy HR.out.own;have pQ:=Hd (show Txt.fU (cur s i0 bad)=(out,cur s i (bad || decide (out.length=0) || decide (65536<out.length))) by rw [HD.out,HR.out.law,HB.out];simp [cur]);rcases Nat.eq_zero_or_pos out.length with hz | hz
    ·have HX:=Hd (show Txt.fU (cur s i0 bad)=(out,cur s i true) by rw [pQ.out,hz];simp);have e1:(out.length == 0)=true:=by rw [hz];rfl
     have e2:((out.length:Int) == 0)=true:=by rw [hz];rfl
     clear hln hz
     go_wp2_with fail
     go_quiet (fail)
     go_wp2_with fail
     go_ret
     exact ⟨dp,out.length,dc,rfl,by rw [HX.out];exact (HR.out.mark hb rfl _).1,by rw [HX.out];exact (HR.out.mark hb rfl _).2⟩
    ·have e1:(out.length == 0)=false:=by rw [beq_eq_false_iff_ne];omega
     have e2:((out.length:Int) == 0)=false:=by rw [beq_eq_false_iff_ne];omega
     by_cases hbig:65536<out.length
     ·have HX:=Hd (show Txt.fU (cur s i0 bad)=(out,cur s i true) by rw [pQ.out];simp [hbig]);have e3:(65536:Int)<(out.length:Int):=by omega
      clear hbig hln hz
      go_wp2_with fail
      go_quiet (fail)
      go_wp2_with fail
      go_ret
      exact ⟨dp,out.length,dc,rfl,by rw [HX.out];exact (HR.out.mark hb rfl _).1,by rw [HX.out];exact (HR.out.mark hb rfl _).2⟩
     ·have HX:=Hd (show Txt.fU (cur s i0 bad)=(out,cur s i bad) by rw [pQ.out,(by rw [decide_eq_false_iff_not];omega:decide (out.length=0)=false),(by rw [decide_eq_false_iff_not];omega:decide (65536<out.length)=false),Bool.or_false,Bool.or_false]);have e3:(out.length:Int)≤65536:=by omega
      clear hbig hln hz
      go_wp2_with fail
      go_quiet (fail)
      go_wp2_with fail
      go_ret
      exact ⟨dp,out.length,dc,rfl,by rw [HX.out];exact (HR.out.same rfl _).1,by rw [HX.out];exact (HR.out.same rfl _).2⟩
end Go.Proofs.YtnjcmcnjgdjbiaaGreatDoor
namespace Go.Proofs.YtnjcmcnjgdjbiaaGreatDoor.Txt
def dec (n:Nat):Bs:=Lib.decDigits n
def Kw (n:Nat):UInt8:=if n<10 then UInt8.ofNat (48+n) else UInt8.ofNat (87+n)
def Ky:Bs→Bs
 | []=>[]
 | c::l=>Kw (c.toNat/16)::Kw (c.toNat%16)::Ky l
def Kz (d:Bs):Bs:=if d = [] then [45] else Ky d
def Cb (ref p:Nat):Bs:=if ref=0 then dec p else 36::(dec ref++if 0<p then 43::dec p else [])
def iY (op:Nat):Form:=bq.getD (op-1) ⟨false,0,false,false⟩
def Qv (x:Cd):Bool :=
 decide (1≤x.op) && decide (x.op≤14) && decide (x.ref≤4096) && decide (x.data.length≤65536) && ((iY x.op).address || (decide (x.ref=0) && decide (x.p=0))) &&
  ((iY x.op).refused || !x.deny) && (decide (2≤(iY x.op).numbers) || decide (x.b=0)) && (decide (1≤(iY x.op).numbers) || decide (x.a=0)) && ((iY x.op).data || x.data.isEmpty)
def Yk (f:Form) (x:Cd):List Bs:=if f.address then [Cb x.ref x.p] else []
def Yl (f:Form) (x:Cd):List Bs:=if f.numbers=0 then [] else if f.numbers=1 then [dec x.a] else [dec x.a,dec x.b]
def Ym (f:Form) (x:Cd):List Bs:=if f.data then [Kz x.data] else []
def I4 (f:Form) (x:Cd):List Bs:=Yk f x++(Yl f x++Ym f x)
def Ga (x:Cd):List Bs:=if x.deny then [[33]] else []
def Gb (x:Cd):List Bs:=I4 (iY x.op) x++Ga x
def Qw (x:Cd):Bs:=opWords.getD (x.op-1) []
def textOf (x:Cd):Bs:=Qw x++R (Gb x)
/- digits -/
theorem Nv {n:Nat} (h:n<10):dec n = [UInt8.ofNat (48+n)]:=Lib.decDigits_one h
theorem Uu {n:Nat} (h:¬n<10):dec n=dec (n/10)++[UInt8.ofNat (48+n%10)]:=by
 unfold dec;rw [Lib.decDigits,dif_neg h]
theorem KA (c:UInt8) (l:Bs):∀ (acc:Nat),
  Lib.parseUintM jV acc (l++[c])=match Lib.parseUintM jV acc l with
   | .ok u=>Lib.parseUintM jV u [c]
   | e=>e:=by
 induction l with
 | nil=>intro acc;rfl
 | cons x l ih =>
  intro acc;rw [List.cons_append];unfold Lib.parseUintM;split
  ·split
   ·rfl
   ·split
    ·rfl
    ·rw [ih];rfl
  ·rfl
theorem Du (u:Nat) (c:UInt8) (n:Nat):Lib.parseUintM jV u [c]=.ok n↔(48≤c.toNat∧c.toNat≤57)∧u*10+(c.toNat-48)≤jV∧n=u*10+(c.toNat-48):=by
 unfold Lib.parseUintM Lib.parseUintM jV;split
 ·rename_i h
  split
  ·constructor
   ·intro e;cases e
   ·rintro ⟨_,h2,_⟩;omega
  ·split
   ·constructor
    ·intro e;cases e
    ·rintro ⟨_,h2,_⟩;omega
   ·constructor
    ·intro e;cases e;exact ⟨h,by omega,rfl⟩
    ·rintro ⟨_,_,rfl⟩;rfl
 ·rename_i h
  constructor
  ·intro e;cases e
  ·rintro ⟨h1,_⟩;exact absurd h1 h
theorem Uv {P:Bs→Prop} (h0:P []) (h1:∀ l c,P l→P (l++[c])) (w:Bs):P w:=by
 have key:∀ v:Bs,P v.reverse:=by
  intro v
  induction v with
  | nil=>exact h0
  | cons c v ih=>rw [List.reverse_cons];exact h1 _ _ ih
 have:=key w.reverse;rwa [List.reverse_reverse] at this
theorem Nw (w:Bs):w≠[]→(1<w.length→w.head? ≠ some 48)→∀ n,Lib.parseUintM jV 0 w=.ok n→dec n=w∧(w.head? ≠ some 48→0<n):=by
 refine Uv (P:=fun w=>w≠[]→(1<w.length→w.head? ≠ some 48)→∀ n,Lib.parseUintM jV 0 w=.ok n→dec n=w∧(w.head? ≠ some 48→0<n)) (fun h=>absurd rfl h) ?_ w;intro l c ih _ hh n hn;rw [KA] at hn;have hback:∀ d,c.toNat=48+d→UInt8.ofNat (48+d)=c:=fun d h=>by rw [←h];simp
 by_cases hl:l = []
 ·subst hl;simp only [Lib.parseUintM] at hn;have hn':Lib.parseUintM jV 0 [c]=.ok n:=hn;rw [Du] at hn';obtain ⟨h1,-,rfl⟩:=hn';refine ⟨?_,fun h=>?_⟩
  ·rw [Nv (by omega)];simp only [List.nil_append,List.cons.injEq,and_true];exact hback _ (by omega)
  ·rcases Nat.lt_or_ge 48 c.toNat with h2 | h2
   ·omega
   ·exfalso;apply h;simp only [List.nil_append,List.head?_cons,Option.some.injEq];have:c.toNat=(48:UInt8).toNat:=by show _=48;omega
    exact UInt8.toNat_inj.1 this
 ·cases hp:Lib.parseUintM jV 0 l with
  | ok u =>
   rw [hp] at hn;simp only [] at hn;rw [Du] at hn;obtain ⟨h1,h2,rfl⟩:=hn
   have hhead:(l++[c]).head? = l.head? := by
    cases l with
    | nil=>exact absurd rfl hl
    | cons=>rfl
   have hlen:0<l.length:=List.length_pos_iff.2 hl;have h0:l.head? ≠ some 48:=by rw [←hhead];exact hh (by simp;omega)
   obtain ⟨a1,a2⟩:=ih hl (fun _=>h0) u hp;have hu:=a2 h0;refine ⟨?_,fun _=>by omega⟩;rw [Uu (by omega),show (u*10+(c.toNat-48))/10=u by omega,a1,show (u*10+(c.toNat-48))%10=c.toNat-48 by omega,hback _ (by omega)]
  | _=>rw [hp] at hn;cases hn
theorem ug {w:Bs} {n:Nat} (h:aV w=some n):dec n=w∧n≤jV:=by
 unfold aV at h;split at h
 ·cases h
 ·rename_i hn
  have hne:w≠[]:=fun e=>hn (.inl e)
  rw [parseUintB_64 w hne] at h;split at h
  ·rename_i u hu
   cases h;exact ⟨(Nw w hne (fun h1 h2=>hn (.inr (.inl ⟨h1,h2⟩))) _ hu).1,Lib.parseUintM_le _ _ _ _ (Nat.zero_le _) hu⟩
  ·cases h
/- bytes in sixteen digits -/
theorem Dv (x:UInt8) (h:half x≠16):Kw (half x)=x∧half x<16:=by
 have:∀ n:Fin 256,half (UInt8.ofNat n.val)≠16→Kw (half (UInt8.ofNat n.val))=UInt8.ofNat n.val∧half (UInt8.ofNat n.val)<16:=by decide +kernel
 have h2:=this ⟨x.toNat,x.toNat_lt⟩;simp only [UInt8.ofNat_toNat] at h2;exact h2 h
theorem Dw:∀ (w:Bs) (d:Bs),jO w=some d→Ky d=w∧w.length=2*d.length
 | [],d,h=>by cases h;exact ⟨rfl,rfl⟩
 | [_],d,h=>by cases h
 | x::y::l,d,h=>by
  unfold jO at h;split at h
  ·cases h
  ·rename_i hn
   simp only [Option.map_eq_some_iff] at h;obtain ⟨t,ht,rfl⟩:=h;obtain ⟨h1,h2⟩:=Dw l t ht;obtain ⟨a1,a2⟩:=Dv x (fun e=>hn (.inl e));obtain ⟨b1,b2⟩:=Dv y (fun e=>hn (.inr e))
   have e:((half x*16+half y).toUInt8).toNat=half x*16+half y:=by
    simp [Nat.toUInt8];omega
   refine ⟨?_,by simp [h2];omega⟩;unfold Ky;rw [e,show (half x*16+half y)/16=half x by omega,show (half x*16+half y)%16=half y by omega,a1,b1,h1]
theorem Qx {w d:Bs} (h:cZ w=some d):Kz d=w∧d.length≤65536:=by
 unfold cZ at h;split at h
 ·rename_i e
  cases h;exact ⟨e.symm,by simp⟩
 ·split at h
  ·cases h
  ·rename_i hn
   obtain ⟨h1,h2⟩:=Dw w d h
   have hne:d≠[]:=by
    rintro rfl;exact hn (.inl h1.symm)
   refine ⟨by unfold Kz;rw [if_neg hne,h1],?_⟩;rcases Nat.lt_or_ge 131072 w.length with h3 | h3
   ·exact absurd (.inr (.inr h3)) hn
   ·omega
/- addresses -/
theorem KC {w:Bs} {r:Nat × Nat} (h:bA w=some r):Cb r.1 r.2=w∧r.1≤4096∧r.2≤jV:=by
 unfold bA at h;cases w with
 | nil=>cases h
 | cons x l =>
  simp only [] at h;by_cases hx:x=36
  ·subst hx;rw [if_pos rfl] at h;cases hn:aV (aL 43 l).1 with
   | none=>rw [hn] at h;cases h
   | some n =>
    rw [hn] at h;simp only [] at h;split at h
    ·cases h
    ·rename_i hr
     obtain ⟨d1,d2⟩:=ug hn;rcases lC 43 l with ⟨h1,h2⟩ | ⟨a,b,h1,h2,h3⟩
     ·rw [h2] at h d1;simp only [Bool.false_eq_true,if_false,Option.some.injEq] at h;subst h;unfold Cb;refine ⟨?_,by omega,Nat.zero_le _⟩;simp only [] at d1 ⊢;rw [if_neg (by omega),d1];simp
     ·rw [h3] at h d1;simp only [if_true] at h;cases hp:aV b with
      | none=>rw [hp] at h;cases h
      | some p =>
       rw [hp] at h;simp only [] at h;split at h
       ·cases h
       ·rename_i hp0
        simp only [Option.some.injEq] at h;subst h;obtain ⟨e1,e2⟩:=ug hp;unfold Cb;simp only [] at d1 ⊢;refine ⟨?_,by omega,e2⟩;rw [if_neg (by omega),d1,if_pos (by omega),e1,h1]
  ·rw [if_neg hx] at h;simp only [Option.map_eq_some_iff] at h;obtain ⟨p,hp,rfl⟩:=h;obtain ⟨e1,e2⟩:=ug hp;exact ⟨by unfold Cb;rw [if_pos rfl];exact e1,Nat.zero_le _,e2⟩
/- fields -/
def zeroed (op:Nat) (deny:Bool):Cd:={ Cd.none op with deny:=deny }
structure Fits (f:Form) (x:Cd):Prop where
 ref:x.ref≤4096
 p:x.p≤jV
 a:x.a≤jV
 b:x.b≤jV
 data:x.data.length≤65536
 Zx:f.address=false→x.ref=0∧x.p=0
 WR:f.numbers=0→x.a=0
 WS:f.numbers≤1→x.b=0
 dat:f.data=false→x.data = []
theorem yV (f:Form) (y x:Cd) (ws:List Bs) (hn:f.numbers≤2) (hy:y=zeroed y.op y.deny) (h:aU y f ws=some x):x.op=y.op∧x.deny=y.deny∧ws=I4 f x∧Fits f x:=by
 obtain ⟨op,ref,p,a,b,deny,data⟩:=y;unfold zeroed Cd.none at hy;simp only [Cd.mk.injEq,true_and] at hy;obtain ⟨rfl,rfl,rfl,rfl,rfl⟩:=hy;obtain ⟨fa,fn,fd,fr⟩:=f;simp only at hn;unfold aU at h;cases hA:fT ⟨op,0,0,0,0,deny,[]⟩ ⟨fa,fn,fd,fr⟩ ws with
 | none=>rw [hA] at h;cases h
 | some r =>
  obtain ⟨x1,wK⟩:=r;rw [hA] at h;simp only [] at h;cases hN:iB x1 fn wK with
  | none=>rw [hN] at h;cases h
  | some r =>
   obtain ⟨x2,wL⟩:=r;rw [hN] at h;simp only [] at h;cases hD:sF x2 ⟨fa,fn,fd,fr⟩ wL with
   | none=>rw [hD] at h;cases h
   | some r =>
    obtain ⟨x3,ws3⟩:=r;rw [hD] at h;simp only [] at h;split at h
    ·rename_i hw
     subst hw;cases h
     -- the address
     have A:∃ ref p,x1=⟨op,ref,p,0,0,deny,[]⟩∧ws=(if fa then [Cb ref p] else [])++wK∧ref≤4096∧p≤jV∧(fa=false→ref=0∧p=0):=by
      unfold fT at hA;cases fa with
      | false=>cases hA;exact ⟨0,0,rfl,rfl,by omega,Nat.zero_le _,fun _=>⟨rfl,rfl⟩⟩
      | true =>
       simp only [if_true] at hA;cases ws with
       | nil=>cases hA
       | cons w ws =>
        simp only [Option.map_eq_some_iff] at hA;obtain ⟨r,hr,he⟩:=hA;cases he;obtain ⟨a1,a2,a3⟩:=KC hr;exact ⟨r.1,r.2,rfl,by rw [a1];rfl,a2,a3,fun h=>by cases h⟩
     obtain ⟨ref,p,rfl,rfl,q1,q2,q3⟩:=A
     have N:∃ a b,x2=⟨op,ref,p,a,b,deny,[]⟩∧wK=(if fn=0 then [] else if fn=1 then [dec a] else [dec a,dec b])++wL∧a≤jV∧b≤jV∧(fn=0→a=0)∧(fn≤1→b=0):=by
      unfold iB at hN;by_cases h0:fn=0
      ·rw [if_pos h0] at hN;cases hN;exact ⟨0,0,rfl,by rw [if_pos h0];rfl,Nat.zero_le _,Nat.zero_le _,fun _=>rfl,fun _=>rfl⟩
      ·rw [if_neg h0] at hN;cases wK with
       | nil=>cases hN
       | cons w wK =>
        simp only [] at hN;cases hw:aV w with
        | none=>rw [hw] at hN;cases hN
        | some v =>
         rw [hw] at hN;simp only [] at hN;obtain ⟨d1,d2⟩:=ug hw;by_cases h1:fn=1
         ·rw [if_pos h1] at hN;cases hN;exact ⟨v,0,rfl,by rw [if_neg h0,if_pos h1,d1];rfl,d2,Nat.zero_le _,fun h=>absurd h h0,fun _=>rfl⟩
         ·rw [if_neg h1] at hN;cases wK with
          | nil=>cases hN
          | cons w' wK =>
           simp only [Option.map_eq_some_iff] at hN;obtain ⟨v',hv',he⟩:=hN;cases he;obtain ⟨d3,d4⟩:=ug hv';exact ⟨v,v',rfl,by rw [if_neg h0,if_neg h1,d1,d3];rfl,d2,d4,fun h=>absurd h h0,fun h=>by omega⟩
     obtain ⟨a,b,rfl,rfl,q4,q5,q6,q7⟩:=N
     have D:∃ data,x=⟨op,ref,p,a,b,deny,data⟩∧wL=(if fd then [Kz data] else [])∧data.length≤65536∧(fd=false→data = []):=by
      unfold sF at hD;cases fd with
      | false=>cases hD;exact ⟨[],rfl,rfl,by simp,fun _=>rfl⟩
      | true =>
       simp only [if_true] at hD;cases wL with
       | nil=>cases hD
       | cons w wL =>
        simp only [Option.map_eq_some_iff] at hD;obtain ⟨d,hd,he⟩:=hD;cases he;obtain ⟨a1,a2⟩:=Qx hd;exact ⟨d,rfl,by rw [a1];rfl,a2,fun h=>by cases h⟩
     obtain ⟨data,rfl,rfl,q8,q9⟩:=D;exact ⟨rfl,rfl,rfl,⟨q1,q2,q4,q5,q8,q3,q6,q7,q9⟩⟩
    ·cases h
theorem I5 (w:Bs):∀ (l:List Bs) (i:Nat),idx w l=some i→i<l.length∧l.getD i []=w:=by
 intro l
 induction l with
 | nil=>intro i h;cases h
 | cons v l ih =>
  intro i h;unfold idx at h;split at h
  ·rename_i e
   cases h;exact ⟨by simp,by simpa using e⟩
  ·simp only [Option.map_eq_some_iff] at h;obtain ⟨a,ha,rfl⟩:=h;obtain ⟨h1,h2⟩:=ih a ha;exact ⟨by simp;omega,by simpa using h2⟩
theorem Gc (i:Nat):(bq.getD i ⟨false,0,false,false⟩).numbers≤2:=by
 by_cases h:i<14
 ·have:∀ i:Fin 14,(bq.getD i.val ⟨false,0,false,false⟩).numbers≤2:=by decide +kernel
  exact this ⟨i,h⟩
 ·have hl:bq.length=14:=rfl;rw [List.getD_eq_getElem?_getD,List.getElem?_eq_none (by omega)];simp
theorem zA (x:Cd):Qv x=true↔(1≤x.op∧x.op≤14)∧x.ref≤4096∧x.data.length≤65536∧((iY x.op).address=false→x.ref=0∧x.p=0)∧((iY x.op).refused=false→x.deny=false) ∧
  ((iY x.op).numbers≤1→x.b=0)∧((iY x.op).numbers=0→x.a=0)∧((iY x.op).data=false→x.data = []):=by
 unfold Qv;generalize iY x.op=f;obtain ⟨fa,fn,fd,fr⟩:=f;simp only [Bool.and_eq_true,Bool.or_eq_true,decide_eq_true_eq,Bool.not_eq_true',List.isEmpty_iff];constructor
 ·rintro ⟨⟨⟨⟨⟨⟨⟨⟨h1,h2⟩,h3⟩,h4⟩,h5⟩,h6⟩,h7⟩,h8⟩,h9⟩;refine ⟨⟨h1,h2⟩,h3,h4,fun e=>?_,fun e=>?_,fun e=>?_,fun e=>?_,fun e=>?_⟩
  ·rcases h5 with h | h
   ·rw [e] at h;cases h
   ·exact h
  ·rcases h6 with h | h
   ·rw [e] at h;cases h
   ·exact h
  ·rcases h7 with h | h
   ·omega
   ·exact h
  ·rcases h8 with h | h
   ·omega
   ·exact h
  ·rcases h9 with h | h
   ·rw [e] at h;cases h
   ·exact h
 ·rintro ⟨⟨h1,h2⟩,h3,h4,h5,h6,h7,h8,h9⟩;refine ⟨⟨⟨⟨⟨⟨⟨⟨h1,h2⟩,h3⟩,h4⟩,?_⟩,?_⟩,?_⟩,?_⟩,?_⟩
  ·cases fa
   ·exact .inr (h5 rfl)
   ·exact .inl rfl
  ·cases fr
   ·exact .inr (h6 rfl)
   ·exact .inl rfl
  ·by_cases e:2≤fn
   ·exact .inl e
   ·exact .inr (h7 (by omega))
  ·by_cases e:1≤fn
   ·exact .inl e
   ·exact .inr (h8 (by omega))
  ·cases fd
   ·exact .inr (h9 rfl)
   ·exact .inl rfl
theorem Ny {s:Bs} {x:Cd} (h:dG s=some x):textOf x=s∧Qv x=true∧x.p≤jV∧x.a≤jV∧x.b≤jV:=by
 obtain ⟨w,ws,h1,h2,h3,h4⟩:=zD s;unfold dG vW at h;rw [h1] at h;simp only [] at h;cases hi:idx w opWords with
 | none=>rw [hi] at h;cases h
 | some i =>
  rw [hi] at h;simp only [] at h;obtain ⟨hi1,hi2⟩:=I5 w opWords i hi;have hi3:i<14:=hi1;split at h
  ·rename_i hr
   simp only [Bool.and_eq_true,beq_iff_eq] at hr;obtain ⟨e1,e2,e3,F⟩:=yV _ (zeroed (i+1) true) x _ (Gc i) rfl h;have Aj:x.op=i+1:=e1;have e2':x.deny=true:=e2;have hf:iY x.op=bq.getD i ⟨false,0,false,false⟩:=by unfold iY;rw [Aj];rfl
   have hne:ws≠[]:=fun e=>by rw [e] at hr;simp at hr
   have hws:ws=ws.dropLast++[[33]]:=by
    have:=List.dropLast_concat_getLast hne;rw [List.getLast?_eq_some_getLast hne] at hr;rw [Option.some.inj hr.2] at this;exact this.symm
   refine ⟨?_,?_,F.p,F.a,F.b⟩
   ·unfold textOf Gb Ga Qw;rw [hf,e2',Aj,←e3,if_pos rfl,←hws,show i+1-1=i by omega,hi2,h2]
   ·rw [zA,hf];exact ⟨by omega,F.ref,F.data,F.Zx,fun e=>(by rw [hr.1] at e;cases e),F.WS,F.WR,F.dat⟩
  ·obtain ⟨e1,e2,e3,F⟩:=yV _ (zeroed (i+1) false) x _ (Gc i) rfl h;have Aj:x.op=i+1:=e1;have e2':x.deny=false:=e2;have hf:iY x.op=bq.getD i ⟨false,0,false,false⟩:=by unfold iY;rw [Aj];rfl
   refine ⟨?_,?_,F.p,F.a,F.b⟩
   ·unfold textOf Gb Ga Qw;rw [hf,e2',Aj,←e3,if_neg (by simp),List.append_nil,show i+1-1=i by omega,hi2,h2]
   ·rw [zA,hf];exact ⟨by omega,F.ref,F.data,F.Zx,fun _=>e2',F.WS,F.WR,F.dat⟩
/- texts -/
end Go.Proofs.YtnjcmcnjgdjbiaaGreatDoor.Txt
