/- Conditions: as each theorem states. -/
import Derived.Test.YtnjcmcnjgdjbiaaGreatDoorKpPartAi
set_option maxRecDepth 100000
set_option maxHeartbeats 8000000
namespace Go.Proofs.YtnjcmcnjgdjbiaaGreatDoor
open Go.RowKit
theorem oI {w:World} {hb s pb:Nat} {K:ay} {β β':Bu} {ps ps':List Int} (R:ak 0 w hb s pb K β ps) (c:au) (q:Nat) (p:Nat) (er:Int)
  (HM:∀ W,ak 0 W hb s pb K β ps→Calls Tryz.prog 89 #[.pointer (some ⟨hb,0,none⟩),.int .u64 c.a,.int .u64 c.b,.bool c.deny] W (aK W hb s pb K β' ps' (.tuple #[.int .u64 p,.int .i64 er]))) :
  Calls Tryz.prog 40 #[c.doer hb q] w fun e w'=>∃ an:aG,e=.returned an.val∧jU hb s pb K β' ps' (bV p er) an w w':=by
 obtain ⟨op,ref,pp,a,b,deny,dp,dn,dc⟩:=c;unfold au.doer at *;have T0:Touch Nothing w ((w.alloc (.cells #[.pointer (some ⟨hb,0,none⟩),.int .u64 q,.int .i64 op,.int .i64 ref,.int .u64 pp,.int .u64 a,.int .u64 b,.bool deny,.slice dp dn dc] 103)).alloc (.cells #[.int .i64 0,.int .u64 0,.slice none 0 0,.int .u64 0,.int .u64 0,.int .i64 0,.int .i64 0] 38)):=((Touch.refl _ w).alloc _).alloc _;have hsz:(w.alloc (.cells #[.pointer (some ⟨hb,0,none⟩),.int .u64 q,.int .i64 op,.int .i64 ref,.int .u64 pp,.int .u64 a,.int .u64 b,.bool deny,.slice dp dn dc] 103)).heap.size=w.heap.size+1:=by simp
 have R0:=aC.new (w.alloc (.cells #[.pointer (some ⟨hb,0,none⟩),.int .u64 q,.int .i64 op,.int .i64 ref,.int .u64 pp,.int .u64 a,.int .u64 b,.bool deny,.slice dp dn dc] 103)) #[.int .i64 0,.int .u64 0,.slice none 0 0,.int .u64 0,.int .u64 0,.int .i64 0,.int .i64 0] 38;rw [hsz] at R0;have iL:=Hd (HM _ (R.aj T0));have bG:=Hd R0;have HT0:=Hd T0;have HV:=Hd (qN p er);have HR:=Hd R;have hlt:=R.lt;have HL:=Hd hlt;clear R HM T0 R0 hsz hlt
 go_enter Tryz.func40,Tryz.ntmps40
 go_wp2_with fail
 generalize (w.alloc (.cells #[.pointer (some ⟨hb,0,none⟩),.int .u64 q,.int .i64 op,.int .i64 ref,.int .u64 pp,.int .u64 a,.int .u64 b,.bool deny,.slice dp dn dc] 103)).alloc (.cells #[.int .i64 0,.int .u64 0,.slice none 0 0,.int .u64 0,.int .u64 0,.int .i64 0,.int .i64 0] 38)=w1 at *;refine iL.out.mono ?_
 rintro e w2 hH;have HH:=Hd hH;obtain ⟨rfl,K',R2,N2,T2⟩:=hH
 have hnot:¬(w.heap.size+1∈hb::s::K.fp):=fun h=>by
  simp only [List.mem_cons] at h;rcases h with h | h | h
  ·have:=HL.out hb (by simp);omega
  ·have:=HL.out s (by simp);omega
  ·have:=HL.out (w.heap.size+1) (by simp [h]);omega
 have B2:=Hd (bG.out.touch T2 hnot);clear R2 N2 T2 hnot
 go_wp2_with fail
 refine (HV.out _).mono ?_
 rintro e w3 ⟨rfl,T3⟩;have R3:=B2.out.touch T3 (fun h=>h);have HT3:=Hd T3;obtain ⟨z0,f0,z1,f1,z2,f2,z3,f3,z4,f4,z5,f5,z6,f6⟩:=R3.jq;generalize hN:bV p er=an at *;have HN:=Hd hN;have HB:=Hd (dz R3 an);have bI:=Hd (bJ w3 (w.heap.size+1) an);clear R3 T3 hN;obtain ⟨ae,kM,fE,eB,adc,ah,al,gH,gI⟩:=an;unfold iQ at *;unfold aG.val at *
 go_wp2_with fail
 obtain ⟨y0,y1,y2,y3,y4,y5,y6⟩:=jr HB.out;exact bodyPost_ret (v:=.agg #[.int .i64 ae,.int .u64 kM,.slice fE eB adc,.int .u64 ah,.int .u64 al,.int .i64 gH,.int .i64 gI]) (by simp [results,Tryz.results40,go_sem,y0,y1,y2,y3,y4,y5,y6]) rfl ⟨⟨ae,kM,fE,eB,adc,ah,al,gH,gI⟩,rfl,HN.out.symm,aK.out HR.out HT0.out HH.out (by omega) bG.out.lt (HT3.out.none_.trans bI.out)⟩
theorem yP {w:World} {hb s pb:Nat} {K:ay} {β β':Bu} {ps ps':List Int} (R:ak 0 w hb s pb K β ps) (c:au) (q:Nat) (p:Nat) (er:Int)
  (HM:∀ W,ak 0 W hb s pb K β ps→Calls Tryz.prog 56 #[.pointer (some ⟨hb,0,none⟩),.int .u64 q] W (aK W hb s pb K β' ps' (.tuple #[.int .u64 p,.int .i64 er]))) :
  Calls Tryz.prog 44 #[c.doer hb q] w fun e w'=>∃ an:aG,e=.returned an.val∧jU hb s pb K β' ps' (bV p er) an w w':=by
 obtain ⟨op,ref,pp,a,b,deny,dp,dn,dc⟩:=c;unfold au.doer at *;have T0:Touch Nothing w ((w.alloc (.cells #[.pointer (some ⟨hb,0,none⟩),.int .u64 q,.int .i64 op,.int .i64 ref,.int .u64 pp,.int .u64 a,.int .u64 b,.bool deny,.slice dp dn dc] 103)).alloc (.cells #[.int .i64 0,.int .u64 0,.slice none 0 0,.int .u64 0,.int .u64 0,.int .i64 0,.int .i64 0] 38)):=((Touch.refl _ w).alloc _).alloc _;have hsz:(w.alloc (.cells #[.pointer (some ⟨hb,0,none⟩),.int .u64 q,.int .i64 op,.int .i64 ref,.int .u64 pp,.int .u64 a,.int .u64 b,.bool deny,.slice dp dn dc] 103)).heap.size=w.heap.size+1:=by simp
 have R0:=aC.new (w.alloc (.cells #[.pointer (some ⟨hb,0,none⟩),.int .u64 q,.int .i64 op,.int .i64 ref,.int .u64 pp,.int .u64 a,.int .u64 b,.bool deny,.slice dp dn dc] 103)) #[.int .i64 0,.int .u64 0,.slice none 0 0,.int .u64 0,.int .u64 0,.int .i64 0,.int .i64 0] 38;rw [hsz] at R0;have iL:=Hd (HM _ (R.aj T0));have bG:=Hd R0;have HT0:=Hd T0;have HV:=Hd (qN p er);have HR:=Hd R;have hlt:=R.lt;have HL:=Hd hlt;clear R HM T0 R0 hsz hlt
 go_enter Tryz.func44,Tryz.ntmps44
 go_wp2_with fail
 generalize (w.alloc (.cells #[.pointer (some ⟨hb,0,none⟩),.int .u64 q,.int .i64 op,.int .i64 ref,.int .u64 pp,.int .u64 a,.int .u64 b,.bool deny,.slice dp dn dc] 103)).alloc (.cells #[.int .i64 0,.int .u64 0,.slice none 0 0,.int .u64 0,.int .u64 0,.int .i64 0,.int .i64 0] 38)=w1 at *;refine iL.out.mono ?_
 rintro e w2 hH;have HH:=Hd hH;obtain ⟨rfl,K',R2,N2,T2⟩:=hH
 have hnot:¬(w.heap.size+1∈hb::s::K.fp):=fun h=>by
  simp only [List.mem_cons] at h;rcases h with h | h | h
  ·have:=HL.out hb (by simp);omega
  ·have:=HL.out s (by simp);omega
  ·have:=HL.out (w.heap.size+1) (by simp [h]);omega
 have B2:=Hd (bG.out.touch T2 hnot);clear R2 N2 T2 hnot
 go_wp2_with fail
 refine (HV.out _).mono ?_
 rintro e w3 ⟨rfl,T3⟩;have R3:=B2.out.touch T3 (fun h=>h);have HT3:=Hd T3;obtain ⟨z0,f0,z1,f1,z2,f2,z3,f3,z4,f4,z5,f5,z6,f6⟩:=R3.jq;generalize hN:bV p er=an at *;have HN:=Hd hN;have HB:=Hd (dz R3 an);have bI:=Hd (bJ w3 (w.heap.size+1) an);clear R3 T3 hN;obtain ⟨ae,kM,fE,eB,adc,ah,al,gH,gI⟩:=an;unfold iQ at *;unfold aG.val at *
 go_wp2_with fail
 obtain ⟨y0,y1,y2,y3,y4,y5,y6⟩:=jr HB.out;exact bodyPost_ret (v:=.agg #[.int .i64 ae,.int .u64 kM,.slice fE eB adc,.int .u64 ah,.int .u64 al,.int .i64 gH,.int .i64 gI]) (by simp [results,Tryz.results44,go_sem,y0,y1,y2,y3,y4,y5,y6]) rfl ⟨⟨ae,kM,fE,eB,adc,ah,al,gH,gI⟩,rfl,HN.out.symm,aK.out HR.out HT0.out HH.out (by omega) bG.out.lt (HT3.out.none_.trans bI.out)⟩
theorem wT {w:World} {hb s pb:Nat} {K:ay} {β β':Bu} {ps ps':List Int} (R:ak 0 w hb s pb K β ps) (c:au) (q:Nat) (p:Nat) (er:Int) (hp:p<256)
  (HM:∀ W,ak 0 W hb s pb K β ps→Calls Tryz.prog 93 #[.pointer (some ⟨hb,0,none⟩),.int .u64 q] W (aK W hb s pb K β' ps' (.tuple #[.int .u8 p,.int .i64 er]))) :
  Calls Tryz.prog 45 #[c.doer hb q] w fun e w'=>∃ an:aG,e=.returned an.val∧jU hb s pb K β' ps' (bV p er) an w w':=by
 obtain ⟨op,ref,pp,a,b,deny,dp,dn,dc⟩:=c;unfold au.doer at *;have T0:Touch Nothing w ((w.alloc (.cells #[.pointer (some ⟨hb,0,none⟩),.int .u64 q,.int .i64 op,.int .i64 ref,.int .u64 pp,.int .u64 a,.int .u64 b,.bool deny,.slice dp dn dc] 103)).alloc (.cells #[.int .i64 0,.int .u64 0,.slice none 0 0,.int .u64 0,.int .u64 0,.int .i64 0,.int .i64 0] 38)):=((Touch.refl _ w).alloc _).alloc _;have hsz:(w.alloc (.cells #[.pointer (some ⟨hb,0,none⟩),.int .u64 q,.int .i64 op,.int .i64 ref,.int .u64 pp,.int .u64 a,.int .u64 b,.bool deny,.slice dp dn dc] 103)).heap.size=w.heap.size+1:=by simp
 have R0:=aC.new (w.alloc (.cells #[.pointer (some ⟨hb,0,none⟩),.int .u64 q,.int .i64 op,.int .i64 ref,.int .u64 pp,.int .u64 a,.int .u64 b,.bool deny,.slice dp dn dc] 103)) #[.int .i64 0,.int .u64 0,.slice none 0 0,.int .u64 0,.int .u64 0,.int .i64 0,.int .i64 0] 38;rw [hsz] at R0;have iL:=Hd (HM _ (R.aj T0));have bG:=Hd R0;have HT0:=Hd T0;have HV:=Hd (qN p er);have HR:=Hd R;have hlt:=R.lt;have HL:=Hd hlt;clear R HM T0 R0 hsz hlt
 go_enter Tryz.func45,Tryz.ntmps45
 go_wp2_with fail
 generalize (w.alloc (.cells #[.pointer (some ⟨hb,0,none⟩),.int .u64 q,.int .i64 op,.int .i64 ref,.int .u64 pp,.int .u64 a,.int .u64 b,.bool deny,.slice dp dn dc] 103)).alloc (.cells #[.int .i64 0,.int .u64 0,.slice none 0 0,.int .u64 0,.int .u64 0,.int .i64 0,.int .i64 0] 38)=w1 at *;refine iL.out.mono ?_
 rintro e w2 hH;have HH:=Hd hH;obtain ⟨rfl,K',R2,N2,T2⟩:=hH
 have hnot:¬(w.heap.size+1∈hb::s::K.fp):=fun h=>by
  simp only [List.mem_cons] at h;rcases h with h | h | h
  ·have:=HL.out hb (by simp);omega
  ·have:=HL.out s (by simp);omega
  ·have:=HL.out (w.heap.size+1) (by simp [h]);omega
 have B2:=Hd (bG.out.touch T2 hnot);clear R2 N2 T2 hnot
 go_wp2_with fail
 refine (HV.out _).mono ?_
 rintro e w3 ⟨rfl,T3⟩;have R3:=B2.out.touch T3 (fun h=>h);have HT3:=Hd T3;obtain ⟨z0,f0,z1,f1,z2,f2,z3,f3,z4,f4,z5,f5,z6,f6⟩:=R3.jq;generalize hN:bV p er=an at *;have HN:=Hd hN;have HB:=Hd (dz R3 an);have bI:=Hd (bJ w3 (w.heap.size+1) an);clear R3 T3 hN;obtain ⟨ae,kM,fE,eB,adc,ah,al,gH,gI⟩:=an;unfold iQ at *;unfold aG.val at *
 go_wp2_with fail
 obtain ⟨y0,y1,y2,y3,y4,y5,y6⟩:=jr HB.out;exact bodyPost_ret (v:=.agg #[.int .i64 ae,.int .u64 kM,.slice fE eB adc,.int .u64 ah,.int .u64 al,.int .i64 gH,.int .i64 gI]) (by simp [results,Tryz.results45,go_sem,y0,y1,y2,y3,y4,y5,y6]) rfl ⟨⟨ae,kM,fE,eB,adc,ah,al,gH,gI⟩,rfl,HN.out.symm,aK.out HR.out HT0.out HH.out (by omega) bG.out.lt (HT3.out.none_.trans bI.out)⟩
theorem wU {w:World} {hb s pb:Nat} {K:ay} {β β':Bu} {ps ps':List Int} (R:ak 0 w hb s pb K β ps) (c:au) (q:Nat) (er:Int)
  (HM:∀ W,ak 0 W hb s pb K β ps→Calls Tryz.prog 92 #[.pointer (some ⟨hb,0,none⟩),.int .u64 q] W (aK W hb s pb K β' ps' (.int .i64 er))) :
  Calls Tryz.prog 43 #[c.doer hb q] w fun e w'=>∃ an:aG,e=.returned an.val∧jU hb s pb K β' ps' (aY er) an w w':=by
 obtain ⟨op,ref,pp,a,b,deny,dp,dn,dc⟩:=c;unfold au.doer at *;have T0:Touch Nothing w ((w.alloc (.cells #[.pointer (some ⟨hb,0,none⟩),.int .u64 q,.int .i64 op,.int .i64 ref,.int .u64 pp,.int .u64 a,.int .u64 b,.bool deny,.slice dp dn dc] 103)).alloc (.cells #[.int .i64 0,.int .u64 0,.slice none 0 0,.int .u64 0,.int .u64 0,.int .i64 0,.int .i64 0] 38)):=((Touch.refl _ w).alloc _).alloc _;have hsz:(w.alloc (.cells #[.pointer (some ⟨hb,0,none⟩),.int .u64 q,.int .i64 op,.int .i64 ref,.int .u64 pp,.int .u64 a,.int .u64 b,.bool deny,.slice dp dn dc] 103)).heap.size=w.heap.size+1:=by simp
 have R0:=aC.new (w.alloc (.cells #[.pointer (some ⟨hb,0,none⟩),.int .u64 q,.int .i64 op,.int .i64 ref,.int .u64 pp,.int .u64 a,.int .u64 b,.bool deny,.slice dp dn dc] 103)) #[.int .i64 0,.int .u64 0,.slice none 0 0,.int .u64 0,.int .u64 0,.int .i64 0,.int .i64 0] 38;rw [hsz] at R0;have iL:=Hd (HM _ (R.aj T0));have bG:=Hd R0;have HT0:=Hd T0;have HR:=Hd R;have hlt:=R.lt;have HL:=Hd hlt;clear R HM T0 R0 hsz hlt
 go_enter Tryz.func43,Tryz.ntmps43
 go_wp2_with fail
 generalize (w.alloc (.cells #[.pointer (some ⟨hb,0,none⟩),.int .u64 q,.int .i64 op,.int .i64 ref,.int .u64 pp,.int .u64 a,.int .u64 b,.bool deny,.slice dp dn dc] 103)).alloc (.cells #[.int .i64 0,.int .u64 0,.slice none 0 0,.int .u64 0,.int .u64 0,.int .i64 0,.int .i64 0] 38)=w1 at *;refine iL.out.mono ?_
 rintro e w2 hH;have HH:=Hd hH;obtain ⟨rfl,K',R2,N2,T2⟩:=hH
 have hnot:¬(w.heap.size+1∈hb::s::K.fp):=fun h=>by
  simp only [List.mem_cons] at h;rcases h with h | h | h
  ·have:=HL.out hb (by simp);omega
  ·have:=HL.out s (by simp);omega
  ·have:=HL.out (w.heap.size+1) (by simp [h]);omega
 have B2:=Hd (bG.out.touch T2 hnot);clear R2 N2 T2 hnot;have R3:=B2.out;obtain ⟨z0,f0,z1,f1,z2,f2,z3,f3,z4,f4,z5,f5,z6,f6⟩:=R3.jq;have HB:=Hd (dz R3 (aY er));have bI:=Hd (bJ w2 (w.heap.size+1) (aY er));clear R3;unfold aY at *;unfold iQ at *
 go_wp2_with fail
 obtain ⟨y0,y1,y2,y3,y4,y5,y6⟩:=jr HB.out;simp at y0 y1 y2 y3 y4 y5 y6;exact bodyPost_ret (v:=.agg #[.int .i64 er,.int .u64 0,.slice none 0 0,.int .u64 0,.int .u64 0,.int .i64 0,.int .i64 0]) (by simp [results,Tryz.results43,go_sem,y0,y1,y2,y3,y4,y5,y6]) rfl ⟨aY er,rfl,rfl,aK.out HR.out HT0.out HH.out (by omega) bG.out.lt bI.out⟩
theorem JN {w:World} {hb s pb:Nat} {K:ay} {β β':Bu} {ps ps':List Int} (R:ak 0 w hb s pb K β ps) (c:au) (q:Nat) (er:Int) (ha:c.a<256)
  (HM:∀ W,ak 0 W hb s pb K β ps→Calls Tryz.prog 94 #[.pointer (some ⟨hb,0,none⟩),.int .u64 q,.int .u8 c.a] W (aK W hb s pb K β' ps' (.int .i64 er))) :
  Calls Tryz.prog 46 #[c.doer hb q] w fun e w'=>∃ an:aG,e=.returned an.val∧jU hb s pb K β' ps' (aY er) an w w':=by
 obtain ⟨op,ref,pp,a,b,deny,dp,dn,dc⟩:=c
 replace ha:a<256:=ha
 unfold au.doer at *;have T0:Touch Nothing w ((w.alloc (.cells #[.pointer (some ⟨hb,0,none⟩),.int .u64 q,.int .i64 op,.int .i64 ref,.int .u64 pp,.int .u64 a,.int .u64 b,.bool deny,.slice dp dn dc] 103)).alloc (.cells #[.int .i64 0,.int .u64 0,.slice none 0 0,.int .u64 0,.int .u64 0,.int .i64 0,.int .i64 0] 38)):=((Touch.refl _ w).alloc _).alloc _;have hsz:(w.alloc (.cells #[.pointer (some ⟨hb,0,none⟩),.int .u64 q,.int .i64 op,.int .i64 ref,.int .u64 pp,.int .u64 a,.int .u64 b,.bool deny,.slice dp dn dc] 103)).heap.size=w.heap.size+1:=by simp
 have R0:=aC.new (w.alloc (.cells #[.pointer (some ⟨hb,0,none⟩),.int .u64 q,.int .i64 op,.int .i64 ref,.int .u64 pp,.int .u64 a,.int .u64 b,.bool deny,.slice dp dn dc] 103)) #[.int .i64 0,.int .u64 0,.slice none 0 0,.int .u64 0,.int .u64 0,.int .i64 0,.int .i64 0] 38;rw [hsz] at R0;have iL:=Hd (HM _ (R.aj T0));have bG:=Hd R0;have HT0:=Hd T0;have HR:=Hd R;have hlt:=R.lt;have HL:=Hd hlt;clear R HM T0 R0 hsz hlt
 go_enter Tryz.func46,Tryz.ntmps46
 go_wp2_with fail
 generalize (w.alloc (.cells #[.pointer (some ⟨hb,0,none⟩),.int .u64 q,.int .i64 op,.int .i64 ref,.int .u64 pp,.int .u64 a,.int .u64 b,.bool deny,.slice dp dn dc] 103)).alloc (.cells #[.int .i64 0,.int .u64 0,.slice none 0 0,.int .u64 0,.int .u64 0,.int .i64 0,.int .i64 0] 38)=w1 at *;refine iL.out.mono ?_
 rintro e w2 hH;have HH:=Hd hH;obtain ⟨rfl,K',R2,N2,T2⟩:=hH
 have hnot:¬(w.heap.size+1∈hb::s::K.fp):=fun h=>by
  simp only [List.mem_cons] at h;rcases h with h | h | h
  ·have:=HL.out hb (by simp);omega
  ·have:=HL.out s (by simp);omega
  ·have:=HL.out (w.heap.size+1) (by simp [h]);omega
 have B2:=Hd (bG.out.touch T2 hnot);clear R2 N2 T2 hnot;have R3:=B2.out;obtain ⟨z0,f0,z1,f1,z2,f2,z3,f3,z4,f4,z5,f5,z6,f6⟩:=R3.jq;have HB:=Hd (dz R3 (aY er));have bI:=Hd (bJ w2 (w.heap.size+1) (aY er));clear R3;unfold aY at *;unfold iQ at *
 go_wp2_with fail
 obtain ⟨y0,y1,y2,y3,y4,y5,y6⟩:=jr HB.out;simp at y0 y1 y2 y3 y4 y5 y6;exact bodyPost_ret (v:=.agg #[.int .i64 er,.int .u64 0,.slice none 0 0,.int .u64 0,.int .u64 0,.int .i64 0,.int .i64 0]) (by simp [results,Tryz.results46,go_sem,y0,y1,y2,y3,y4,y5,y6]) rfl ⟨aY er,rfl,rfl,aK.out HR.out HT0.out HH.out (by omega) bG.out.lt bI.out⟩
theorem vB {w:World} {hb s pb:Nat} {K:ay} {β β':Bu} {ps ps':List Int} (R:ak 0 w hb s pb K β ps) (c:au) (q:Nat) (er:Int) (ha:c.dn≤65536)
  (HM:∀ W,Touch Nothing w W→ak 0 W hb s pb K β ps→Calls Tryz.prog 97 #[.pointer (some ⟨hb,0,none⟩),.int .u64 q,.slice c.dp c.dn c.dc] W (aK W hb s pb K β' ps' (.int .i64 er))) :
  Calls Tryz.prog 50 #[c.doer hb q] w fun e w'=>∃ an:aG,e=.returned an.val∧jU hb s pb K β' ps' (aY er) an w w':=by
 obtain ⟨op,ref,pp,a,b,deny,dp,dn,dc⟩:=c
 replace ha:dn≤65536:=ha
 unfold au.doer at *;have T0:Touch Nothing w ((w.alloc (.cells #[.pointer (some ⟨hb,0,none⟩),.int .u64 q,.int .i64 op,.int .i64 ref,.int .u64 pp,.int .u64 a,.int .u64 b,.bool deny,.slice dp dn dc] 103)).alloc (.cells #[.int .i64 0,.int .u64 0,.slice none 0 0,.int .u64 0,.int .u64 0,.int .i64 0,.int .i64 0] 38)):=((Touch.refl _ w).alloc _).alloc _;have hsz:(w.alloc (.cells #[.pointer (some ⟨hb,0,none⟩),.int .u64 q,.int .i64 op,.int .i64 ref,.int .u64 pp,.int .u64 a,.int .u64 b,.bool deny,.slice dp dn dc] 103)).heap.size=w.heap.size+1:=by simp
 have R0:=aC.new (w.alloc (.cells #[.pointer (some ⟨hb,0,none⟩),.int .u64 q,.int .i64 op,.int .i64 ref,.int .u64 pp,.int .u64 a,.int .u64 b,.bool deny,.slice dp dn dc] 103)) #[.int .i64 0,.int .u64 0,.slice none 0 0,.int .u64 0,.int .u64 0,.int .i64 0,.int .i64 0] 38;rw [hsz] at R0;have iL:=Hd (HM _ T0 (R.aj T0));have bG:=Hd R0;have HT0:=Hd T0;have HR:=Hd R;have hlt:=R.lt;have HL:=Hd hlt;clear R HM T0 R0 hsz hlt
 go_enter Tryz.func50,Tryz.ntmps50
 go_wp2_with fail
 generalize (w.alloc (.cells #[.pointer (some ⟨hb,0,none⟩),.int .u64 q,.int .i64 op,.int .i64 ref,.int .u64 pp,.int .u64 a,.int .u64 b,.bool deny,.slice dp dn dc] 103)).alloc (.cells #[.int .i64 0,.int .u64 0,.slice none 0 0,.int .u64 0,.int .u64 0,.int .i64 0,.int .i64 0] 38)=w1 at *;refine iL.out.mono ?_
 rintro e w2 hH;have HH:=Hd hH;obtain ⟨rfl,K',R2,N2,T2⟩:=hH
 have hnot:¬(w.heap.size+1∈hb::s::K.fp):=fun h=>by
  simp only [List.mem_cons] at h;rcases h with h | h | h
  ·have:=HL.out hb (by simp);omega
  ·have:=HL.out s (by simp);omega
  ·have:=HL.out (w.heap.size+1) (by simp [h]);omega
 have B2:=Hd (bG.out.touch T2 hnot);clear R2 N2 T2 hnot;have R3:=B2.out;obtain ⟨z0,f0,z1,f1,z2,f2,z3,f3,z4,f4,z5,f5,z6,f6⟩:=R3.jq;have HB:=Hd (dz R3 (aY er));have bI:=Hd (bJ w2 (w.heap.size+1) (aY er));clear R3;unfold aY at *;unfold iQ at *
 go_wp2_with fail
 obtain ⟨y0,y1,y2,y3,y4,y5,y6⟩:=jr HB.out;simp at y0 y1 y2 y3 y4 y5 y6;exact bodyPost_ret (v:=.agg #[.int .i64 er,.int .u64 0,.slice none 0 0,.int .u64 0,.int .u64 0,.int .i64 0,.int .i64 0]) (by simp [results,Tryz.results50,go_sem,y0,y1,y2,y3,y4,y5,y6]) rfl ⟨aY er,rfl,rfl,aK.out HR.out HT0.out HH.out (by omega) bG.out.lt bI.out⟩
def JO (hb s pb:Nat) (K:ay) (β:Bu) (ps:List Int) (n:Nat) (bs:List Value) (an:aG) (w w':World):Prop :=
 ∃ g,an=⟨0,0,some ⟨g,0,none⟩,n,n,0,0,0,0⟩∧w.heap.size≤g∧aC w' g 5 bs∧ak 0 w' hb s pb K β ps∧Touch (· = hb) w w'
theorem bC.out {w W w1 w2:World} {hb s pb b:Nat} {K:ay} {β:Bu} {ps:List Int} {v:Value} {e:Ending} (R:ak 0 w hb s pb K β ps) (T0:Touch Nothing w W) (H:bC W hb s pb K β ps v e w1) (hb1:w.heap.size≤b) (T2:Touch (· = b) w1 w2) :
  ak 0 w2 hb s pb K β ps∧Touch (· = hb) w w2:=by
 obtain ⟨-,R1,T1⟩:=H;have hl:=R.lt
 have hne:∀ k∈hb::s::pb::K.fp,¬k=b:=by
  intro k hk e;have:=hl k hk;omega
 have hg:=R.ko.size;exact ⟨R1.touch T2 hne (fun k hk e=>by omega),(T0.none_.trans T1).trans' T2 (fun i hi e=>by omega)⟩
theorem MR {w:World} {hb s pb:Nat} {K:ay} {β:Bu} {ps:List Int} (R:ak 0 w hb s pb K β ps) (c:au) (q:Nat) (bs:List Value) (ha:c.a≤65536)
  (HM:∀ W,ak 0 W hb s pb K β ps→Calls Tryz.prog 28 #[.pointer (some ⟨hb,0,none⟩),.int .u64 q,.int .u64 c.a] W (Am W hb s pb K β ps c.a bs)) :
  Calls Tryz.prog 49 #[c.doer hb q] w fun e w'=>∃ an:aG,e=.returned an.val∧JO hb s pb K β ps c.a bs an w w':=by
 obtain ⟨op,ref,pp,a,b,deny,dp,dn,dc⟩:=c
 replace ha:a≤65536:=ha
 unfold au.doer at *;have T0:Touch Nothing w ((w.alloc (.cells #[.pointer (some ⟨hb,0,none⟩),.int .u64 q,.int .i64 op,.int .i64 ref,.int .u64 pp,.int .u64 a,.int .u64 b,.bool deny,.slice dp dn dc] 103)).alloc (.cells #[.int .i64 0,.int .u64 0,.slice none 0 0,.int .u64 0,.int .u64 0,.int .i64 0,.int .i64 0] 38)):=((Touch.refl _ w).alloc _).alloc _;have hsz:(w.alloc (.cells #[.pointer (some ⟨hb,0,none⟩),.int .u64 q,.int .i64 op,.int .i64 ref,.int .u64 pp,.int .u64 a,.int .u64 b,.bool deny,.slice dp dn dc] 103)).heap.size=w.heap.size+1:=by simp
 have R0:=aC.new (w.alloc (.cells #[.pointer (some ⟨hb,0,none⟩),.int .u64 q,.int .i64 op,.int .i64 ref,.int .u64 pp,.int .u64 a,.int .u64 b,.bool deny,.slice dp dn dc] 103)) #[.int .i64 0,.int .u64 0,.slice none 0 0,.int .u64 0,.int .u64 0,.int .i64 0,.int .i64 0] 38;rw [hsz] at R0;have iL:=Hd (HM _ (R.aj T0));have bG:=Hd R0;have HT0:=Hd T0;have HR:=Hd R;have hlt:=R.lt;have HL:=Hd hlt;clear R HM T0 R0 hsz hlt
 go_enter Tryz.func49,Tryz.ntmps49
 go_wp2_with fail
 generalize (w.alloc (.cells #[.pointer (some ⟨hb,0,none⟩),.int .u64 q,.int .i64 op,.int .i64 ref,.int .u64 pp,.int .u64 a,.int .u64 b,.bool deny,.slice dp dn dc] 103)).alloc (.cells #[.int .i64 0,.int .u64 0,.slice none 0 0,.int .u64 0,.int .u64 0,.int .i64 0,.int .i64 0] 38)=w1 at *;refine iL.out.mono ?_
 rintro e w2 ⟨g,hg,G2,hH⟩;have HG:=Hd G2;have HH:=Hd hH;obtain ⟨rfl,R2,T2⟩:=hH
 have hnot:¬(w.heap.size+1=hb):=fun h=>by
  have:=HL.out hb (by simp);omega
 have B2:=Hd (bG.out.touch T2 hnot);have hbg:w.heap.size+1<g:=Nat.lt_of_lt_of_le bG.out.lt hg;clear R2 T2 hnot G2;have R3:=B2.out;obtain ⟨z0,f0,z1,f1,z2,f2,z3,f3,z4,f4,z5,f5,z6,f6⟩:=R3.jq;have HB:=Hd (dz R3 ⟨0,0,some ⟨g,0,none⟩,a,a,0,0,0,0⟩);have bI:=Hd (bJ w2 (w.heap.size+1) ⟨0,0,some ⟨g,0,none⟩,a,a,0,0,0,0⟩);clear R3;unfold iQ at *
 go_wp2_with fail
 obtain ⟨y0,y1,y2,y3,y4,y5,y6⟩:=jr HB.out;simp at y0 y1 y2 y3 y4 y5 y6;have HO:=bC.out HR.out HT0.out HH.out (show w.heap.size≤w.heap.size+1 by omega) bI.out;have hs0:=HT0.out.size
 exact bodyPost_ret (v:=.agg #[.int .i64 0,.int .u64 0,.slice (some ⟨g,0,none⟩) a a,.int .u64 0,.int .u64 0,.int .i64 0,.int .i64 0]) (by simp [results,Tryz.results49,go_sem,y0,y1,y2,y3,y4,y5,y6]) rfl
  ⟨⟨0,0,some ⟨g,0,none⟩,a,a,0,0,0,0⟩,rfl,g,rfl,by omega,HG.out.touch bI.out (fun h=>by omega),HO.1,HO.2⟩
def au.zero:au:=⟨0,0,0,0,0,false,none,0,0⟩
structure lN (w:World) (ws:List (List UInt8)) (gs gf:Nat) (head:List UInt8) (k:Nat) (wr:World):Prop where
 blk:aC wr w.heap.size 43 au.zero.cells
 strs:Strs wr gs ws (some ⟨gs,0,none⟩) ws.length
 forms:aC wr gf 148 mR.toList
 none_:∀ j,j<k→dJ j≠head
 touch:Touch Nothing w wr
 lt:w.heap.size<gs∧gs<wr.heap.size
def xZ (s:ByteArray) (w:World) (e:Ending) (w':World):Prop :=
 ∃ c:au,e=.returned (.tuple #[c.val,.bool (Txt.dG s.data.toList).isSome])∧(∀ x,Txt.dG s.data.toList=some x→bn w' w.heap.size c x)∧Touch Nothing w w'
theorem JQ (c:UInt8) (s:List UInt8):(Txt.aW c s).length≤s.length+1:=by
 induction s with
 | nil=>simp [Txt.aW]
 | cons y s ih =>
  unfold Txt.aW;split
  ·simp;omega
  ·split
   ·simp
   ·rename_i he
    rw [he] at ih;simp at ih ⊢;omega
theorem MS (w:List UInt8) (l:List (List UInt8)):∀ k,k<l.length→l.getD k []=w→(∀ j,j<k→l.getD j []≠w)→Txt.idx w l=some k:=by
 induction l with
 | nil=>intro k h;simp at h
 | cons v l ih =>
  intro k hk he hn;unfold Txt.idx;cases k with
  | zero=>rw [if_pos (by simpa using he)]
  | succ k =>
   rw [if_neg (by simpa using hn 0 (by omega)),ih k (by simpa using hk) (by simpa using he) (fun j hj=>by simpa using hn (j+1) (by omega))];rfl
theorem V7 (w:List UInt8) (l:List (List UInt8)):(∀ j,j<l.length→l.getD j []≠w)→Txt.idx w l=none:=by
 induction l with
 | nil=>intro _;rfl
 | cons v l ih =>
  intro h;unfold Txt.idx;rw [if_neg (by simpa using h 0 (by simp)),ih (fun j hj=>by simpa using h (j+1) (by simpa using hj))];rfl
theorem lN.still {w wr w':World} {ws:List (List UInt8)} {gs gf k:Nat} {head:List UInt8} (R:lN w ws gs gf head k wr) (T:Touch Nothing wr w'):lN w ws gs gf head k w' :=
 ⟨R.blk.touch T (fun h=>h),R.strs.touch T (fun h=>h),R.forms.touch T (fun h=>h),R.none_,R.touch.trans T,⟨R.lt.1,Nat.lt_of_lt_of_le R.lt.2 T.size⟩⟩
theorem lN.next {w wr:World} {ws:List (List UInt8)} {gs gf k:Nat} {head:List UInt8} (R:lN w ws gs gf head k wr) (h:dJ k≠head):lN w ws gs gf head (k+1) wr :=
 ⟨R.blk,R.strs,R.forms,fun j hj=>if e:j=k then e▸h else R.none_ j (by omega),R.touch,R.lt⟩
theorem Uc {s:ByteArray} {head:List UInt8} {rest:List (List UInt8)} (hW:head::rest=Txt.aW 32 s.data.toList) (h:∀ j,j<14→dJ j≠head):Txt.dG s.data.toList=none:=by
 unfold Txt.dG;rw [←hW];simp only [Txt.vW];rw [V7 head Txt.opWords h]
theorem x9 {s:ByteArray} {head:List UInt8} {rest:List (List UInt8)} (hW:head::rest=Txt.aW 32 s.data.toList) {k:Nat} (hk:k<14) (he:dJ k=head) (h:∀ j,j<k→dJ j≠head) :
  Txt.dG s.data.toList=if (bq k).refused && rest.getLast? == some [33] then Txt.aU { Txt.Cd.none (k+1) with deny:=true } (bq k) rest.dropLast else Txt.aU (Txt.Cd.none (k+1)) (bq k) rest:=by
 unfold Txt.dG;rw [←hW];simp only [Txt.vW];rw [MS head Txt.opWords k hk he h];rfl
theorem Ud (k:Nat):(bq k).numbers≤2:=by
 by_cases h:k<14
 ·have:∀ k:Fin 14,(bq k.val).numbers≤2:=by decide +kernel
  exact this ⟨k,h⟩
 ·unfold bq;rw [List.getD_eq_getElem?_getD,List.getElem?_eq_none (by show 14≤k;omega)];decide
def PX (w:World) (x:Txt.Cd) (f:Txt.Form) (ws:List (List UInt8)) (e:Ending) (w':World):Prop :=
 e=.returned (.bool (Txt.aU x f ws).isSome)∧(∃ c',aC w' w.heap.size 43 c'.cells∧∀ x',Txt.aU x f ws=some x'→bn w' (w.heap.size+1) c' x')∧Touch Nothing w w'
def rU (k:Nat) (deny:Bool):Txt.Cd:={ Txt.Cd.none (k+1) with deny:=deny }
def BO (w w3:World) (k:Nat):World:=w3.setCell ⟨w.heap.size,0,none⟩ (.int .i64 (1+(k:Int)))
theorem oJ {w w3:World} {gs gf k0:Nat} {head:List UInt8} {W:List (List UInt8)} (R:lN w W gs gf head k0 w3) (G:bU w) (k:Nat) (ws:List (List UInt8)) (p:Option Addr) (nc:Nat) (hst:Strs w3 gs ws p nc)
  (hsm:∀ x∈ws,x.length≤1048576) (w4:World) (deny:Bool) (hw4:w4=if deny then (BO w w3 k).setCell ⟨w.heap.size,5,none⟩ (.bool true) else BO w w3 k) (fr:Bool) (hfr:(bq k).refused=fr) :
  Calls Tryz.prog 77 #[.pointer (some ⟨w.heap.size,0,none⟩),.agg #[.string ⟨(dJ k).toArray⟩,.bool (bq k).address,.int .i64 (bq k).numbers,.bool (bq k).data,.bool fr],.slice p ws.length nc] w4 (PX w (rU k deny) (bq k) ws):=by
 unfold rU;subst hfr;have T1:=Touch.cellAt w3 w.heap.size 0 (.int .i64 (1+(k:Int)));have B1:=R.blk.set 0 (.int .i64 (1+(k:Int)))
 have hx:Touch (· = w.heap.size) w3 w4∧aC w4 w.heap.size 43 ({ au.zero with op:=1+(k:Int),deny:=deny }:au).cells:=by
  cases deny with
  | false=>rw [hw4];exact ⟨T1,B1⟩
  | true=>rw [hw4];exact ⟨T1.trans (Touch.cellAt (BO w w3 k) w.heap.size 5 (.bool true)),B1.set 5 (.bool true)⟩
 obtain ⟨T,B⟩:=hx;have T0:Touch Nothing w w4:=R.touch.trans' T (fun i hi h=>by omega);have h9:=G.size;have hl:=R.lt;have hs4:=T.size;have hb4:=B.lt
 refine (TV w4 w.heap.size gs ⟨(dJ k).toArray⟩ (bq k) { Txt.Cd.none (k+1) with deny:=deny } { au.zero with op:=1+(k:Int),deny:=deny } ws p nc (Ud k) B
  ⟨by simp [Txt.Cd.none];omega,rfl,rfl,rfl,rfl,rfl,World.ownsRow_nil _ _ _ _⟩ (hst.touch T (by omega)) (by omega) (by omega) (by omega) hsm (G.aj T0)).mono ?_
 rintro e w5 ⟨he,⟨c',h1,h2⟩,h3⟩
 exact ⟨he,⟨c',h1,fun x' hx=>by
  have:=h2 x' hx;exact ⟨this.op,this.ref,this.p,this.a,this.b,this.deny,fM this.own (by omega)⟩⟩,T0.trans' h3 (fun i hi h=>by omega)⟩
def jI (w:World) (b:Nat) (c:au):World :=
 ((((((w.setCell ⟨b,0,none⟩ (.int .i64 c.op)).setCell ⟨b,1,none⟩ (.int .i64 c.ref)).setCell ⟨b,2,none⟩ (.int .u64 c.p)).setCell ⟨b,3,none⟩ (.int .u64 c.a)).setCell ⟨b,4,none⟩ (.int .u64 c.b)).setCell ⟨b,5,none⟩ (.bool c.deny)).setCell ⟨b,6,none⟩ (.slice c.dp c.dn c.dc)
theorem bY (w:World) (b:Nat) (c:au):Touch (· = b) w (jI w b c) :=
 ((((((Touch.cellAt w b 0 _).trans (Touch.cellAt _ b 1 _)).trans (Touch.cellAt _ b 2 _)).trans (Touch.cellAt _ b 3 _)).trans (Touch.cellAt _ b 4 _)).trans (Touch.cellAt _ b 5 _)).trans (Touch.cellAt _ b 6 _)
theorem fI {w:World} {b:Nat} {c0:au} (h:aC w b 43 c0.cells) (c:au):aC (jI w b c) b 43 c.cells :=
 ((((((h.set 0 _).set 1 _).set 2 _).set 3 _).set 4 _).set 5 _).set 6 _
theorem X5 (s:ByteArray) (w:World) (hs:s.size≤1048576) (G:bU w):Calls Tryz.prog 33 #[.string s] w (xZ s w):=by
 have T0:Touch Nothing w (w.alloc (.cells #[.int .i64 0,.int .i64 0,.int .u64 0,.int .u64 0,.int .u64 0,.bool false,.slice none 0 0] 43)):=(Touch.refl _ _).alloc _;have B0:=aC.new w #[.int .i64 0,.int .i64 0,.int .u64 0,.int .u64 0,.int .u64 0,.bool false,.slice none 0 0] 43;have hz0:(w.alloc (.cells #[.int .i64 0,.int .i64 0,.int .u64 0,.int .u64 0,.int .u64 0,.bool false,.slice none 0 0] 43)).heap.size=w.heap.size+1:=by simp
 have wV:=Hd (Et 32 s (w.alloc (.cells #[.int .i64 0,.int .i64 0,.int .u64 0,.int .u64 0,.int .u64 0,.bool false,.slice none 0 0] 43)) hs (G.aj T0));obtain ⟨W,hW⟩:∃ W,W=Txt.aW 32 s.data.toList:=⟨_,rfl⟩;have HW:=Hd hW;have hne:W≠[]:=by rw [hW];exact rA 32 _
 clear hW;have HT0:=Hd T0;have HB0:=Hd B0;have HZ0:=Hd hz0;clear T0 B0 hz0
 obtain ⟨head,rest,rfl⟩:∃ h r,W=h::r:=by
  cases W with
  | nil=>exact absurd rfl hne
  | cons h r=>exact ⟨h,r,rfl⟩
 clear hne
 go_enter Tryz.func33,Tryz.ntmps33
 go_wp2_with fail
 refine wV.out.mono ?_
 rintro e w1 h1;unfold zM at h1;rw [←HW.out] at h1;obtain ⟨gs,hgs,rfl,hst,hlt,T1⟩:=h1;have tq:=Hd hst;have HT1:=Hd (HT0.out.trans T1);have HB1:=Hd (HB0.out.touch T1 (fun h=>h));have nS:=Hd (And.intro (show w.heap.size<gs by have:=HZ0.out;omega) hlt);clear hst T1 HB0 hgs hlt HT0 HZ0
 go_wp2_with fail
 refine (U6 w1).mono ?_
 rintro e w2 ⟨gf,hgf,rfl,hB,T2⟩;have hR:lN w (head::rest) gs gf head 0 w2:=⟨HB1.out.touch T2 (fun h=>h),tq.out.touch T2 (fun h=>h),hB,fun j hj=>absurd hj (by omega),HT1.out.trans T2,⟨nS.out.1,Nat.lt_of_lt_of_le nS.out.2 T2.size⟩⟩;have HR:=Hd hR;clear hR HB1 tq HT1 T2 hgf hB
 go_wp2_with fail
 go_loopw [4,13] (fun v a wr=>∃ k:Nat,k≤14∧a=.int .i64 k∧v=.slice (some ⟨gs,0,none⟩) (rest.length+1) (rest.length+1)∧lN w (head::rest) gs gf head k wr) (fun _ a _=>14-(intOf a).toNat)
 case atStart=>exact ⟨0,by omega,rfl,rfl,HR.out⟩
 case round =>
  obtain ⟨k,hk,rfl,rfl,hR⟩:=hrel;clear HR;have HR:=Hd hR;clear hR;by_cases hlt:k<14
  ·have f0:wr.cell? ⟨gf,k*5,none⟩=some (.string ⟨(dJ k).toArray⟩):=oM HR.out.forms k hlt 0 (by omega);have f1:wr.cell? ⟨gf,k*5+1,none⟩=some (.bool (bq k).address):=oM HR.out.forms k hlt 1 (by omega);have f2:wr.cell? ⟨gf,k*5+2,none⟩=some (.int .i64 (bq k).numbers):=oM HR.out.forms k hlt 2 (by omega);have f3:wr.cell? ⟨gf,k*5+3,none⟩=some (.bool (bq k).data):=oM HR.out.forms k hlt 3 (by omega);have f4:wr.cell? ⟨gf,k*5+4,none⟩=some (.bool (bq k).refused):=oM HR.out.forms k hlt 4 (by omega);have hpos:(0:Int)<((rest.length+1:Nat):Int):=by omega
   have hpos':(0:Int)<(rest.length:Int)+1:=by omega
   have hgs:=HR.out.lt.2;have pI:=HR.out.blk.lt
   have hg0:wr.cell? ⟨gs,0,none⟩=some (.string ⟨head.toArray⟩):=by
    obtain ⟨off,h1,h2⟩:=HR.out.strs.2 (by simp);cases h1;exact h2 0 head rfl
   go_wp2_with fail
   go_quiet (fail)
   have oL:Touch Nothing wr ((wr.alloc (.cells #[.string ⟨(dJ k).toArray⟩,.bool (bq k).address,.int .i64 (bq k).numbers,.bool (bq k).data,.bool (bq k).refused] 148)).drewN nq):=((Touch.refl _ _).alloc _).drewN nq;have Zc:=(aC.new wr #[.string ⟨(dJ k).toArray⟩,.bool (bq k).address,.int .i64 (bq k).numbers,.bool (bq k).data,.bool (bq k).refused] 148).drewN nq;generalize (wr.alloc (.cells #[.string ⟨(dJ k).toArray⟩,.bool (bq k).address,.int .i64 (bq k).numbers,.bool (bq k).data,.bool (bq k).refused] 148)).drewN nq=w3 at *;have HR3:=Hd (HR.out.still oL);have AV:=Hd Zc;clear oL Zc f0 f1 f2 f3 f4 hg0;by_cases he:dJ k=head
   ·have hbe:(dJ k == head)=true:=by rw [he];simp
    rw [hbe,Bool.not_true];clear hbe;have HE:=Hd he;clear he;have z0:w3.cell? ⟨w.heap.size,0,none⟩=some (.int .i64 0):=HR3.out.blk.cell 0;have y0:=HR3.out.blk.free 0;have hb0:w3.cell? ⟨wr.heap.size,0,none⟩=some (.string ⟨(dJ k).toArray⟩):=AV.out.cell 0;have hb1:w3.cell? ⟨wr.heap.size,1,none⟩=some (.bool (bq k).address):=AV.out.cell 1;have hb2:w3.cell? ⟨wr.heap.size,2,none⟩=some (.int .i64 (bq k).numbers):=AV.out.cell 2;have hb3:w3.cell? ⟨wr.heap.size,3,none⟩=some (.bool (bq k).data):=AV.out.cell 3;have hb4:w3.cell? ⟨wr.heap.size,4,none⟩=some (.bool (bq k).refused):=AV.out.cell 4;have acR:k<9223372036854775806:=by omega
    have hws:∀ x∈head::rest,x.length≤1048576:=fun x hx=>by
     rw [HW.out] at hx;have:=Cn 32 _ x hx;rw [Array.length_toList] at this;exact Nat.le_trans this hs
    have hrl:rest.length≤1048577:=by
     have h1:=JQ 32 s.data.toList;rw [←HW.out,Array.length_toList] at h1;have h2:s.data.size=s.size:=rfl;simp at h1;omega
    have V8:=Hd hws;clear hws;obtain ⟨fr,hfr⟩:∃ fr,(bq k).refused=fr:=⟨_,rfl⟩;rw [hfr] at hb4;have Fx:=Hd hfr;clear hfr;cases rest with
    | nil =>
     have kG:=Hd (show Txt.dG s.data.toList=Txt.aU (rU k false) (bq k) [] by rw [x9 HW.out hlt HE.out HR3.out.none_];simp;rfl);have HF:=Hd (fun w4 h=>oJ HR3.out G k [] (some ⟨gs,0,none⟩) 0 (.nil _ _ _ _) (by simp) w4 false h fr Fx.out);cases fr with
     | false =>
      go_wp2_with fail
      refine (HF.out _ rfl).mono ?_
      rintro e w5 ⟨rfl,⟨c',bF,hci⟩,rV⟩;obtain ⟨cop,bN,cp,ca,cb,cd,dA,dB,dD⟩:=c';have z0:w5.cell? ⟨w.heap.size,0,none⟩=some (.int .i64 cop):=bF.cell 0;have z1:w5.cell? ⟨w.heap.size,1,none⟩=some (.int .i64 bN):=bF.cell 1;have z2:w5.cell? ⟨w.heap.size,2,none⟩=some (.int .u64 cp):=bF.cell 2;have z3:w5.cell? ⟨w.heap.size,3,none⟩=some (.int .u64 ca):=bF.cell 3;have z4:w5.cell? ⟨w.heap.size,4,none⟩=some (.int .u64 cb):=bF.cell 4;have z5:w5.cell? ⟨w.heap.size,5,none⟩=some (.bool cd):=bF.cell 5;have z6:w5.cell? ⟨w.heap.size,6,none⟩=some (.slice dA dB dD):=bF.cell 6;have y0:=bF.free 0;have y1:=bF.free 1;have y2:=bF.free 2;have y3:=bF.free 3;have y4:=bF.free 4;have y5:=bF.free 5;have y6:=bF.free 6;have aO:=Hd (fI bF ⟨cop,bN,cp,ca,cb,cd,dA,dB,dD⟩);have bI:=Hd (bY w5 w.heap.size ⟨cop,bN,cp,ca,cb,cd,dA,dB,dD⟩);have rM:=Hd hci;have gG:=Hd rV;clear bF hci rV;unfold jI at *
      go_wp2_with fail
      have x0:=aO.out.cell 0;have x1:=aO.out.cell 1;have x2:=aO.out.cell 2;have x3:=aO.out.cell 3;have x4:=aO.out.cell 4;have x5:=aO.out.cell 5;have x6:=aO.out.cell 6;simp [au.cells] at x0 x1 x2 x3 x4 x5 x6;rw [←kG.out]
      exact bodyPost_ret (v:=.tuple #[.agg #[.int .i64 cop,.int .i64 bN,.int .u64 cp,.int .u64 ca,.int .u64 cb,.bool cd,.slice dA dB dD],.bool (Txt.dG s.data.toList).isSome]) (by simp [results,Tryz.results33,go_sem,x0,x1,x2,x3,x4,x5,x6]) rfl
       ⟨⟨cop,bN,cp,ca,cb,cd,dA,dB,dD⟩,rfl,fun x hx=>by
        rw [kG.out] at hx;have hc:=(rM.out x hx).touch bI.out (fun i h1 _ h=>by omega);exact ⟨hc.op,hc.ref,hc.p,hc.a,hc.b,hc.deny,fM hc.own (by omega)⟩,gG.out.trans' bI.out (fun i hi h=>by omega)⟩
     | true =>
      go_wp2_with fail
      refine (HF.out _ rfl).mono ?_
      rintro e w5 ⟨rfl,⟨c',bF,hci⟩,rV⟩;obtain ⟨cop,bN,cp,ca,cb,cd,dA,dB,dD⟩:=c';have z0:w5.cell? ⟨w.heap.size,0,none⟩=some (.int .i64 cop):=bF.cell 0;have z1:w5.cell? ⟨w.heap.size,1,none⟩=some (.int .i64 bN):=bF.cell 1;have z2:w5.cell? ⟨w.heap.size,2,none⟩=some (.int .u64 cp):=bF.cell 2;have z3:w5.cell? ⟨w.heap.size,3,none⟩=some (.int .u64 ca):=bF.cell 3;have z4:w5.cell? ⟨w.heap.size,4,none⟩=some (.int .u64 cb):=bF.cell 4;have z5:w5.cell? ⟨w.heap.size,5,none⟩=some (.bool cd):=bF.cell 5;have z6:w5.cell? ⟨w.heap.size,6,none⟩=some (.slice dA dB dD):=bF.cell 6;have y0:=bF.free 0;have y1:=bF.free 1;have y2:=bF.free 2;have y3:=bF.free 3;have y4:=bF.free 4;have y5:=bF.free 5;have y6:=bF.free 6;have aO:=Hd (fI bF ⟨cop,bN,cp,ca,cb,cd,dA,dB,dD⟩);have bI:=Hd (bY w5 w.heap.size ⟨cop,bN,cp,ca,cb,cd,dA,dB,dD⟩);have rM:=Hd hci;have gG:=Hd rV;clear bF hci rV;unfold jI at *
      go_wp2_with fail
      have x0:=aO.out.cell 0;have x1:=aO.out.cell 1;have x2:=aO.out.cell 2;have x3:=aO.out.cell 3;have x4:=aO.out.cell 4;have x5:=aO.out.cell 5;have x6:=aO.out.cell 6;simp [au.cells] at x0 x1 x2 x3 x4 x5 x6;rw [←kG.out]
      exact bodyPost_ret (v:=.tuple #[.agg #[.int .i64 cop,.int .i64 bN,.int .u64 cp,.int .u64 ca,.int .u64 cb,.bool cd,.slice dA dB dD],.bool (Txt.dG s.data.toList).isSome]) (by simp [results,Tryz.results33,go_sem,x0,x1,x2,x3,x4,x5,x6]) rfl
       ⟨⟨cop,bN,cp,ca,cb,cd,dA,dB,dD⟩,rfl,fun x hx=>by
        rw [kG.out] at hx;have hc:=(rM.out x hx).touch bI.out (fun i h1 _ h=>by omega);exact ⟨hc.op,hc.ref,hc.p,hc.a,hc.b,hc.deny,fM hc.own (by omega)⟩,gG.out.trans' bI.out (fun i hi h=>by omega)⟩
    | cons r rs =>
     obtain ⟨init,last,hla⟩:∃ init last,r::rs=init++[last]:=⟨(r::rs).dropLast,(r::rs).getLast (by simp),(List.dropLast_concat_getLast (by simp)).symm⟩;have hrl2:rs.length≤1048577:=by simp at hrl;omega
     clear hrl;have hlen:init.length=rs.length:=by have:=congrArg List.length hla;simp at this;omega
     have hcell:∀ i x,(r::rs)[i]? = some x→w3.cell? ⟨gs,1+i,none⟩=some (.string ⟨x.toArray⟩):=fun i x hx=>by
      obtain ⟨off,h1,h2⟩:=HR3.out.strs.2 (by simp);cases h1;have:=h2 (i+1) x (by simpa using hx);rwa [show 0+(i+1)=1+i by omega] at this
     have hcl:w3.cell? ⟨gs,1+rs.length,none⟩=some (.string ⟨last.toArray⟩):=hcell rs.length last (by rw [hla,List.getElem?_append_right (by omega),hlen];simp);have HST:=Hd (show Strs w3 gs (r::rs) (some ⟨gs,1,none⟩) (rs.length+1) from ⟨by simp,fun _=>⟨1,rfl,hcell⟩⟩);have PY:=Hd (show Strs w3 gs init (some ⟨gs,1,none⟩) (rs.length+1) from ⟨by omega,fun _=>⟨1,rfl,fun i x hx=>hcell i x (by rw [hla];exact List.getElem?_append_left (List.getElem?_eq_some_iff.1 hx).1▸hx)⟩⟩);have V9:=Hd hla;have HLE:=Hd hlen;clear hla hlen hcell;cases fr with
     | false =>
      have kG:=Hd (show Txt.dG s.data.toList=Txt.aU (rU k false) (bq k) (r::rs) by rw [x9 HW.out hlt HE.out HR3.out.none_,Fx.out];rfl);have HF:=Hd (fun w4 h=>oJ HR3.out G k (r::rs) (some ⟨gs,1,none⟩) (rs.length+1) HST.out (fun x hx=>V8.out x (List.mem_cons_of_mem _ hx)) w4 false h false Fx.out)
      go_wp2_with fail
      refine (HF.out _ rfl).mono ?_
      rintro e w5 ⟨rfl,⟨c',bF,hci⟩,rV⟩;obtain ⟨cop,bN,cp,ca,cb,cd,dA,dB,dD⟩:=c';have z0:w5.cell? ⟨w.heap.size,0,none⟩=some (.int .i64 cop):=bF.cell 0;have z1:w5.cell? ⟨w.heap.size,1,none⟩=some (.int .i64 bN):=bF.cell 1;have z2:w5.cell? ⟨w.heap.size,2,none⟩=some (.int .u64 cp):=bF.cell 2;have z3:w5.cell? ⟨w.heap.size,3,none⟩=some (.int .u64 ca):=bF.cell 3;have z4:w5.cell? ⟨w.heap.size,4,none⟩=some (.int .u64 cb):=bF.cell 4;have z5:w5.cell? ⟨w.heap.size,5,none⟩=some (.bool cd):=bF.cell 5;have z6:w5.cell? ⟨w.heap.size,6,none⟩=some (.slice dA dB dD):=bF.cell 6;have y0:=bF.free 0;have y1:=bF.free 1;have y2:=bF.free 2;have y3:=bF.free 3;have y4:=bF.free 4;have y5:=bF.free 5;have y6:=bF.free 6;have aO:=Hd (fI bF ⟨cop,bN,cp,ca,cb,cd,dA,dB,dD⟩);have bI:=Hd (bY w5 w.heap.size ⟨cop,bN,cp,ca,cb,cd,dA,dB,dD⟩);have rM:=Hd hci;have gG:=Hd rV;clear bF hci rV;unfold jI at *
      go_wp2_with fail
      have x0:=aO.out.cell 0;have x1:=aO.out.cell 1;have x2:=aO.out.cell 2;have x3:=aO.out.cell 3;have x4:=aO.out.cell 4;have x5:=aO.out.cell 5;have x6:=aO.out.cell 6;simp [au.cells] at x0 x1 x2 x3 x4 x5 x6;rw [←kG.out]
      exact bodyPost_ret (v:=.tuple #[.agg #[.int .i64 cop,.int .i64 bN,.int .u64 cp,.int .u64 ca,.int .u64 cb,.bool cd,.slice dA dB dD],.bool (Txt.dG s.data.toList).isSome]) (by simp [results,Tryz.results33,go_sem,x0,x1,x2,x3,x4,x5,x6]) rfl
       ⟨⟨cop,bN,cp,ca,cb,cd,dA,dB,dD⟩,rfl,fun x hx=>by
        rw [kG.out] at hx;have hc:=(rM.out x hx).touch bI.out (fun i h1 _ h=>by omega);exact ⟨hc.op,hc.ref,hc.p,hc.a,hc.b,hc.deny,fM hc.own (by omega)⟩,gG.out.trans' bI.out (fun i hi h=>by omega)⟩
     | true =>
      by_cases Sg:last = [33]
      ·have kG:=Hd (show Txt.dG s.data.toList=Txt.aU (rU k true) (bq k) init by
        rw [x9 HW.out hlt HE.out HR3.out.none_,Fx.out,V9.out,Sg];simp [rU])
       have HF:=Hd (fun w4 h=>oJ HR3.out G k init (some ⟨gs,1,none⟩) (rs.length+1) PY.out (fun x hx=>V8.out x (by rw [V9.out];simp [hx])) w4 true h true Fx.out);rw [HLE.out] at HF;subst Sg;have z5:w3.cell? ⟨w.heap.size,5,none⟩=some (.bool false):=HR3.out.blk.cell 5;have y5:=HR3.out.blk.free 5
       go_wp2_with fail
       refine (HF.out _ rfl).mono ?_
       rintro e w5 ⟨rfl,⟨c',bF,hci⟩,rV⟩;obtain ⟨cop,bN,cp,ca,cb,cd,dA,dB,dD⟩:=c';have z0:w5.cell? ⟨w.heap.size,0,none⟩=some (.int .i64 cop):=bF.cell 0;have z1:w5.cell? ⟨w.heap.size,1,none⟩=some (.int .i64 bN):=bF.cell 1;have z2:w5.cell? ⟨w.heap.size,2,none⟩=some (.int .u64 cp):=bF.cell 2;have z3:w5.cell? ⟨w.heap.size,3,none⟩=some (.int .u64 ca):=bF.cell 3;have z4:w5.cell? ⟨w.heap.size,4,none⟩=some (.int .u64 cb):=bF.cell 4;have z5:w5.cell? ⟨w.heap.size,5,none⟩=some (.bool cd):=bF.cell 5;have z6:w5.cell? ⟨w.heap.size,6,none⟩=some (.slice dA dB dD):=bF.cell 6;have y0:=bF.free 0;have y1:=bF.free 1;have y2:=bF.free 2;have y3:=bF.free 3;have y4:=bF.free 4;have y5:=bF.free 5;have y6:=bF.free 6;have aO:=Hd (fI bF ⟨cop,bN,cp,ca,cb,cd,dA,dB,dD⟩);have bI:=Hd (bY w5 w.heap.size ⟨cop,bN,cp,ca,cb,cd,dA,dB,dD⟩);have rM:=Hd hci;have gG:=Hd rV;clear bF hci rV;unfold jI at *
       go_wp2_with fail
       have x0:=aO.out.cell 0;have x1:=aO.out.cell 1;have x2:=aO.out.cell 2;have x3:=aO.out.cell 3;have x4:=aO.out.cell 4;have x5:=aO.out.cell 5;have x6:=aO.out.cell 6;simp [au.cells] at x0 x1 x2 x3 x4 x5 x6;rw [←kG.out]
       exact bodyPost_ret (v:=.tuple #[.agg #[.int .i64 cop,.int .i64 bN,.int .u64 cp,.int .u64 ca,.int .u64 cb,.bool cd,.slice dA dB dD],.bool (Txt.dG s.data.toList).isSome]) (by simp [results,Tryz.results33,go_sem,x0,x1,x2,x3,x4,x5,x6]) rfl
        ⟨⟨cop,bN,cp,ca,cb,cd,dA,dB,dD⟩,rfl,fun x hx=>by
         rw [kG.out] at hx;have hc:=(rM.out x hx).touch bI.out (fun i h1 _ h=>by omega);exact ⟨hc.op,hc.ref,hc.p,hc.a,hc.b,hc.deny,fM hc.own (by omega)⟩,gG.out.trans' bI.out (fun i hi h=>by omega)⟩
      ·have kG:=Hd (show Txt.dG s.data.toList=Txt.aU (rU k false) (bq k) (r::rs) by
        rw [x9 HW.out hlt HE.out HR3.out.none_,Fx.out,V9.out];simp [rU,Sg,Txt.Cd.none])
       have HF:=Hd (fun w4 h=>oJ HR3.out G k (r::rs) (some ⟨gs,1,none⟩) (rs.length+1) HST.out (fun x hx=>V8.out x (List.mem_cons_of_mem _ hx)) w4 false h true Fx.out);have acS:(last == [33])=false:=by rw [beq_eq_false_iff_ne];exact Sg
       go_wp2_with fail
       refine (HF.out _ rfl).mono ?_
       rintro e w5 ⟨rfl,⟨c',bF,hci⟩,rV⟩;obtain ⟨cop,bN,cp,ca,cb,cd,dA,dB,dD⟩:=c';have z0:w5.cell? ⟨w.heap.size,0,none⟩=some (.int .i64 cop):=bF.cell 0;have z1:w5.cell? ⟨w.heap.size,1,none⟩=some (.int .i64 bN):=bF.cell 1;have z2:w5.cell? ⟨w.heap.size,2,none⟩=some (.int .u64 cp):=bF.cell 2;have z3:w5.cell? ⟨w.heap.size,3,none⟩=some (.int .u64 ca):=bF.cell 3;have z4:w5.cell? ⟨w.heap.size,4,none⟩=some (.int .u64 cb):=bF.cell 4;have z5:w5.cell? ⟨w.heap.size,5,none⟩=some (.bool cd):=bF.cell 5;have z6:w5.cell? ⟨w.heap.size,6,none⟩=some (.slice dA dB dD):=bF.cell 6;have y0:=bF.free 0;have y1:=bF.free 1;have y2:=bF.free 2;have y3:=bF.free 3;have y4:=bF.free 4;have y5:=bF.free 5;have y6:=bF.free 6;have aO:=Hd (fI bF ⟨cop,bN,cp,ca,cb,cd,dA,dB,dD⟩);have bI:=Hd (bY w5 w.heap.size ⟨cop,bN,cp,ca,cb,cd,dA,dB,dD⟩);have rM:=Hd hci;have gG:=Hd rV;clear bF hci rV;unfold jI at *
       go_wp2_with fail
       have x0:=aO.out.cell 0;have x1:=aO.out.cell 1;have x2:=aO.out.cell 2;have x3:=aO.out.cell 3;have x4:=aO.out.cell 4;have x5:=aO.out.cell 5;have x6:=aO.out.cell 6;simp [au.cells] at x0 x1 x2 x3 x4 x5 x6;rw [←kG.out]
       exact bodyPost_ret (v:=.tuple #[.agg #[.int .i64 cop,.int .i64 bN,.int .u64 cp,.int .u64 ca,.int .u64 cb,.bool cd,.slice dA dB dD],.bool (Txt.dG s.data.toList).isSome]) (by simp [results,Tryz.results33,go_sem,x0,x1,x2,x3,x4,x5,x6]) rfl
        ⟨⟨cop,bN,cp,ca,cb,cd,dA,dB,dD⟩,rfl,fun x hx=>by
         rw [kG.out] at hx;have hc:=(rM.out x hx).touch bI.out (fun i h1 _ h=>by omega);exact ⟨hc.op,hc.ref,hc.p,hc.a,hc.b,hc.deny,fM hc.own (by omega)⟩,gG.out.trans' bI.out (fun i hi h=>by omega)⟩
   ·have hbe:(dJ k == head)=false:=by rw [beq_eq_false_iff_ne];exact he
    rw [hbe,Bool.not_false];clear hbe;have HE:=Hd he;clear he
    go_wp2_with fail
    go_roundw
    case rel=>exact ⟨k+1,by omega,by go_num,rfl,HR3.out.next HE.out⟩
    case measure=>simp [intOf];omega
  ·obtain rfl:k=14:=by omega
   have HN:=Hd (Uc HW.out HR.out.none_);have z0:wr.cell? ⟨w.heap.size,0,none⟩=some (.int .i64 0):=HR.out.blk.cell 0;have z1:wr.cell? ⟨w.heap.size,1,none⟩=some (.int .i64 0):=HR.out.blk.cell 1;have z2:wr.cell? ⟨w.heap.size,2,none⟩=some (.int .u64 0):=HR.out.blk.cell 2;have z3:wr.cell? ⟨w.heap.size,3,none⟩=some (.int .u64 0):=HR.out.blk.cell 3;have z4:wr.cell? ⟨w.heap.size,4,none⟩=some (.int .u64 0):=HR.out.blk.cell 4;have z5:wr.cell? ⟨w.heap.size,5,none⟩=some (.bool false):=HR.out.blk.cell 5;have z6:wr.cell? ⟨w.heap.size,6,none⟩=some (.slice none 0 0):=HR.out.blk.cell 6;have y0:=HR.out.blk.free 0;have y1:=HR.out.blk.free 1;have y2:=HR.out.blk.free 2;have y3:=HR.out.blk.free 3;have y4:=HR.out.blk.free 4;have y5:=HR.out.blk.free 5;have y6:=HR.out.blk.free 6;have aO:=Hd (fI HR.out.blk au.zero);have bI:=Hd (bY wr w.heap.size au.zero);unfold jI au.zero at *
   go_wp2_with fail
   have x0:=aO.out.cell 0;have x1:=aO.out.cell 1;have x2:=aO.out.cell 2;have x3:=aO.out.cell 3;have x4:=aO.out.cell 4;have x5:=aO.out.cell 5;have x6:=aO.out.cell 6;simp [au.cells] at x0 x1 x2 x3 x4 x5 x6
   exact bodyPost_ret (v:=.tuple #[.agg #[.int .i64 0,.int .i64 0,.int .u64 0,.int .u64 0,.int .u64 0,.bool false,.slice none 0 0],.bool false]) (by simp [results,Tryz.results33,go_sem,x0,x1,x2,x3,x4,x5,x6]) rfl
    ⟨au.zero,by rw [HN.out];rfl,fun x hx=>(by rw [HN.out] at hx;cases hx),HR.out.touch.trans' bI.out (fun i hi h=>by omega)⟩
def au.block (c:au):Option Nat:=(Value.slice c.dp c.dn c.dc).ownBlock
structure fO (w:World) (B:Nat) (v:Value) (cs:List au) (xs:List Txt.Cd):Prop where
 own:w.ownsRow B 43 7 v cs.length (cs.flatMap au.cells)
 len:cs.length=xs.length
 each:∀ (i:Nat) c x,cs[i]? = some c→xs[i]? = some x→bn w B c x
 apart:cs.Pairwise fun c d=>∀ g,c.block=some g→d.block≠some g
theorem kY {w:World} {B B' e e' s s' n n':Nat} {v v':Value} {xs xs':List Value} (h:w.ownsRow B e s v n xs) (h':w.ownsRow B' e' s' v' n' xs') (hne:e≠e') (g:Nat) (hg:v.ownBlock=some g):v'.ownBlock≠some g:=by
 intro hg';rcases h.2 with ⟨rfl,_⟩ | ⟨g1,cap,cur,rfl,_,h1,_⟩
 ·cases hg
 ·rcases h'.2 with ⟨rfl,_⟩ | ⟨g2,cap',cur',rfl,_,h2,_⟩
  ·cases hg'
  ·cases hg;cases hg';rw [h1] at h2;cases h2;exact hne rfl
theorem fO.nil (w:World) (B:Nat):fO w B (.slice none 0 0) [] []:=⟨World.ownsRow_nil _ _ _ _,rfl,fun i c x h=>by simp at h,.nil⟩
theorem fO.still {w w':World} {B:Nat} {v:Value} {cs:List au} {xs:List Txt.Cd} (h:fO w B v cs xs) (T:Touch Nothing w w'):fO w' B v cs xs :=
 ⟨aZ h.own T (fun _ _ _ h=>h),h.len,fun i c x hc hx=>(h.each i c x hc hx).touch T (fun _ _ _ h=>h),h.apart⟩
theorem fO.more {w w1 w2 w3:World} {B:Nat} {v v':Value} {cs:List au} {xs:List Txt.Cd} {c:au} {x:Txt.Cd} (h:fO w B v cs xs) (hB:B≤w.heap.size) (T:Touch Nothing w w1) (hc:bn w1 w.heap.size c x) (T2:Touch Nothing w1 w2)
  (hown:w3.ownsRow B 43 7 v' (cs.length+1) (cs.flatMap au.cells++c.cells)) (hg:w2.grownBy w3 v.ownBlock):fO w3 B v' (cs++[c]) (xs++[x]):=by
 have H:=(h.still T).still T2;have TG:Touch (fun i=>v.ownBlock=some i) w2 w3:=Touch.bT hg (fun i hi=>hi);have hc2:=hc.touch T2 (fun _ _ _ h=>h);refine ⟨by simpa using hown,by simp [h.len],fun i d y hd hy=>?_,?_⟩
 ·by_cases hi:i<cs.length
  ·rw [List.getElem?_append_left hi] at hd;rw [List.getElem?_append_left (by rw [←h.len];exact hi)] at hy;have hcd:=H.each i d y hd hy;exact ⟨hcd.op,hcd.ref,hcd.p,hcd.a,hcd.b,hcd.deny,aZ hcd.own TG (fun g _ hg' hv=>kY hcd.own H.own (by decide) g hg' hv)⟩
  ·have hi':i=cs.length:=by
    have:=(List.getElem?_eq_some_iff.1 hd).1;simp at this;omega
   subst hi';rw [List.getElem?_append_right (Nat.le_refl _)] at hd;rw [h.len,List.getElem?_append_right (Nat.le_refl _)] at hy;simp at hd hy;subst hd hy;exact ⟨hc2.op,hc2.ref,hc2.p,hc2.a,hc2.b,hc2.deny,fM (aZ hc2.own TG (fun g _ hg' hv=>kY hc2.own H.own (by decide) g hg' hv)) hB⟩
 ·rw [List.pairwise_append];refine ⟨h.apart,List.pairwise_singleton _ _,fun d hd e he g hg'=>?_⟩;simp at he;subst he;intro hc';obtain ⟨i,hi⟩:=List.getElem?_of_mem hd;have hil:=(List.getElem?_eq_some_iff.1 hi).1;have hcd:=h.each i d _ hi (List.getElem?_eq_getElem (by rw [←h.len];exact hil));have h1:=(World.ownsRow.lt hcd.own g hg').2;have h2:=(World.ownsRow.lt hc.own g hc').1;omega
theorem fO.lower {w:World} {B B':Nat} {v:Value} {cs:List au} {xs:List Txt.Cd} (h:fO w B v cs xs) (hb:B'≤B):fO w B' v cs xs :=
 ⟨fM h.own hb,h.len,fun i c x hc hx=>by
  have:=h.each i c x hc hx;exact ⟨this.op,this.ref,this.p,this.a,this.b,this.deny,fM this.own hb⟩,h.apart⟩
structure AX (w:World) (ws:List (List UInt8)) (gl k:Nat) (v:Value) (wr:World) (cs:List au) (xs:List Txt.Cd):Prop where
 calls:fO wr (gl+1) v cs xs
 law:Txt.nC ws 0 []=Txt.nC (ws.drop k) k xs
 len:xs.length=k
 strs:Strs wr gl ws (some ⟨gl,0,none⟩) ws.length
 touch:Touch Nothing w wr
 lt:w.heap.size≤gl∧gl<wr.heap.size
theorem IE {ws:List (List UInt8)} {xs:List Txt.Cd} {k:Nat} {x:List UInt8} (hx:ws[k]? = some x) (h:Txt.dG x=none):Txt.nC (ws.drop k) k xs=([],k,7):=by
 obtain ⟨hk,he⟩:=List.getElem?_eq_some_iff.1 hx;rw [List.drop_eq_getElem_cons hk,he];simp only [Txt.nC,h]
theorem AX.more {w wr w1 w2 w3:World} {ws:List (List UInt8)} {gl k:Nat} {v v':Value} {cs:List au} {xs:List Txt.Cd} {c:au} {x:List UInt8} {y:Txt.Cd} (R:AX w ws gl k v wr cs xs) (hx:ws[k]? = some x) (hl:Txt.dG x=some y)
  (T1:Touch Nothing wr w1) (hc:bn w1 wr.heap.size c y) (T2:Touch Nothing w1 w2) (hown:w3.ownsRow (gl+1) 43 7 v' (cs.length+1) (cs.flatMap au.cells++c.cells)) (hg:w2.grownBy w3 v.ownBlock) :
  AX w ws gl (k+1) v' w3 (cs++[c]) (xs++[y]):=by
 obtain ⟨hk,he⟩:=List.getElem?_eq_some_iff.1 hx;have TG:Touch (fun i=>v.ownBlock=some i) w2 w3:=Touch.bT hg (fun i hi=>hi);have T3:Touch (fun i=>v.ownBlock=some i) wr w3:=(T1.trans T2).none_.trans TG;refine ⟨R.calls.more R.lt.2 T1 hc T2 hown hg,?_,by simp [R.len],?_,?_,?_⟩
 ·rw [R.law,List.drop_eq_getElem_cons hk,he];simp only [Txt.nC,hl]
 ·exact R.strs.touch T3 (fun h=>by have:=(World.ownsRow.lt R.calls.own gl h).1;omega)
 ·exact R.touch.trans' T3 (fun i hi h=>by have:=(World.ownsRow.lt R.calls.own i h).1;have:=R.lt;omega)
 ·exact ⟨R.lt.1,Nat.lt_of_lt_of_le R.lt.2 T3.size⟩
def ku (s:ByteArray) (w:World) (e:Ending) (w':World):Prop :=
 ∃ dp dn dc cs,e=.returned (.tuple #[.slice dp dn dc,.int .i64 (Txt.dU s.data.toList).2.1,.int .i64 (Txt.dU s.data.toList).2.2])∧fO w' w.heap.size (.slice dp dn dc) cs (Txt.dU s.data.toList).1∧Touch Nothing w w'
theorem Fy:(Tryz.prog.info? 43).map (fun i=>(i.zero,i.size,i.bytes))=some (some (.agg #[.int .i64 0,.int .i64 0,.int .u64 0,.int .u64 0,.int .u64 0,.bool false,.slice none 0 0]),7,72):=by kernel_rfl
theorem JR (s:ByteArray) (w:World) (hs:s.size≤1048576) (h0:0<s.size) (G:bU w) (hn:(Txt.aW 10 (Txt.fC s.data.toList)).length≤4096):Calls Tryz.prog 13 #[.string s] w (ku s w):=by
 have hne:=kR s h0;have hz:s.data.toList.length=s.size:=by rw [Array.length_toList];rfl
 have ht:Lib.trimSuffix s.data.toList (⟨#[10]⟩:ByteArray).data.toList=Txt.fC s.data.toList:=Txt.vN _
 have htl:(Txt.fC s.data.toList).length≤s.size:=by
  unfold Txt.fC;split
  ·rw [List.length_dropLast];omega
  ·omega
 have HW:=Hd (show Txt.dU s.data.toList=Txt.nC (Txt.aW 10 (Txt.fC s.data.toList)) 0 [] by
  unfold Txt.dU;rw [if_neg (by omega),if_neg (by intro e;rw [e] at hz;simp at hz;omega),if_neg (by omega)])
 have Fz:=Hd (Tryz.strings_TrimSuffix s ⟨#[10]⟩ w (by omega));rw [ht] at Fz;have wV:=Hd (Et 10 ⟨(Txt.fC s.data.toList).toArray⟩ w (by rw [aX];omega) G);rw [Ia] at wV;obtain ⟨ws,hws⟩:∃ ws,ws=Txt.aW 10 (Txt.fC s.data.toList):=⟨_,rfl⟩;have Ar:=Hd (show ∀ x∈ws,x.length≤1048576 from fun x hx=>by rw [hws] at hx;have:=Cn 10 _ x hx;omega);unfold zM at wV;rw [←hws] at wV HW hn;clear hws hz ht htl h0;obtain ⟨i0,hi0,hz0,hz1,hz2⟩:=info_parts Fy
 go_enter Tryz.func13,Tryz.ntmps13
 go_wp2_with fail
 refine Fz.out.mono ?_
 rintro e w1 ⟨rfl,h1⟩;obtain rfl:w=w1:=h1.symm
 go_wp2_with fail
 refine wV.out.mono ?_
 rintro e w1 ⟨gl,hgl,rfl,hst,hlt,T1⟩;have HST:=Hd hst;have HT1:=Hd T1;have HGL:=Hd (And.intro hgl hlt);clear hst T1 hgl hlt
 go_wp2_with fail
 go_loopw [2,23] (fun v a wr=>∃ k:Nat,k≤ws.length∧a=.int .i64 k∧∃ cs xs,AX w ws gl k v wr cs xs) (fun _ a _=>ws.length-(intOf a).toNat)
 case atStart=>exact ⟨0,by omega,rfl,[],[],⟨.nil _ _,rfl,rfl,HST.out,HT1.out,HGL.out⟩⟩
 case round =>
  obtain ⟨k,hk,rfl,cs,xs,hR⟩:=hrel;have HR:=Hd hR;clear hR;by_cases hlt:k<ws.length
  ·obtain ⟨x,hx⟩:∃ x,ws[k]? = some x:=⟨_,List.getElem?_eq_getElem hlt⟩
   have hcl:wr.cell? ⟨gl,k,none⟩=some (.string ⟨x.toArray⟩):=by
    obtain ⟨off,h1,h2⟩:=HR.out.strs.2 (by intro e;rw [e] at hlt;simp at hlt);cases h1;have:=h2 k x hx;rwa [show 0+k=k by omega] at this
   have HL:=Hd (X5 ⟨x.toArray⟩ wr (by rw [aX];exact Ar.out x (List.mem_of_getElem? hx)) (G.aj HR.out.touch));rw [show xZ ⟨x.toArray⟩ wr=fun e w'=>∃ c:au,e=.returned (.tuple #[c.val,.bool (Txt.dG x).isSome])∧(∀ y,Txt.dG x=some y→bn w' wr.heap.size c y)∧Touch Nothing wr w' from rfl] at HL;have HX:=Hd hx;clear hx
   go_wp2_with fail
   refine HL.out.mono ?_
   rintro e w2 ⟨c,rfl,hc,T2⟩;have HC:=Hd hc;have HT2:=Hd T2;clear hc T2;obtain ⟨cop,bN,cp,ca,cb,cd,dA,dB,dD⟩:=c;unfold au.val at *;cases pI:Txt.dG x with
   | none =>
    have kG:=Hd pI;clear pI;simp only [Option.isSome_none]
    go_wp2_with fail
    go_ret3
    exact ⟨none,0,0,[],by rw [HW.out,HR.out.law,IE HX.out kG.out];rfl,by rw [HW.out,HR.out.law,IE HX.out kG.out];exact .nil _ _,(HR.out.touch.trans HT2.out).alloc _⟩
   | some y =>
    have kG:=Hd pI;clear pI;simp only [Option.isSome_some];have hkl:cs.length≤4096:=by have:=HR.out.calls.len;have:=HR.out.len;omega
    have HOW:=Hd (HR.out.calls.still HT2.out).own;have FC:(w2.alloc (.cells #[.int .i64 cop,.int .i64 bN,.int .u64 cp,.int .u64 ca,.int .u64 cb,.bool cd,.slice dA dB dD] 43)).heap.size=w2.heap.size+1:=by simp
    have hB2:=aC.new (w2.alloc (.cells #[.int .i64 cop,.int .i64 bN,.int .u64 cp,.int .u64 ca,.int .u64 cb,.bool cd,.slice dA dB dD] 43)) #[.int .i64 cop,.int .i64 bN,.int .u64 cp,.int .u64 ca,.int .u64 cb,.bool cd,.slice dA dB dD] 43;rw [FC] at hB2;have qR:=Hd (fJ hB2);have hbs:gl+1≤w2.heap.size:=Nat.le_trans HR.out.lt.2 HT2.out.size;clear hB2 FC
    go_wp2_with (at_builtin;refine wpList_append_own _ rfl _ _ 25 rfl (gl+1) 43 i0 _ 7 72 Tryz.underlying25 hi0 hz0 hz1 hz2 rfl (by decide) _ _ _ rfl ((HOW.out.alloc _).alloc _) ⟨w2.heap.size+1,0,none⟩ 1 1 [.int .i64 cop,.int .i64 bN,.int .u64 cp,.int .u64 ca,.int .u64 cb,.bool cd,.slice dA dB dD] rfl rfl qR.out (by simp [Value.oneCell']) (by unfold maxLen;omega) (by omega) (by simp;omega) ?_;intro v' w3 hown hgrow _)
    have HO:=Hd hown;have HG:=Hd hgrow;clear hown hgrow
    go_wp2_with fail
    go_roundw
    case rel=>exact ⟨k+1,by omega,by go_num,cs++[⟨cop,bN,cp,ca,cb,cd,dA,dB,dD⟩],xs++[y],HR.out.more (c:=⟨cop,bN,cp,ca,cb,cd,dA,dB,dD⟩) HX.out kG.out HT2.out (HC.out y kG.out) (((Touch.refl _ _).alloc _).alloc _) HO.out HG.out⟩
    case measure=>simp [intOf];omega
  ·obtain rfl:k=ws.length:=by omega
   have HP:=Hd (show Txt.dU s.data.toList=(xs,0,0) by rw [HW.out,HR.out.law,List.drop_length];rfl);have ⟨dp,dn,dc,hv⟩:=jC HR.out.calls.own;subst hv
   go_wp2_with fail
   go_ret3
   exact ⟨dp,dn,dc,cs,by rw [HP.out];rfl,by rw [HP.out];exact HR.out.calls.lower (by have:=HR.out.lt.1;omega),HR.out.touch⟩
theorem JU (s:ByteArray) (w:World) (hs:1048576<s.size):Calls Tryz.prog 13 #[.string s] w (ku s w):=by
 have hz:s.data.toList.length=s.size:=by rw [Array.length_toList];rfl
 have HW:=Hd (show Txt.dU s.data.toList=([],0,6) by unfold Txt.dU;rw [if_pos (by omega)]);have hs':(1048576:Int)<(s.size:Int):=by omega
 clear hz hs
 go_enter Tryz.func13,Tryz.ntmps13
 go_wp2_with fail
 go_ret3
 exact ⟨none,0,0,[],by rw [HW.out];rfl,by rw [HW.out];exact .nil _ _,Touch.refl _ _⟩
theorem GK (s:ByteArray) (w:World) (h:s.data.toList = []):Calls Tryz.prog 13 #[.string s] w (ku s w):=by
 have h':s.toList = []:=by rw [ByteArray.toList_eq];exact h
 have hz:s.size=0:=by
  have h1:s.data.toList.length=s.size:=by rw [Array.length_toList];rfl
  rw [h] at h1;exact h1.symm
 have HW:=Hd (show Txt.dU s.data.toList=([],0,0) by rw [h];rfl);clear h
 go_enter Tryz.func13,Tryz.ntmps13
 go_wp2_with fail
 go_ret3
 exact ⟨none,0,0,[],by rw [HW.out];rfl,by rw [HW.out];exact .nil _ _,Touch.refl _ _⟩
theorem JV (s:ByteArray) (w:World) (hs:s.size≤1048576) (h0:0<s.size) (G:bU w) (hn:4096<(Txt.aW 10 (Txt.fC s.data.toList)).length):Calls Tryz.prog 13 #[.string s] w (ku s w):=by
 have hne:=kR s h0;have hz:s.data.toList.length=s.size:=by rw [Array.length_toList];rfl
 have ht:Lib.trimSuffix s.data.toList (⟨#[10]⟩:ByteArray).data.toList=Txt.fC s.data.toList:=Txt.vN _
 have htl:(Txt.fC s.data.toList).length≤s.size:=by
  unfold Txt.fC;split
  ·rw [List.length_dropLast];omega
  ·omega
 have HW:=Hd (show Txt.dU s.data.toList=([],4096,6) by
  unfold Txt.dU;rw [if_neg (by omega),if_neg (by intro e;rw [e] at hz;simp at hz;omega),if_pos (by omega)])
 have Fz:=Hd (Tryz.strings_TrimSuffix s ⟨#[10]⟩ w (by omega));rw [ht] at Fz;have wV:=Hd (Et 10 ⟨(Txt.fC s.data.toList).toArray⟩ w (by rw [aX];omega) G);rw [Ia] at wV;obtain ⟨n,hN⟩:∃ n,n=(Txt.aW 10 (Txt.fC s.data.toList)).length:=⟨_,rfl⟩;unfold zM at wV;rw [←hN] at wV hn;have hn':(4096:Int)<(n:Int):=by omega
 clear hN hz ht htl h0 hn
 go_enter Tryz.func13,Tryz.ntmps13
 go_wp2_with fail
 refine Fz.out.mono ?_
 rintro e w1 ⟨rfl,h1⟩;obtain rfl:w=w1:=h1.symm
 go_wp2_with fail
 refine wV.out.mono ?_
 rintro e w1 ⟨gl,hgl,rfl,hst,hlt,T1⟩;have HT1:=Hd T1;clear hst T1 hgl hlt
 go_wp2_with fail
 go_ret3
 exact ⟨none,0,0,[],by rw [HW.out];rfl,by rw [HW.out];exact .nil _ _,HT1.out⟩
theorem MU (s:ByteArray) (w:World) (G:bU w):Calls Tryz.prog 13 #[.string s] w (ku s w):=by
 by_cases hl:1048576<s.size
 ·exact JU s w hl
 ·by_cases h0:0<s.size
  ·by_cases hn:4096<(Txt.aW 10 (Txt.fC s.data.toList)).length
   ·exact JV s w (by omega) h0 G hn
   ·exact JR s w (by omega) h0 G (by omega)
  ·refine GK s w ?_
   have hz:s.data.toList.length=s.size:=by rw [Array.length_toList];rfl
   exact List.eq_nil_of_length_eq_zero (by omega)
structure An where
 e:Int
 v:Nat
 data:List UInt8
 h:Nat
 l:Nat
 bl:Int
 fr:Int
def aG.block (a:aG):Option Nat:=(Value.slice a.dp a.dn a.dc).ownBlock
structure iI (w:World) (a:aG) (x:An):Prop where
 e:a.e=x.e
 v:a.v=x.v
 h:a.h=x.h
 l:a.l=x.l
 bl:a.bl=x.bl
 fr:a.fr=x.fr
 own:w.ownsRow 0 5 1 (.slice a.dp a.dn a.dc) x.data.length (bR x.data)
theorem iI.touch {w w':World} {a:aG} {x:An} {S:Nat→Prop} (h:iI w a x) (T:Touch S w w') (hs:∀ g,a.block=some g→¬S g):iI w' a x :=
 ⟨h.e,h.v,h.h,h.l,h.bl,h.fr,aZ h.own T (fun g _ hg=>hs g hg)⟩
def Stepped (w:World) (hb s pb:Nat) (K:ay) (β':Bu) (ps':List Int) (x:An) (e:Ending) (w':World):Prop :=
 ∃ a:aG,e=.returned a.val∧∃ K',ak 0 w' hb s pb K' β' ps'∧K.Next w K'∧Touch (·∈hb::s::K.fp) w w'∧iI w' a x∧∀ g,a.block=some g→w.heap.size≤g∧g∉hb::s::pb::K'.fp
structure Callers (w:World) (hb s pb:Nat) (K:ay) (gc cap:Nat) (cs:List au) (cx:List Txt.Cd):Prop where
 calls:fO w 0 (.slice (some ⟨gc,0,none⟩) cs.length cap) cs cx
 away:gc∉hb::s::pb::K.fp
 data:∀ c∈cs,∀ g,c.block=some g→g∉hb::s::pb::K.fp
structure iU (w:World) (B hb s pb:Nat) (K:ay) (v:Value) (aa:List aG) (ax:List An):Prop where
 own:w.ownsRow B 38 7 v aa.length (aa.flatMap aG.cells)
 len:aa.length=ax.length
 each:∀ (i:Nat) a x,aa[i]? = some a→ax[i]? = some x→iI w a x
 away:∀ g,v.ownBlock=some g→g∉hb::s::pb::K.fp
 data:∀ a∈aa,∀ g,a.block=some g→g∉hb::s::pb::K.fp
theorem mZ {w:World} {hb s pb:Nat} {K K':ay} {g:Nat} (N:K.Next w K') (h:g∉hb::s::pb::K.fp) (hl:g<w.heap.size):g∉hb::s::pb::K'.fp:=by
 simp only [List.mem_cons,not_or] at h ⊢;refine ⟨h.1,h.2.1,h.2.2.1,fun hk=>?_⟩;rcases N.fresh g hk with h' | h'
 ·exact h.2.2.2 h'
 ·omega
theorem rW {hb s pb:Nat} {K:ay} {g:Nat} (h:g∉hb::s::pb::K.fp):¬(g∈hb::s::K.fp):=by
 simp only [List.mem_cons,not_or] at h ⊢;exact ⟨h.1,h.2.1,h.2.2.2⟩
theorem Callers.step {w w':World} {hb s pb:Nat} {K K':ay} {gc cap:Nat} {cs:List au} {cx:List Txt.Cd} (C:Callers w hb s pb K gc cap cs cx) (N:K.Next w K') (T:Touch (·∈hb::s::K.fp) w w'):Callers w' hb s pb K' gc cap cs cx:=by
 have hcl:∀ c∈cs,∀ g,c.block=some g→g<w.heap.size:=fun c hc g hg=>by
  obtain ⟨i,hi⟩:=List.getElem?_of_mem hc;have hil:=(List.getElem?_eq_some_iff.1 hi).1;exact (World.ownsRow.lt (C.calls.each i c _ hi (List.getElem?_eq_getElem (by rw [←C.calls.len];exact hil))).own g hg).2
 refine ⟨⟨aZ C.calls.own T (fun g _ hg=>?_),C.calls.len,fun i c x hc hx=>?_,C.calls.apart⟩,?_,fun c hc g hg=>mZ N (C.data c hc g hg) (hcl c hc g hg)⟩
 ·cases hg;exact rW C.away
 ·have h:=C.calls.each i c x hc hx;exact ⟨h.op,h.ref,h.p,h.a,h.b,h.deny,aZ h.own T (fun g _ hg=>rW (C.data c (List.mem_of_getElem? hc) g hg))⟩
 ·by_cases h0:0<cs.length
  ·exact mZ N C.away (World.ownsRow.lt C.calls.own gc rfl).2
  ·exact mZ N C.away (World.ownsRow.lt C.calls.own gc rfl).2
theorem iU.step {w w':World} {B hb s pb:Nat} {K K':ay} {v:Value} {aa:List aG} {ax:List An} (A:iU w B hb s pb K v aa ax) (N:K.Next w K') (T:Touch (·∈hb::s::K.fp) w w'):iU w' B hb s pb K' v aa ax:=by
 have hal:∀ a∈aa,∀ g,a.block=some g→g<w.heap.size:=fun a ha g hg=>by
  obtain ⟨i,hi⟩:=List.getElem?_of_mem ha;have hil:=(List.getElem?_eq_some_iff.1 hi).1;exact (World.ownsRow.lt (A.each i a _ hi (List.getElem?_eq_getElem (by rw [←A.len];exact hil))).own g hg).2
 exact ⟨aZ A.own T (fun g _ hg=>rW (A.away g hg)),A.len,fun i a x ha hx=>(A.each i a x ha hx).touch T (fun g hg=>rW (A.data a (List.mem_of_getElem? ha) g hg)),
  fun g hg=>mZ N (A.away g hg) (World.ownsRow.lt A.own g hg).2,fun a ha g hg=>mZ N (A.data a ha g hg) (hal a ha g hg)⟩
theorem iU.still {w w':World} {B hb s pb:Nat} {K:ay} {v:Value} {aa:List aG} {ax:List An} (A:iU w B hb s pb K v aa ax) (T:Touch Nothing w w'):iU w' B hb s pb K v aa ax :=
 A.step (ay.Next.refl _ _) T.none_
theorem Callers.still {w w':World} {hb s pb:Nat} {K:ay} {gc cap:Nat} {cs:List au} {cx:List Txt.Cd} (C:Callers w hb s pb K gc cap cs cx) (T:Touch Nothing w w'):Callers w' hb s pb K gc cap cs cx :=
 C.step (ay.Next.refl _ _) T.none_
def MV (hb s pb:Nat) (B:Nat) (cs:List au) (cx:List Txt.Cd) (ax:List An) (st:Nat→Bu × List Int) (gc cap:Nat):Prop :=
 ∀ (k:Nat) (c:au) (a:An) (w:World) (K:ay) (v:Value) (aa:List aG),cs[k]? = some c→ax[k]? = some a→ak 0 w hb s pb K (st k).1 (st k).2→Callers w hb s pb K gc cap cs cx →
  iU w B hb s pb K v aa (ax.take k)→aa.length=k→Calls Tryz.prog 22 #[.pointer (some ⟨hb,0,none⟩),c.val,v] w (Stepped w hb s pb K (st (k+1)).1 (st (k+1)).2 a)
structure qw (w:World) (hb s pb:Nat) (K0:ay) (cs:List au) (cx:List Txt.Cd) (ax:List An) (st:Nat→Bu × List Int) (gc cap k:Nat) (v:Value) (wr:World) (K:ay) (aa:List aG):Prop where
 heap:ak 0 wr hb s pb K (st k).1 (st k).2
 callers:Callers wr hb s pb K gc cap cs cx
 answers:iU wr w.heap.size hb s pb K v aa (ax.take k)
 len:aa.length=k
 next:K0.Next w K
 touch:Touch (·∈hb::s::K0.fp) w wr
 low:9≤w.heap.size
theorem kZ {w:World} {hb s pb gc cap:Nat} {K:ay} {cs:List au} {cx:List Txt.Cd} (C:Callers w hb s pb K gc cap cs cx) (k:Nat) (c:au) (hk:cs[k]? = some c) (j:Nat) (u:Value) (hu:c.cells[j]? = some u) :
  w.cell? ⟨gc,k*7+j,none⟩=some u:=by
 have hkl:=(List.getElem?_eq_some_iff.1 hk).1;have hj:=(List.getElem?_eq_some_iff.1 hu).1;have Df:j<7:=by simpa [au.cells] using hj
 rw [World.ownsRow.cellAt C.calls.own (k*7+j) (by omega)]
 have gen:∀ (l:List au) (i:Nat),l[i]? = some c→(l.flatMap au.cells)[i*7+j]? = some u:=by
  intro l
  induction l with
  | nil=>intro i h;simp at h
  | cons d l ih =>
   intro i h;cases i with
   | zero =>
    simp at h;subst h;rw [List.flatMap_cons,List.getElem?_append_left (by simpa [au.cells] using Df)];simpa using hu
   | succ i =>
    rw [List.flatMap_cons,List.getElem?_append_right (by simp [au.cells];omega)];have:=ih i (by simpa using h);rw [←this]
    congr 1
    simp [au.cells];omega
 exact gen cs k hk
theorem qw.more {w:World} {hb s pb:Nat} {K0:ay} {cs:List au} {cx:List Txt.Cd} {ax:List An} {st:Nat→Bu × List Int} {gc cap k:Nat} {v:Value} {wr w1 w2 w3:World} {K K':ay} {aa:List aG} {a:aG} {x:An} {o:Obj} {g c':Nat}
  (R:qw w hb s pb K0 cs cx ax st gc cap k v wr K aa) (hx:ax[k]? = some x) (T1:Touch Nothing wr w1) (H:ak 0 w2 hb s pb K' (st (k+1)).1 (st (k+1)).2) (N:K.Next w1 K') (T2:Touch (·∈hb::s::K.fp) w1 w2)
  (A:iI w2 a x) (F:∀ g,a.block=some g→w1.heap.size≤g∧g∉hb::s::pb::K'.fp) (hown:w3.ownsRow w.heap.size 38 7 (.slice (some ⟨g,0,none⟩) (aa.length+1) c') (aa.length+1) (aa.flatMap aG.cells++a.cells))
  (hg:(w2.alloc o).grownBy w3 v.ownBlock) (hat:v.ownBlock=some g∨g=w2.heap.size+1):qw w hb s pb K0 cs cx ax st gc cap (k+1) (.slice (some ⟨g,0,none⟩) (aa.length+1) c') w3 K' (aa++[a]):=by
 have hA:=((R.answers.still T1).step N T2);have hC:=((R.callers.still T1).step N T2);have N0:K.Next wr K':=⟨N.bb,N.sb,N.mb,fun i hi=>(N.fresh i hi).elim .inl (fun h=>.inr (Nat.le_trans T1.size h))⟩;have TG:Touch (fun i=>v.ownBlock=some i) w2 w3:=((Touch.refl _ w2).alloc o).none_.trans (Touch.bT hg (fun i hi=>hi));have hvl:∀ i,v.ownBlock=some i→w.heap.size≤i∧i<wr.heap.size:=fun i hi=>World.ownsRow.lt R.answers.own i hi
 have hH:=H.lt;have h9:=R.low;have hkind:∀ (d:aG) (y:An),iI w2 d y→iI w3 d y:=fun d y hd=>hd.touch TG (fun i hi hv=>kY hd.own hA.own (by decide) i hi hv)
 have JW:g∉hb::s::pb::K'.fp:=by
  rcases hat with h | h
  ·exact hA.away g h
  ·exact fun hm=>by have:=hH g hm;omega
 refine ⟨H.touch TG (fun i hi hv=>hA.away i hv hi) (fun i hi hv=>by have:=hvl i hv;omega),?_,?_,by simp [R.len],R.next.trans N0 R.touch.size,?_,R.low⟩
 ·refine ⟨⟨aZ hC.calls.own TG (fun i _ hi hv=>kY hC.calls.own hA.own (by decide) i hi hv),hC.calls.len,fun i c y hc hy=>?_,hC.calls.apart⟩,hC.away,hC.data⟩;have h:=hC.calls.each i c y hc hy;exact ⟨h.op,h.ref,h.p,h.a,h.b,h.deny,aZ h.own TG (fun i _ hi hv=>kY h.own hA.own (by decide) i hi hv)⟩
 ·have hxl:=(List.getElem?_eq_some_iff.1 hx).1
  have htk:ax.take (k+1)=ax.take k++[x]:=by
   rw [List.take_add_one,hx];rfl
  refine ⟨by simpa using hown,by rw [htk,List.length_append,List.length_append,hA.len];rfl,fun i d y hd hy=>?_,fun i hi=>by cases hi;exact JW,fun d hd i hi=>?_⟩
  ·rw [htk] at hy;by_cases hi:i<aa.length
   ·rw [List.getElem?_append_left hi] at hd;rw [List.getElem?_append_left (by rw [←hA.len];exact hi)] at hy;exact hkind d y (hA.each i d y hd hy)
   ·have hi':i=aa.length:=by
     have:=(List.getElem?_eq_some_iff.1 hd).1;simp at this;omega
    subst hi';rw [List.getElem?_append_right (Nat.le_refl _)] at hd;rw [hA.len,List.getElem?_append_right (Nat.le_refl _)] at hy;simp at hd hy;subst hd hy;exact hkind _ _ A
  ·rcases List.mem_append.1 hd with hd | hd
   ·exact hA.data d hd i hi
   ·simp at hd;subst hd;exact (F i hi).2
 ·have T3:Touch (fun i=>i∈hb::s::K.fp∨v.ownBlock=some i) wr w3:=(T1.none_.trans (T2.mono (fun _ _ h=>.inl h))).trans (TG.mono (fun _ _ h=>.inr h));refine R.touch.trans' T3 (fun i hi h=>?_);rcases h with h | h
  ·simp only [List.mem_cons] at h ⊢;rcases h with h | h | h
   ·exact .inl h
   ·exact .inr (.inl h)
   ·rcases R.next.fresh i h with h | h
    ·exact .inr (.inr h)
    ·omega
  ·have:=hvl i h;omega
theorem MW:(Tryz.prog.info? 38).map (fun i=>(i.zero,i.size,i.bytes))=some (some (.agg #[.int .i64 0,.int .u64 0,.slice none 0 0,.int .u64 0,.int .u64 0,.int .i64 0,.int .i64 0]),7,72):=by kernel_rfl
def Wd (w:World) (hb s pb:Nat) (K0:ay) (cs:List au) (cx:List Txt.Cd) (ax:List An) (st:Nat→Bu × List Int) (gc cap:Nat) (e:Ending) (w':World):Prop :=
 ∃ K aa dp dn dc,e=.returned (.tuple #[.slice dp dn dc,.int .i64 0])∧qw w hb s pb K0 cs cx ax st gc cap cs.length (.slice dp dn dc) w' K aa
theorem X6 {w:World} {hb s pb:Nat} {K0:ay} {cs:List au} {cx:List Txt.Cd} {ax:List An} {st:Nat→Bu × List Int} {gc cap:Nat} (R:ak 0 w hb s pb K0 (st 0).1 (st 0).2) (C:Callers w hb s pb K0 gc cap cs cx)
  (hn:cs.length≤4096) (ha:ax.length=cs.length) (H:MV hb s pb w.heap.size cs cx ax st gc cap) :
  Calls Tryz.prog 15 #[.pointer (some ⟨hb,0,none⟩),.slice (some ⟨gc,0,none⟩) cs.length cap] w (Wd w hb s pb K0 cs cx ax st gc cap):=by
 have bG:=Hd (show qw w hb s pb K0 cs cx ax st gc cap 0 (.slice none 0 0) w K0 [] from
  ⟨R,C,⟨World.ownsRow_nil _ _ _ _,by simp,fun i a x h=>by simp at h,fun g h=>by simp [Value.ownBlock] at h,fun a h=>by simp at h⟩,rfl,ay.Next.refl _ _,Touch.refl _ _,R.ko.size⟩)
 have HS:=Hd H;obtain ⟨i0,hi0,hz0,hz1,hz2⟩:=info_parts MW;obtain ⟨n,hN⟩:∃ n,cs.length=n:=⟨_,rfl⟩;rw [hN] at hn ⊢;have HN:=Hd hN;clear R C H hN
 go_enter Tryz.func15,Tryz.ntmps15
 go_wp2_with fail
 go_loopw [6,14] (fun v a wr=>∃ k:Nat,k≤n∧a=.int .i64 k∧∃ K aa,qw w hb s pb K0 cs cx ax st gc cap k v wr K aa) (fun _ a _=>n-(intOf a).toNat)
 case atStart=>exact ⟨0,by omega,rfl,K0,[],bG.out⟩
 case round =>
  obtain ⟨k,hk,rfl,K,aa,hR⟩:=hrel;have HR:=Hd hR;clear hR;by_cases hlt:k<n
  ·obtain ⟨c,hc⟩:∃ c,cs[k]? = some c:=⟨_,List.getElem?_eq_getElem (by have:=HN.out;omega)⟩;obtain ⟨x,hx⟩:∃ x,ax[k]? = some x:=⟨_,List.getElem?_eq_getElem (by have:=HN.out;omega)⟩;have HC:=Hd hc;have HX:=Hd hx;clear hc hx;obtain ⟨vp,vn,vc,hv⟩:=jC HR.out.answers.own;subst hv;obtain ⟨cop,bN,cp,ca,cb,cd,dA,dB,dD⟩:=c;have z0:wr.cell? ⟨gc,k*7,none⟩=some (.int .i64 cop):=kZ HR.out.callers k _ HC.out 0 _ rfl;have z1:wr.cell? ⟨gc,k*7+1,none⟩=some (.int .i64 bN):=kZ HR.out.callers k _ HC.out 1 _ rfl;have z2:wr.cell? ⟨gc,k*7+2,none⟩=some (.int .u64 cp):=kZ HR.out.callers k _ HC.out 2 _ rfl;have z3:wr.cell? ⟨gc,k*7+3,none⟩=some (.int .u64 ca):=kZ HR.out.callers k _ HC.out 3 _ rfl;have z4:wr.cell? ⟨gc,k*7+4,none⟩=some (.int .u64 cb):=kZ HR.out.callers k _ HC.out 4 _ rfl;have z5:wr.cell? ⟨gc,k*7+5,none⟩=some (.bool cd):=kZ HR.out.callers k _ HC.out 5 _ rfl;have z6:wr.cell? ⟨gc,k*7+6,none⟩=some (.slice dA dB dD):=kZ HR.out.callers k _ HC.out 6 _ rfl;have hT1:Touch Nothing wr (wr.alloc (.cells #[.int .i64 cop,.int .i64 bN,.int .u64 cp,.int .u64 ca,.int .u64 cb,.bool cd,.slice dA dB dD] 43)):=(Touch.refl _ _).alloc _;have HST:=Hd (HS.out k _ x _ K (.slice vp vn vc) aa HC.out HX.out (HR.out.heap.aj hT1) (HR.out.callers.still hT1) (HR.out.answers.still hT1) HR.out.len);have HT1:=Hd hT1;clear hT1;unfold au.val at HST
   go_wp2_with fail
   refine HST.out.mono ?_
   rintro e w2 ⟨a,rfl,K',hR',hN',hT',hA,hF⟩;obtain ⟨ae,av,fE,eB,adc,ah,al,gH,gI⟩:=a;unfold aG.val at *;have HH:=Hd hR';have l9:=Hd hN';have HT2:=Hd hT';have HA:=Hd hA;have HF:=Hd hF;clear hR' hN' hT' hA hF;have Wh:=Hd ((HR.out.answers.still HT1.out).step l9.out HT2.out);have hB2:=aC.new w2 #[.int .i64 ae,.int .u64 av,.slice fE eB adc,.int .u64 ah,.int .u64 al,.int .i64 gH,.int .i64 gI] 38;have qR:=Hd (fJ hB2);have hkl:aa.length≤4096:=by have:=HR.out.len;omega
   have hbs:w.heap.size≤w2.heap.size:=Nat.le_trans HR.out.touch.size (Nat.le_trans HT1.out.size HT2.out.size);clear hB2
   go_wp2_with (at_builtin;refine wpList_append_lies _ rfl _ _ 30 rfl w.heap.size 38 i0 _ 7 72 Tryz.underlying30 hi0 hz0 hz1 hz2 rfl (by decide) _ _ _ rfl (Wh.out.own.alloc _) ⟨w2.heap.size,0,none⟩ 1 1 [.int .i64 ae,.int .u64 av,.slice fE eB adc,.int .u64 ah,.int .u64 al,.int .i64 gH,.int .i64 gI] rfl rfl qR.out (by simp [Value.oneCell']) (by omega) (by unfold maxLen;omega) (by omega) (by simp;omega) (w2.heap.size+1) (by simp) ?_;intro gg cap' w3 hown hgrow hat Ep)
   have HO:=Hd hown;have HG:=Hd hgrow;have iW:=Hd hat;clear hown hgrow hat
   go_wp2_with fail
   go_roundw
   case rel=>exact ⟨k+1,by omega,by go_num,K',aa++[⟨ae,av,fE,eB,adc,ah,al,gH,gI⟩],HR.out.more (a:=⟨ae,av,fE,eB,adc,ah,al,gH,gI⟩) HX.out HT1.out HH.out l9.out HT2.out HA.out HF.out HO.out HG.out iW.out⟩
   case measure=>simp [intOf];omega
  ·obtain rfl:k=n:=by omega
   obtain ⟨vp,vn,vc,hv⟩:=jC HR.out.answers.own;subst hv
   go_wp2_with fail
   go_ret2
   exact ⟨K,aa,vp,vn,vc,rfl,by rw [HN.out];exact HR.out⟩
def kC:List (Int × Nat):=[(1,39),(2,40),(3,41),(4,42),(5,43),(6,44),(7,45),(8,46),(9,47),(10,48),(11,49),(12,50),(13,51),(14,52)]
theorem wW {w:World} (hb q:Nat) (c:au) (av:Value) (S:Nat→Prop) (hS:∀ k,S k→k<w.heap.size) (Q:aG→World→World→Prop) (hQ:∀ an W W1,Q an W W1→Touch S W W1)
  (f:Nat) (hop:(kC.reverse.find? (fun p=>p.1 == c.op)).map Prod.snd=some f) (hwf:(Lit.int .i64 c.op).wf=true) (hcf:∀ (us:Array Value) (W:World),(callFunc f us).run Tryz.prog W=.ok (.enter f us) W)
  (jZ:Hid (∀ W,Touch Nothing w W→Calls Tryz.prog 38 #[c.val,av] W fun e w'=>e=.returned (.tuple #[.int .u64 q,.bool true])∧Touch Nothing W w'))
  (wX:Hid (∀ W,Touch Nothing w W→Calls Tryz.prog f #[c.doer hb q] W fun e w'=>∃ an:aG,e=.returned an.val∧Q an W w')) :
  Calls Tryz.prog 22 #[.pointer (some ⟨hb,0,none⟩),c.val,av] w (Done w Q):=by
 have HS:=Hd hS;have HQ:=Hd hQ;obtain ⟨op,ref,p,a,b,deny,dp,dn,dc⟩:=c;have Ac:=Hd (show (kC.reverse.find? (fun p=>p.1 == op)).map Prod.snd=some f from hop);have FD:=Hd (show (Lit.int .i64 op).wf=true from hwf);have kF:=Hd hcf;clear hop hwf hcf;unfold au.val au.doer at *;clear hS hQ
 go_enter Tryz.func22,Tryz.ntmps22
 go_wp2_with fail
 refine (jZ.out _ (((Touch.refl _ w).alloc _).alloc _)).mono ?_
 rintro e w1 ⟨rfl,T1⟩;have B0:=(((aC.new w #[.int .i64 op,.int .i64 ref,.int .u64 p,.int .u64 a,.int .u64 b,.bool deny,.slice dp dn dc] 43).alloc (.cells #[.int .i64 0,.int .u64 0,.slice none 0 0,.int .u64 0,.int .u64 0,.int .i64 0,.int .i64 0] 38)).touch T1 (fun h=>h));have R0:=((aC.new (w.alloc (.cells #[.int .i64 op,.int .i64 ref,.int .u64 p,.int .u64 a,.int .u64 b,.bool deny,.slice dp dn dc] 43)) #[.int .i64 0,.int .u64 0,.slice none 0 0,.int .u64 0,.int .u64 0,.int .i64 0,.int .i64 0] 38).touch T1 (fun h=>h));have hsz:(w.alloc (.cells #[.int .i64 op,.int .i64 ref,.int .u64 p,.int .u64 a,.int .u64 b,.bool deny,.slice dp dn dc] 43)).heap.size=w.heap.size+1:=by simp
 rw [hsz] at R0;have HT1:=Hd ((((Touch.refl Nothing w).alloc (.cells #[.int .i64 op,.int .i64 ref,.int .u64 p,.int .u64 a,.int .u64 b,.bool deny,.slice dp dn dc] 43)).alloc (.cells #[.int .i64 0,.int .u64 0,.slice none 0 0,.int .u64 0,.int .u64 0,.int .i64 0,.int .i64 0] 38)).trans T1);have k0:w1.cell? ⟨w.heap.size,0,none⟩=some (.int .i64 op):=B0.cell 0;have k1:w1.cell? ⟨w.heap.size,1,none⟩=some (.int .i64 ref):=B0.cell 1;have k2:w1.cell? ⟨w.heap.size,2,none⟩=some (.int .u64 p):=B0.cell 2;have k3:w1.cell? ⟨w.heap.size,3,none⟩=some (.int .u64 a):=B0.cell 3;have k4:w1.cell? ⟨w.heap.size,4,none⟩=some (.int .u64 b):=B0.cell 4;have k5:w1.cell? ⟨w.heap.size,5,none⟩=some (.bool deny):=B0.cell 5;have k6:w1.cell? ⟨w.heap.size,6,none⟩=some (.slice dp dn dc):=B0.cell 6;have HB0:=Hd B0;have bG:=Hd R0;clear B0 R0 T1 hsz;have zm:=Hd (show ¬(w.heap.size=w1.heap.size+1) by have:=HB0.out.lt;omega);have hmm:=@run_makeMap Tryz.prog;have zK:∀ (fn:Fn) (first cap:Array Value) (w:World),(Instr.makeFunc fn first cap).run Tryz.prog w=.ok (.func fn first cap) w:=fun _ _ _ _=>rfl
 have HM:=Hd (nJ.made (w1.alloc (.cells #[.pointer (some ⟨hb,0,none⟩),.int .u64 q,.int .i64 op,.int .i64 ref,.int .u64 p,.int .u64 a,.int .u64 b,.bool deny,.slice dp dn dc] 103)) (.agg #[.pointer (some ⟨hb,0,none⟩),.int .u64 q,.int .i64 op,.int .i64 ref,.int .u64 p,.int .u64 a,.int .u64 b,.bool deny,.slice dp dn dc]));have gN:=Hd ((aC.new w1 #[.pointer (some ⟨hb,0,none⟩),.int .u64 q,.int .i64 op,.int .i64 ref,.int .u64 p,.int .u64 a,.int .u64 b,.bool deny,.slice dp dn dc] 103).alloc (.map #[] 0));have TT:Touch Nothing w1 ((w1.alloc (.cells #[.pointer (some ⟨hb,0,none⟩),.int .u64 q,.int .i64 op,.int .i64 ref,.int .u64 p,.int .u64 a,.int .u64 b,.bool deny,.slice dp dn dc] 103)).alloc (.map #[] 0)):=((Touch.refl Nothing w1).alloc _).alloc _;have oU:=Hd TT;have HT:=Hd (Touch.refl (· = w1.heap.size+1) ((w1.alloc (.cells #[.pointer (some ⟨hb,0,none⟩),.int .u64 q,.int .i64 op,.int .i64 ref,.int .u64 p,.int .u64 a,.int .u64 b,.bool deny,.slice dp dn dc] 103)).alloc (.map #[] 0)));have gY:=Hd (show ¬(w1.heap.size=w1.heap.size+1) by omega);have hsz1:(w1.alloc (.cells #[.pointer (some ⟨hb,0,none⟩),.int .u64 q,.int .i64 op,.int .i64 ref,.int .u64 p,.int .u64 a,.int .u64 b,.bool deny,.slice dp dn dc] 103)).heap.size=w1.heap.size+1:=by simp
 rw [hsz1] at HM;have d0:True:=trivial;have d1:True:=trivial;have d2:True:=trivial;have d3:True:=trivial;have d4:True:=trivial;have d5:True:=trivial;have d6:True:=trivial;have d7:True:=trivial;have d8:True:=trivial;have d9:True:=trivial;clear TT hsz1;have aaE:=kF.out
 go_wp2_with (first | (refine nU rfl _ _ rfl _ _ _ rfl HM.out op rfl FD.out f Ac.out ?_) | (refine kr rfl _ _ _ rfl _ _ _ rfl HM.out (by decide) _ _ rfl (by decide) rfl ?_;intro w9 hown hgrow;have X:=And.intro (Hd hown) (Hd (HT.out.trans (Touch.bT hgrow (fun k hk=>(Option.some.inj hk).symm))));clear HM HT d9 d0 d1 d2 d3 d4 d5 d6 d7 d8 hown hgrow;obtain ⟨HM,HT⟩:=X;have d0:World.cell? _ ⟨w1.heap.size,0,none⟩=some (.pointer (some ⟨hb,0,none⟩)):=(gN.out.touch HT.out gY.out).cell 0;have d1:World.cell? _ ⟨w1.heap.size,1,none⟩=some (.int .u64 q):=(gN.out.touch HT.out gY.out).cell 1;have d2:World.cell? _ ⟨w1.heap.size,2,none⟩=some (.int .i64 op):=(gN.out.touch HT.out gY.out).cell 2;have d3:World.cell? _ ⟨w1.heap.size,3,none⟩=some (.int .i64 ref):=(gN.out.touch HT.out gY.out).cell 3;have d4:World.cell? _ ⟨w1.heap.size,4,none⟩=some (.int .u64 p):=(gN.out.touch HT.out gY.out).cell 4;have d5:World.cell? _ ⟨w1.heap.size,5,none⟩=some (.int .u64 a):=(gN.out.touch HT.out gY.out).cell 5;have d6:World.cell? _ ⟨w1.heap.size,6,none⟩=some (.int .u64 b):=(gN.out.touch HT.out gY.out).cell 6;have d7:World.cell? _ ⟨w1.heap.size,7,none⟩=some (.bool deny):=(gN.out.touch HT.out gY.out).cell 7;have d8:World.cell? _ ⟨w1.heap.size,8,none⟩=some (.slice dp dn dc):=(gN.out.touch HT.out gY.out).cell 8;have d9:World.cell? _ ⟨w.heap.size,0,none⟩=some (.int .i64 op):=((HB0.out.touch oU.out (fun h=>h)).touch HT.out zm.out).cell 0))
 have hsw:=HT1.out.size;have Dh:=Hd ((HT1.out.trans oU.out).trans' HT.out (fun i hi e=>by omega));have Di:=Hd (((bG.out.touch oU.out (fun h=>h))).touch HT.out (show ¬(w.heap.size+1=w1.heap.size+1) by have:=bG.out.lt;omega));clear hsw d0 d1 d2 d3 d4 d5 d6 d7 d8 d9 k0 k1 k2 k3 k4 k5 k6;clear aaE;refine (wX.out _ Dh.out).mono ?_
 rintro e IG ⟨⟨ae,kM,fE,eB,adc,ah,al,gH,gI⟩,rfl,hq⟩;unfold aG.val at *;have Wi:=Di.out.touch (HQ.out _ _ _ hq) (fun h=>by have:=HS.out _ h;omega);obtain ⟨z0,f0,z1,f1,z2,f2,z3,f3,z4,f4,z5,f5,z6,f6⟩:=Wi.jq;have zn:=Hd (((((((Wi.set 0 (.int .i64 ae)).set 1 (.int .u64 kM)).set 2 (.slice fE eB adc)).set 3 (.int .u64 ah)).set 4 (.int .u64 al)).set 5 (.int .i64 gH)).set 6 (.int .i64 gI));have hq':=Hd hq;clear Wi hq
 go_wp2_with fail
 obtain ⟨y0,y1,y2,y3,y4,y5,y6⟩:=jr zn.out;have TR:=Hd (((((((Touch.cellAt IG (w.heap.size+1) 0 (.int .i64 ae)).trans (Touch.cellAt _ (w.heap.size+1) 1 (.int .u64 kM))).trans (Touch.cellAt _ (w.heap.size+1) 2 (.slice fE eB adc))).trans (Touch.cellAt _ (w.heap.size+1) 3 (.int .u64 ah))).trans (Touch.cellAt _ (w.heap.size+1) 4 (.int .u64 al))).trans (Touch.cellAt _ (w.heap.size+1) 5 (.int .i64 gH))).trans (Touch.cellAt _ (w.heap.size+1) 6 (.int .i64 gI)));exact bodyPost_ret (v:=.agg #[.int .i64 ae,.int .u64 kM,.slice fE eB adc,.int .u64 ah,.int .u64 al,.int .i64 gH,.int .i64 gI]) (by simp [results,Tryz.results22,go_sem,y0,y1,y2,y3,y4,y5,y6]) rfl ⟨_,rfl,_,IG,w.heap.size+1,Dh.out,hq'.out,by omega,Di.out.lt,TR.out⟩
theorem rX:∀ f,f∈[39,40,41,42,43,44,45,46,47,48,49,50,51,52]→∀ (us:Array Value) (W:World),(callFunc f us).run Tryz.prog W=.ok (.enter f us) W:=by
 intro f hf us W;simp only [List.mem_cons,List.not_mem_nil,or_false] at hf;rcases hf with rfl | rfl | rfl | rfl | rfl | rfl | rfl | rfl | rfl | rfl | rfl | rfl | rfl | rfl <;> simp [go_sem]
theorem X7 {w:World} (hb q:Nat) (c:au) (av:Value) (S:Nat→Prop) (hS:∀ k,S k→k<w.heap.size) (Q:aG→World→World→Prop) (hQ:∀ an W W1,Q an W W1→Touch S W W1) (hop:c.op=1)
  (jZ:Hid (∀ W,Touch Nothing w W→Calls Tryz.prog 38 #[c.val,av] W fun e w'=>e=.returned (.tuple #[.int .u64 q,.bool true])∧Touch Nothing W w'))
  (wX:Hid (∀ W,Touch Nothing w W→Calls Tryz.prog 39 #[c.doer hb q] W fun e w'=>∃ an:aG,e=.returned an.val∧Q an W w')) :
  Calls Tryz.prog 22 #[.pointer (some ⟨hb,0,none⟩),c.val,av] w (Done w Q) :=
 wW hb q c av S hS Q hQ 39 (by rw [hop];rfl) (by rw [hop];decide) (rX 39 (by simp)) jZ wX
theorem X8 {w:World} (hb q:Nat) (c:au) (av:Value) (S:Nat→Prop) (hS:∀ k,S k→k<w.heap.size) (Q:aG→World→World→Prop) (hQ:∀ an W W1,Q an W W1→Touch S W W1) (hop:c.op=7)
  (jZ:Hid (∀ W,Touch Nothing w W→Calls Tryz.prog 38 #[c.val,av] W fun e w'=>e=.returned (.tuple #[.int .u64 q,.bool true])∧Touch Nothing W w'))
  (wX:Hid (∀ W,Touch Nothing w W→Calls Tryz.prog 45 #[c.doer hb q] W fun e w'=>∃ an:aG,e=.returned an.val∧Q an W w')) :
  Calls Tryz.prog 22 #[.pointer (some ⟨hb,0,none⟩),c.val,av] w (Done w Q) :=
 wW hb q c av S hS Q hQ 45 (by rw [hop];rfl) (by rw [hop];decide) (rX 45 (by simp)) jZ wX
theorem X9 {w:World} (hb q:Nat) (c:au) (av:Value) (S:Nat→Prop) (hS:∀ k,S k→k<w.heap.size) (Q:aG→World→World→Prop) (hQ:∀ an W W1,Q an W W1→Touch S W W1) (hop:c.op=8)
  (jZ:Hid (∀ W,Touch Nothing w W→Calls Tryz.prog 38 #[c.val,av] W fun e w'=>e=.returned (.tuple #[.int .u64 q,.bool true])∧Touch Nothing W w'))
  (wX:Hid (∀ W,Touch Nothing w W→Calls Tryz.prog 46 #[c.doer hb q] W fun e w'=>∃ an:aG,e=.returned an.val∧Q an W w')) :
  Calls Tryz.prog 22 #[.pointer (some ⟨hb,0,none⟩),c.val,av] w (Done w Q) :=
 wW hb q c av S hS Q hQ 46 (by rw [hop];rfl) (by rw [hop];decide) (rX 46 (by simp)) jZ wX
def AY (v:Nat) (e:Int):An:=if e=0 then ⟨0,v,[],0,0,0,0⟩ else ⟨e,0,[],0,0,0,0⟩
def fZ (e:Int):An:=⟨e,0,[],0,0,0,0⟩
theorem j4 (w:World) (v:Nat) (e:Int):iI w (bV v e) (AY v e)∧(bV v e).block=none:=by
 unfold bV AY;split
 ·exact ⟨⟨rfl,rfl,rfl,rfl,rfl,rfl,World.ownsRow_nil _ _ _ _⟩,rfl⟩
 ·exact ⟨⟨rfl,rfl,rfl,rfl,rfl,rfl,World.ownsRow_nil _ _ _ _⟩,rfl⟩
theorem ng (w:World) (e:Int):iI w (aY e) (fZ e)∧(aY e).block=none :=
 ⟨⟨rfl,rfl,rfl,rfl,rfl,rfl,World.ownsRow_nil _ _ _ _⟩,rfl⟩
theorem Done.stepped {w w':World} {hb s pb:Nat} {K:ay} {β β':Bu} {ps ps':List Int} {a0:aG} {x:An} {e:Ending} (R:ak 0 w hb s pb K β ps) (H:Done w (jU hb s pb K β' ps' a0) e w') (hx:∀ W,iI W a0 x) (hb0:a0.block=none) :
  Stepped w hb s pb K β' ps' x e w':=by
 obtain ⟨an,he,W,W1,b,T0,⟨rfl,K',R1,N1,T1⟩,h1,h2,T2⟩:=H;obtain ⟨K2,R2,N2,T3⟩:=aK.out (v:=.int .i64 0) (e:=.returned (.int .i64 0)) R T0 ⟨rfl,K',R1,N1,T1⟩ h1 h2 T2;exact ⟨an,he,K2,R2,N2,T3,hx w',fun g hg=>by rw [hb0] at hg;cases hg⟩
theorem JX {w:World} {g:Nat} {bs:List UInt8} (h:aC w g 5 (bR bs)) (hm:bs.length≤maxLen):w.ownsRow 0 5 1 (.slice (some ⟨g,0,none⟩) bs.length bs.length) bs.length (bR bs) :=
 ⟨by simp [bR],.inr ⟨g,bs.length,(bR bs).toArray,rfl,Nat.zero_le _,h,Nat.le_refl _,hm,by simp [bR],List.take_of_length_le (by simp [bR])⟩⟩
theorem Done.FE {w w':World} {hb s pb:Nat} {K:ay} {β:Bu} {ps:List Int} {bs:List UInt8} {n:Nat} {e:Ending} (R:ak 0 w hb s pb K β ps) (hn:bs.length=n) (hm:n≤65536) (H:Done w (JO hb s pb K β ps n (bR bs)) e w') :
  Stepped w hb s pb K β ps ⟨0,0,bs,0,0,0,0⟩ e w':=by
 subst hn;obtain ⟨an,he,W,W1,b,T0,⟨g,rfl,hg,B,R1,T1⟩,h1,h2,T2⟩:=H;have hl:=R.lt;have hgs:=R.ko.size;have hlk:∀ k∈hb::s::pb::K.fp,¬k=b:=fun k hk e=>by have:=hl k hk;omega
 have R2:ak 0 w' hb s pb K β ps:=R1.touch T2 hlk (fun k hk e=>by omega);have hs0:=T0.size;have T3:Touch (· = hb) w w':=(T0.none_.trans T1).trans' T2 (fun i hi e=>by omega);refine ⟨_,he,K,R2,ay.Next.refl _ _,T3.mono (fun k _ h=>by simp [h]),⟨rfl,rfl,rfl,rfl,rfl,rfl,JX (B.touch T2 (fun e=>by omega)) (by unfold maxLen;omega)⟩,fun i hi=>?_⟩;obtain rfl:g=i:=by cases hi;rfl
 refine ⟨by omega,fun hm=>?_⟩;have:=hl g hm;omega
theorem uR.of {w:World} {B hb s pb:Nat} {K:ay} {v:Value} {aa:List aG} {ax:List An} (A:iU w B hb s pb K v aa ax):uR w v aa:=fM A.own (Nat.zero_le _)
theorem ak.tX {w:World} {hb s pb:Nat} {K:ay} {β:Bu} {ps:List Int} (R:ak 0 w hb s pb K β ps):∀ k,k∈hb::s::K.fp→k<w.heap.size:=fun k hk=>by
 refine R.lt k ?_
 simp only [List.mem_cons] at hk ⊢;rcases hk with h | h | h
 ·exact .inl h
 ·exact .inr (.inl h)
 ·exact .inr (.inr (.inr h))
theorem GL {w:World} {hb s pb:Nat} {K:ay} {β β':Bu} {ps ps':List Int} (R:ak 0 w hb s pb K β ps) (c:au) (v:Value) (q:Nat) (hop:c.op=1) (p:Nat) (er:Int)
  (jZ:∀ W,Touch Nothing w W→Calls Tryz.prog 38 #[c.val,v] W (Addressed W q))
  (HM:∀ W,ak 0 W hb s pb K β ps→Calls Tryz.prog 88 #[.pointer (some ⟨hb,0,none⟩),.int .u64 c.a,.bool c.deny] W (aK W hb s pb K β' ps' (.tuple #[.int .u64 p,.int .i64 er]))) :
  Calls Tryz.prog 22 #[.pointer (some ⟨hb,0,none⟩),c.val,v] w (Stepped w hb s pb K β' ps' (AY p er)) :=
 (X7 hb q c v (·∈hb::s::K.fp) R.tX (jU hb s pb K β' ps' (bV p er)) (fun _ _ _ h=>h.2.choose_spec.2.2) hop (Hd jZ) (Hd fun _W T=>oF (R.aj T) c q p er HM)).mono fun _ _ h=>h.stepped R (fun _=>(j4 _ _ _).1) (j4 w _ _).2
theorem Dj {w:World} {hb s pb:Nat} {K:ay} {β β':Bu} {ps ps':List Int} (R:ak 0 w hb s pb K β ps) (c:au) (v:Value) (q:Nat) (hop:c.op=7) (p:Nat) (er:Int) (hp:p<256)
  (jZ:∀ W,Touch Nothing w W→Calls Tryz.prog 38 #[c.val,v] W (Addressed W q))
  (HM:∀ W,ak 0 W hb s pb K β ps→Calls Tryz.prog 93 #[.pointer (some ⟨hb,0,none⟩),.int .u64 q] W (aK W hb s pb K β' ps' (.tuple #[.int .u8 p,.int .i64 er]))) :
  Calls Tryz.prog 22 #[.pointer (some ⟨hb,0,none⟩),c.val,v] w (Stepped w hb s pb K β' ps' (AY p er)) :=
 (X8 hb q c v (·∈hb::s::K.fp) R.tX (jU hb s pb K β' ps' (bV p er)) (fun _ _ _ h=>h.2.choose_spec.2.2) hop (Hd jZ) (Hd fun _W T=>wT (R.aj T) c q p er hp HM)).mono fun _ _ h=>h.stepped R (fun _=>(j4 _ _ _).1) (j4 w _ _).2
theorem JY {w:World} {hb s pb:Nat} {K:ay} {β β':Bu} {ps ps':List Int} (R:ak 0 w hb s pb K β ps) (c:au) (v:Value) (q:Nat) (hop:c.op=8) (er:Int) (ha:c.a<256)
  (jZ:∀ W,Touch Nothing w W→Calls Tryz.prog 38 #[c.val,v] W (Addressed W q))
  (HM:∀ W,ak 0 W hb s pb K β ps→Calls Tryz.prog 94 #[.pointer (some ⟨hb,0,none⟩),.int .u64 q,.int .u8 c.a] W (aK W hb s pb K β' ps' (.int .i64 er))) :
  Calls Tryz.prog 22 #[.pointer (some ⟨hb,0,none⟩),c.val,v] w (Stepped w hb s pb K β' ps' (fZ er)) :=
 (X9 hb q c v (·∈hb::s::K.fp) R.tX (jU hb s pb K β' ps' (aY er)) (fun _ _ _ h=>h.2.choose_spec.2.2) hop (Hd jZ) (Hd fun _W T=>JN (R.aj T) c q er ha HM)).mono fun _ _ h=>h.stepped R (fun _=>(ng _ _).1) (ng w _).2
theorem Wj:fV.μ.pages[0]?.isSome=true∧fV.μ.pages[0]?.map (·.kind)=some 4∧fV.μ.pages[0]?.map (·.cls)=some 0∧fV.μ.pages[0]?.map (·.bit 0)=some true∧fV.μ.pages[0]?.map (·.bit 1)=some false:=by
 refine ⟨by decide +kernel,by decide +kernel,by decide +kernel,by decide +kernel,by decide +kernel⟩
theorem FH:fV.σ.base=65536∧fV.σ.size=8192∧fV.σ.n=1:=by
 refine ⟨by decide +kernel,by decide +kernel,by decide +kernel⟩
structure kP (β:Bu):Prop where
 map:β.μ=fV.μ
 base:β.σ.base=65536
 size:β.σ.size=8192
 n:β.σ.n=1
theorem Si:kP fV:=⟨rfl,FH.1,FH.2.1,FH.2.2⟩
theorem kP.put {β:Bu} (h:kP β) (p:Nat) (bs:List Nat):kP { β with σ:=β.σ.put p bs }:=⟨h.map,h.base,h.size,h.n⟩
theorem kP.has {β:Bu} (h:kP β) (p n:Nat) (h0:0<n) (h1:65536≤p) (h2:p+n≤65536+8192):β.σ.has p n:=by
 refine ⟨h0,by rw [h.base];exact h1,?_,?_⟩
 ·rw [h.base,h.size,h.n,Nat.div_eq_of_lt (by omega)];omega
 ·rw [h.base,h.size,Nat.mod_eq_of_lt (by omega)];omega
theorem kP.slab {β:Bu} (h:kP β) (p:Nat) (h1:65536≤p) (h2:p<65536+4096):∃ pg,tL β p 0 0 pg∧pg.bit 0=true∧pg.bit 1=false:=by
 obtain ⟨q1,q2,q3,q4,q5⟩:=Wj;cases hp:fV.μ.pages[0]? with
 | none=>rw [hp] at q1;cases q1
 | some pg =>
  rw [hp] at q2 q3 q4 q5;simp at q2 q3 q4 q5;exact ⟨pg,⟨by rw [h.map];exact hp,q2,q3,by rw [h.base];exact h1,by rw [h.base];omega⟩,q4,q5⟩
theorem ak.II {m:Int} {w:World} {hb s pb:Nat} {K:ay} {β:Bu} {ps:List Int} (R:ak m w hb s pb K β ps) (h:kP β) (p n:Nat) (h1:65536≤p) (h2:p<65552) (h3:p+n≤65552) :
  Calls Tryz.prog 66 #[.pointer (some ⟨hb,0,none⟩),.int .u64 p,.int .u64 n] w fun e w'=>e=.returned (.bool true)∧Touch Nothing w w':=by
 obtain ⟨pg,hS,hb0,-⟩:=h.slab p h1 (by omega);have hq:p/aB 0=4096:=by show p/16=4096;omega
 have h0:cellAt p 0=0:=by unfold cellAt;rw [hq];decide
 refine (R.yJ p n 0 0 hS).mono ?_
 rintro e w' ⟨rfl,T⟩;refine ⟨?_,T⟩;rw [h0,hb0,hq];have:n≤4096*aB 0+aB 0-p:=by show n≤4096*16+16-p;omega
 simp [this]
theorem ak.JZ {m:Int} {w:World} {hb s pb:Nat} {K:ay} {β:Bu} {ps:List Int} (R:ak m w hb s pb K β ps) (h:kP β) (n:Nat) :
  Calls Tryz.prog 66 #[.pointer (some ⟨hb,0,none⟩),.int .u64 (65552:Nat),.int .u64 n] w fun e w'=>e=.returned (.bool false)∧Touch Nothing w w':=by
 obtain ⟨pg,hS,-,hb1⟩:=h.slab 65552 (by omega) (by omega);have h0:cellAt 65552 0=1:=by decide
 refine (R.yJ 65552 n 0 0 hS).mono ?_
 rintro e w' ⟨rfl,T⟩;refine ⟨?_,T⟩;rw [h0,hb1];rfl
theorem ak.Wl {w:World} {hb s pb:Nat} {K:ay} {β:Bu} {ps:List Int} (R:ak 0 w hb s pb K β ps) (h:kP β) (v:Nat) (hv:v<256) :
  Calls Tryz.prog 94 #[.pointer (some ⟨hb,0,none⟩),.int .u64 (65536:Nat),.int .u8 v] w (aK w hb s pb K { β with σ:=β.σ.put 65536 [v] } ps (.int .i64 0)) :=
 R.EJ 65536 v hv (h.has _ _ (by omega) (by omega) (by omega)) (fun W RW=>RW.II h 65536 1 (by omega) (by omega) (by omega))
theorem ak.Ya {w:World} {hb s pb:Nat} {K:ay} {β:Bu} {ps:List Int} (R:ak 0 w hb s pb K β ps) (h:kP β) (p:Nat) (h1:65536≤p) (h2:p<65552) :
  Calls Tryz.prog 93 #[.pointer (some ⟨hb,0,none⟩),.int .u64 p] w (aK w hb s pb K β ps (.tuple #[.int .u8 (β.σ.mem p:Nat),.int .i64 0])) :=
 (R.Ip p (h.has _ _ (by omega) (by omega) (by omega)) (fun W RW=>RW.II h p 1 (by omega) (by omega) (by omega))).mono fun _ _ H=>H.gB
theorem ak.PZ {w:World} {hb s pb:Nat} {K:ay} {β:Bu} {ps:List Int} (R:ak 0 w hb s pb K β ps) (h:kP β) :
  Calls Tryz.prog 93 #[.pointer (some ⟨hb,0,none⟩),.int .u64 (65552:Nat)] w (aK w hb s pb K β ps (.tuple #[.int .u8 (0:Nat),.int .i64 4])) :=
 (R.Ao 65552 (fun _W RW=>RW.JZ h 1)).mono fun _ _ H=>H.gB
theorem zo {w:World} (hb size align:Nat) (er:Int) (deny:Bool) (her:er≠0)
  (HR:Hid (∀ W,Touch Nothing w W→Calls Tryz.prog 135 #[.pointer (some ⟨hb,0,none⟩),.int .u64 size,.int .u64 align] W (dL W (0,er)))) (Q:World→World→Prop) (hQ:∀ W,Touch Nothing w W→Q W W) :
  Calls Tryz.prog 133 #[.pointer (some ⟨hb,0,none⟩),.int .u64 size,.int .u64 align,.bool deny] w (Did w (.tuple #[.agg #[.int .u64 (0:Nat),.int .u64 (0:Nat)],.int .i64 er]) Q):=by
 have T0:=Hd (show Touch Nothing w (w.alloc (.cells #[.int .u64 0,.int .u64 0] 71)) from (Touch.refl _ _).alloc _);have hne:(er != 0)=true:=by rw [bne_iff_ne];exact her
 have HQ:=Hd (hQ _ T0.out);clear her hQ
 go_enter Tryz.func133,Tryz.ntmps133
 go_wp2_with fail
 refine (HR.out _ T0.out).mono ?_
 rintro e w1 ⟨rfl,rfl⟩
 go_wp2_with fail
 exact bodyPost_ret (v:=.tuple #[.agg #[.int .u64 0,.int .u64 0],.int .i64 er]) (by simp [results,Tryz.results133,go_sem]) rfl ⟨rfl,_,_,w.heap.size,T0.out,HQ.out,Nat.le_refl _,by simp,Touch.refl _ _⟩
def P5 (w:World) (e:Ending) (w':World):Prop :=
 ∃ hb s pb K,e=.returned (.pointer (some ⟨hb,0,none⟩))∧ak 0 w' hb s pb K jT jA∧Touch Nothing w w'∧∀ k∈hb::s::pb::K.fp,w.heap.size≤k
theorem Yb (w:World) (G:bU w):Calls Tryz.prog 14 #[] w (P5 w):=by
 have HN:=Hd (yK 65536 2 1 w (by omega) aan (by omega) G);unfold dS at HN
 go_enter Tryz.func14,Tryz.ntmps14
 go_wp2_with fail
 refine HN.out.mono ?_
 rintro e w1 ⟨hb,s,pb,K,rfl,R,T,F⟩;have HR:=Hd R;have HT:=Hd T;have HF:=Hd F;clear R T F
 go_wp2_with fail
 go_ret
 exact ⟨hb,s,pb,K,rfl,HR.out,HT.out,HF.out⟩
def AZ:List Txt.Cd:=[⟨1,0,0,1,0,false,[]⟩,⟨8,1,0,7,0,false,[]⟩,⟨7,1,0,0,0,false,[]⟩,⟨7,1,16,0,0,false,[]⟩]
def MX:List An:=[⟨0,65536,[],0,0,0,0⟩,⟨0,0,[],0,0,0,0⟩,⟨0,7,[],0,0,0,0⟩,⟨4,0,[],0,0,0,0⟩]
def tY:Bu:={ fV with σ:=fV.σ.put 65536 [7] }
def MZ:Nat→Bu × List Int
 | 0=>(jT,jA)
 | 1=>(fV,tN)
 | _+2=>(tY,tN)
theorem GN:Txt.dU [109,97,108,108,111,99,32,49,10,115,116,111,114,101,32,36,49,32,55,10,108,111,97,100,32,36,49,10,108,111,97,100,32,36,49,43,49,54,10]=(AZ,0,0):=by kernel_rfl
theorem Sj:kP tY:=Si.put _ _
theorem BP {w:World} {B hb s pb:Nat} {K:ay} {v:Value} {aa:List aG} {ax:List An} (A:iU w B hb s pb K v aa ax) (c:au) (j:Nat) (x:An) (hr:c.ref=(j:Int)+1) (hx:ax[j]? = some x) (he:x.e=0) (hs:x.v+c.p≤18446744073709551615) :
  ∀ W,Touch Nothing w W→Calls Tryz.prog 38 #[c.val,v] W (Addressed W (x.v+c.p)):=by
 intro W T;have hj:=(List.getElem?_eq_some_iff.1 hx).1;obtain ⟨a,ha⟩:∃ a,aa[j]? = some a:=⟨_,List.getElem?_eq_getElem (by rw [A.len];exact hj)⟩;have hi:=A.each j a x ha hx;rw [←hi.v] at hs ⊢;exact Ap c v aa (uR.of (A.still T)) j a hr ha (by rw [hi.e];exact he) hs
theorem Ue (c:au) (v:Value) (w:World) (hr:c.ref=0):∀ W,Touch Nothing w W→Calls Tryz.prog 38 #[c.val,v] W (Addressed W c.p):=fun _ _=>wJ c v hr
theorem GQ (hb s pb B gc cap:Nat) (cs:List au):MV hb s pb B cs AZ MX MZ gc cap:=by
 intro k c a w K v aa hc ha R C A hl;have hk:k<4:=(List.getElem?_eq_some_iff.1 ha).1;obtain rfl | rfl | rfl | rfl:k=0∨k=1∨k=2∨k=3:=by omega
 ·have hi:=C.calls.each 0 c _ hc rfl;cases ha;obtain ⟨op,ref,p,aN,b,deny,dp,dn,dc⟩:=c;obtain ⟨h1,h2,h3,h4,h5,h6,h7⟩:=hi;simp only at h1 h2 h3 h4 h5 h6;subst h1 h2 h3 h4 h5 h6;exact GL R _ v _ rfl 65536 0 (Ue _ v w rfl) (fun W RW=>RW.EK 1 (by omega))
 ·have hi:=C.calls.each 1 c _ hc rfl;cases ha;obtain ⟨op,ref,p,aN,b,deny,dp,dn,dc⟩:=c;obtain ⟨h1,h2,h3,h4,h5,h6,h7⟩:=hi;simp only at h1 h2 h3 h4 h5 h6;subst h1 h2 h3 h4 h5 h6;exact JY R _ v 65536 rfl 0 (by simp only [];omega) (BP A _ 0 _ rfl rfl rfl (by simp only [];omega)) (fun W RW=>RW.Wl Si 7 (by omega))
 ·have hi:=C.calls.each 2 c _ hc rfl;cases ha;obtain ⟨op,ref,p,aN,b,deny,dp,dn,dc⟩:=c;obtain ⟨h1,h2,h3,h4,h5,h6,h7⟩:=hi;simp only at h1 h2 h3 h4 h5 h6;subst h1 h2 h3 h4 h5 h6;exact Dj R _ v 65536 rfl 7 0 (by decide) (BP A _ 0 _ rfl rfl rfl (by simp only [];omega)) (fun W RW=>RW.Ya Sj 65536 (by omega) (by omega))
 ·have hi:=C.calls.each 3 c _ hc rfl;cases ha;obtain ⟨op,ref,p,aN,b,deny,dp,dn,dc⟩:=c;obtain ⟨h1,h2,h3,h4,h5,h6,h7⟩:=hi;simp only at h1 h2 h3 h4 h5 h6;subst h1 h2 h3 h4 h5 h6;exact Dj R _ v 65552 rfl 0 4 (by decide) (BP A _ 0 _ rfl rfl rfl (by simp only [];omega)) (fun W RW=>RW.PZ Sj)
theorem J2 {w1 w2:World} {B hb s pb:Nat} {K:ay} {dp:Option Addr} {dn dc:Nat} {cs:List au} {cx:List Txt.Cd} (h:fO w1 B (.slice dp dn dc) cs cx) (hn:0<cx.length) (T:Touch Nothing w1 w2) (F:∀ k∈hb::s::pb::K.fp,w1.heap.size≤k) :
  ∃ gc,dp=some ⟨gc,0,none⟩∧dn=cs.length∧Callers w2 hb s pb K gc dc cs cx:=by
 obtain ⟨gc,cap,hv,hb1,hg⟩:=World.ownsRow.form h.own (by rw [h.len];exact hn);cases hv;refine ⟨gc,rfl,rfl,(h.still T).lower (Nat.zero_le _),fun hm=>by have:=F gc hm;omega,fun c hc g hg' hm=>?_⟩;obtain ⟨i,hi⟩:=List.getElem?_of_mem hc;have hil:=(List.getElem?_eq_some_iff.1 hi).1;have:=(World.ownsRow.lt (h.each i c _ hi (List.getElem?_eq_getElem (by rw [←h.len];exact hil))).own g hg').2;have:=F g hm;omega
theorem FI {w:World} {B hb s pb:Nat} {K:ay} {g cap n:Nat} {aa:List aG} {ax:List An} (A:iU w B hb s pb K (.slice (some ⟨g,0,none⟩) n cap) aa ax) (i:Nat) (a:aG) (hi:aa[i]? = some a) (j:Nat) (u:Value) (hu:a.cells[j]? = some u) :
  w.cell? ⟨g,i*7+j,none⟩=some u:=by
 have hj:j<7:=by have:=(List.getElem?_eq_some_iff.1 hu).1;simpa [aG.cells] using this
 have hil:=(List.getElem?_eq_some_iff.1 hi).1
 have hn:aa.length=n:=by
  rcases A.own.2 with ⟨h,_⟩ | ⟨g1,c1,cur,h,_⟩
  ·cases h
  ·cases h;rfl
 subst hn;rw [World.ownsRow.cellAt A.own (i*7+j) (by omega)];exact oZ aa i a hi j u hu
theorem Ec {w:World} {B hb s pb:Nat} {K:ay} {g cap n:Nat} {aa:List aG} {ax:List An} (A:iU w B hb s pb K (.slice (some ⟨g,0,none⟩) n cap) aa ax) (i:Nat) (x:An) (hx:ax[i]? = some x):w.cell? ⟨g,i*7,none⟩=some (.int .i64 x.e)∧w.cell? ⟨g,i*7+1,none⟩=some (.int .u64 x.v):=by
 have hil:=(List.getElem?_eq_some_iff.1 hx).1;obtain ⟨a,ha⟩:∃ a,aa[i]? = some a:=⟨_,List.getElem?_eq_getElem (by rw [A.len];exact hil)⟩;have h:=A.each i a x ha hx;have h0:=FI A i a ha 0 _ rfl;have h1:=FI A i a ha 1 _ rfl;rw [h.e] at h0;rw [h.v] at h1;exact ⟨h0,h1⟩
theorem M0 (w:World) (G:bU w):Calls Tryz.prog 11 #[] w fun e w'=>e=.returned (.bool true)∧Touch Nothing w w':=by
 have HP:=Hd (MU ⟨#[109,97,108,108,111,99,32,49,10,115,116,111,114,101,32,36,49,32,55,10,108,111,97,100,32,36,49,10,108,111,97,100,32,36,49,43,49,54,10]⟩ w G);have HG:=Hd G;have HE:=Hd GN;clear G
 go_enter Tryz.func11,Tryz.ntmps11
 go_wp2_with fail
 refine HP.out.mono ?_
 rintro e w1 ⟨dp,dn,dc,cs,rfl,hc,T1⟩;rw [show Txt.dU (⟨#[109,97,108,108,111,99,32,49,10,115,116,111,114,101,32,36,49,32,55,10,108,111,97,100,32,36,49,10,108,111,97,100,32,36,49,43,49,54,10]⟩:ByteArray).data.toList=(AZ,0,0) from HE.out] at hc ⊢;have HC:=Hd hc;have HT1:=Hd T1;have hn:cs.length=4:=hc.len
 have hdn:dn=4:=by
  rcases hc.own.2 with ⟨h,h0⟩ | ⟨g,cap,cur,h,_⟩
  ·omega
  ·cases h;exact hn
 subst hdn;clear hc T1
 go_wp2_with fail
 refine (Yb w1 (HG.out.aj HT1.out)).mono ?_
 rintro e w2 ⟨hb,s,pb,K,rfl,R,T2,F⟩;obtain ⟨gc,rfl,-,C⟩:=J2 HC.out (by decide) T2 F;have rT:=Hd (X6 (cx:=AZ) (ax:=MX) (st:=MZ) R C (by omega) (by rw [hn];rfl) (GQ hb s pb w2.heap.size gc dc cs));rw [hn] at rT;have HT2:=Hd T2;have HF:=Hd F;clear R C T2 F
 go_wp2_with fail
 refine rT.out.mono ?_
 rintro e w3 ⟨K',aa,ap,an,ac,rfl,hR⟩;have hA:=hR.answers;have hal:aa.length=4:=by rw [hR.len,hn]
 obtain ⟨g,cap,hv,-,-⟩:=World.ownsRow.form hA.own (by omega);cases hv;rw [hal] at hA ⊢;rw [hn] at hA;have a0:w3.cell? ⟨g,1,none⟩=some (.int .u64 65536):=(Ec hA 0 _ rfl).2;have a1:w3.cell? ⟨g,7,none⟩=some (.int .i64 0):=(Ec hA 1 _ rfl).1;have a2:w3.cell? ⟨g,15,none⟩=some (.int .u64 7):=(Ec hA 2 _ rfl).2;have a3:w3.cell? ⟨g,21,none⟩=some (.int .i64 4):=(Ec hA 3 _ rfl).1
 have HT3:=Hd (show Touch Nothing w w3 from (HT1.out.trans HT2.out).trans' hR.touch (fun i hi h=>by
  have h1:=HT1.out.size;have:=HF.out i (by simp only [List.mem_cons] at h ⊢;rcases h with h | h | h <;> simp [h]);omega))
 clear hA hR hal rT
 go_wp2_with fail
 go_ret
 exact ⟨rfl,HT3.out⟩
def gZ (o r:Nat):Prop:=(∃ c,c<8∧r=aB c)∨∃ k,k≤o∧r=4096*2^k
def NoRoom (o:Nat) (F L:Nat→List Nat) (r:Nat):Prop:=(∀ k,k≤o→r≤4096*2^k→F k = [])∧∀ c,c<8→r=aB c→L c = []
structure wY (β:Bu) (F L:Nat→List Nat) (r:Nat) (deny:Bool) (β':Bu) (p:Nat):Prop where
 more:More β β' p r
 grew:(β'.σ.n=β.σ.n∧¬NoRoom β.μ.order F L r)∨(β'.σ.n=β.σ.n+1∧β.σ.n<β.σ.limit∧deny=false∧NoRoom β.μ.order F L r)
theorem qj (c:Nat) (h:c<64):Lib.bitLen (2^c)=c+1:=by
 have h64:2^c<18446744073709551616:=Nat.lt_of_lt_of_le (Nat.pow_lt_pow_right (by omega) h) (by decide);obtain ⟨s1,s2,s3⟩:=kE (2^c) h64;have p0:=fF c;have h1:=(Nat.pow_lt_pow_iff_right (by omega:1<2)).1 s1;have h2:=(Nat.pow_le_pow_iff_right (by omega:1<2)).1 (s2 (by omega));omega
theorem sN {a b:Nat} (h:4096*2^a≤4096*2^b):a≤b:=(Nat.pow_le_pow_iff_right (by omega:1<2)).1 (Nat.le_of_mul_le_mul_left h (by omega))
theorem HS.take {β:Bu} {ps:List Int} {F C L:Nat→List Nat} (I:HS β ps F C L) (r:Nat) (deny:Bool) (hr:gZ β.μ.order r) :
  (∃ β' ps' F' C' L' p,HS β' ps' F' C' L'∧wY β F L r deny β' p ∧
   ∀ (m:Int) (w:World) (hb s pb:Nat) (K:ay),ak m w hb s pb K β ps→Calls Tryz.prog 139 #[.pointer (some ⟨hb,0,none⟩),.int .u64 r,.bool deny] w (nH w p 0 (jR s pb K β' ps'))) ∨
  (NoRoom β.μ.order F L r∧(deny=true∨β.σ.n=β.σ.limit) ∧
   ∀ (m:Int) (w:World) (hb s pb:Nat) (K:ay),ak m w hb s pb K β ps→Calls Tryz.prog 139 #[.pointer (some ⟨hb,0,none⟩),.int .u64 r,.bool deny] w (nH w 0 2 (jR s pb K β ps))):=by
 have kJ:=I.inv.ord;rcases hr with ⟨c,hc,rfl⟩ | ⟨o,ho,rfl⟩
 ·obtain ⟨w1,w2⟩:=cO hc
  have hbl:(Lib.bitLen (aB c/16):Int)-1=c:=by
   have:aB c/16=2^c:=by unfold aB;exact Nat.mul_div_cancel_left _ (by omega)
   rw [this,qj c (by omega)];omega
  have hsm:∀ k,aB c≤4096*2^k:=fun k=>by have:=fF k;omega
  have hcc:∀ d,d<8→aB c=aB d→L d=L c:=fun d _ e=>by rw [zk e]
  rcases I.PN c deny hc with ⟨β',ps',F',C',L',p,g,H,T,hdn,HC⟩ | ⟨h1,h2,h3,HC⟩
  ·left;refine ⟨β',ps',F',C',L',p,H,⟨T.more,?_⟩,fun m w hb s pb K R=>?_⟩
   ·rcases T.grew with ⟨e,h⟩ | ⟨e,e2,h1,h2⟩
    ·refine .inl ⟨e,fun hn=>?_⟩;rcases h with h | ⟨k,hk,h⟩
     ·exact h (hn.2 c hc rfl)
     ·exact h (hn.1 k hk (hsm k))
    ·refine .inr ⟨e,e2,?_,fun k hk _=>h2 k hk,fun d hd e=>by rw [hcc d hd e];exact h1⟩;cases deny
     ·rfl
     ·have:=hdn rfl;omega
   ·refine uO hb s _ c p g deny 0 (jR s pb K β' ps') R.cells.2.2.2.2.1 (by omega) hbl (fun W T=>?_);have RW:=R.aj T;refine (HC W s pb K RW.sl RW.ko (fun k hk=>RW.far k (List.mem_cons_of_mem _ hk))).mono ?_
    rintro e w' ⟨rfl,K',S,N,T'⟩;exact ⟨rfl,K',S,N,T'⟩
  ·right;refine ⟨⟨fun k hk _=>h2 k hk,fun d hd e=>by rw [hcc d hd e];exact h1⟩,h3,fun m w hb s pb K R=>?_⟩;refine uO hb s _ c 0 false deny 2 (jR s pb K β ps) R.cells.2.2.2.2.1 (by omega) hbl (fun W T=>?_);have RW:=R.aj T;refine (HC W s pb K RW.sl).mono ?_
   rintro e w' ⟨rfl,K',S,N,T'⟩;exact ⟨rfl,K',S,N,T'⟩
 ·have hbl:(Lib.bitLen (4096*2^o/4096):Int)-1=o:=by
   rw [Nat.mul_div_cancel_left _ (by omega),qj o (by omega)];omega
  have Fu:=fD (o:=o) (by omega);rcases I.need o deny ho with ⟨i,β1,F1,g,N,hdn,HC⟩ | ⟨hno,hd,HC⟩
  ·left;have S1:fA β1 ps C L:=I.slab.kept N.kept (fun j p hp h4=>I.inv.dX hp (.inr (.inr h4)));refine ⟨β1,ps,F1,C,L,β1.addr i,⟨N.inv,S1,N.nums⟩,⟨?_,?_⟩,fun m w hb s pb K R=>?_⟩
   ·have:=N.more I.inv ho;rwa [show β.addr i=β1.addr i by unfold Bu.addr;rw [N.kept.base]] at this
   ·rcases N.grew with ⟨e,k,h1,h2,h3⟩ | ⟨e,e2,h⟩
    ·exact .inl ⟨e,fun hn=>h3 (hn.1 k h2 (Nat.mul_le_mul_left _ (Nat.pow_le_pow_right (by omega) h1)))⟩
    ·refine .inr ⟨e,e2,?_,fun k hk hk2=>h k (sN hk2) hk,fun d hd e=>?_⟩
     ·cases deny
      ·rfl
      ·have:=hdn rfl;omega
     ·have:=cO hd;omega
   ·refine EH hb pb _ o _ g deny 0 (jR s pb K β1 ps) R.cells.2.2.2.1 (by omega) (by omega) hbl (fun W T=>?_);have RW:=R.aj T;refine (HC W pb K RW.sl.po).mono ?_
    rintro e w' ⟨rfl,K',P',N',T'⟩;exact ⟨rfl,K',RW.sl.next T' N' P'.bu,N',T'.mono (fun b _ hb=>List.mem_cons_of_mem _ hb)⟩
  ·right;refine ⟨⟨fun k hk hk2=>hno k (sN hk2) hk,fun d hd e=>by have:=cO hd;omega⟩,hd,fun m w hb s pb K R=>?_⟩;refine EH hb pb _ o 0 false deny 2 (jR s pb K β ps) R.cells.2.2.2.1 (by omega) (by omega) hbl (fun W T=>?_);have RW:=R.aj T;refine (HC W pb K RW.sl.po).mono ?_
   rintro e w' ⟨rfl,T'⟩;exact ⟨rfl,K,RW.sl.aj T',ay.Next.refl _ _,T'.none_⟩
theorem P6 (c:Nat):aB c=2^(c+4):=by unfold aB;rw [Nat.pow_add];omega
theorem M4 (k:Nat):4096*2^k=2^(k+12):=by rw [Nat.pow_add];omega
theorem FJ {o size align r:Nat} (_ho:o≤8) (h1:size<18446744073709551616) (h2:align<18446744073709551616) (h:bD (4096*2^o) size align=(r,0)) :
  gZ o r∧size≤r∧align≤r∧jc align=true:=by
 unfold bD at h;split at h
 ·simp at h
 ·next hp =>
  split at h
  ·simp at h
  ·next hM =>
   have hr:kL (max (max size align) 16)=r:=by simpa using congrArg Prod.fst h
   rw [hr] at hM;obtain ⟨x,hx⟩:∃ x,x=max (max size align) 16:=⟨_,rfl⟩;rw [←hx] at hr;have hx16:16≤x:=by omega
   have acT:x<18446744073709551616:=by omega
   unfold kL at hr;rw [if_neg (by omega)] at hr;split at hr
   ·omega
   ·obtain ⟨s1,s2,s3⟩:=kE (x-1) (by omega);generalize Lib.bitLen (x-1)=e at *;subst hr
    have he4:4≤e:=by
     refine Classical.byContradiction (fun hn=>?_);have:2^e≤2^3:=Nat.pow_le_pow_right (by omega) (by omega);omega
    have hle:2^e≤4096*2^o:=by omega
    rw [M4] at hle;have acU:=(Nat.pow_le_pow_iff_right (by omega:1<2)).1 hle;refine ⟨?_,by omega,by omega,by simpa using hp⟩;by_cases hc:e<12
    ·exact .inl ⟨e-4,by omega,by rw [P6,show e-4+4=e by omega]⟩
    ·exact .inr ⟨e-12,by omega,by rw [M4,show e-12+12=e by omega]⟩
theorem More.same {β β':Bu} {p r:Nat} (M:More β β' p r):β'.σ.base=β.σ.base∧β'.σ.limit=β.σ.limit∧β'.μ.order=β.μ.order:=⟨M.base,M.limit,M.order⟩
theorem HS.malloc {β:Bu} {ps:List Int} {F C L:Nat→List Nat} (I:HS β ps F C L) (size align:Nat) (deny:Bool) (h1:size<18446744073709551616) (h2:align<18446744073709551616) :
  ((bD β.σ.size size align).2≠0∧∀ (m:Int) (w:World) (hb s pb:Nat) (K:ay),ak m w hb s pb K β ps→Calls Tryz.prog 133 #[.pointer (some ⟨hb,0,none⟩),.int .u64 size,.int .u64 align,.bool deny] w (Did w (.tuple #[.agg #[.int .u64 (0:Nat),.int .u64 (0:Nat)],.int .i64 (bD β.σ.size size align).2]) (jR s pb K β ps))) ∨
  (∃ r β' ps' F' C' L' p,bD β.σ.size size align=(r,0)∧gZ β.μ.order r∧HS β' ps' F' C' L'∧wY β F L r deny β' p ∧
   ∀ (m:Int) (w:World) (hb s pb:Nat) (K:ay),ak m w hb s pb K β ps→Calls Tryz.prog 133 #[.pointer (some ⟨hb,0,none⟩),.int .u64 size,.int .u64 align,.bool deny] w (Did w (.tuple #[.agg #[.int .u64 p,.int .u64 r],.int .i64 0]) (jR s pb K β' ps'))) ∨
  (∃ r,bD β.σ.size size align=(r,0)∧gZ β.μ.order r∧NoRoom β.μ.order F L r∧(deny=true∨β.σ.n=β.σ.limit) ∧
   ∀ (m:Int) (w:World) (hb s pb:Nat) (K:ay),ak m w hb s pb K β ps→Calls Tryz.prog 133 #[.pointer (some ⟨hb,0,none⟩),.int .u64 size,.int .u64 align,.bool deny] w (Did w (.tuple #[.agg #[.int .u64 (0:Nat),.int .u64 (0:Nat)],.int .i64 2]) (jR s pb K β ps))):=by
 have hlt:∀ {m:Int} {w:World} {hb s pb:Nat} {K:ay},ak m w hb s pb K β ps→∀ k,k∈s::K.fp→k<w.heap.size:=by
  intro m w hb s pb K R k hk;refine R.lt k ?_
  rcases List.mem_cons.1 hk with h | h
  ·simp [h]
  ·simp [h]
 by_cases he:(bD β.σ.size size align).2=0
 ·right;obtain ⟨r,hr⟩:∃ r,bD β.σ.size size align=(r,0):=⟨_,Prod.ext rfl he⟩;have hok:gZ β.μ.order r:=(FJ I.inv.ord h1 h2 (by rw [←I.nums.size];exact hr)).1;rcases I.take r deny hok with ⟨β',ps',F',C',L',p,H,T,HC⟩ | ⟨h3,h4,HC⟩
  ·left;refine ⟨r,β',ps',F',C',L',p,hr,hok,H,T,fun m w hb s pb K R=>?_⟩;refine CB hb size align r p deny _ (·∈s::K.fp) (hlt R) jR.touch (Hd fun W T=>?_) (Hd fun W T=>HC m W hb s pb K (R.aj T));have:=(R.aj T).tJ size align h1 h2;rwa [hr] at this
  ·right;refine ⟨r,hr,hok,h3,h4,fun m w hb s pb K R=>?_⟩;refine GD hb size align r 2 deny (by decide) (jR s pb K β ps) (·∈s::K.fp) (hlt R) jR.touch (Hd fun W T=>?_) (Hd fun W T=>HC m W hb s pb K (R.aj T));have:=(R.aj T).tJ size align h1 h2;rwa [hr] at this
 ·left;refine ⟨he,fun m w hb s pb K R=>?_⟩;refine zo hb size align _ deny he (Hd fun W T=>?_) _ (fun W T=>⟨K,(R.aj T).sl,ay.Next.refl _ _,Touch.refl _ _⟩);have:=(R.aj T).tJ size align h1 h2
  have hz:(bD β.σ.size size align).1=0:=by
   unfold bD at he ⊢;split
   ·rfl
   ·split
    ·rfl
    ·next h3 h4 =>
     rw [if_neg h3,if_neg h4] at he;exact (he rfl).elim
  rwa [show bD β.σ.size size align=(0,(bD β.σ.size size align).2) from Prod.ext hz rfl] at this
end Go.Proofs.YtnjcmcnjgdjbiaaGreatDoor
namespace Go.Proofs.YtnjcmcnjgdjbiaaGreatDoor
open Go.RowKit Go.MuLone
theorem Gone.same {β β':Bu} {p:Nat} (G:Gone β β' p):β'.σ.base=β.σ.base∧β'.σ.limit=β.σ.limit∧β'.μ.order=β.μ.order:=⟨G.base,G.limit,G.order⟩
def Turns (m:Int) (w:World) (hb s pb:Nat) (K:ay) (β':Bu) (ps':List Int) (v:Value) (e:Ending) (w':World):Prop :=
 e=.returned v∧∃ K',ak m w' hb s pb K' β' ps'∧K.Next w K'∧Touch (·∈s::K.fp) w w'
theorem AU.turns {m:Int} {w w':World} {hb s pb:Nat} {K:ay} {β β':Bu} {ps ps':List Int} {e:Ending} (R:ak m w hb s pb K β ps) (D:AU w (jR s pb K β' ps') e w') (hσ:β'.σ.base=β.σ.base∧β'.σ.limit=β.σ.limit∧β'.μ.order=β.μ.order) :
  Turns m w hb s pb K β' ps' (.tuple #[]) e w':=by
 obtain ⟨rfl,W,T0,K',S1,N1,T1⟩:=D;exact ⟨rfl,K',(R.aj T0).next T1 N1 S1 hσ,(ay.Next.refl w K).trans N1 T0.size,T0.none_.trans T1⟩
theorem HS.give {β:Bu} {ps:List Int} {F C L:Nat→List Nat} (I:HS β ps F C L) {P S:Nat} (hL:Live β P S) :
  ∃ β' ps' F' C' L',HS β' ps' F' C' L'∧Gone β β' P ∧
   ∀ (m:Int) (w:World) (hb s pb:Nat) (K:ay),ak m w hb s pb K β ps→Calls Tryz.prog 141 #[.pointer (some ⟨hb,0,none⟩),.agg #[.int .u64 P,.int .u64 S]] w (Turns m w hb s pb K β' ps' (.tuple #[])):=by
 have kJ:=I.inv.ord;rcases hL with ⟨a,k,hk,hb,rfl,rfl⟩ | ⟨i,c,x,hc,hx,rfl,rfl⟩
 ·have hbl:(Lib.bitLen (4096*2^k/4096):Int)-1=k:=by
   rw [Nat.mul_div_cancel_left _ (by omega),qj k (by omega)];omega
  have Fu:=fD (o:=k) (by omega);obtain ⟨H,G⟩:=I.Iy hk hb;refine ⟨_,_,_,_,_,H,G,fun m w hb' s pb K R=>?_⟩;refine (PV hb' pb _ _ k (jR s pb K _ ps) R.cells.2.2.2.1 R.blk.lt (by omega) (by omega) hbl (fun W T=>?_)).mono (fun e w' D=>D.turns R G.same);have RW:=R.aj T;refine (RW.sl.po.Eb I.inv hk hb).mono ?_
  rintro e w' ⟨rfl,K',P',N',T'⟩;exact ⟨rfl,K',RW.sl.next T' N' P'.bu,N',T'.mono (fun b _ h=>List.mem_cons_of_mem _ h)⟩
 ·obtain ⟨β',ps',F',C',L',H,G,HC⟩:=I.PU hc hx;have hw:=cO hc;refine ⟨β',ps',F',C',L',H,G,fun m w hb' s pb K R=>?_⟩;refine (JM hb' s _ _ (jR s pb K β' ps') R.cells.2.2.2.2.1 R.blk.lt (by omega) (fun W T=>?_)).mono (fun e w' D=>D.turns R G.same);have RW:=R.aj T;refine (HC W s pb K RW.sl RW.ko (fun k hk=>RW.far k (List.mem_cons_of_mem _ hk))).mono ?_
  rintro e w' ⟨rfl,K',S',N',T'⟩;exact ⟨rfl,K',S',N',T'⟩
theorem ak.Uf {w:World} {hb s pb:Nat} {K:ay} {β:Bu} {ps:List Int} (R:ak 0 w hb s pb K β ps) (p:Nat) (hp:((p:Int) == 0)=false)
  (HS:∀ W,ak 1 W hb s pb K β ps→Calls Tryz.prog 99 #[.pointer (some ⟨hb,0,none⟩),.int .u64 p] W (Started W 0 0 1)) :
  Calls Tryz.prog 92 #[.pointer (some ⟨hb,0,none⟩),.int .u64 p] w (bC w hb s pb K β ps (.int .i64 1)):=by
 obtain ⟨c0,-,-,-,-,f0⟩:=R.cells;have R1:=R.locked 1;have fP:=Hd (HS _ R1);have HR1:=Hd R1;clear R HS R1
 go_enter_defers Tryz.func92,Tryz.ntmps92
 go_wp2_with (go_at_call 58;refine (lock_free Tryz.muLib ⟨hb,0,none⟩ _ c0 f0).mono ?_;rintro e w' ⟨rfl,rfl⟩)
 generalize hw1:w.setCell ⟨hb,0,none⟩ (.int .i32 1)=w1 at *;refine fP.out.mono ?_
 rintro e w2 ⟨rfl,T2⟩;have HW1:=Hd hw1;have HT2:=Hd (T2.alloc (.cells #[.int .u64 0,.int .u64 0] 71));have R2:=HR1.out.aj HT2.out;have hm:=R2.cells.1;have fm:=R2.cells.2.2.2.2.2;clear hw1 R2 T2 c0 f0
 go_wp2
 refine leaves_cons (f:=59) (args:=#[.pointer (some ⟨hb,0,none⟩)]) (by simp) (by simp [go_sem]) ?_
 refine (unlock_deferred Tryz.muLib ⟨hb,0,none⟩ .returning _ hm fm).mono ?_
 rintro e u' w'' ⟨rfl,rfl,rfl⟩;exact ⟨_,results_tmp rfl _ _ _,ak.iX HW1.out.symm HR1.out HT2.out⟩
theorem ak.P8 {w:World} {hb s pb:Nat} {K:ay} {β β':Bu} {ps ps':List Int} (R:ak 0 w hb s pb K β ps) (p S:Nat) (hp:((p:Int) == 0)=false)
  (HS:∀ W,ak 1 W hb s pb K β ps→Calls Tryz.prog 99 #[.pointer (some ⟨hb,0,none⟩),.int .u64 p] W (Started W p S 0))
  (HG:∀ W,ak 1 W hb s pb K β ps→Calls Tryz.prog 141 #[.pointer (some ⟨hb,0,none⟩),.agg #[.int .u64 p,.int .u64 S]] W (Turns 1 W hb s pb K β' ps' (.tuple #[]))) :
  Calls Tryz.prog 92 #[.pointer (some ⟨hb,0,none⟩),.int .u64 p] w (aK w hb s pb K β' ps' (.int .i64 0)):=by
 obtain ⟨c0,-,-,-,-,f0⟩:=R.cells;have R1:=R.locked 1;have fP:=Hd (HS _ R1);have HR1:=Hd R1;have IC:=Hd HG;clear R HS R1 HG
 go_enter_defers Tryz.func92,Tryz.ntmps92
 go_wp2_with (go_at_call 58;refine (lock_free Tryz.muLib ⟨hb,0,none⟩ _ c0 f0).mono ?_;rintro e w' ⟨rfl,rfl⟩)
 generalize hw1:w.setCell ⟨hb,0,none⟩ (.int .i32 1)=w1 at *;refine fP.out.mono ?_
 rintro e w2 ⟨rfl,T2⟩;have HW1:=Hd hw1;have HT2:=Hd (T2.alloc (.cells #[.int .u64 p,.int .u64 S] 71));have R2:=HR1.out.aj HT2.out;have HR2:=Hd R2;clear hw1 R2 T2 c0 f0
 go_wp2_with fail
 refine (IC.out _ HR2.out).mono ?_
 rintro e w3 ⟨rfl,K3,R3,N3,T3⟩;have hm:=R3.cells.1;have fm:=R3.cells.2.2.2.2.2;have HR3:=Hd R3;have yQ:=Hd ((ay.Next.refl w1 K).trans N3 HT2.out.size);have HT3:=Hd (HT2.out.none_.trans T3);clear R3 N3 T3
 go_wp2
 refine leaves_cons (f:=59) (args:=#[.pointer (some ⟨hb,0,none⟩)]) (by simp) (by simp [go_sem]) ?_
 refine (unlock_deferred Tryz.muLib ⟨hb,0,none⟩ .returning _ hm fm).mono ?_
 rintro e u' w'' ⟨rfl,rfl,rfl⟩;exact ⟨_,results_tmp rfl _ _ _,ak.unlocked HW1.out.symm HR3.out yQ.out HT3.out⟩
theorem ak.IJ {w:World} {hb s pb:Nat} {K:ay} {β:Bu} {ps:List Int} (R:ak 0 w hb s pb K β ps) (p P S:Nat) (er:Int)
  (HS:∀ W,ak 1 W hb s pb K β ps→Calls Tryz.prog 99 #[.pointer (some ⟨hb,0,none⟩),.int .u64 p] W (Started W P S er)) :
  Calls Tryz.prog 56 #[.pointer (some ⟨hb,0,none⟩),.int .u64 p] w (bC w hb s pb K β ps (.tuple #[.int .u64 S,.int .i64 er])):=by
 obtain ⟨c0,-,-,-,-,f0⟩:=R.cells;have R1:=R.locked 1;have fP:=Hd (HS _ R1);have HR1:=Hd R1;clear R HS R1
 go_enter_defers Tryz.func56,Tryz.ntmps56
 go_wp2_with (go_at_call 58;refine (lock_free Tryz.muLib ⟨hb,0,none⟩ _ c0 f0).mono ?_;rintro e w' ⟨rfl,rfl⟩)
 generalize hw1:w.setCell ⟨hb,0,none⟩ (.int .i32 1)=w1 at *;refine fP.out.mono ?_
 rintro e w2 ⟨rfl,T2⟩;have HW1:=Hd hw1;have HT2:=Hd (T2.alloc (.cells #[.int .u64 P,.int .u64 S] 71));have R2:=HR1.out.aj HT2.out;have hm:=R2.cells.1;have fm:=R2.cells.2.2.2.2.2;clear hw1 R2 T2 c0 f0
 go_wp2
 refine leaves_cons (f:=59) (args:=#[.pointer (some ⟨hb,0,none⟩)]) (by simp) (by simp [go_sem]) ?_
 refine (unlock_deferred Tryz.muLib ⟨hb,0,none⟩ .returning _ hm fm).mono ?_
 rintro e u' w'' ⟨rfl,rfl,rfl⟩;exact ⟨_,results_tmp2 rfl _ _ _,ak.iX HW1.out.symm HR1.out HT2.out⟩
theorem HS.usable {β:Bu} {ps:List Int} {F C L:Nat→List Nat} (I:HS β ps F C L) (p:Nat) (hp:p<18446744073709551616) :
  (∃ S,Live β p S∧∀ (w:World) (hb s pb:Nat) (K:ay),ak 0 w hb s pb K β ps→Calls Tryz.prog 56 #[.pointer (some ⟨hb,0,none⟩),.int .u64 p] w (bC w hb s pb K β ps (.tuple #[.int .u64 S,.int .i64 0]))) ∨
  ((∀ S,¬Live β p S)∧∀ (w:World) (hb s pb:Nat) (K:ay),ak 0 w hb s pb K β ps→Calls Tryz.prog 56 #[.pointer (some ⟨hb,0,none⟩),.int .u64 p] w (bC w hb s pb K β ps (.tuple #[.int .u64 0,.int .i64 1]))):=by
 rcases I.start p hp with ⟨S,hL,H⟩ | ⟨hno,H⟩
 ·exact .inl ⟨S,hL,fun w hb s pb K R=>R.IJ p p S 0 (fun W RW=>H 1 W hb s pb K RW)⟩
 ·exact .inr ⟨hno,fun w hb s pb K R=>R.IJ p 0 0 1 (fun W RW=>H 1 W hb s pb K RW)⟩
theorem Live.pos {β:Bu} {P S:Nat} (h:Live β P S):0<S∧β.σ.base≤P:=by
 rcases h with ⟨a,k,_,_,rfl,rfl⟩ | ⟨i,c,x,hc,_,rfl,rfl⟩
 ·have:=fF k;unfold Bu.addr;omega
 ·have:=cO hc;unfold Bu.addr;omega
theorem HS.free {β:Bu} {ps:List Int} {F C L:Nat→List Nat} (I:HS β ps F C L) (p:Nat) (hp:p<18446744073709551616) :
  (p=0∧∀ (w:World) (hb s pb:Nat) (K:ay),ak 0 w hb s pb K β ps→Calls Tryz.prog 92 #[.pointer (some ⟨hb,0,none⟩),.int .u64 p] w (bC w hb s pb K β ps (.int .i64 0))) ∨
  (p≠0∧∃ S β' ps' F' C' L',Live β p S∧HS β' ps' F' C' L'∧Gone β β' p∧∀ (w:World) (hb s pb:Nat) (K:ay),ak 0 w hb s pb K β ps→Calls Tryz.prog 92 #[.pointer (some ⟨hb,0,none⟩),.int .u64 p] w (aK w hb s pb K β' ps' (.int .i64 0))) ∨
  (p≠0∧(∀ S,¬Live β p S)∧∀ (w:World) (hb s pb:Nat) (K:ay),ak 0 w hb s pb K β ps→Calls Tryz.prog 92 #[.pointer (some ⟨hb,0,none⟩),.int .u64 p] w (bC w hb s pb K β ps (.int .i64 1))):=by
 by_cases h0:p=0
 ·subst h0;exact .inl ⟨rfl,fun w hb s pb K R=>R.L6⟩
 have hne:((p:Int) == 0)=false:=by rw [beq_eq_false_iff_ne];omega
 rcases I.start p hp with ⟨S,hL,H⟩ | ⟨hno,H⟩
 ·obtain ⟨β',ps',F',C',L',H',G,HG⟩:=I.give hL;exact .inr (.inl ⟨h0,S,β',ps',F',C',L',hL,H',G,fun w hb s pb K R=>R.P8 p S hne (fun W RW=>H 1 W hb s pb K RW) (fun W RW=>HG 1 W hb s pb K RW)⟩)
 ·exact .inr (.inr ⟨h0,hno,fun w hb s pb K R=>R.Uf p hne (fun W RW=>H 1 W hb s pb K RW)⟩)
end Go.Proofs.YtnjcmcnjgdjbiaaGreatDoor
