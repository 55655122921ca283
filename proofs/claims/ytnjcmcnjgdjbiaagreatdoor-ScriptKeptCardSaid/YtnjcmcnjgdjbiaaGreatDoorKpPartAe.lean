/- The walks of package buddy, first part: what a buddy is; address, page. Conditions: as each theorem states. -/
import Derived.Test.YtnjcmcnjgdjbiaaGreatDoorKpPartAd
import Derived.WalkMore
set_option maxRecDepth 100000
set_option maxHeartbeats 2000000
namespace Go.Proofs.YtnjcmcnjgdjbiaaGreatDoor
open Go.RowKit
structure Bu where
 σ:Sp
 μ:Mp
 heads:List Nat
structure ay where
 bb:Nat
 tv:Value
 eO:List Nat
 L:bM
 M:aT
def ay.own (K:ay):List Nat:=K.bb::(K.tv.ownBlock.toList++K.eO)
def ay.fp (K:ay):List Nat:=K.own++(K.L.fp++K.M.fp)
structure Bu.ok (β:Bu):Prop where
 order:β.σ.order=β.μ.order
 heads:β.heads.length=β.μ.order+1
 size:β.σ.size=4096*2^β.μ.order
 limit:β.σ.limit≤64
 base:β.σ.base%4096=0
 pages:β.μ.pages.length≤64*2^β.μ.order
 regs:β.μ.pages.length≤β.σ.n*2^β.μ.order
 head:∀ h∈β.heads,h<18446744073709551616
structure aJ (w:World) (K:ay) (β:Bu):Prop where
 blk:aC w K.bb 274 [.int .u64 β.σ.base,.int .i64 β.σ.limit,.int .i64 β.σ.order,.pointer (some ⟨K.L.sb,0,none⟩),.pointer (some ⟨K.M.mb,0,none⟩),K.tv]
 row:Row w 275 1 K.tv β.heads.length (K.eO.map fun b=>.pointer (some ⟨b,0,none⟩))
 lists:∀ (i b h:Nat),K.eO[i]? = some b→β.heads[i]? = some h→Li w b K.L.sb h
 sp:aP w K.L β.σ
 mp:aI w K.M β.μ
 apart:K.fp.Nodup
 ok:β.ok
theorem aJ.lens {w:World} {K:ay} {β:Bu} (R:aJ w K β):K.eO.length=β.heads.length:=by
 have:=R.row.1;simpa using this
theorem aJ.split {w:World} {K:ay} {β:Bu} (R:aJ w K β):(K.own.Nodup∧(K.L.fp++K.M.fp).Nodup)∧(∀ k∈K.own,k∉K.L.fp∧k∉K.M.fp)∧(∀ k∈K.L.fp,k∉K.M.fp):=by
 have h:=R.apart;unfold ay.fp at h;rw [List.nodup_append] at h;obtain ⟨h1,h2,h3⟩:=h;refine ⟨⟨h1,h2⟩,fun k hk=>⟨fun e=>h3 k hk k (List.mem_append.2 (.inl e)) rfl,fun e=>h3 k hk k (List.mem_append.2 (.inr e)) rfl⟩,fun k hk e=>?_⟩;rw [List.nodup_append] at h2;exact h2.2.2 k hk k e rfl
theorem aJ.mX {w w':World} {K:ay} {β:Bu} {S:Nat→Prop} (R:aJ w K β) (T:Touch S w w') (h:∀ k,k∈K.own→¬S k) :
  aC w' K.bb 274 [.int .u64 β.σ.base,.int .i64 β.σ.limit,.int .i64 β.σ.order,.pointer (some ⟨K.L.sb,0,none⟩),.pointer (some ⟨K.M.mb,0,none⟩),K.tv] ∧
  Row w' 275 1 K.tv β.heads.length (K.eO.map fun b=>.pointer (some ⟨b,0,none⟩)) ∧
  ∀ (i b h:Nat),K.eO[i]? = some b→β.heads[i]? = some h→Li w' b K.L.sb h :=
 ⟨R.blk.touch T (h _ (by simp [ay.own])),R.row.touch T (fun g hg=>h g (by simp [ay.own,hg])),
  fun i b hh hb hhd=>(R.lists i b hh hb hhd).touch T (h b (by simp [ay.own,List.mem_of_getElem? hb]))⟩
theorem aJ.touch {w w':World} {K:ay} {β:Bu} {S:Nat→Prop} (R:aJ w K β) (T:Touch S w w') (h:∀ k,k∈K.fp→¬S k):aJ w' K β:=by
 obtain ⟨h1,h2,h3⟩:=R.mX T (fun k hk=>h k (by simp [ay.fp,hk]));exact ⟨h1,h2,h3,R.sp.touch T (fun k hk=>h k (by simp [ay.fp,hk])),R.mp.touch T (fun k hk=>h k (by simp [ay.fp,hk])),R.apart,R.ok⟩
theorem aJ.aj {w w':World} {K:ay} {β:Bu} (R:aJ w K β) (T:Touch Nothing w w'):aJ w' K β:=R.touch T (fun _ _ h=>h)
theorem aJ.lt {w:World} {K:ay} {β:Bu} (R:aJ w K β):∀ k∈K.fp,k<w.heap.size:=by
 intro k hk;simp only [ay.fp,ay.own,List.mem_append,List.mem_cons,Option.mem_toList] at hk;rcases hk with (rfl | hk | hk) | hk | hk
 ·exact R.blk.lt
 ·exact R.row.lt hk
 ·obtain ⟨i,hi⟩:=List.mem_iff_getElem?.1 hk;have hlen:=R.lens;have hi':=(List.getElem?_eq_some_iff.1 hi).1;exact (R.lists i k _ hi (List.getElem?_eq_getElem (by omega))).lt
 ·exact R.sp.lt k hk
 ·exact R.mp.lt k hk
theorem aJ.mapped {w w':World} {K:ay} {β:Bu} {μ':Mp} (R:aJ w K β) (h:aI w' K.M μ') (T:Touch (·∈K.M.fp) w w') (ho:μ'.order=β.μ.order) (hl:μ'.pages.length=β.μ.pages.length):aJ w' K { β with μ:=μ' }:=by
 obtain ⟨_,s2,s3⟩:=R.split;obtain ⟨h1,h2,h3⟩:=R.mX T (fun k hk=>(s2 k hk).2);have o:=R.ok;exact ⟨h1,h2,h3,R.sp.touch T s3,h,R.apart,⟨o.order.trans ho.symm,o.heads.trans (by rw [ho]),o.size.trans (by rw [ho]),o.limit,o.base,by show μ'.pages.length≤_;rw [hl,ho];exact o.pages,by show μ'.pages.length≤β.σ.n*_;rw [hl,ho];exact o.regs,o.head⟩⟩
theorem aJ.listed {w w':World} {K:ay} {β:Bu} {σ':Sp} {i lb h':Nat} (R:aJ w K β) (hi:K.eO[i]? = some lb) (S:LS w w' K.L lb σ' h') (hσ:σ'.base=β.σ.base∧σ'.limit=β.σ.limit∧σ'.order=β.σ.order∧σ'.size=β.σ.size∧σ'.n=β.σ.n) (h64:h'<18446744073709551616) :
  aJ w' K { β with σ:=σ',heads:=β.heads.set i h' }:=by
 obtain ⟨⟨s0,_⟩,s2,s3⟩:=R.split;have T:=S.touch;have o:=R.ok;have hown:=s0;simp only [ay.own,List.nodup_cons,List.nodup_append,List.mem_append,not_or,Option.mem_toList] at hown;obtain ⟨⟨a1,a2⟩,a3,a4,a5⟩:=hown;have OD:=List.mem_of_getElem? hi
 have hrb:∀ k∈K.own,k≠lb→¬(k∈K.L.eD∨k=lb):=by
  rintro k hk hne (h | h)
  ·exact (s2 k hk).1 (by simp [bM.fp,h])
  ·exact hne h
 have hbb:¬(K.bb∈K.L.eD∨K.bb=lb):=hrb _ (by simp [ay.own]) (fun e=>a2 (e▸OD));refine ⟨?_,?_,?_,S.rep,R.mp.touch T ?_,R.apart,⟨hσ.2.2.1.trans o.order,by show (β.heads.set i h').length=_;rw [List.length_set];exact o.heads,hσ.2.2.2.1.trans o.size,by show σ'.limit≤64;rw [hσ.2.1];exact o.limit,by show σ'.base%4096=0;rw [hσ.1];exact o.base,o.pages,by show _≤σ'.n*_;rw [hσ.2.2.2.2];exact o.regs,?_⟩⟩
 ·have:=R.blk.touch T hbb
  show aC w' K.bb 274 [.int .u64 σ'.base,.int .i64 σ'.limit,.int .i64 σ'.order,_,_,_]
  rw [hσ.1,hσ.2.1,hσ.2.2.1];exact this
 ·show Row w' 275 1 K.tv (β.heads.set i h').length _
  rw [List.length_set];exact R.row.touch T (fun g hg=>hrb g (by simp [ay.own,hg]) (fun e=>a5 g hg lb OD e))
 ·intro j b hh hb hhd;by_cases hj:j=i
  ·subst hj;rw [hi] at hb;cases hb;have hlen:=R.lens;have:=(List.getElem?_eq_some_iff.1 hi).1;simp [show j<β.heads.length from by omega] at hhd;rw [←hhd];exact S.list
  ·have hne:b≠lb:=by
    rintro rfl;have h1:=(List.getElem?_eq_some_iff.1 hb);have h2:=(List.getElem?_eq_some_iff.1 hi);obtain ⟨x1,x2⟩:=h1;obtain ⟨y1,y2⟩:=h2;exact hj ((List.getElem_inj a4).1 (x2.trans y2.symm))
   refine (R.lists j b hh hb ?_).touch T (hrb b (by simp [ay.own,List.mem_of_getElem? hb]) hne);simpa [List.getElem?_set,Ne.symm hj] using hhd
 ·rintro k hk (h | h)
  ·exact s3 k (by simp [bM.fp,h]) hk
  ·exact (s2 lb (by simp [ay.own,OD])).2 (h▸hk)
 ·intro x hx;rcases List.mem_or_eq_of_mem_set hx with h | h
  ·exact o.head x h
  ·rw [h];exact h64
theorem aJ.cells {w:World} {K:ay} {β:Bu} (R:aJ w K β) :
  w.cell? ⟨K.bb,0,none⟩=some (.int .u64 β.σ.base)∧w.cell? ⟨K.bb,1,none⟩=some (.int .i64 β.σ.limit)∧w.cell? ⟨K.bb,2,none⟩=some (.int .i64 β.μ.order) ∧
  w.cell? ⟨K.bb,3,none⟩=some (.pointer (some ⟨K.L.sb,0,none⟩))∧w.cell? ⟨K.bb,4,none⟩=some (.pointer (some ⟨K.M.mb,0,none⟩))∧w.cell? ⟨K.bb,5,none⟩=some K.tv:=by
 rw [←R.ok.order];exact ⟨R.blk.cell 0,R.blk.cell 1,R.blk.cell 2,R.blk.cell 3,R.blk.cell 4,R.blk.cell 5⟩
def Bu.addr (β:Bu) (i:Nat):Nat:=β.σ.base+4096*i
theorem aJ.qI {w:World} {K:ay} {β:Bu} (R:aJ w K β) (i:Nat) (h:β.addr i<18446744073709551616) :
  Calls Tryz.prog 256 #[.pointer (some ⟨K.bb,0,none⟩),.int .i64 i] w fun e w'=>e=.returned (.int .u64 (β.addr i:Nat))∧w=w':=by
 obtain ⟨c0,-,-,-,-,-⟩:=R.cells;unfold Bu.addr at *;have hc:((β.σ.base+4096*i:Nat):Int)=(β.σ.base:Int)+4096*i:=by omega
 rw [hc];have h':(β.σ.base:Int)+4096*i<18446744073709551616:=by omega
 clear R h hc
 go_enter Tryz.func256,Tryz.ntmps256
 go_wp2
 go_ret
 exact ⟨rfl,rfl⟩
theorem Jw (b mb base p d i n:Nat) (w:World) (c0:w.cell? ⟨b,0,none⟩=some (.int .u64 base)) (c4:w.cell? ⟨b,4,none⟩=some (.pointer (some ⟨mb,0,none⟩)))
  (hc:∀ k,Calls Tryz.prog 64 #[.pointer (some ⟨mb,0,none⟩)] (w.drewN k) fun e w'=>e=.returned (.int .i64 n)∧w'=w.drewN k)
  (h1:(p:Int)-base=d) (h2:(d:Int)/4096=i) (h3:(p:Int).tmod 4096=0) (_h3':(p:Int)%4096=0) (_h4:i<n) (h5:n≤1024) (_h6:base≤p) (h6':¬(p<base)) (h7:¬(n≤i)) (_h8:p<18446744073709551616) (h9:d<18446744073709551616) :
  Calls Tryz.prog 237 #[.pointer (some ⟨b,0,none⟩),.int .u64 p] w fun e w'=>e=.returned (.tuple #[.int .i64 i,.bool true])∧∃ k,w'=w.drewN k:=by
 have HC:=Hd hc;clear hc
 go_enter Tryz.func237,Tryz.ntmps237
 go_wp2_with fail
 go_quiet (first | (go_at_call 64;refine Calls.quiet_of_same (HC.out _)))
 go_wp2_with fail
 go_ret2
 exact ⟨rfl,_,rfl⟩
theorem Bu.ok.dZ {β:Bu} (o:β.ok) (so:β.σ.ok) {i:Nat} (h:i<β.μ.pages.length):β.addr i+4096≤18446744073709551615:=by
 have h1:=o.pages;have h2:=so.top;have h3:=o.size
 have h4:4096*β.μ.pages.length≤64*β.σ.size:=by
  rw [h3]
  calc 4096*β.μ.pages.length≤4096*(64*2^β.μ.order):=Nat.mul_le_mul_left _ h1
   _=64*(4096*2^β.μ.order):=by rw [←Nat.mul_assoc,←Nat.mul_assoc]
 unfold Bu.addr;omega
theorem aJ.Rw {w:World} {K:ay} {β:Bu} (R:aJ w K β) {i:Nat} (h:i<β.μ.pages.length) :
  Calls Tryz.prog 237 #[.pointer (some ⟨K.bb,0,none⟩),.int .u64 (β.addr i:Nat)] w fun e w'=>e=.returned (.tuple #[.int .i64 i,.bool true])∧Touch Nothing w w':=by
 obtain ⟨c0,-,-,-,c4,-⟩:=R.cells;have ht:=R.ok.dZ R.sp.ok h;have hb:=R.ok.base;have hl:=R.mp.ok.len;have hmod:(β.addr i)%4096=0:=by unfold Bu.addr;omega
 refine (Jw K.bb K.M.mb β.σ.base (β.addr i) (4096*i) i β.μ.pages.length w c0 c4 ?_ (by unfold Bu.addr;omega) (by omega) ?_ (by omega) h hl (by unfold Bu.addr;omega) (by unfold Bu.addr;omega) (by omega) (by omega) (by unfold Bu.addr at ht;omega)).mono ?_
 ·intro k;exact ((R.mp.aj ((Touch.refl Nothing w).drewN k)).sU).mono fun _ _ h=>⟨h.1,h.2.symm⟩
 ·have:((β.addr i:Nat):Int).tmod 4096=((β.addr i%4096:Nat):Int):=(Int.ofNat_tmod _ _).symm;rw [this,hmod];rfl
 ·rintro e w' ⟨rfl,k,rfl⟩;exact ⟨rfl,(Touch.refl Nothing w).drewN k⟩
theorem aJ.y8 {w:World} {K:ay} {β:Bu} (R:aJ w K β) (i:Nat) :
  Calls Tryz.prog 239 #[.pointer (some ⟨K.bb,0,none⟩),.int .i64 i,.int .i64 β.μ.order] w fun e w'=>e=.returned (.bool true)∧w=w':=by
 obtain ⟨-,-,c2,-,-,-⟩:=R.cells;clear R
 go_enter Tryz.func239,Tryz.ntmps239
 go_wp2
 go_ret
 exact ⟨rfl,rfl⟩
def Mp.bit (μ:Mp) (k i:Nat):Bool:=eZ (μ.pairs.getD k ⟨0,[]⟩).ws (i/2^(k+1))
def Turned (w:World) (K:ay) (β:Bu) (v:Value) (e:Ending) (w':World):Prop:=e=.returned v∧aJ w' K β∧Touch (·∈K.fp) w w'
theorem aJ.Jy {w:World} {K:ay} {β:Bu} (R:aJ w K β) {i k:Nat} {p:Pg} (hi:β.μ.pages[i]? = some p) (hk:k<β.μ.order) (hn:i/2^(k+1)<(β.μ.pairs.getD k ⟨0,[]⟩).n) :
  Calls Tryz.prog 239 #[.pointer (some ⟨K.bb,0,none⟩),.int .i64 i,.int .i64 k] w (Turned w K { β with μ:=β.μ.flip k i } (.bool (!β.μ.bit k i))):=by
 obtain ⟨-,-,c2,-,c4,-⟩:=R.cells;have HF:=Hd (R.mp.Jp hi hk hn);have HR:=Hd R;have hne:=int_ne (show k≠β.μ.order by omega);unfold Mp.bit;generalize eZ (β.μ.pairs.getD k ⟨0,[]⟩).ws (i/2^(k+1))=B at *;clear R hi hn
 go_enter Tryz.func239,Tryz.ntmps239
 go_wp2_with fail
 refine HF.out.mono ?_
 rintro e w1 ⟨rfl,h1,h2⟩;have H1:=Hd h1;have H2:=Hd h2;clear h1 h2
 go_wp2_with fail
 go_ret
 have T:Touch (·∈K.M.fp) w w1:=H2.out.mono (fun k _ hk=>aT.Oy k hk);exact ⟨rfl,HR.out.mapped H1.out T rfl rfl,T.mono (fun k _ hk=>by simp [ay.fp,hk])⟩
theorem Bu.ok.has {β:Bu} (o:β.ok) {i off n:Nat} (hi:i<β.μ.pages.length) (hn:0<n) (hf:off+n≤4096):β.σ.has (β.addr i+off) n:=by
 have e:β.addr i+off-β.σ.base=4096*i+off:=by unfold Bu.addr;omega
 have hp:0<2^β.μ.order:=Nat.pos_of_ne_zero (by simp);have Vh:=Nat.div_add_mod i (2^β.μ.order);have hr:=Nat.mod_lt i hp
 have hs:4096*i+off=β.σ.size*(i/2^β.μ.order)+(4096*(i%2^β.μ.order)+off):=by
  rw [o.size,Nat.mul_assoc];have:4096*i=4096*(2^β.μ.order*(i/2^β.μ.order))+4096*(i%2^β.μ.order):=by rw [←Nat.mul_add,Vh]
  omega
 have hlt:4096*(i%2^β.μ.order)+off<β.σ.size:=by rw [o.size];omega
 have hdiv:(4096*i+off)/β.σ.size=i/2^β.μ.order:=by
  rw [hs,Nat.mul_add_div (by omega),Nat.div_eq_of_lt hlt];omega
 have hmod:(4096*i+off)%β.σ.size=4096*(i%2^β.μ.order)+off:=by
  rw [hs,Nat.mul_add_mod,Nat.mod_eq_of_lt hlt]
 refine ⟨hn,by unfold Bu.addr;omega,?_,?_⟩
 ·rw [e,hdiv];exact (Nat.div_lt_iff_lt_mul hp).2 (Nat.lt_of_lt_of_le hi o.regs)
 ·rw [e,hmod,o.size];omega
theorem aJ.ls {w:World} {K:ay} {β:Bu} (R:aJ w K β) {k lb h:Nat} (hb:K.eO[k]? = some lb) (hh:β.heads[k]? = some h):LS w w K.L lb β.σ h:=by
 obtain ⟨_,s2,_⟩:=R.split;exact ⟨R.sp,R.lists k lb h hb hh,(s2 lb (by simp [ay.own,List.mem_of_getElem? hb])).1,Touch.refl _ _⟩
theorem aJ.wE {w:World} {K:ay} {β:Bu} (R:aJ w K β) {k:Nat} (hk:k≤β.μ.order) :
  ∃ g cap lb,K.tv=.slice (some ⟨g,0,none⟩) β.heads.length cap∧β.heads.length≤cap∧K.eO[k]? = some lb∧w.cell? ⟨g,k,none⟩=some (.pointer (some ⟨lb,0,none⟩))∧β.heads[k]? = some (β.heads.getD k 0):=by
 have hl:=R.ok.heads;have hll:=R.lens;obtain ⟨g,cap,hv,hc,_⟩:=R.row.form (by omega);have hr:=R.row;rw [hv] at hr;have hk':k<K.eO.length:=by omega
 refine ⟨g,cap,K.eO[k],hv,hc,List.getElem?_eq_getElem hk',?_,?_⟩
 ·rw [hr.cell _ (by omega)];simp [hk']
 ·rw [List.getD_eq_getElem?_getD,List.getElem?_eq_getElem (by omega)];rfl
def Bu.enter (β:Bu) (j k:Nat):Bu:={ σ:=pushed β.σ (β.heads.getD k 0) (β.addr j),μ:=β.μ.run j k 0,heads:=β.heads.set k (β.addr j) }
theorem oD (σ:Sp) (h p:Nat):(pushed σ h p).base=σ.base∧(pushed σ h p).limit=σ.limit∧(pushed σ h p).order=σ.order∧(pushed σ h p).size=σ.size∧(pushed σ h p).n=σ.n:=by
 unfold pushed;split <;> exact ⟨rfl,rfl,rfl,rfl,rfl⟩
theorem aJ.zY {w:World} {K:ay} {β:Bu} (R:aJ w K β) (j k:Nat) (hk:k≤β.μ.order) (hj:(j:Int).tmod (2^k:Nat)=0) (hle:j+2^k≤β.μ.pages.length)
  (hh:β.heads.getD k 0≠0→β.σ.has (β.heads.getD k 0) 16∧β.σ.word (β.heads.getD k 0+8)=0) :
  Calls Tryz.prog 238 #[.pointer (some ⟨K.bb,0,none⟩),.int .i64 j,.int .i64 k] w (Turned w K (β.enter j k) (.tuple #[])):=by
 obtain ⟨-,-,-,-,c4,-⟩:=R.cells;have hpw:0<2^k:=Nat.pos_of_ne_zero (by simp);have wD:=Hd (R.mp.XJ j k hk hj hle);have hjl:j<β.μ.pages.length:=by omega
 have HR:=Hd R;have HH:=Hd hh;have hl9:=R.ok.heads;clear R hj hle hh
 go_enter Tryz.func238,Tryz.ntmps238
 go_wp2_with fail
 refine wD.out.mono ?_
 rintro e w1 ⟨rfl,h1,h2⟩;have T1:Touch (·∈K.M.fp) w w1:=h2.mono (fun b _ e=>by simp [aT.fp,e.symm]);have R1:=(HR.out.mapped h1 T1 rfl (gU _ _ _ _ _)).aj (Touch.refl Nothing w1).drew;obtain ⟨g,cap,lb,hv,hc,hlb,hcell,hhd⟩:=R1.wE hk;obtain ⟨-,-,-,-,-,c5⟩:=R1.cells;rw [hv] at c5;have hadd:=R1.ok.dZ R1.sp.ok (i:=j) (by show j<(β.μ.run j k 0).pages.length;rw [show (β.μ.run j k 0).pages.length=β.μ.pages.length from gU _ _ _ _ _];exact hjl);have HA:=Hd (R1.qI j (by omega))
 have hhas:β.σ.has (β.addr j) 16:=by
  have:=HR.out.ok.has (i:=j) (off:=0) (n:=16) hjl (by omega) (by omega);simpa using this
 have h64:=R1.ok.head _ (List.mem_of_getElem? hhd);have HP:=Hd ((R1.ls hlb hhd).push hhas HH.out h64);have HR1:=Hd R1;have HT1:=Hd T1;have HHD:=Hd hhd;have Yy:=Hd hlb;have HV:=Hd hv;have hkl:(k:Int)<(β.μ.order:Int)+1:=by omega
 have Rx:=World.block_lt_of_cell? _ _ hcell;clear R1 T1 h1 h2 hhd hlb hhas hv hc
 go_wp2_with fail
 refine wp_region_still_tail 10 (by kernel_rfl) (by kernel_rfl) ?_
 simp only [List.take_succ_cons,List.take_zero,List.drop_succ_cons,List.drop_zero,World.drew_eq]
 repeat still_step
 still_call (HA.out.mono fun _ _ h=>⟨h.1,h.2.symm⟩)
 refine wpStill_nil ?_
 go_wp2_with fail
 refine HP.out.mono ?_
 rintro e w2 ⟨rfl,S2⟩;have HS2:=Hd S2;clear S2
 go_wp2_with fail
 go_end0
 have hw:β.addr j<18446744073709551616:=by have:=HR.out.ok.dZ HR.out.sp.ok hjl;omega
 refine ⟨rfl,HR1.out.listed Yy.out HS2.out (oD _ _ _) hw,(HT1.out.drew.mono (fun b _ hb=>by simp [ay.fp,hb])).trans (HS2.out.touch.mono (fun b _ hb=>?_))⟩;rcases hb with hb | hb
 ·simp [ay.fp,bM.fp,hb]
 ·simp [ay.fp,ay.own,hb,List.mem_of_getElem? Yy.out]
def Bu.lV (β:Bu) (s i:Nat):Bu:={ β.enter s i with μ:=(β.enter s i).μ.flip i s }
def Bu.gJ (β:Bu) (j iP:Nat):Nat→Bu
 | 0=>β
 | m+1=>(β.gJ j iP m).lV (j+2^(iP-1-m)) (iP-1-m)
def Bu.cut (β:Bu) (j iP lo:Nat):Bu:={ β.gJ j iP (iP-lo) with μ:=(β.gJ j iP (iP-lo)).μ.run j lo 2 }
structure xM (β:Bu) (s i:Nat):Prop where
 ord:i<β.μ.order
 al:(s:Int).tmod (2^i:Nat)=0
 le:s+2^i≤β.μ.pages.length
 hd:β.heads.getD i 0≠0→β.σ.has (β.heads.getD i 0) 16∧β.σ.word (β.heads.getD i 0+8)=0
 pr:s/2^(i+1)<(β.μ.pairs.getD i ⟨0,[]⟩).n
theorem aJ.round {w:World} {K:ay} {β:Bu} (R:aJ w K β) {s i:Nat} (C:xM β s i) :
  Calls Tryz.prog 238 #[.pointer (some ⟨K.bb,0,none⟩),.int .i64 s,.int .i64 i] w (Turned w K (β.enter s i) (.tuple #[])) ∧
  ∀ w1,aJ w1 K (β.enter s i)→Calls Tryz.prog 239 #[.pointer (some ⟨K.bb,0,none⟩),.int .i64 s,.int .i64 i] w1 (Turned w1 K (β.lV s i) (.bool (!(β.enter s i).μ.bit i s))):=by
 refine ⟨R.zY s i (Nat.le_of_lt C.ord) C.al C.le C.hd,fun w1 r=>?_⟩;have hpw:0<2^i:=Nat.pos_of_ne_zero (by simp)
 have hlt:s<(β.enter s i).μ.pages.length:=by
  show _<(uI _ _ _ _ _).length
  rw [gU];have:=C.le;omega
 exact r.Jy (List.getElem?_eq_getElem hlt) C.ord C.pr
structure Vi (w:World) (K:ay) (β:Bu) (wr:World):Prop where
 rep:aJ wr K β
 touch:Touch (·∈K.fp) w wr
theorem aJ.Jq {w:World} {K:ay} {β:Bu} (R:aJ w K β) (j iP lo:Nat) (ht:lo≤iP) (hf:iP≤β.μ.order) (hC:∀ m,m<iP-lo→xM (β.gJ j iP m) (j+2^(iP-1-m)) (iP-1-m))
  (hto:lo≤(β.gJ j iP (iP-lo)).μ.order) (hj:(j:Int).tmod (2^lo:Nat)=0) (hle:j+2^lo≤(β.gJ j iP (iP-lo)).μ.pages.length) :
  Calls Tryz.prog 189 #[.pointer (some ⟨K.bb,0,none⟩),.int .i64 j,.int .i64 iP,.int .i64 lo] w (Turned w K (β.cut j iP lo) (.tuple #[])):=by
 have Rt:=R.mp.ok.order;have hf8:iP≤8:=by omega
 have HR:=Hd R;have HC:=Hd hC;have Vj:=Hd (And.intro hto (And.intro hj hle));clear R hC hto hj hle
 go_enter Tryz.func189,Tryz.ntmps189
 go_wp2_with fail
 go_loopw [8] (fun a wr=>∃ m:Nat,m≤iP-lo∧a=.int .i64 ((iP:Int)-1-m)∧Vi w K (β.gJ j iP m) wr) (fun a _=>(intOf a+1).toNat)
 case atStart =>
  exact ⟨0,Nat.zero_le _,by simp,HR.out,Touch.refl _ _⟩
 case round =>
  obtain ⟨m,hm,rfl,hF⟩:=hrel;have HF:=Hd hF;clear hF;by_cases hlt:m<iP-lo
  ·obtain ⟨i,hi⟩:∃ i,i=iP-1-m:=⟨_,rfl⟩;have hii:(iP:Int)-1-m=i:=by omega
   have C:=HC.out m hlt;rw [←hi] at C;obtain ⟨s,hs⟩:∃ s,s=j+2^i:=⟨_,rfl⟩;rw [←hs] at C;have hle:=C.le;have hlen:=HF.out.rep.mp.ok.len;have Yz:i≤8:=by omega
   have hpi:=fD Yz;have XL:=Hd (show (β.gJ j iP (m+1))=(β.gJ j iP m).lV s i by rw [hs,hi];rfl);have HE:=Hd (HF.out.rep.round C).1;have oU:=Hd (HF.out.rep.round C).2;have HI:=Hd hi;have hge:lo≤i:=by omega
   rw [hii]
   have hwj:wrap64 ((j:Int)+((2^i:Nat):Int))=(s:Int):=by
    rw [hs];have:((j+2^i:Nat):Int)=(j:Int)+((2^i:Nat):Int):=by omega
    rw [this];exact IntWalk.wrap64_in _ ⟨by omega,by omega⟩
   have hwp:=lF Yz;clear C hle hi hii hs;generalize 2^i=y at *;generalize β.gJ j iP m=βm at *
   go_wp2_with fail
   refine HE.out.mono ?_
   rintro e w1 ⟨rfl,r1,t1⟩;have HR1:=Hd r1;have HT1:=Hd t1;clear r1 t1
   go_wp2_with fail
   refine (oU.out _ HR1.out).mono ?_
   rintro e w2 ⟨rfl,r2,t2⟩;have HR2:=Hd r2;have HT2:=Hd t2;clear r2 t2
   go_wp2_with fail
   clear hwp hwj;have hi:=HI.out
   go_roundw
   case rel =>
    refine ⟨m+1,by omega,by congr 1;omega,?_⟩;rw [XL.out];exact ⟨HR2.out,(HF.out.touch.trans HT1.out).trans HT2.out⟩
   case measure=>simp [intOf]
  ·obtain rfl:m=iP-lo:=by omega
   have Vk:=HF.out.rep.mp.D8 j lo Vj.out.1 Vj.out.2.1 Vj.out.2.2;obtain ⟨-,-,-,-,c4,-⟩:=HF.out.rep.cells;have wD:=Hd Vk;have hv:(iP:Int)-1-((iP-lo:Nat):Int)=(lo:Int)-1:=by omega
   rw [hv];clear Vk hv
   go_wp2_with fail
   refine wD.out.mono ?_
   rintro e w1 ⟨rfl,r1,t1⟩;have HR1:=Hd r1;have HT1:=Hd t1;clear r1 t1
   go_wp2_with fail
   go_end0
   have T:Touch (·∈K.M.fp) wr w1:=HT1.out.mono (fun b _ e=>by simp [aT.fp,e.symm]);exact ⟨rfl,HF.out.rep.mapped HR1.out T rfl (gU _ _ _ _ _),HF.out.touch.trans (T.mono (fun b _ hb=>by simp [ay.fp,hb]))⟩
theorem aJ.Cw {w:World} {K:ay} {β:Bu} (R:aJ w K β) {k:Nat} (hk:k≤β.μ.order) :
  ∃ g cap lb,w.cell? ⟨K.bb,5,none⟩=some (.slice (some ⟨g,0,none⟩) (β.μ.order+1) cap)∧K.eO[k]? = some lb∧w.cell? ⟨g,k,none⟩=some (.pointer (some ⟨lb,0,none⟩))∧g<w.heap.size∧β.heads[k]? = some (β.heads.getD k 0):=by
 obtain ⟨g,cap,lb,hv,hc,hlb,hcell,hhd⟩:=R.wE hk;obtain ⟨-,-,-,-,-,c5⟩:=R.cells;rw [hv,R.ok.heads] at c5;exact ⟨g,cap,lb,c5,hlb,hcell,World.block_lt_of_cell? _ _ hcell,hhd⟩
theorem aJ.rH {w:World} {K:ay} {β:Bu} (R:aJ w K β) (o:Nat) (ho:o≤β.μ.order) (hh:∀ k,o≤k→k≤β.μ.order→β.heads.getD k 0=0) :
  Calls Tryz.prog 247 #[.pointer (some ⟨K.bb,0,none⟩),.int .i64 o] w fun e w'=>e=.returned (.tuple #[.int .u64 0,.int .i64 2])∧w=w':=by
 obtain ⟨-,-,c2,-,-,-⟩:=R.cells;have Rt:=R.mp.ok.order;have qG:o≤8:=by omega
 have HR:=Hd R;have HH:=Hd hh;have hg1:¬(β.μ.order<o):=by omega
 clear R hh
 go_enter Tryz.func247,Tryz.ntmps247
 go_wp2_with fail
 go_loopw [6] (fun a wr=>∃ k:Nat,o≤k∧k≤β.μ.order+1∧a=.int .i64 k∧w=wr) (fun a _=>β.μ.order+1-(intOf a).toNat)
 case atStart=>exact ⟨o,Nat.le_refl _,by omega,rfl,rfl⟩
 case round =>
  obtain ⟨k,hk1,hk2,rfl,rfl⟩:=hrel;by_cases hlt:k≤β.μ.order
  ·obtain ⟨g,cap,lb,c5,hlb,hcell,hg,hhd⟩:=HR.out.Cw hlt;rw [HH.out k hk1 hlt] at hhd;have HP:=Hd ((HR.out.ls hlb hhd).nY);have hkl:(k:Int)<(β.μ.order:Int)+1:=by omega
   clear hlb hhd
   go_wp2_with fail
   refine HP.out.mono ?_
   rintro e w1 ⟨rfl,rfl⟩
   go_wp2_with fail
   go_roundw
   case rel=>exact ⟨k+1,by omega,by omega,by go_num,trivial⟩
   case measure=>simp [intOf];omega
  ·obtain rfl:k=β.μ.order+1:=by omega
   go_wp2_with fail
   go_ret2
   exact ⟨rfl,rfl⟩
def Bu.popped (β:Bu) (j next:Nat):Bu:={ β with σ:=removed β.σ next 0,heads:=β.heads.set j next }
def Bu.turned (β:Bu) (i j:Nat):Bu:=if j=β.μ.order then β else { β with μ:=β.μ.flip j i }
theorem wF (σ:Sp) (next:Nat):(removed σ next 0).base=σ.base∧(removed σ next 0).limit=σ.limit∧(removed σ next 0).order=σ.order∧(removed σ next 0).size=σ.size∧(removed σ next 0).n=σ.n:=by
 unfold removed cK;split <;> exact ⟨rfl,rfl,rfl,rfl,rfl⟩
theorem aJ.TI {w:World} {K:ay} {β:Bu} (R:aJ w K β) {i j:Nat} (hi:i<β.μ.pages.length) (hj:j≤β.μ.order) (hn:j<β.μ.order→i/2^(j+1)<(β.μ.pairs.getD j ⟨0,[]⟩).n) :
  Calls Tryz.prog 239 #[.pointer (some ⟨K.bb,0,none⟩),.int .i64 i,.int .i64 j] w fun e w'=>∃ b,e=.returned (.bool b)∧aJ w' K (β.turned i j)∧Touch (·∈K.fp) w w':=by
 unfold Bu.turned;by_cases h:j=β.μ.order
 ·subst h;rw [if_pos rfl];refine (R.y8 i).mono ?_
  rintro e w' ⟨rfl,rfl⟩;exact ⟨true,rfl,R,Touch.refl _ _⟩
 ·rw [if_neg h];refine (R.Jy (List.getElem?_eq_getElem hi) (by omega) (hn (by omega))).mono ?_
  rintro e w' ⟨rfl,r,t⟩;exact ⟨_,rfl,r,t⟩
def Bu.took (β:Bu) (i j o next:Nat):Bu:=((β.popped j next).turned i j).cut i j o
structure tC (β:Bu) (i j o next:Nat):Prop where
 lo:o≤j
 hi:j≤β.μ.order
 none:∀ k,o≤k→k<j→β.heads.getD k 0=0
 head:β.heads.getD j 0=β.addr i
 page:i<β.μ.pages.length
 link:β.σ.word (β.addr i)=next
 prev:β.σ.word (β.addr i+8)=0
 back:next≠0→β.σ.has next 16∧β.σ.word (next+8)=β.addr i
 pair:j<β.μ.order→i/2^(j+1)<(β.μ.pairs.getD j ⟨0,[]⟩).n
 cut:∀ m,m<j-o→xM (((β.popped j next).turned i j).gJ i j m) (i+2^(j-1-m)) (j-1-m)
 aaf:o≤(((β.popped j next).turned i j).gJ i j (j-o)).μ.order
 al:(i:Int).tmod (2^o:Nat)=0
 le:i+2^o≤(((β.popped j next).turned i j).gJ i j (j-o)).μ.pages.length
theorem aJ.Cx {w:World} {K:ay} {β:Bu} (R:aJ w K β) (i j o next:Nat) (C:tC β i j o next) :
  Calls Tryz.prog 247 #[.pointer (some ⟨K.bb,0,none⟩),.int .i64 o] w (Turned w K (β.took i j o next) (.tuple #[.int .u64 (β.addr i:Nat),.int .i64 0])):=by
 obtain ⟨-,-,c2,-,-,-⟩:=R.cells;have Rt:=R.mp.ok.order;have hlo:=C.lo;have hhi:=C.hi;have qG:o≤8:=by omega
 have HR:=Hd R;have HC:=Hd C;have hg1:¬(β.μ.order<o):=by omega
 clear R C
 go_enter Tryz.func247,Tryz.ntmps247
 go_wp2_with fail
 go_loopw [6] (fun a wr=>∃ k:Nat,o≤k∧k≤j∧a=.int .i64 k∧w=wr) (fun a _=>β.μ.order+1-(intOf a).toNat)
 case atStart=>exact ⟨o,Nat.le_refl _,hlo,rfl,rfl⟩
 case round =>
  obtain ⟨k,hk1,hk2,rfl,rfl⟩:=hrel;have hlt:k≤β.μ.order:=by omega
  obtain ⟨g,cap,lb,c5,hlb,hcell,hg,hhd⟩:=HR.out.Cw hlt;have hkl:(k:Int)<(β.μ.order:Int)+1:=by omega
  by_cases hkj:k<j
  ·rw [HC.out.none k hk1 hkj] at hhd;have HP:=Hd ((HR.out.ls hlb hhd).nY);clear hlb hhd
   go_wp2_with fail
   refine HP.out.mono ?_
   rintro e w1 ⟨rfl,rfl⟩
   go_wp2_with fail
   go_roundw
   case rel=>exact ⟨k+1,by omega,by omega,by go_num,trivial⟩
   case measure=>simp [intOf];omega
  ·obtain rfl:k=j:=by omega
   rw [HC.out.head] at hhd;have hbase:=HR.out.sp.ok.base0;have hpos:β.addr i≠0:=by unfold Bu.addr;omega
   have hhas:β.σ.has (β.addr i) 16:=by
    have:=HR.out.ok.has (i:=i) (off:=0) (n:=16) HC.out.page (by omega) (by omega);simpa using this
   have n64:next<18446744073709551616:=by rw [←HC.out.link];exact HR.out.sp.ok.word_lt _
   have HP:=Hd ((HR.out.ls hlb hhd).pop hpos hhas HC.out.link HC.out.prev HC.out.back n64);have HB:=Hd hlb;have hlen:=HR.out.mp.ok.len
   have hap:(β.popped k next).addr i=β.addr i:=by
    show (removed β.σ next 0).base+4096*i=_
    rw [(wF β.σ next).1];rfl
   have HN:=Hd n64;clear hlb hhd hbase hpos hhas n64
   go_wp2_with fail
   refine HP.out.mono ?_
   rintro e w1 ⟨rfl,S1⟩;have R1:=HR.out.listed HB.out S1 (wF _ _) HN.out
   have T1:Touch (·∈K.fp) w w1:=S1.touch.mono (fun b _ hb=>by
    rcases hb with hb | hb
    ·simp [ay.fp,bM.fp,hb]
    ·simp [ay.fp,ay.own,hb,List.mem_of_getElem? HB.out])
   have zZ:=Hd (aJ.Rw (β:=β.popped k next) R1 HC.out.page);rw [hap] at zZ;have HR1:=Hd (show aJ w1 K (β.popped k next) from R1);have HT1:=Hd T1;clear R1 T1 S1 c5 hcell
   go_wp2_with fail
   refine zZ.out.mono ?_
   rintro e w2 ⟨rfl,t2⟩;have Aa:=Hd ((HR1.out.aj t2).TI (i:=i) (j:=k) HC.out.page hhi HC.out.pair);have HT2:=Hd t2;clear t2
   go_wp2_with fail
   refine Aa.out.mono ?_
   rintro e w3 ⟨b,rfl,r3,t3⟩
   have ho3:k≤((β.popped k next).turned i k).μ.order:=by
    unfold Bu.turned;split
    ·exact hhi
    ·exact hhi
   have HCu:=Hd (r3.Jq i k o hlo ho3 HC.out.cut HC.out.aaf HC.out.al HC.out.le);have HT3:=Hd t3;clear r3 t3 ho3
   go_wp2_with fail
   refine HCu.out.mono ?_
   rintro e w4 ⟨rfl,r4,t4⟩;have HR4:=Hd r4;have eu:=Hd t4;clear r4 t4
   go_wp2_with fail
   go_ret2
   exact ⟨rfl,HR4.out,((HT1.out.trans HT2.out.none_).trans HT3.out).trans eu.out⟩
theorem aJ.xO {w:World} {K:ay} {β:Bu} (R:aJ w K β) (i k:Nat) {p:Pg} (hi:β.μ.pages[i]? = some p) (hk:p.kind=2) (ho:p.order=k) :
  Calls Tryz.prog 188 #[.pointer (some ⟨K.bb,0,none⟩),.int .u64 (β.addr i:Nat),.int .i64 k] w fun e w'=>e=.returned (.tuple #[.int .i64 i,.bool true])∧Touch Nothing w w':=by
 have hlt:=(List.getElem?_eq_some_iff.1 hi).1;have HP:=Hd (R.Rw hlt);have HR:=Hd R;have HI:=Hd hi;clear R hi
 go_enter Tryz.func188,Tryz.ntmps188
 go_wp2_with fail
 refine HP.out.mono ?_
 rintro e w1 ⟨rfl,T1⟩;have R1:=HR.out.aj T1;obtain ⟨-,-,-,-,c4,-⟩:=R1.cells;have HA:=Hd (R1.mp.at_ HI.out);have HT1:=Hd T1;clear R1 T1
 go_wp2_with fail
 refine HA.out.mono ?_
 rintro e w2 ⟨rfl,T2⟩;have HT2:=Hd T2;clear T2;unfold Pg.val
 go_wp2_with fail
 go_quiet (fail)
 go_wp2
 go_ret2
 exact ⟨rfl,(HT1.out.trans (HT2.out.alloc _)).drewN _⟩
theorem LK (b sb mb o n y t f:Nat) (w:World) (c2:w.cell? ⟨b,2,none⟩=some (.int .i64 o)) (c3:w.cell? ⟨b,3,none⟩=some (.pointer (some ⟨sb,0,none⟩))) (c4:w.cell? ⟨b,4,none⟩=some (.pointer (some ⟨mb,0,none⟩)))
  (hr:∀ k,Calls Tryz.prog 284 #[.pointer (some ⟨sb,0,none⟩)] (w.drewN k) fun e w'=>e=.returned (.int .i64 n)∧w'=w.drewN k)
  (hp:∀ k,Calls Tryz.prog 64 #[.pointer (some ⟨mb,0,none⟩)] (w.drewN k) fun e w'=>e=.returned (.int .i64 t)∧w'=w.drewN k)
  (hmin:min o 64=o) (_h1:wrap64 ((n:Int)*2^o)=(t:Int)) (h1':IntKind.i64.wrap ((n:Int)*2^o)=(t:Int)) (h2:IntKind.i64.wrap (2^o)=(y:Int)) (_h2':wrap64 (2^o)=(y:Int)) (_h4:IntKind.i64.wrap ((t:Int)-y)=(f:Int)) (h5:wrap64 (f:Int)=(f:Int)) (h3:(t:Int)-y=f) (ht:0<t) :
  Calls Tryz.prog 254 #[.pointer (some ⟨b,0,none⟩)] w fun e w'=>e=.returned (.tuple #[.int .i64 f,.bool true])∧∃ k,w'=w.drewN k:=by
 have Vl:=Hd hr;have zZ:=Hd hp;clear hr hp
 go_enter Tryz.func254,Tryz.ntmps254
 go_wp2_with fail
 go_quiet (first | (go_at_call 284;refine Calls.quiet_of_same (Vl.out _)))
 go_wp2_with fail
 have aag:=Hd (fun k=>(by have h:=zZ.out (nq+k);rw [←World.drewN_drewN] at h;exact h:Calls Tryz.prog 64 #[.pointer (some ⟨mb,0,none⟩)] ((w.drewN nq).drewN k) fun e w'=>e=.returned (.int .i64 t)∧w'=(w.drewN nq).drewN k))
 replace c2:(w.drewN nq).cell? ⟨b,2,none⟩=some (.int .i64 o):=c2
 replace c4:(w.drewN nq).cell? ⟨b,4,none⟩=some (.pointer (some ⟨mb,0,none⟩)):=c4
 have hW:=Hd (show ∀ k,∃ m,(w.drewN nq).drewN k=w.drewN m from fun k=>⟨nq+k,World.drewN_drewN ..⟩);clear c3;generalize w.drewN nq=W at *
 go_quiet (first | (go_at_call 64;refine Calls.quiet_of_same (aag.out _)))
 go_wp2_with fail
 go_ret2
 refine ⟨?_,hW.out _⟩
 show Ending.returned (.tuple #[.int .i64 (wrap64 (f:Int)),.bool true])=_
 rw [h5]
theorem aJ.OE {w:World} {K:ay} {β:Bu} (R:aJ w K β) (hn:0<β.σ.n) (hl:β.μ.pages.length=β.σ.n*2^β.μ.order) :
  Calls Tryz.prog 254 #[.pointer (some ⟨K.bb,0,none⟩)] w fun e w'=>e=.returned (.tuple #[.int .i64 (β.μ.pages.length-2^β.μ.order:Nat),.bool true])∧Touch Nothing w w':=by
 obtain ⟨-,-,c2,c3,c4,-⟩:=R.cells;have ho:=R.mp.ok.order;have hm:=R.mp.ok.len;have hp:=fD ho;have hle:2^β.μ.order≤β.μ.pages.length:=by rw [hl];exact Nat.le_mul_of_pos_left _ hn
 have hc:((β.σ.n:Int)*2^β.μ.order)=((β.μ.pages.length:Nat):Int):=by rw [hl];simp
 have hpc:((2:Int)^β.μ.order)=((2^β.μ.order:Nat):Int):=by simp
 refine (LK K.bb K.L.sb K.M.mb β.μ.order β.σ.n (2^β.μ.order) β.μ.pages.length (β.μ.pages.length-2^β.μ.order) w c2 c3 c4 ?_ ?_ (by omega) ?_ ?_ ?_ ?_ ?_ ?_ (by omega) (by omega)).mono ?_
 ·intro k;exact ((R.sp.aj ((Touch.refl Nothing w).drewN k)).Eo).mono fun _ _ h=>⟨h.1,h.2.symm⟩
 ·intro k;exact ((R.mp.aj ((Touch.refl Nothing w).drewN k)).sU).mono fun _ _ h=>⟨h.1,h.2.symm⟩
 ·rw [hc];exact IntWalk.wrap64_in _ ⟨by omega,by omega⟩
 ·rw [hc];exact IntWalk.i64_in _ (by omega)
 ·rw [hpc];exact IntWalk.i64_in _ (by omega)
 ·rw [hpc];exact IntWalk.wrap64_in _ ⟨by omega,by omega⟩
 ·rw [show ((β.μ.pages.length:Int)-((2^β.μ.order:Nat):Int))=((β.μ.pages.length-2^β.μ.order:Nat):Int) by omega];exact IntWalk.i64_in _ (by omega)
 ·exact IntWalk.wrap64_in _ ⟨by omega,by omega⟩
 ·rintro e w' ⟨rfl,k,rfl⟩;exact ⟨rfl,(Touch.refl Nothing w).drewN k⟩
theorem aJ.OG {w:World} {K:ay} {β:Bu} (R:aJ w K β) (i:Nat) {p:Pg} (hi:β.μ.pages[i]? = some p) (hk:p.kind=2) (ho:p.order=β.μ.order) (hj:(i:Int).tmod (2^β.μ.order:Nat)=0) (hle:i+2^β.μ.order≤β.μ.pages.length)
  (hh:β.heads.getD β.μ.order 0≠0→β.σ.has (β.heads.getD β.μ.order 0) 16∧β.σ.word (β.heads.getD β.μ.order 0+8)=0) :
  Calls Tryz.prog 253 #[.pointer (some ⟨K.bb,0,none⟩),.int .u64 (β.addr i:Nat),.int .i64 β.μ.order] w (Turned w K (β.enter i β.μ.order) (.int .i64 0)):=by
 have HL:=Hd (R.xO i β.μ.order hi hk ho);have HR:=Hd R;have HC:=Hd (And.intro hj (And.intro hle hh));clear R hi hk ho hj hle hh
 go_enter Tryz.func253,Tryz.ntmps253
 go_wp2_with fail
 go_step3
 go_wp2_with fail
 refine HL.out.mono ?_
 rintro e w1 ⟨rfl,T1⟩;have HT1:=Hd T1;have R1:=HR.out.aj T1;have OH:=Hd (R1.y8 i);have HE:=Hd (R1.zY i β.μ.order (Nat.le_refl _) HC.out.1 HC.out.2.1 HC.out.2.2);clear T1 R1
 go_wp2_with fail
 go_step3
 go_wp2_with fail
 refine OH.out.mono ?_
 rintro e w2 ⟨rfl,rfl⟩
 go_wp2_with fail
 refine HE.out.mono ?_
 rintro e w3 ⟨rfl,r3,t3⟩;have HR3:=Hd r3;have HT3:=Hd t3;clear r3 t3
 go_wp2_with fail
 rw [Exit.noGoto_ret]
 go_ret
 exact ⟨rfl,HR3.out,HT1.out.none_.trans HT3.out⟩
theorem aJ.XM {w:World} {K:ay} {β:Bu} (R:aJ w K β) (i:Nat) {p:Pg} (hn:0<β.σ.n) (hl:β.μ.pages.length=β.σ.n*2^β.μ.order) (hil:i=β.μ.pages.length-2^β.μ.order) (hi:β.μ.pages[i]? = some p) (hk:p.kind=2) (ho:p.order=β.μ.order) (hj:(i:Int).tmod (2^β.μ.order:Nat)=0)
  (hh:β.heads.getD β.μ.order 0≠0→β.σ.has (β.heads.getD β.μ.order 0) 16∧β.σ.word (β.heads.getD β.μ.order 0+8)=0) :
  Calls Tryz.prog 250 #[.pointer (some ⟨K.bb,0,none⟩)] w (Turned w K (β.enter i β.μ.order) (.int .i64 0)):=by
 have hle:2^β.μ.order≤β.μ.pages.length:=by rw [hl];exact Nat.le_mul_of_pos_left _ hn
 have HT:=R.OE hn hl;rw [←hil] at HT;have OH:=Hd HT;have hlt:=(List.getElem?_eq_some_iff.1 hi).1;have hat:=R.ok.dZ R.sp.ok hlt;have HA:=Hd (fun w1 (r:aJ w1 K β)=>r.qI i (by omega));have HG:=Hd (fun w1 (r:aJ w1 K β)=>r.OG i hi hk ho hj (by omega) hh);have HR:=Hd R;clear R HT hn hl hil hi hk ho hj hh hle hlt hat
 go_enter Tryz.func250,Tryz.ntmps250
 go_wp2_with fail
 refine OH.out.mono ?_
 rintro e w1 ⟨rfl,T1⟩;have R1:=(HR.out.aj T1).aj (Touch.refl Nothing w1).drew;obtain ⟨-,-,c2,-,-,-⟩:=R1.cells;have HA1:=Hd (HA.out _ R1);have LP:=Hd (HG.out _ R1);have HT1:=Hd T1;clear R1 T1
 go_wp2_with fail
 refine wp_region_still_tail 9 (by kernel_rfl) (by kernel_rfl) ?_
 simp only [List.take_succ_cons,List.take_zero,List.drop_succ_cons,List.drop_zero,World.drew_eq]
 repeat still_step
 still_call (HA1.out.mono fun _ _ h=>⟨h.1,h.2.symm⟩)
 repeat still_step
 refine wpStill_nil ?_
 go_wp2_with fail
 refine LP.out.mono ?_
 rintro e w2 ⟨rfl,r2,t2⟩;have HR2:=Hd r2;have HT2:=Hd t2;clear r2 t2
 go_wp2_with fail
 go_ret
 exact ⟨rfl,HR2.out,(HT1.out.drew.none_).trans HT2.out⟩
attribute [local go_sem ↓] Go.wp_at_zero Go.wp_at_succ
structure iE (w:World) (bb sb mb base limit order k:Nat) (tv:Value) (eO:List Nat) (wr:World):Prop where
 blk:aC wr bb 274 [.int .u64 base,.int .i64 limit,.int .i64 order,.pointer (some ⟨sb,0,none⟩),.pointer (some ⟨mb,0,none⟩),tv]
 row:Row wr 275 1 tv k (eO.map fun b=>.pointer (some ⟨b,0,none⟩))
 each:∀ b∈eO,Li wr b sb 0
 apart:(bb::(tv.ownBlock.toList++eO)).Nodup
 fresh:∀ i∈bb::(tv.ownBlock.toList++eO),w.heap.size≤i
 touch:Touch Nothing w wr
theorem iE.lt {w wr:World} {bb sb mb base limit order k:Nat} {tv:Value} {eO:List Nat} (R:iE w bb sb mb base limit order k tv eO wr):∀ i∈bb::(tv.ownBlock.toList++eO),i<wr.heap.size:=by
 intro i hi;simp only [List.mem_cons,List.mem_append,Option.mem_toList] at hi;rcases hi with rfl | hi | hi
 ·exact R.blk.lt
 ·exact R.row.lt hi
 ·exact (R.each i hi).lt
theorem iE.step {w W w1 w3:World} {bb sb mb base limit order k lb:Nat} {tv:Value} {eO:List Nat} (R:iE w bb sb mb base limit order k tv eO W) (hs:Li w1 lb sb 0) (h1:W.heap.size≤lb) (T1:Touch Nothing W w1)
  {g cap:Nat} (hown:Row w3 275 1 (.slice (some ⟨g,0,none⟩) (k+1) cap) (k+1) ((eO.map fun b=>.pointer (some ⟨b,0,none⟩))++[.pointer (some ⟨lb,0,none⟩)]))
  (T3:Touch (fun i=>some i=tv.ownBlock) w1 w3) (hg:tv.ownBlock=some g∨w1.heap.size≤g) :
  iE w bb sb mb base limit order (k+1) (.slice (some ⟨g,0,none⟩) (k+1) cap) (eO++[lb]) (w3.setCell ⟨bb,5,none⟩ (.slice (some ⟨g,0,none⟩) (k+1) cap)):=by
 have hlt:=R.lt;have hap:=R.apart;have hfr:=R.fresh;simp only [List.nodup_cons,List.nodup_append,List.mem_append,not_or,Option.mem_toList] at hap;obtain ⟨⟨a1,a2⟩,a3,a4,a5⟩:=hap;have hl1:=hs.lt;have hbb:bb<W.heap.size:=R.blk.lt;have hsz:=T1.size
 have hgb:g≠bb:=by
  rintro rfl;rcases hg with h | h
  ·exact a1 h
  ·omega
 have hbs:¬(some bb=tv.ownBlock):=fun e=>a1 e.symm
 have hS:=Touch.cellAt w3 bb 5 (.slice (some ⟨g,0,none⟩) (k+1) cap)
 have hset:∀ a∈eO,¬(some a=tv.ownBlock)∧¬(a=bb)∧a<W.heap.size:=fun a ha =>
  ⟨fun e=>a5 a e.symm a ha rfl,fun e=>a2 (e▸ha),hlt a (by simp [ha])⟩
 have BA:¬(some lb=tv.ownBlock)∧¬(lb=bb):=⟨fun e=>by have:=R.row.lt e.symm;omega,by omega⟩;have aah:w.heap.size≤bb:=hfr bb (by simp)
 have OB:w.heap.size≤g:=by
  rcases hg with h | h
  ·exact hfr g (by simp [h])
  ·have:=R.touch.size;omega
 refine ⟨?_,?_,?_,?_,?_,?_⟩
 ·exact ((R.blk.touch T1 (fun h=>h)).touch T3 hbs).set 5 _
 ·rw [List.map_append];exact hown.touch hS (fun i hi e=>by simp [Value.ownBlock] at hi;omega)
 ·intro a ha;rcases List.mem_append.1 ha with ha | ha
  ·have q:=hset a ha;exact (((R.each a ha).touch T1 (fun h=>h)).touch T3 q.1).touch hS q.2.1
  ·rw [List.mem_singleton] at ha;subst ha;exact (hs.touch T3 BA.1).touch hS BA.2
 ·have hgl:∀ a∈eO,g≠a:=by
   intro a ha e;have q:=hset a ha;rcases hg with h | h
   ·exact q.1 (by rw [h,e])
   ·omega
  have hgn:g≠lb:=by
   rcases hg with h | h
   ·have:=R.row.lt h;omega
   ·omega
  simp only [Value.ownBlock,Option.toList_some,List.nodup_cons,List.mem_append,List.nodup_append,List.mem_cons,List.not_mem_nil,or_false,not_or];refine ⟨⟨fun e=>hgb e.symm,a2,by omega⟩,⟨fun h=>h,List.nodup_nil⟩,⟨a4,⟨fun h=>h,List.nodup_nil⟩,?_⟩,?_⟩
  ·rintro a ha b rfl e;have:=(hset a ha).2.2;omega
  ·rintro a rfl b hb e;rcases hb with hb | rfl
   ·exact hgl b hb e
   ·exact hgn e
 ·intro i hi;simp only [Value.ownBlock,Option.toList_some,List.mem_cons,List.mem_append,List.not_mem_nil,or_false] at hi;rcases hi with rfl | rfl | hi | rfl
  ·exact aah
  ·exact OB
  ·exact hfr i (by simp [hi])
  ·have:=R.touch.size;omega
 ·exact ((R.touch.trans T1).trans' T3 (fun i hi e=>by have:=hfr i (by simp [e.symm]);omega)).trans' hS (fun i hi e=>by omega)
end Go.Proofs.YtnjcmcnjgdjbiaaGreatDoor
namespace Go.Proofs.YtnjcmcnjgdjbiaaGreatDoor
open Go.RowKit
attribute [local go_sem ↓] Go.wp_at_zero Go.wp_at_succ
theorem Ab {P:Program} (w:World) {ops:Array Oper} {o:Oper} {a:Act} {K:Act→World→Prop} {Q:Exit→Act→World→Prop} {E:Prop} (hgd:o.guard=none) (f:FuncId) (x y:Operand) (ts:Array TypeId)
  (ho:o.op=.call { callee:=.value (.func f),args:=#[x,y],argTypes:=ts }) (u v:Value) (hx:a.eval x=u) (hy:a.eval y=v) {Post:Ending→World→Prop}
  (hc:Calls P f #[u,v] w Post) (hcf:(callFunc f #[u,v]).run P w=.ok (.enter f #[u,v]) w) (h:∀ e w',Post e w'→∃ r,e=.returned r∧K (a.put o.dst r) w') :
  if Region.wanted o (yielded ops a.tmps)=true then Oper.wp P o a w K Q else E:=by
 have hw:Region.wanted o (yielded ops a.tmps)=true:=by simp [Region.wanted,hgd]
 rw [if_pos hw];unfold Oper.wp;have hargs:(#[x,y].map a.eval)=#[u,v]:=by simp [hx,hy]
 generalize #[x,y]=xs at ho hargs
 have hr:(execOp a.eval o).run P w=.ok (.enter f #[u,v]) w:=by
  simp [execOp,ho,resolve,invoke,hargs,go_sem,hcf]
 rw [hr,Oper.upon_enter];refine hc.mono ?_
 intro e w' hp;obtain ⟨r,rfl,hk⟩:=h e w' hp;exact hk
theorem iE.ready {w W w1:World} {bb sb mb base limit order k:Nat} {tv:Value} {eO:List Nat} (R:iE w bb sb mb base limit order k tv eO W) {pa:Option Addr} {cap:Nat} (hsv:tv=.slice pa k cap) (hT:Touch Nothing W w1) (lb:Nat) :
  Row (w1.alloc (.cells #[.pointer (some ⟨lb,0,none⟩)] 275)) 275 1 (.slice pa k cap) k (eO.map fun b=>.pointer (some ⟨b,0,none⟩)) ∧
  ∀ j u,[Value.pointer (some ⟨lb,0,none⟩)][j]? = some u→(w1.alloc (.cells #[.pointer (some ⟨lb,0,none⟩)] 275)).cell? ((⟨w1.heap.size,0,none⟩:Addr).add j)=some u:=by
 have h:=R.row.touch hT (fun _ _ h=>h);rw [hsv] at h;exact ⟨World.ownsRow.alloc h _,fJ (aC.new w1 #[.pointer (some ⟨lb,0,none⟩)] 275)⟩
theorem OI {wr w1:World} {bb sb h:Nat} {u:Value} (hw1:w1=wr.drew.alloc (.cells #[.pointer (some ⟨sb,0,none⟩),.int .u64 h] 310)) (Il:bb<wr.heap.size) (c5:wr.cell? ⟨bb,5,none⟩=some u) (f5:wr.frozen? ⟨bb,5,none⟩=false) :
  w1.cell? ⟨bb,5,none⟩=some u∧w1.frozen? ⟨bb,5,none⟩=false∧bb<w1.heap.size∧Touch Nothing wr w1∧Li w1 wr.heap.size sb h:=by
 subst hw1;have T:Touch Nothing wr (wr.drew.alloc (.cells #[.pointer (some ⟨sb,0,none⟩),.int .u64 h] 310)):=((Touch.refl Nothing wr).drew).alloc _;exact ⟨(T.cell Il (fun h=>h)).trans c5,(T.frozen Il (fun h=>h)).trans f5,Nat.lt_of_lt_of_le Il T.size,T,aC.new wr.drew _ _⟩
theorem TJ:(Tryz.prog.info? 275).map (fun i=>(i.zero,i.size,i.bytes))=some (some (.pointer none),1,8):=by kernel_rfl
def Vm (w:World) (sb mb base limit order k:Nat) (e:Ending) (w':World):Prop :=
 ∃ bb tv eO,e=.returned (.tuple #[.pointer (some ⟨bb,0,none⟩),.int .i64 0])∧iE w bb sb mb base limit order k tv eO w'
theorem open_ (sb mb base limit order hb:Nat) (w:World) (ho:order≤8) (hB:aC w hb 33 (gQ (List.replicate (order+1) 0))) :
  Calls Tryz.prog 131 #[.agg #[.int .u64 base,.int .i64 limit,.int .i64 order],.pointer (some ⟨sb,0,none⟩),.pointer (some ⟨mb,0,none⟩),.slice (some ⟨hb,0,none⟩) ((order+1:Nat)) (order+1)] w
   (Vm w sb mb base limit order (order+1)):=by
 obtain ⟨i0,hi0,hz0,hz1,hz2⟩:=info_parts TJ;have hHB:=Hd hB;clear hB
 go_enter Tryz.func131,Tryz.ntmps131
 go_wp2_with fail
 have hbb:w.heap.size+1<((w.alloc (.cells #[.int .u64 base,.int .i64 limit,.int .i64 order] 51)).alloc (.cells #[.int .u64 base,.int .i64 limit,.int .i64 order,.pointer (some ⟨sb,0,none⟩),.pointer (some ⟨mb,0,none⟩),.slice none 0 0] 274)).heap.size:=by simp
 have hcf:∀ W:World,(callFunc 182 #[.pointer (some ⟨sb,0,none⟩),.int .u64 0]).run Tryz.prog W=.ok (.enter 182 #[.pointer (some ⟨sb,0,none⟩),.int .u64 0]) W:=fun W=>by simp [go_sem]
 have kF:=Hd hcf;clear hcf;have HB0:=Hd (aC.new (w.alloc (.cells #[.int .u64 base,.int .i64 limit,.int .i64 order] 51)) #[.int .u64 base,.int .i64 limit,.int .i64 order,.pointer (some ⟨sb,0,none⟩),.pointer (some ⟨mb,0,none⟩),.slice none 0 0] 274);generalize hbe:w.heap.size+1=bb at *;have HBE:=Hd hbe
 go_loopw [26] (fun a wr=>∃ k:Nat,k≤order+1∧a=.int .i64 k∧∃ tv eO,iE w bb sb mb base limit order k tv eO wr) (fun a _=>order+1-(intOf a).toNat)
 case atStart =>
  refine ⟨0,Nat.zero_le _,rfl,.slice none 0 0,[],⟨?_,⟨rfl,.inl ⟨rfl,rfl⟩⟩,by simp,by simp [Value.ownBlock],by simp [Value.ownBlock];omega,((Touch.refl _ _).alloc _).alloc _⟩⟩;have:=HB0.out;simp only [World.size_alloc] at this;rw [←HBE.out];exact this
 case round =>
  obtain ⟨k,hk,rfl,tv,eO,hF⟩:=hrel;by_cases hlt':k<order+1
  ·have hsv:∃ pa cap,tv=.slice pa k cap:=by
    rcases hF.row.2 with ⟨h,h0⟩ | ⟨g,cap,cur,h,_⟩
    ·exact ⟨none,0,by rw [h,h0]⟩
    ·exact ⟨_,cap,h⟩
   obtain ⟨pa,cap,hsv⟩:=hsv;have c5:=hF.blk.cell 5;have f5:=hF.blk.free 5;simp [hsv] at c5;have hh:=(hHB.out.touch hF.touch (fun h=>h)).cell k;rw [uE _ _ (by simpa using hlt')] at hh;have hz:(List.replicate (order+1) 0).getD k 0=0:=by simp [List.getD_eq_getElem?_getD,hlt']
   rw [hz] at hh;have hlb:hb<wr.heap.size:=Nat.lt_of_lt_of_le hHB.out.lt hF.touch.size;have Il:bb<wr.heap.size:=hF.blk.lt;have acM:bb<wr.drew.heap.size:=Il;have hkl:(k:Int)<(order:Int)+1:=by omega
   have HN:=Hd (OC sb 0 wr.drew);have HF:=Hd hF;have Ew:=Hd hsv
   have hne0:some bb≠(Value.slice pa k cap).ownBlock:=by
    rw [←hsv];intro e;have:=hF.apart;simp [e.symm] at this
   have yF:=Hd hne0;clear hF hne0 hsv hbe hz hbb
   go_wp2_with fail
   go_region_law (first | (refine Ab _ (by rfl) 182 _ _ #[115,33] (by rfl) (.pointer (some ⟨sb,0,none⟩)) (.int .u64 0) (by rfl) (by rfl) HN.out (kF.out _) ?_;rintro e w1 ⟨rfl,hw1⟩;refine ⟨_,rfl,?_⟩;have HW1:=Hd hw1;obtain ⟨YA,YB,YC,hT1,YD⟩:=OI hw1 Il c5 f5;have HT1:=Hd hT1;have Ey:=Hd (HF.out.ready Ew.out hT1 wr.heap.size);have HLI:=Hd YD;clear hw1 hT1 YD) | (refine step_append_lies _ (by rfl) _ _ _ (by rfl) 0 275 i0 _ 1 8 Tryz.underlying272 hi0 hz0 hz1 hz2 rfl (by omega) (.slice pa k cap) k _ (by rfl) Ey.out.1 ⟨w1.heap.size,0,none⟩ 1 1 [.pointer (some ⟨wr.heap.size,0,none⟩)] (by rfl) (by rfl) Ey.out.2 (by simp [Value.oneCell']) (by omega) (by unfold maxLen;omega) (by omega) (by simp) (w1.heap.size+1) (by simp) ?_;intro gg cap' w3 hown3 hgrow hat Ep;have c3':w3.cell? ⟨bb,5,none⟩=some (.slice pa k cap):=(hgrow.cell_far _ (by simp;omega) yF.out).trans ((World.cell?_alloc_past _ _ _ YC).trans YA);have f3':w3.frozen? ⟨bb,5,none⟩=false:=(hgrow.frozen_far _ (by simp;omega) yF.out).trans ((World.frozen?_alloc_past _ _ _ YC).trans YB)))
   all_goals
    have hst:iE w bb sb mb base limit order (k+1) (.slice (some ⟨gg,0,none⟩) (k+1) cap') (eO++[wr.heap.size]) (w3.setCell ⟨bb,5,none⟩ (.slice (some ⟨gg,0,none⟩) (k+1) cap')):=by
     refine HF.out.step HLI.out (Nat.le_refl _) HT1.out hown3 ?_ ?_
     ·exact (((Touch.refl Nothing w1).alloc _).none_).trans (Touch.bT hgrow (fun i hi=>by rw [Ew.out];exact hi.symm))
     ·rw [Ew.out];rcases hat with h | h
      ·exact .inl h
      ·exact .inr (by omega)
    have HST:=Hd hst;clear hst hown3 hgrow hat c3' f3' YA YB c5 f5;generalize World.setCell w3 _ _=w4 at *
    go_wp2_with fail
    go_roundw
    case rel=>exact ⟨k+1,by omega,by go_num,_,_,HST.out⟩
    case measure=>simp [intOf];omega
  ·obtain rfl:k=order+1:=by omega
   have HF:=Hd hF;clear hF
   go_wp2_with fail
   go_ret2
   exact ⟨bb,tv,eO,rfl,HF.out⟩
end Go.Proofs.YtnjcmcnjgdjbiaaGreatDoor
namespace Go.Proofs.YtnjcmcnjgdjbiaaGreatDoor
open Go.RowKit
theorem lI {P:Program} (w:World) {ops:Array Oper} {o:Oper} {a:Act} {K:Act→World→Prop} {Q:Exit→Act→World→Prop} {E:Prop} (hgd:o.guard=none) (f:FuncId) (xs:Array Operand) (ts:Array TypeId)
  (ho:o.op=.call { callee:=.value (.func f),args:=xs,argTypes:=ts }) (us:Array Value) (hargs:xs.map a.eval=us) {Post:Ending→World→Prop}
  (hc:Calls P f us w Post) (hcf:(callFunc f us).run P w=.ok (.enter f us) w) (h:∀ e w',Post e w'→∃ r,e=.returned r∧K (a.put o.dst r) w') :
  if Region.wanted o (yielded ops a.tmps)=true then Oper.wp P o a w K Q else E:=by
 have hw:Region.wanted o (yielded ops a.tmps)=true:=by simp [Region.wanted,hgd]
 rw [if_pos hw];unfold Oper.wp
 have hr:(execOp a.eval o).run P w=.ok (.enter f us) w:=by
  simp [execOp,ho,resolve,invoke,hargs,go_sem,hcf]
 rw [hr,Oper.upon_enter];refine hc.mono ?_
 intro e w' hp;obtain ⟨r,rfl,hk⟩:=h e w' hp;exact hk
theorem iE.back {w w1 wr:World} {bb sb mb base limit order k:Nat} {tv:Value} {eO:List Nat} (R:iE w1 bb sb mb base limit order k tv eO wr) (T:Touch Nothing w w1):iE w bb sb mb base limit order k tv eO wr :=
 ⟨R.blk,R.row,R.each,R.apart,fun i hi=>Nat.le_trans T.size (R.fresh i hi),T.trans R.touch⟩
def XO (w:World) (sb mb base limit order:Nat) (e:Ending) (w':World):Prop :=
 ∃ bb tv eO,e=.returned (.pointer (some ⟨bb,0,none⟩))∧iE w bb sb mb base limit order (order+1) tv eO w'
theorem Vn (sb mb base limit order:Nat) (w:World) (ho:order≤8) :
  Calls Tryz.prog 86 #[.agg #[.int .u64 base,.int .i64 limit,.int .i64 order],.pointer (some ⟨sb,0,none⟩),.pointer (some ⟨mb,0,none⟩)] w (XO w sb mb base limit order):=by
 have hcf:∀ (us:Array Value) (W:World),(callFunc 131 us).run Tryz.prog W=.ok (.enter 131 us) W:=fun us W=>by simp [go_sem]
 have kF:=Hd hcf;clear hcf
 have hmk:∀ W:World,(Instr.makeSlice 201 (.int .i64 ((order:Int)+1)) (.int .i64 ((order:Int)+1))).run Tryz.prog W=.ok (.slice (some ⟨W.heap.size,0,none⟩) (order+1) (order+1)) (W.alloc (jD (order+1))):=fun W=>by
  have:=Ic (order+1) (by omega) W;exact this
 have HO:=Hd (fun w1 hb h=>open_ sb mb base limit order hb w1 ho h)
 have Im:=Hd (show aC ((w.alloc (.cells #[.int .u64 base,.int .i64 limit,.int .i64 order] 51)).alloc (jD (order+1))).drew (w.heap.size+1) 33 (gQ (List.replicate (order+1) 0)) by
  have:=(rF (w.alloc (.cells #[.int .u64 base,.int .i64 limit,.int .i64 order] 51)) (order+1)).drew;simpa using this)
 have Ac:=Hd (HO.out _ _ Im.out);have hmax:max 0 ((order:Int)+1)=(order:Int)+1:=by omega
 have hwp:IntKind.i64.wrap ((order:Int)+1)=(order:Int)+1:=IntWalk.i64_in _ (by omega);clear Im HO
 go_enter Tryz.func86,Tryz.ntmps86
 go_wp2_with fail
 go_region_law (refine lI _ (by rfl) 131 #[.tmp 10,.tmp 11,.tmp 12,.tmp 17] #[51,115,117,201] (by rfl) #[.agg #[.int .u64 base,.int .i64 limit,.int .i64 order],.pointer (some ⟨sb,0,none⟩),.pointer (some ⟨mb,0,none⟩),.slice (some ⟨w.heap.size+1,0,none⟩) (order+1) (order+1)] (by simp [Act.eval]) Ac.out (kF.out _ _) ?_;rintro e w1 ⟨bb,tv,eO,rfl,hR⟩;refine ⟨_,rfl,?_⟩;have HR:=Hd hR;clear hR)
 all_goals
  clear hwp hmax
  go_wp2_with fail
  go_ret
  exact ⟨bb,tv,eO,rfl,HR.out.back ((((Touch.refl Nothing w).alloc _).alloc _).drew)⟩
structure bS (w:World) (pb:Nat) (K:ay) (β:Bu):Prop where
 blk:aC w pb 122 [.pointer (some ⟨K.L.sb,0,none⟩),.pointer (some ⟨K.M.mb,0,none⟩),.pointer (some ⟨K.bb,0,none⟩)]
 bu:aJ w K β
 apart:pb∉K.fp
theorem bS.touch {w w':World} {pb:Nat} {K:ay} {β:Bu} {S:Nat→Prop} (R:bS w pb K β) (T:Touch S w w') (h:∀ k,k∈pb::K.fp→¬S k):bS w' pb K β :=
 ⟨R.blk.touch T (h _ (by simp)),R.bu.touch T (fun k hk=>h k (by simp [hk])),R.apart⟩
theorem bS.aj {w w':World} {pb:Nat} {K:ay} {β:Bu} (R:bS w pb K β) (T:Touch Nothing w w'):bS w' pb K β:=R.touch T (fun _ _ h=>h)
theorem bS.lt {w:World} {pb:Nat} {K:ay} {β:Bu} (R:bS w pb K β):∀ k∈pb::K.fp,k<w.heap.size:=by
 intro k hk;rcases List.mem_cons.1 hk with rfl | hk
 ·exact R.blk.lt
 ·exact R.bu.lt k hk
structure ay.Next (w:World) (K K':ay):Prop where
 bb:K'.bb=K.bb
 sb:K'.L.sb=K.L.sb
 mb:K'.M.mb=K.M.mb
 fresh:∀ k∈K'.fp,k∈K.fp∨w.heap.size≤k
theorem ay.Next.refl (w:World) (K:ay):K.Next w K:=⟨rfl,rfl,rfl,fun _ h=>.inl h⟩
theorem ay.Next.trans {w w1:World} {K K1 K2:ay} (h:K.Next w K1) (h1:K1.Next w1 K2) (hs:w.heap.size≤w1.heap.size):K.Next w K2 :=
 ⟨h1.bb.trans h.bb,h1.sb.trans h.sb,h1.mb.trans h.mb,fun k hk=>by
  rcases h1.fresh k hk with h' | h'
  ·exact h.fresh k h'
  ·exact .inr (Nat.le_trans hs h')⟩
theorem Touch.next {w w1 w2:World} {K K1:ay} (T:Touch (·∈K.fp) w w1) (N:K.Next w K1) (T1:Touch (·∈K1.fp) w1 w2):Touch (·∈K.fp) w w2 :=
 T.trans' T1 (fun i hi h=>by
  rcases N.fresh i h with h | h
  ·exact h
  ·omega)
theorem aP.y9 {w:World} {L:bM} {σ:Sp} (R:aP w L σ):L.fp.Nodup:=by
 unfold bM.fp;rw [List.nodup_append];refine ⟨R.apart,?_,?_⟩
 ·cases L.pv.ownBlock <;> simp
 ·intro a ha b hb e;simp only [Option.mem_toList] at hb;exact R.apart' b hb (e▸ha)
theorem bS.next {w w':World} {pb:Nat} {K K':ay} {β β':Bu} (R:bS w pb K β) (T:Touch (·∈K.fp) w w') (N:K.Next w K') (R':aJ w' K' β'):bS w' pb K' β':=by
 refine ⟨?_,R',fun h=>?_⟩
 ·have:=R.blk.touch T R.apart;rw [N.bb,N.sb,N.mb];exact this
 ·rcases N.fresh pb h with h | h
  ·exact R.apart h
  ·have:=R.blk.lt;omega
theorem Ad {A B C B':List Nat} {n:Nat} (h:(A++(B++C)).Nodup) (hB:B'.Nodup) (hf:∀ k∈B',k∈B∨n≤k) (hA:∀ k∈A,k<n) (hC:∀ k∈C,k<n):(A++(B'++C)).Nodup:=by
 rw [List.nodup_append] at h ⊢;obtain ⟨h1,h2,h3⟩:=h;rw [List.nodup_append] at h2;obtain ⟨h4,h5,h6⟩:=h2;refine ⟨h1,?_,?_⟩
 ·rw [List.nodup_append];refine ⟨hB,h5,fun a ha b hb e=>?_⟩;rcases hf a ha with h | h
  ·exact h6 a h b hb e
  ·have:=hC b hb;omega
 ·intro a ha b hb e;rcases List.mem_append.1 hb with hb | hb
  ·rcases hf b hb with h | h
   ·exact h3 a ha b (List.mem_append.2 (.inl h)) e
   ·have:=hA a ha;omega
  ·exact h3 a ha b (List.mem_append.2 (.inr hb)) e
theorem Gz {A B C C':List Nat} {n:Nat} (h:(A++(B++C)).Nodup) (hC':C'.Nodup) (hf:∀ k∈C',k∈C∨n≤k) (hA:∀ k∈A,k<n) (hB:∀ k∈B,k<n):(A++(B++C')).Nodup:=by
 rw [List.nodup_append] at h ⊢;obtain ⟨h1,h2,h3⟩:=h;rw [List.nodup_append] at h2;obtain ⟨h4,h5,h6⟩:=h2;refine ⟨h1,?_,?_⟩
 ·rw [List.nodup_append];refine ⟨h4,hC',fun a ha b hb e=>?_⟩;rcases hf b hb with h | h
  ·exact h6 a ha b h e
  ·have:=hB a ha;omega
 ·intro a ha b hb e;rcases List.mem_append.1 hb with hb | hb
  ·exact h3 a ha b (List.mem_append.2 (.inl hb)) e
  ·rcases hf b hb with h | h
   ·exact h3 a ha b (List.mem_append.2 (.inr h)) e
   ·have:=hA a ha;omega
theorem aJ.committed {w w':World} {K:ay} {β:Bu} {e:Ending} (R:aJ w K β) (G:Oi w K.L β.σ e w') :
  e=.returned (.tuple #[.int .u64 (β.σ.base+β.σ.size*β.σ.n:Nat),.int .i64 0])∧∃ K',aJ w' K' { β with σ:=β.σ.grow }∧K.Next w K'∧Touch (·∈K.fp) w w':=by
 obtain ⟨pv,g,he,hg,hpv,hS,hT⟩:=G;obtain ⟨_,s2,s3⟩:=R.split;have hlt:=R.lt
 have T:Touch (·∈K.L.fp) w w':=hT.mono (fun k _ hk=>by
  rcases hk with hk | hk
  ·simp [bM.fp,hk]
  ·simp [bM.fp,←hk])
 have hf:∀ k∈(⟨K.L.sb,pv,K.L.eD++[g]⟩:bM).fp,k∈K.L.fp∨w.heap.size≤k:=by
  intro k hk;simp only [bM.fp,List.mem_append,List.mem_cons,Option.mem_toList,List.not_mem_nil,or_false] at hk ⊢;rcases hk with (h | h | h) | h
  ·exact .inl (.inl (.inl h))
  ·exact .inl (.inl (.inr h))
  ·exact .inr (by omega)
  ·rcases hpv k h with h | h
   ·exact .inl (.inr h)
   ·exact .inr h
 obtain ⟨h1,h2,h3⟩:=R.mX T (fun k hk=>(s2 k hk).1);have o:=R.ok;refine ⟨he,{ K with L:=⟨K.L.sb,pv,K.L.eD++[g]⟩ },⟨h1,h2,h3,hS,R.mp.touch T (fun k hk h=>s3 k h hk),?_,?_⟩,⟨rfl,rfl,rfl,?_⟩,T.mono (fun k _ hk=>by simp [ay.fp,hk])⟩
 ·exact Ad R.apart hS.y9 hf (fun k hk=>hlt k (List.mem_append.2 (.inl hk))) (fun k hk=>hlt k (List.mem_append.2 (.inr (List.mem_append.2 (.inr hk)))))
 ·refine ⟨o.order,o.heads,o.size,o.limit,o.base,o.pages,?_,o.head⟩
  show β.μ.pages.length≤(β.σ.n+1)*2^β.μ.order
  exact Nat.le_trans o.regs (Nat.mul_le_mul_right _ (Nat.le_succ _))
 ·intro k hk;simp only [ay.fp,List.mem_append] at hk ⊢;rcases hk with h | h | h
  ·exact .inl (.inl h)
  ·rcases hf k h with h | h
   ·exact .inl (.inr (.inl h))
   ·exact .inr h
  ·exact .inl (.inr (.inr h))
theorem aJ.grown {w w':World} {K:ay} {β:Bu} {μ':Mp} {M':aT} (R:aJ w K β) (G:y7 w w' K.M M' β.μ μ') (ho:μ'.order=β.μ.order) (h1:μ'.pages.length≤64*2^β.μ.order) (h2:μ'.pages.length≤β.σ.n*2^β.μ.order) :
  ∃ K',aJ w' K' { β with μ:=μ' }∧K.Next w K'∧Touch (·∈K.fp) w w':=by
 obtain ⟨_,s2,s3⟩:=R.split;have hlt:=R.lt;have T:=G.touch;obtain ⟨c1,c2,c3⟩:=R.mX T (fun k hk=>(s2 k hk).2);have o:=R.ok;refine ⟨{ K with M:=M' },⟨?_,c2,c3,R.sp.touch T s3,G.rep,?_,?_⟩,⟨rfl,rfl,G.mb,?_⟩,T.mono (fun k _ hk=>by simp [ay.fp,hk])⟩
 ·show aC w' K.bb 274 [_,_,_,_,.pointer (some ⟨M'.mb,0,none⟩),_]
  rw [G.mb];exact c1
 ·exact Gz R.apart G.rep.apart G.fresh (fun k hk=>hlt k (List.mem_append.2 (.inl hk))) (fun k hk=>hlt k (List.mem_append.2 (.inr (List.mem_append.2 (.inl hk)))))
 ·exact ⟨o.order.trans ho.symm,o.heads.trans (by rw [ho]),o.size.trans (by rw [ho]),o.limit,o.base,by show μ'.pages.length≤_;rw [ho];exact h1,by show μ'.pages.length≤β.σ.n*_;rw [ho];exact h2,o.head⟩
 ·intro k hk;simp only [ay.fp,List.mem_append] at hk ⊢;rcases hk with h | h | h
  ·exact .inl (.inl h)
  ·exact .inl (.inr (.inl h))
  ·rcases G.fresh k h with h | h
   ·exact .inl (.inr (.inr h))
   ·exact .inr h
theorem bS.cells {w:World} {pb:Nat} {K:ay} {β:Bu} (R:bS w pb K β) :
  w.cell? ⟨pb,0,none⟩=some (.pointer (some ⟨K.L.sb,0,none⟩))∧w.cell? ⟨pb,1,none⟩=some (.pointer (some ⟨K.M.mb,0,none⟩))∧w.cell? ⟨pb,2,none⟩=some (.pointer (some ⟨K.bb,0,none⟩)) :=
 ⟨R.blk.cell 0,R.blk.cell 1,R.blk.cell 2⟩
theorem bS.gM {w:World} {pb:Nat} {K:ay} {β:Bu} (R:bS w pb K β) :
  Calls Tryz.prog 60 #[.pointer (some ⟨pb,0,none⟩)] w fun e w'=>e=.returned (.pointer (some ⟨K.L.sb,0,none⟩))∧w=w':=by
 obtain ⟨c0,-,-⟩:=R.cells;clear R
 go_enter Tryz.func60,Tryz.ntmps60
 go_wp2
 go_ret
 exact ⟨rfl,rfl⟩
theorem bS.jQ {w:World} {pb:Nat} {K:ay} {β:Bu} (R:bS w pb K β) :
  Calls Tryz.prog 63 #[.pointer (some ⟨pb,0,none⟩)] w fun e w'=>e=.returned (.pointer (some ⟨K.M.mb,0,none⟩))∧w=w':=by
 obtain ⟨-,c1,-⟩:=R.cells;clear R
 go_enter Tryz.func63,Tryz.ntmps63
 go_wp2
 go_ret
 exact ⟨rfl,rfl⟩
theorem bS.Vo {w:World} {pb:Nat} {K:ay} {β:Bu} (R:bS w pb K β) :
  Calls Tryz.prog 136 #[.pointer (some ⟨pb,0,none⟩)] w fun e w'=>e=.returned (.pointer (some ⟨K.bb,0,none⟩))∧w=w':=by
 obtain ⟨-,-,c2⟩:=R.cells;clear R
 go_enter Tryz.func136,Tryz.ntmps136
 go_wp2
 go_ret
 exact ⟨rfl,rfl⟩
def Bu.fresh (base limit order:Nat):Bu:=⟨Sp.fresh base limit order,lH order,List.replicate (order+1) 0⟩
theorem OJ {base p:Nat} (h:base%(4096*p)=0):base%4096=0:=by
 obtain ⟨k,hk⟩:=Nat.dvd_of_mod_eq_zero h;rw [hk,Nat.mul_assoc];exact Nat.mul_mod_right _ _
theorem Jz {base limit order:Nat} (h:eF base limit order=true):(Bu.fresh base limit order).ok:=by
 unfold eF at h;rw [decide_eq_true_iff] at h;obtain ⟨h1,h2,h3,h4,h5,h6,h7,h8,h9⟩:=h;refine ⟨rfl,by simp [Bu.fresh,lH],rfl,?_,?_,Nat.zero_le _,Nat.zero_le _,fun x hx=>?_⟩
 ·show limit≤64;omega
 ·show base%4096=0
  have:(order:Int).toNat=order:=by simp
  rw [this] at h7;exact OJ h7
 ·rw [List.eq_of_mem_replicate hx];decide
theorem OL {w w1 w2 wr:World} {base limit order sb bb:Nat} {M:aT} {tv:Value} {eO:List Nat} (h:eF base limit order=true)
  (hs:w.heap.size≤sb) (R1:aP w1 ⟨sb,.slice none 0 0,[]⟩ (Sp.fresh base limit order)) (T1:Touch Nothing w w1)
  (R2:aI w2 M (lH order)) (T2:Touch Nothing w1 w2) (F2:∀ k∈M.fp,w1.heap.size≤k)
  (R3:iE w2 bb sb M.mb base limit order (order+1) tv eO wr) :
  aJ wr ⟨bb,tv,eO,⟨sb,.slice none 0 0,[]⟩,M⟩ (Bu.fresh base limit order)∧∀ k∈(⟨bb,tv,eO,⟨sb,.slice none 0 0,[]⟩,M⟩:ay).fp,w.heap.size≤k:=by
 have l1:=R1.lt;have l2:=R2.lt;have hsb:sb<w1.heap.size:=R1.blk.lt;have hl:eO.length=order+1:=by have:=R3.row.1;simpa using this
 have s12:=T2.size;have s01:=T1.size;have hown:∀ k∈(⟨bb,tv,eO,⟨sb,.slice none 0 0,[]⟩,M⟩:ay).own,w2.heap.size≤k:=R3.fresh;refine ⟨⟨R3.blk,?_,?_,(R1.aj T2).aj R3.touch,R2.aj R3.touch,?_,Jz h⟩,?_⟩
 ·have:=R3.row;simpa [Bu.fresh] using this
 ·intro i b hh hb hhd
  have:hh=0:=by
   simp only [Bu.fresh,List.getElem?_replicate] at hhd;split at hhd
   ·exact (Option.some.inj hhd).symm
   ·cases hhd
  rw [this];exact R3.each b (List.mem_of_getElem? hb)
 ·unfold ay.fp;rw [List.nodup_append];refine ⟨R3.apart,?_,?_⟩
  ·rw [List.nodup_append];refine ⟨R1.y9,R2.apart,?_⟩;intro a ha b hb e;have:=l1 a ha;have:=F2 b hb;omega
  ·intro a ha b hb e;have:=hown a ha;rcases List.mem_append.1 hb with hb | hb
   ·have:=l1 b hb;omega
   ·have:=l2 b hb;omega
 ·intro k hk;rcases List.mem_append.1 hk with hk | hk
  ·have:=hown k hk;omega
  ·rcases List.mem_append.1 hk with hk | hk
   ·simp [bM.fp,Value.ownBlock] at hk;omega
   ·have:=F2 k hk;omega
def TK (w:World) (base limit order:Nat) (e:Ending) (w':World):Prop :=
 ∃ pb K,e=.returned (.tuple #[.pointer (some ⟨pb,0,none⟩),.int .i64 0])∧bS w' pb K (Bu.fresh base limit order)∧Touch Nothing w w'∧∀ k∈pb::K.fp,w.heap.size≤k
theorem GA (base limit order:Nat) (w:World) (hb:base<18446744073709551616) (h:eF base limit order=true) (ho:order≤8) :
  Calls Tryz.prog 35 #[dS base limit order] w (TK w base limit order):=by
 have HM:=Hd (fun w=>Tq base limit order w hb h);have HN:=Hd (fun w=>Ve order ho w);have HB:=Hd (fun sb mb w=>Vn sb mb base limit order w ho);have HH:=Hd h;have T0:=Hd (show Touch Nothing w (w.alloc (.cells #[.int .u64 base,.int .i64 limit,.int .i64 order] 51)) from (Touch.refl _ _).alloc _);have B0:=Hd (aC.new w #[.int .u64 base,.int .i64 limit,.int .i64 order] 51);have hsz:w.heap.size<(w.alloc (.cells #[.int .u64 base,.int .i64 limit,.int .i64 order] 51)).heap.size:=by simp
 unfold dS at *;clear h hb
 go_enter Tryz.func35,Tryz.ntmps35
 go_wp2_with fail
 generalize w.alloc (.cells #[.int .u64 base,.int .i64 limit,.int .i64 order] 51)=w0 at *;refine (HM.out _).mono ?_
 rintro e w1 ⟨sb,rfl,hsb,R1,T1⟩;have HR1:=Hd R1;have HT1:=Hd T1;have B1:=Hd (B0.out.touch T1 (fun h=>h));have c0:=B1.out.cell 2;simp at c0;have HS:=Hd hsb;clear R1 T1 hsb
 go_wp2_with fail
 refine (HN.out _).mono ?_
 rintro e w2 ⟨M,rfl,R2,T2,F2⟩;have HR2:=Hd R2;have HT2:=Hd T2;have EA:=Hd F2;have b2:=(B1.out.touch T2 (fun h=>h));have d0:=b2.cell 0;have d1:=b2.cell 1;have d2:=b2.cell 2;simp at d0 d1 d2;clear R2 T2 F2 c0 b2
 go_wp2_with fail
 refine (HB.out _ _ _).mono ?_
 rintro e w3 ⟨bb,tv,eO,rfl,R3⟩;have HR3:=Hd R3;clear R3
 go_wp2_with fail
 go_ret2
 have hb:=OL HH.out HS.out HR1.out HT1.out HR2.out HT2.out EA.out HR3.out;have s0:=T0.out.size;have s1:=HT1.out.size;have s2:=HT2.out.size;have s3:=HR3.out.touch.size;have TT:=(((T0.out.trans HT1.out).trans HT2.out).trans HR3.out.touch).alloc (.cells #[.pointer (some ⟨sb,0,none⟩),.pointer (some ⟨M.mb,0,none⟩),.pointer (some ⟨bb,0,none⟩)] 122);refine ⟨_,_,rfl,⟨?_,hb.1.aj ((Touch.refl Nothing w3).alloc _),fun hk=>?_⟩,TT,?_⟩
 ·exact aC.new w3 _ 122
 ·have:=hb.1.lt _ hk;omega
 ·intro k hk;rcases List.mem_cons.1 hk with rfl | hk
  ·omega
  ·have:=hb.2 k hk;omega
theorem EB (ps:List Pg) (j:Nat) (kind order:Int):∀ (k i:Nat),i<k→j+i<ps.length→(uI ps j kind order k)[j+i]? = some (bK kind order i)
 | 0,i,h,_=>by omega
 | k+1,i,h,hl=>by
  unfold uI;by_cases e:i=k
  ·subst e;rw [List.getElem?_set_self (by rw [gU];exact hl)]
  ·rw [List.getElem?_set_ne (by omega)];exact EB ps j kind order k i (by omega) hl
theorem EC (ps:List Pg) (j:Nat) (kind order:Int):∀ (k i:Nat),(i<j∨j+k≤i)→(uI ps j kind order k)[i]? = ps[i]?
 | 0,i,_=>rfl
 | k+1,i,h=>by
  unfold uI;rw [List.getElem?_set_ne (by omega)];exact EC ps j kind order k i (by omega)
theorem Mp.gu (μ:Mp):μ.paired.pages=μ.pages∧μ.paired.order=μ.order:=⟨(Mp.jw μ _).1,(Mp.jw μ _).2.1⟩
theorem Mp.mF (μ:Mp):μ.grow.pages.length=μ.pages.length+2^μ.order:=by
 unfold Mp.grow Mp.run Mp.runK;simp only [gU,(Mp.gu μ.more).1];simp [Mp.more]
theorem Mp.iH (μ:Mp):μ.grow.order=μ.order:=by
 show μ.more.paired.order=_
 rw [(Mp.gu μ.more).2];rfl
theorem Mp.JA (μ:Mp):μ.grow.pages[μ.pages.length]? = some (aD 2 μ.order):=by
 unfold Mp.grow Mp.run Mp.runK;have hp:0<2^μ.order:=Nat.pos_of_ne_zero (by simp);have:=EB μ.more.paired.pages μ.pages.length 2 μ.order (2^μ.order) 0 hp (by rw [(Mp.gu μ.more).1];simp [Mp.more];exact hp);simpa [bK] using this
def Bu.fed (β:Bu):Bu:=Bu.enter { β with σ:=β.σ.grow,μ:=β.μ.grow } β.μ.pages.length β.μ.order
def Needed (w:World) (pb:Nat) (K:ay) (β':Bu) (v:Value) (e:Ending) (w':World):Prop :=
 e=.returned v∧∃ K',bS w' pb K' β'∧K.Next w K'∧Touch (·∈K.fp) w w'
theorem bS.OM {w:World} {pb:Nat} {K:ay} {β:Bu} (R:bS w pb K β) (i j o next:Nat) (deny:Bool) (C:tC β i j o next) :
  Calls Tryz.prog 193 #[.pointer (some ⟨pb,0,none⟩),.int .i64 o,.bool deny] w (Needed w pb K (β.took i j o next) (.tuple #[.int .u64 (β.addr i:Nat),.bool false,.int .i64 0])):=by
 obtain ⟨-,-,c2⟩:=R.cells;have HT:=Hd (R.bu.Cx i j o next C);have HR:=Hd R;clear R C
 go_enter Tryz.func193,Tryz.ntmps193
 go_wp2_with fail
 refine HT.out.mono ?_
 rintro e w1 ⟨rfl,R1,T1⟩;have HR1:=Hd R1;have HT1:=Hd T1;clear R1 T1
 go_wp2_with fail
 go_ret3
 exact ⟨rfl,K,HR.out.next HT1.out (ay.Next.refl _ _) HR1.out,ay.Next.refl _ _,HT1.out⟩
theorem bS.TL {w:World} {pb:Nat} {K:ay} {β:Bu} (R:bS w pb K β) (o:Nat) (deny:Bool) (ho:o≤β.μ.order) (hh:∀ k,o≤k→k≤β.μ.order→β.heads.getD k 0=0) (h:deny=true∨β.σ.n=β.σ.limit) :
  Calls Tryz.prog 193 #[.pointer (some ⟨pb,0,none⟩),.int .i64 o,.bool deny] w fun e w'=>e=.returned (.tuple #[.int .u64 0,.bool false,.int .i64 2])∧Touch Nothing w w':=by
 obtain ⟨c0,-,c2⟩:=R.cells;have HT:=Hd (R.bu.rH o ho hh);have HC:=Hd (R.bu.sp.K6 deny h);clear R hh h
 go_enter Tryz.func193,Tryz.ntmps193
 go_wp2_with fail
 refine HT.out.mono ?_
 rintro e w1 ⟨rfl,rfl⟩
 go_wp2_with fail
 refine HC.out.mono ?_
 rintro e w1 ⟨rfl,k,rfl⟩
 go_wp2_with fail
 go_ret3
 exact ⟨rfl,(Touch.refl Nothing w).drewN k⟩
theorem bS.ED {w:World} {pb:Nat} {K:ay} {β:Bu} (R:bS w pb K β) (o next i j:Nat) (ho:o≤β.μ.order) (hh:∀ k,o≤k→k≤β.μ.order→β.heads.getD k 0=0) (h:β.σ.n<β.σ.limit)
  (hl:β.μ.pages.length=β.σ.n*2^β.μ.order) (hmax:β.μ.pages.length+2^β.μ.order≤1024) (C:tC β.fed i j o next) :
  Calls Tryz.prog 193 #[.pointer (some ⟨pb,0,none⟩),.int .i64 o,.bool false] w (Needed w pb K (β.fed.took i j o next) (.tuple #[.int .u64 (β.fed.addr i:Nat),.bool true,.int .i64 0])):=by
 obtain ⟨c0,c1,c2⟩:=R.cells;have HT:=Hd (R.bu.rH o ho hh);have ok:=R.bu.ok;have hlim:=ok.limit;have HC:=Hd (R.bu.sp.Jf h hlim);have HR:=Hd R;have hd:β.μ.pages.length%2^β.μ.order=0:=by rw [hl];exact Nat.mul_mod_left _ _
 have Ju:β.μ.grow.pages.length≤64*2^β.μ.order:=by
  rw [Mp.mF,hl,←Nat.succ_mul];exact Nat.mul_le_mul_right _ (by omega)
 have hpn:β.μ.grow.pages.length≤(β.σ.n+1)*2^β.μ.order:=by
  rw [Mp.mF,hl,←Nat.succ_mul];exact Nat.le_refl _
 have Vp:β.μ.grow.pages.length=(β.σ.n+1)*2^β.μ.order:=by
  rw [Mp.mF,hl,←Nat.succ_mul]
 have hj:(β.μ.pages.length:Int).tmod (2^β.μ.order:Nat)=0:=by
  rw [←Int.ofNat_tmod,hd];rfl
 have HX:=Hd (And.intro Ju (And.intro hpn (And.intro Vp (And.intro hj (And.intro hmax hd)))));have H0:=Hd (hh β.μ.order ho (Nat.le_refl _));have HCo:=Hd C;clear R hh h hl hmax C ok hlim hd Ju hpn Vp hj
 go_enter Tryz.func193,Tryz.ntmps193
 go_wp2_with fail
 refine HT.out.mono ?_
 rintro e w1 ⟨rfl,rfl⟩
 go_wp2_with fail
 refine HC.out.mono ?_
 rintro e w1 G1;obtain ⟨rfl,K1,R1,N1,T1⟩:=HR.out.bu.committed G1;have P1:=HR.out.next T1 N1 R1;obtain ⟨-,d1,-⟩:=P1.cells;have HG:=Hd (R1.mp.XK HX.out.2.2.2.2.1 HX.out.2.2.2.2.2);have vP:=Hd P1;have HR1:=Hd R1;have qJ:=Hd N1;have HT1:=Hd T1;clear G1 P1 R1 N1 T1 c0 c1 c2
 go_wp2_with fail
 refine HG.out.mono ?_
 rintro e w2 ⟨M2,rfl,G2⟩;obtain ⟨K2,R2,N2,T2⟩:=HR1.out.grown G2 (Mp.iH _) HX.out.1 HX.out.2.1;have P2:=vP.out.next T2 N2 R2;obtain ⟨-,-,d2⟩:=P2.cells
 have hF:=R2.XM β.μ.pages.length (p:=aD 2 β.μ.order) (Nat.succ_pos _) (by rw [show (⟨β.σ.grow,β.μ.grow,β.heads⟩:Bu).μ=β.μ.grow from rfl,Mp.iH];exact HX.out.2.2.1)
  (by show _=β.μ.grow.pages.length-2^β.μ.grow.order;rw [Mp.iH,Mp.mF];omega) (Mp.JA _) rfl (by show (β.μ.order:Int)=(β.μ.grow.order:Nat);rw [Mp.iH]) (by show (β.μ.pages.length:Int).tmod (2^β.μ.grow.order:Nat)=0;rw [Mp.iH];exact HX.out.2.2.2.1)
  (fun hne=>absurd (by show β.heads.getD β.μ.grow.order 0=0;rw [Mp.iH];exact H0.out) hne)
 have hfe:Bu.enter ⟨β.σ.grow,β.μ.grow,β.heads⟩ β.μ.pages.length β.μ.grow.order=β.fed:=by rw [Mp.iH];rfl
 have HF:=Hd (show Calls Tryz.prog 250 #[.pointer (some ⟨K2.bb,0,none⟩)] w2 (Turned w2 K2 β.fed (.int .i64 0)) by rw [←hfe];exact hF);have wG:=Hd P2;have tF:=Hd N2;have HT2:=Hd T2;clear G2 P2 R2 N2 T2 d1 hF hfe
 go_wp2_with fail
 refine HF.out.mono ?_
 rintro e w3 ⟨rfl,R3,T3⟩;have P3:=wG.out.next T3 (ay.Next.refl _ _) R3;obtain ⟨-,-,d3⟩:=P3.cells;have HK:=Hd (R3.Cx i j o next HCo.out);have Ry:=Hd P3;have HT3:=Hd T3;clear R3 P3 T3 d2
 go_wp2_with fail
 refine HK.out.mono ?_
 rintro e w4 ⟨rfl,R4,T4⟩;have P4:=Ry.out.next T4 (ay.Next.refl _ _) R4;have yH:=Hd P4;have eu:=Hd T4;clear R4 P4 T4 d3
 go_wp2_with fail
 go_ret3
 have s1:=HT1.out.size;have N:=qJ.out.trans tF.out s1;exact ⟨rfl,K2,yH.out,N,(((HT1.out.next qJ.out HT2.out).next N HT3.out)).next N eu.out⟩
theorem aJ.bytes {w w':World} {K:ay} {β:Bu} {σ':Sp} (R:aJ w K β) (h:aP w' K.L σ') (T:Touch (·∈K.L.eD) w w') (hσ:σ'.base=β.σ.base∧σ'.limit=β.σ.limit∧σ'.order=β.σ.order∧σ'.size=β.σ.size∧σ'.n=β.σ.n) :
  aJ w' K { β with σ:=σ' }∧Touch (·∈K.fp) w w':=by
 obtain ⟨_,s2,s3⟩:=R.split;have o:=R.ok;have hr:∀ k,k∈K.L.eD→k∈K.L.fp:=fun k hk=>by simp [bM.fp,hk]
 obtain ⟨h1,h2,h3⟩:=R.mX T (fun k hk hk'=>(s2 k hk).1 (hr k hk'));refine ⟨⟨?_,h2,h3,h,R.mp.touch T (fun k hk hk'=>s3 k (hr k hk') hk),R.apart,⟨hσ.2.2.1.trans o.order,o.heads,hσ.2.2.2.1.trans o.size,by show σ'.limit≤64;rw [hσ.2.1];exact o.limit,by show σ'.base%4096=0;rw [hσ.1];exact o.base,o.pages,by show _≤σ'.n*_;rw [hσ.2.2.2.2];exact o.regs,o.head⟩⟩,T.mono (fun k _ hk=>by simp [ay.fp,hr k hk])⟩
 show aC w' K.bb 274 [.int .u64 σ'.base,.int .i64 σ'.limit,.int .i64 σ'.order,_,_,_]
 rw [hσ.1,hσ.2.1,hσ.2.2.1];exact h1
theorem Sp.kV (σ:Sp) (p:Nat) (bs:List Nat):(σ.put p bs).base=σ.base∧(σ.put p bs).limit=σ.limit∧(σ.put p bs).order=σ.order∧(σ.put p bs).size=σ.size∧(σ.put p bs).n=σ.n:=⟨rfl,rfl,rfl,rfl,rfl⟩
theorem aJ.fq {w w':World} {K:ay} {β:Bu} {μ':Mp} (R:aJ w K β) (h:aI w' K.M μ') (T:Touch (fun k=>some k=K.M.gv.ownBlock) w w') (ho:μ'.order=β.μ.order) (hl:μ'.pages.length=β.μ.pages.length):aJ w' K { β with μ:=μ' }∧Touch (·∈K.fp) w w':=by
 have T1:Touch (·∈K.M.fp) w w':=T.mono (fun b _ e=>by simp [aT.fp,e.symm]);exact ⟨R.mapped h T1 ho hl,T1.mono (fun b _ hb=>by simp [ay.fp,hb])⟩
structure aM (w:World) (s pb:Nat) (K:ay) (β:Bu) (ps:List Int):Prop where
 blk:aC w s 163 (.pointer (some ⟨pb,0,none⟩)::ps.map fun x=>.int .i64 x)
 po:bS w pb K β
 apart:s∉pb::K.fp
 len:ps.length=8
theorem aM.touch {w w':World} {s pb:Nat} {K:ay} {β:Bu} {ps:List Int} {S:Nat→Prop} (R:aM w s pb K β ps) (T:Touch S w w') (h:∀ k,k∈s::pb::K.fp→¬S k):aM w' s pb K β ps :=
 ⟨R.blk.touch T (h _ (by simp)),R.po.touch T (fun k hk=>h k (List.mem_cons_of_mem _ hk)),R.apart,R.len⟩
theorem aM.aj {w w':World} {s pb:Nat} {K:ay} {β:Bu} {ps:List Int} (R:aM w s pb K β ps) (T:Touch Nothing w w'):aM w' s pb K β ps:=R.touch T (fun _ _ h=>h)
theorem aM.next {w w':World} {s pb:Nat} {K K':ay} {β β':Bu} {ps:List Int} (R:aM w s pb K β ps) (T:Touch (·∈K.fp) w w') (N:K.Next w K') (R':aJ w' K' β'):aM w' s pb K' β' ps:=by
 have hs:s∉K.fp:=fun h=>R.apart (List.mem_cons_of_mem _ h)
 refine ⟨R.blk.touch T hs,R.po.next T N R',fun h=>?_,R.len⟩;rcases List.mem_cons.1 h with h | h
 ·exact R.apart (by simp [h])
 ·rcases N.fresh s h with h | h
  ·exact hs h
  ·have:=R.blk.lt;omega
theorem aM.lt {w:World} {s pb:Nat} {K:ay} {β:Bu} {ps:List Int} (R:aM w s pb K β ps):∀ k∈s::pb::K.fp,k<w.heap.size:=by
 intro k hk;rcases List.mem_cons.1 hk with rfl | hk
 ·exact R.blk.lt
 ·exact R.po.lt k hk
theorem aM.pool {w:World} {s pb:Nat} {K:ay} {β:Bu} {ps:List Int} (R:aM w s pb K β ps):w.cell? ⟨s,0,none⟩=some (.pointer (some ⟨pb,0,none⟩)):=R.blk.cell 0
theorem aM.part {w:World} {s pb:Nat} {K:ay} {β:Bu} {ps:List Int} (R:aM w s pb K β ps) (c:Nat) (hc:c<8):w.cell? ⟨s,1+c,none⟩=some (.int .i64 (ps.getD c 0)):=by
 have hl:=R.len;rw [R.blk.cell,Nat.add_comm,List.getElem?_cons_succ,List.getElem?_map,List.getElem?_eq_getElem (by omega),List.getD_eq_getElem?_getD,List.getElem?_eq_getElem (by omega)];rfl
theorem aM.xP {w:World} {s pb:Nat} {K:ay} {β:Bu} {ps:List Int} (R:aM w s pb K β ps) (c:Nat) (x:Int):aM (w.setCell ⟨s,1+c,none⟩ (.int .i64 x)) s pb K β (ps.set c x):=by
 have T:=Touch.cellAt w s (1+c) (.int .i64 x);refine ⟨?_,R.po.touch T (fun k hk e=>R.apart (e▸hk)),R.apart,by rw [List.length_set];exact R.len⟩;have:=R.blk.set (1+c) (.int .i64 x);rw [Nat.add_comm,List.set_cons_succ,←List.map_set] at this;rw [Nat.add_comm];exact this
structure uJ (w:World) (s pb:Nat) (k:Nat) (wr:World):Prop where
 blk:aC wr s 163 (.pointer (some ⟨pb,0,none⟩)::(List.replicate k (.int .i64 (-1))++List.replicate (8-k) (.int .i64 0)))
 touch:Touch Nothing w wr
def Vq (w:World) (pb:Nat) (e:Ending) (w':World):Prop :=
 ∃ s,e=.returned (.pointer (some ⟨s,0,none⟩))∧w.heap.size≤s∧aC w' s 163 (.pointer (some ⟨pb,0,none⟩)::(List.replicate 8 (-1)).map fun x=>.int .i64 x)∧Touch Nothing w w'
theorem uJ.step {w wr:World} {s pb k:Nat} (R:uJ w s pb k wr) (hk:k<8) (hs:w.heap.size≤s):uJ w s pb (k+1) (wr.setCell ⟨s,1+k,none⟩ (.int .i64 (-1))):=by
 refine ⟨?_,R.touch.trans' (Touch.cellAt wr s (1+k) (.int .i64 (-1))) (fun i hi e=>by omega)⟩;have:=R.blk.set (1+k) (.int .i64 (-1));rw [Nat.add_comm,List.set_cons_succ] at this;rw [Nat.add_comm]
 have e:(List.replicate k (Value.int .i64 (-1))++List.replicate (8-k) (Value.int .i64 0)).set k (.int .i64 (-1))=List.replicate (k+1) (Value.int .i64 (-1))++List.replicate (8-(k+1)) (.int .i64 0):=by
  rw [List.set_append_right _ _ (by simp),List.length_replicate,Nat.sub_self,show 8-k=(8-(k+1))+1 by omega,List.replicate_succ,List.set_cons_zero,List.replicate_succ',List.append_assoc];rfl
 rw [e] at this;exact this
theorem OO (pb:Nat) (w:World):Calls Tryz.prog 36 #[.pointer (some ⟨pb,0,none⟩)] w (Vq w pb):=by
 go_enter Tryz.func36,Tryz.ntmps36
 go_wp2_with fail
 have HB:=Hd (aC.new w #[.pointer (some ⟨pb,0,none⟩),.int .i64 0,.int .i64 0,.int .i64 0,.int .i64 0,.int .i64 0,.int .i64 0,.int .i64 0,.int .i64 0] 163);generalize hs:w.heap.size=s at *;have HS:=Hd hs;clear hs
 go_loopw [8] (fun a wr=>∃ k:Nat,k≤8∧a=.int .i64 k∧uJ w s pb k wr) (fun a _=>8-(intOf a).toNat)
 case atStart=>exact ⟨0,by omega,rfl,HB.out,(Touch.refl _ _).alloc _⟩
 case round =>
  obtain ⟨k,hk,rfl,hF⟩:=hrel;have HF:=Hd hF;by_cases hlt:k<8
  ·have hc:wr.cell? ⟨s,1+k,none⟩=some (.int .i64 0):=by
    rw [hF.blk.cell,Nat.add_comm,List.getElem?_cons_succ,List.getElem?_append_right (by simp),List.length_replicate,Nat.sub_self,List.getElem?_replicate,if_pos (by omega)]
   have hf:=hF.blk.free (1+k);clear hF
   go_wp2_with fail
   go_roundw
   case rel=>exact ⟨k+1,by omega,by go_num,HF.out.step hlt (by rw [HS.out];exact Nat.le_refl _)⟩
   case measure=>simp [intOf];omega
  ·obtain rfl:k=8:=by omega
   clear hF
   go_wp2_with fail
   go_ret
   exact ⟨s,rfl,by rw [HS.out];exact Nat.le_refl _,HF.out.blk,HF.out.touch⟩
theorem aM.drewN {w:World} {s pb:Nat} {K:ay} {β:Bu} {ps:List Int} (R:aM w s pb K β ps) (k:Nat):aM (w.drewN k) s pb K β ps:=R.aj ((Touch.refl Nothing w).drewN k)
theorem aM.pW {w:World} {s pb:Nat} {K:ay} {β:Bu} {ps:List Int} (R:aM w s pb K β ps) (hl:β.μ.pages.length=β.σ.n*2^β.μ.order) :
  Calls Tryz.prog 243 #[.pointer (some ⟨s,0,none⟩)] w fun e w'=>e=.returned (.int .u64 (β.σ.base:Nat))∧∃ k,w'=w.drewN k:=by
 have c0:=R.pool;have HS:=Hd (fun k=>((R.drewN k).po.gM).mono (fun e w' (h:e=_∧w.drewN k=w')=>(⟨h.1,h.2.symm⟩:e=_∧w'=w.drewN k)));have HM:=Hd (fun k=>((R.drewN k).po.jQ).mono (fun e w' (h:e=_∧w.drewN k=w')=>(⟨h.1,h.2.symm⟩:e=_∧w'=w.drewN k)));have HE:=Hd (fun k=>(R.drewN k).po.bu.sp.end_);have HP:=Hd (fun k=>(R.drewN k).po.bu.mp.sU)
 have h4:4096*β.μ.pages.length=β.σ.size*β.σ.n:=by
  rw [hl,R.po.bu.ok.size,Nat.mul_comm β.σ.n,←Nat.mul_assoc]
 have htop:=R.po.bu.sp.ok.wo;have hlen:=R.po.bu.mp.ok.len
 have HF:=Hd (show IntKind.u64.wrap (((β.σ.base+β.σ.size*β.σ.n:Nat):Int)-4096*(β.μ.pages.length:Int))=(β.σ.base:Int) by
  rw [show ((β.σ.base+β.σ.size*β.σ.n:Nat):Int)-4096*(β.μ.pages.length:Int)=((β.σ.base:Nat):Int) by omega];exact IntWalk.u64_in _ (by omega))
 generalize β.σ.base+β.σ.size*β.σ.n=E at *;clear R hl h4
 go_enter Tryz.func243,Tryz.ntmps243
 go_wp2_with fail
 go_quiet (first | (go_at_call 60;refine Calls.quiet_of_same (HS.out _)) | (go_at_call 63;refine Calls.quiet_of_same (HM.out _)))
 go_wp2_with fail
 refine (HE.out _).mono ?_
 rintro e w1 ⟨rfl,k,rfl⟩;have e1:(w.drewN nq).drewN k=w.drewN (nq+k):=World.drewN_drewN ..;rw [e1];clear e1
 go_wp2_with fail
 refine (HP.out _).mono ?_
 rintro e w1 ⟨rfl,rfl⟩
 go_wp2_with fail
 go_ret
 refine ⟨?_,_,rfl⟩
 show Ending.returned (.int .u64 (IntKind.u64.wrap ((E:Int)-4096*(β.μ.pages.length:Int))))=_
 rw [HF.out]
def aM.BD (μ:Mp) (i:Nat) (p:Pg):Mp:=μ.aA i { p with next:=-1,prev:=-1 }
theorem aM.RB {w:World} {s pb:Nat} {K:ay} {β:Bu} {ps:List Int} (R:aM w s pb K β ps) (i c:Nat) {p:Pg} (hi:β.μ.pages[i]? = some p) (hk:p.kind=4) (hc:c<8) (he:ps.getD c 0 = -1) :
  Calls Tryz.prog 252 #[.pointer (some ⟨s,0,none⟩),.int .i64 i,.int .i64 c] w fun e w'=>e=.returned (.tuple #[])∧aM w' s pb K { β with μ:=aM.BD β.μ i p } (ps.set c i)∧Touch (·∈s::K.fp) w w':=by
 have c0:=R.pool;have c1:=R.part c hc;rw [he] at c1;have HM:=Hd (fun k=>((R.drewN k).po.jQ).mono (fun e w' (h:e=_∧w.drewN k=w')=>(⟨h.1,h.2.symm⟩:e=_∧w'=w.drewN k)));have hlt:=(List.getElem?_eq_some_iff.1 hi).1;have yI:=Hd (fun k=>(R.drewN k).po.bu.mp.kS hi hk (-1) (-1) (by omega) (by omega) (by omega) (by omega));have HR:=Hd R;clear R hi hk he hlt
 go_enter Tryz.func252,Tryz.ntmps252
 go_wp2_with fail
 go_quiet (first | (go_at_call 63;refine Calls.quiet_of_same (HM.out _)))
 go_wp2_with fail
 refine (yI.out _).mono ?_
 rintro e w1 ⟨rfl,r1,t1⟩;have R1:=(HR.out.drewN nq).po.bu.fq r1 t1 rfl (List.length_set ..);have S1:=(HR.out.drewN nq).next R1.2 (ay.Next.refl _ _) R1.1;have d1:=S1.part c hc;have f1:=S1.blk.free (1+c);have hS:=Hd (S1.xP c i);have hT:=Hd (((Touch.refl _ w).drewN nq).trans R1.2);clear r1 t1 R1 c0 c1 S1
 go_wp2_with fail
 go_end0
 refine ⟨rfl,hS.out,?_⟩;exact (hT.out.mono (fun k _ h=>List.mem_cons_of_mem _ h)).trans ((Touch.cellAt w1 s (1+c) _).mono (fun k _ h=>by simp [h]))
def mD (at_ wd n k:Nat):Nat:=if k+1=n then 0 else at_+(k+1)*wd
def fK (σ:Sp) (at_ wd n:Nat):Nat→Sp
 | 0=>σ
 | k+1=>(fK σ at_ wd n k).put (at_+k*wd) (bL (mD at_ wd n k))
theorem uK (σ:Sp) (at_ wd n k:Nat):(fK σ at_ wd n k).base=σ.base∧(fK σ at_ wd n k).limit=σ.limit∧(fK σ at_ wd n k).order=σ.order∧(fK σ at_ wd n k).size=σ.size∧(fK σ at_ wd n k).n=σ.n:=by
 induction k with
 | zero=>exact ⟨rfl,rfl,rfl,rfl,rfl⟩
 | succ k ih=>exact ih
theorem Cy (σ:Sp) (at_ wd n:Nat) {p m:Nat} (H:σ.has p m):∀ k,(fK σ at_ wd n k).has p m
 | 0=>H
 | k+1=>Sp.Br.2 (Cy σ at_ wd n H k)
def aB (c:Nat):Nat:=16*2^c
theorem dK {c:Nat} (h:c<8):16≤aB c∧aB c≤2048∧4096/aB c*aB c=4096∧2≤4096/aB c∧4096/aB c≤256∧4096/aB c=aR c:=by
 match c,h with
 | 0,_=>decide
 | 1,_=>decide
 | 2,_=>decide
 | 3,_=>decide
 | 4,_=>decide
 | 5,_=>decide
 | 6,_=>decide
 | 7,_=>decide
 | k+8,h=>omega
structure xQ (w:World) (s pb:Nat) (K:ay) (β:Bu) (ps:List Int) (at_ wd n k:Nat) (wr:World):Prop where
 rep:aM wr s pb K { β with σ:=fK β.σ at_ wd n k } ps
 touch:Touch (·∈K.fp) w wr
def Bu.born (β:Bu) (i c:Nat):Bu :=
 { β with σ:=fK β.σ (β.addr i) (aB c) (4096/aB c) (4096/aB c),μ:=aM.BD ((β.μ.aA i (eG c)).aA i { eG c with first:=0 }) i { eG c with first:=0 } }
theorem xQ.step {w wr w1:World} {s pb:Nat} {K:ay} {β:Bu} {ps:List Int} {at_ wd n k:Nat} (R:xQ w s pb K β ps at_ wd n k wr) (h:aP w1 K.L ((fK β.σ at_ wd n k).put (at_+k*wd) (bL (mD at_ wd n k)))) (T:Touch (·∈K.L.eD) wr w1):xQ w s pb K β ps at_ wd n (k+1) w1:=by
 obtain ⟨b,t⟩:=R.rep.po.bu.bytes h T (Sp.kV _ _ _);exact ⟨R.rep.next t (ay.Next.refl _ _) b,R.touch.trans t⟩
theorem aM.RD {w:World} {s pb:Nat} {K:ay} {β:Bu} {ps:List Int} (R:aM w s pb K β ps) (G:bU w) (iK:∀ k∈s::pb::K.fp,9≤k) (i c:Nat) {p:Pg} (hi:β.μ.pages[i]? = some p) (hc:c<8) (he:ps.getD c 0 = -1) (hl:β.μ.pages.length=β.σ.n*2^β.μ.order) :
  Calls Tryz.prog 242 #[.pointer (some ⟨s,0,none⟩),.int .u64 (β.addr i:Nat),.int .i64 c] w fun e w'=>e=.returned (.int .i64 i)∧aM w' s pb K (β.born i c) (ps.set c i)∧Touch (·∈s::K.fp) w w':=by
 have c0:=R.pool;have jg:=Hd (fun k=>((R.drewN k).po.gM).mono (fun e w' (h:e=_∧w.drewN k=w')=>(⟨h.1,h.2.symm⟩:e=_∧w'=w.drewN k)));have HM:=Hd (fun k=>((R.drewN k).po.jQ).mono (fun e w' (h:e=_∧w.drewN k=w')=>(⟨h.1,h.2.symm⟩:e=_∧w'=w.drewN k)));have HB:=Hd (fun k=>(R.drewN k).pW hl);have hlt:=(List.getElem?_eq_some_iff.1 hi).1;have htop:=R.po.bu.ok.dZ R.po.bu.sp.ok hlt;have hlen:=R.po.bu.mp.ok.len;have hsub:((β.addr i:Nat):Int)-(β.σ.base:Int)=((4096*i:Nat):Int):=by unfold Bu.addr;omega
 have hdiv:((4096*i:Nat):Int)/4096=(i:Int):=by omega
 have hle:((4096*i:Nat):Int)≤18446744073709551615:=by omega
 have hge:(0:Int)≤((4096*i:Nat):Int):=by omega
 obtain ⟨w1,w2,w3,w4,w5,w6⟩:=dK hc;have Vr:=Hd (fun k=>(R.drewN k).po.bu.mp.Oz hi c hc);have kg:=Hd (fun off (h:off+8≤4096)=>R.po.bu.ok.has (i:=i) (off:=off) (n:=8) hlt (by omega) h);have HR:=Hd R;have HG:=Hd G;have mG:=Hd iK;have HI:=Hd hi;have HE:=Hd he;clear R G iK hi he hl
 go_enter Tryz.func242,Tryz.ntmps242
 go_wp2_with fail
 go_quiet (first | (go_at_call 60;refine Calls.quiet_of_same (jg.out _)) | (go_at_call 63;refine Calls.quiet_of_same (HM.out _)))
 go_wp2_with fail
 refine (HB.out _).mono ?_
 rintro e w1 ⟨rfl,k,rfl⟩;have e1:(w.drewN nq).drewN k=w.drewN (nq+k):=World.drewN_drewN ..;rw [e1];clear e1
 go_wp2_with fail
 refine (Vr.out _).mono ?_
 rintro e wa ⟨rfl,r1,t1⟩;have R1:=(HR.out.drewN _).po.bu.fq r1 t1 rfl (List.length_set ..);have S1:=(HR.out.drewN _).next R1.2 (ay.Next.refl _ _) R1.1;have hT1:=Hd (((Touch.refl _ w).drewN _).trans R1.2);have hfp:∀ k,k<9→¬k∈K.fp:=fun k hk h=>by have:=mG.out k (by simp [h]);omega
 have HFp:=Hd hfp;have YE:=Hd (HG.out.touch hT1.out hfp);have hcw:=YE.out.widths c hc;have hS1:=Hd S1;have hq:(4096:Int)/(aB c:Int)=((4096/aB c:Nat):Int):=(Int.natCast_ediv 4096 (aB c)).symm;have hw0:¬(aB c:Int)=0:=by omega
 rw [show 16*2^c=aB c from rfl] at hcw;obtain ⟨n,hn⟩:∃ n,n=4096/aB c:=⟨_,rfl⟩;rw [←hn] at hq w3 w4 w5;have HN:=Hd hn;have HW6:=Hd w6;have HW3:=Hd w3;clear r1 t1 R1 S1 hfp hn w6 c0 w3;have hat:β.addr i+4096≤18446744073709551615:=htop;generalize hA:β.addr i=A at *;generalize hwd:aB c=wd at *;have HA:=Hd hA;have pG:=Hd hwd;clear hA hwd htop hsub hdiv hle hge
 go_wp2_with fail
 have HQ:=Hd hq;clear hq
 go_loopw [42] (fun a wr=>∃ k:Nat,k≤n∧a=.int .u64 k∧xQ wa s pb K { β with μ:=β.μ.aA i (eG c) } ps A wd n k wr) (fun a _=>n-(intOf a).toNat)
 case atStart=>exact ⟨0,Nat.zero_le _,rfl,hS1.out,Touch.refl _ _⟩
 case round =>
  obtain ⟨k,hk,rfl,hF⟩:=hrel;have HF:=Hd hF;have hcr:=(YE.out.touch hF.touch HFp.out).widths c hc;rw [show 16*2^c=aB c from rfl,pG.out] at hcr;clear hF;by_cases hlt2:k<n
  ·have aai:(k:Int)<4096/(wd:Int):=by rw [HQ.out];omega
   obtain ⟨x,hx⟩:∃ x,x=(k+1)*wd:=⟨_,rfl⟩;obtain ⟨y,hy⟩:∃ y,y=k*wd:=⟨_,rfl⟩;have hxy:x=y+wd:=by rw [hx,hy,Nat.succ_mul]
   have acN:x≤4096:=by rw [hx,←HW3.out];exact Nat.mul_le_mul_right _ hlt2
   have hyle:y≤4096:=by omega
   have ex:((k:Int)+1)*(wd:Int)=(x:Int):=by rw [hx];push_cast;rfl
   have ey:(k:Int)*(wd:Int)=(y:Int):=by rw [hy];push_cast;rfl
   have hlo:β.σ.base≤A:=by rw [←HA.out];unfold Bu.addr;omega
   have wH:=Cy β.σ A wd n (kg.out y (by omega)) k;have hv:mD A wd n k<18446744073709551616:=by unfold mD;split <;> omega
   have hS:=HF.out.rep.po.bu.sp.qF (A+y) (mD A wd n k) wH hv;rw [show ((A+y:Nat):Int)=(A:Int)+(y:Int) by omega] at hS;have YF:=Hd (And.intro hx (And.intro hy hxy));by_cases hlast:k+1=n
   ·have hw:mD A wd n k=0:=if_pos hlast;rw [hw,Int.ofNat_zero] at hS;have hW:=Hd hw;have HS:=Hd hS;have hl1:((k:Int)+1 == 4096/(wd:Int))=true:=by rw [HQ.out,beq_iff_eq];omega
    clear hS wH hv hw hxy hx hy hlast
    go_wp2_with fail
    refine HS.out.mono ?_
    rintro e w1 ⟨rfl,r1,t1⟩;have HB1:=Hd (HF.out.step (by rw [hW.out,←YF.out.2.1];exact r1) t1);clear r1 t1 hl1 ex ey hcr hcw
    go_wp2_with fail
    go_roundw
    case rel=>exact ⟨k+1,hlt2,by go_num,HB1.out⟩
    case measure=>simp [intOf];omega
   ·have hw:mD A wd n k=A+x:=by rw [hx];exact if_neg hlast
    rw [hw,show ((A+x:Nat):Int)=(A:Int)+(x:Int) by omega] at hS;have hW:=Hd hw;have HS:=Hd hS;have hl1:((k:Int)+1 == 4096/(wd:Int))=false:=by rw [HQ.out,beq_eq_false_iff_ne];omega
    clear hS wH hv hw hxy hx hy hlast
    go_wp2_with fail
    refine HS.out.mono ?_
    rintro e w1 ⟨rfl,r1,t1⟩;have HB1:=Hd (HF.out.step (by rw [hW.out,←YF.out.2.1];exact r1) t1);clear r1 t1 hl1 ex ey hcr hcw
    go_wp2_with fail
    go_roundw
    case rel=>exact ⟨k+1,hlt2,by go_num,HB1.out⟩
    case measure=>simp [intOf];omega
  ·obtain rfl:k=n:=by omega
   have aai:¬((k:Int)<4096/(wd:Int)):=by rw [HQ.out];omega
   have hi1:(β.μ.aA i (eG c)).pages[i]? = some (eG c):=Mp.bQ _ HI.out
   have YG:=HF.out.rep.po.bu.mp.qH hi1 rfl 0 (by omega) (by
    have:((eG c).cls)=(c:Int):=rfl;rw [this,←HW6.out,←HN.out];omega)
   have qK:=Hd YG;clear YG hi1
   go_wp2_with fail
   refine qK.out.mono ?_
   rintro e w1 ⟨rfl,r1,t1⟩;have R1:=HF.out.rep.po.bu.fq r1 t1 rfl (List.length_set ..);have S1:=HF.out.rep.next R1.2 (ay.Next.refl _ _) R1.1;have hi2:((β.μ.aA i (eG c)).aA i { eG c with first:=0 }).pages[i]? = some { eG c with first:=0 }:=Mp.bQ _ (Mp.bQ _ HI.out);have HH:=Hd (S1.RB i c hi2 rfl hc HE.out);have HT1:=Hd R1.2;clear r1 t1 R1 S1 hi2
   go_wp2_with fail
   refine HH.out.mono ?_
   rintro e w2 ⟨rfl,r2,t2⟩;have HR2:=Hd r2;have HT2:=Hd t2;clear r2 t2
   go_wp2_with fail
   go_ret
   refine ⟨rfl,?_,?_⟩
   ·have:=HR2.out;unfold Bu.born;rw [HA.out,pG.out,←HN.out];exact this
   ·exact (((hT1.out.trans HF.out.touch).trans HT1.out).mono (fun b _ hb=>List.mem_cons_of_mem _ hb)).trans HT2.out
theorem iw {f g:Nat→Nat} {p:Nat}:∀ {n:Nat},(∀ a,p≤a→a<p+n→f a=g a)→leBytes f p n=leBytes g p n
 | 0,_=>rfl
 | n+1,h=>by rw [leBytes,leBytes,iw (fun a h1 h2=>h a h1 (by omega)),h (p+n) (by omega) (by omega)]
theorem Sp.EF (σ:Sp) (p q:Nat) (bs:List Nat) (h:q+8≤p∨p+bs.length≤q):(σ.put p bs).word q=σ.word q:=by
 unfold Sp.word;refine iw (fun a h1 h2=>?_);simp only [Sp.put];rw [if_neg (by omega)]
theorem Sp.Cz (σ:Sp) (p v:Nat) (hv:v<18446744073709551616):(σ.put p (bL v)).word p=v:=by
 have hl:(bL v).length=8:=rfl
 have hm:∀ k,k<8→(σ.put p (bL v)).mem (p+k)=(bL v).getD k 0:=by
  intro k hk;simp only [Sp.put];rw [if_pos ⟨by omega,by omega⟩,Nat.add_sub_cancel_left]
 unfold Sp.word;simp only [leBytes,hm 0 (by omega),hm 1 (by omega),hm 2 (by omega),hm 3 (by omega),hm 4 (by omega),hm 5 (by omega),hm 6 (by omega),hm 7 (by omega)];simp [bL];omega
theorem pX {σ:Sp} {at_ wd n:Nat} (hwd:8≤wd) (hb:at_+n*wd<18446744073709551616):∀ (k j:Nat),k≤n→j<k→(fK σ at_ wd n k).word (at_+j*wd)=mD at_ wd n j
 | 0,j,_,h=>by omega
 | k+1,j,hk,h=>by
  unfold fK;by_cases e:j=k
  ·subst e;refine Sp.Cz _ _ _ ?_
   unfold mD;split
   ·omega
   ·have:(j+1)*wd≤n*wd:=Nat.mul_le_mul_right _ hk;omega
  ·rw [Sp.EF _ _ _ _ (by
    left;have:(j+1)*wd≤k*wd:=Nat.mul_le_mul_right _ (by omega);rw [Nat.succ_mul] at this;omega)]
   exact pX hwd hb k j (by omega) (by omega)
def Pg.take (p:Pg) (f:Nat) (f':Int):Pg:={ p.own f true with first:=f' }
def aF (c:Nat):Pg:={ eG c with first:=0,next:=-1,prev:=-1 }
def Bu.eT (β:Bu) (i c:Nat):Bu:={ β.born i c with μ:=(β.born i c).μ.aA i ((aF c).take 0 1) }
theorem jW {β:Bu} {i c:Nat} {p:Pg} (h:β.μ.pages[i]? = some p):(β.born i c).μ.pages[i]? = some (aF c) :=
 Mp.bQ _ (Mp.bQ _ (Mp.bQ _ h))
theorem uL (β:Bu) (i c:Nat):(β.born i c).μ.pages.length=β.μ.pages.length∧(β.born i c).μ.order=β.μ.order∧(β.born i c).σ.n=β.σ.n∧(β.born i c).σ.base=β.σ.base:=by
 refine ⟨?_,rfl,(uK _ _ _ _ _).2.2.2.2,(uK _ _ _ _ _).1⟩;simp [Bu.born,aM.BD,Mp.aA]
theorem Ae {c:Nat}:(aF c).bit 0=false:=by
 simp [Pg.bit,Pg.word,aF,eG,aD]
def Taken (w:World) (s pb:Nat) (K:ay) (β':Bu) (ps':List Int) (v:Value) (e:Ending) (w':World):Prop :=
 e=.returned v∧∃ K',aM w' s pb K' β' ps'∧K.Next w K'∧Touch (·∈s::K.fp) w w'
theorem aM.OP {w:World} {s pb:Nat} {K:ay} {β:Bu} {ps:List Int} (R:aM w s pb K β ps) (G:bU w) (iK:∀ k∈s::pb::K.fp,9≤k) (c next i j:Nat) (hc:c<8) (he:ps.getD c 0 = -1)
  (hh:∀ k,k≤β.μ.order→β.heads.getD k 0=0) (h:β.σ.n<β.σ.limit)
  (hl:β.μ.pages.length=β.σ.n*2^β.μ.order) (hmax:β.μ.pages.length+2^β.μ.order≤1024) (C:tC β.fed i j 0 next)
  {p:Pg} (hp:(β.fed.took i j 0 next).μ.pages[i]? = some p) (hl1:(β.fed.took i j 0 next).μ.pages.length=(β.fed.took i j 0 next).σ.n*2^(β.fed.took i j 0 next).μ.order) (hb1:(β.fed.took i j 0 next).σ.base=β.fed.σ.base) :
  Calls Tryz.prog 191 #[.pointer (some ⟨s,0,none⟩),.int .i64 c,.bool false] w
   (Taken w s pb K ((β.fed.took i j 0 next).eT i c) (ps.set c i) (.tuple #[.int .u64 (β.fed.addr i:Nat),.bool true,.int .i64 0])):=by
 have c0:=R.pool;have c1:=R.part c hc;rw [he] at c1;have HN:=Hd (R.po.ED 0 next i j (Nat.zero_le _) (fun k _ hk=>hh k hk) h hl hmax C);have uM:(β.fed.took i j 0 next).addr i=β.fed.addr i:=by unfold Bu.addr;rw [hb1]
 have HA:=Hd uM;have HR:=Hd R;have HG:=Hd G;have mG:=Hd iK;have HE:=Hd he;have HP:=Hd hp;have nS:=Hd hl1;generalize β.fed.took i j 0 next=β1 at *;clear R G iK he hh h hl hmax C hp hl1 hb1 uM
 go_enter Tryz.func191,Tryz.ntmps191
 go_wp2_with fail
 refine HN.out.mono ?_
 rintro e w1 ⟨rfl,K1,P1,N1,T1⟩;have S1:=HR.out.next T1 N1 P1.bu
 have uN:∀ k∈s::pb::K1.fp,9≤k:=by
  intro k hk;simp only [List.mem_cons] at hk;rcases hk with rfl | rfl | hk
  ·exact mG.out _ (by simp)
  ·exact mG.out _ (by simp)
  ·rcases N1.fresh k hk with h | h
   ·exact mG.out _ (by simp [h])
   ·have:=HG.out.size;omega
 have hfp:∀ k,k<9→¬k∈K.fp:=fun k hk h=>by have:=mG.out k (by simp [h]);omega
 have G1:=HG.out.touch T1 hfp;have HB:=S1.RD G1 uN i c HP.out hc HE.out nS.out;rw [HA.out] at HB;have Vs:=Hd HB;have LP:=Hd G1;have qJ:=Hd N1;have HT1:=Hd T1;have Af:=Hd uN;clear S1 P1 N1 T1 uN hfp G1 HB c1
 go_wp2_with fail
 refine Vs.out.mono ?_
 rintro e w2 ⟨rfl,S2,T2⟩;have HS2:=Hd S2;have HT2:=Hd T2;have d0:=S2.pool;have Vt:=Hd (S2.po.jQ);clear S2 T2 c0
 go_wp2_with fail
 refine Vt.out.mono ?_
 rintro e w3 ⟨rfl,rfl⟩;have iW:=Hd (HS2.out.po.bu.mp.at_ (jW HP.out))
 go_wp2_with fail
 refine iW.out.mono ?_
 rintro e w3 ⟨rfl,T3⟩;have HT3:=Hd T3;have S3:=HS2.out.aj T3
 have hl2:(β1.born i c).μ.pages.length=(β1.born i c).σ.n*2^(β1.born i c).μ.order:=by
  obtain ⟨b1,b2,b3,_⟩:=uL β1 i c;rw [b1,b2,b3];exact nS.out
 have HB3:=Hd (fun W (T:Touch Nothing w3 W)=>(S3.aj T).pW hl2);have jS:=Hd S3;clear T3 S3 hl2;have LQ:(β1.born i c).σ.base=β1.σ.base:=(uL β1 i c).2.2.2;have hlt1:i<(β1.born i c).μ.pages.length:=(List.getElem?_eq_some_iff.1 (jW HP.out)).1;have hlen1:=HS2.out.po.bu.mp.ok.len;have htop:(β1.born i c).σ.base+4096*i+4096≤18446744073709551615:=HS2.out.po.bu.ok.dZ HS2.out.po.bu.sp.ok hlt1;have EG:β.fed.addr i=(β1.born i c).σ.base+4096*i:=by rw [←HA.out,LQ];rfl
 have LU:=Hd EG;have hi:i≤1023:=by omega
 obtain ⟨u1,u2,u3,u4,u5,u6⟩:=dK hc
 have LV:(β1.born i c).σ.word (β.fed.addr i)=β.fed.addr i+aB c:=by
  have:=pX (σ:=β1.σ) (at_:=β1.addr i) (wd:=aB c) (n:=4096/aB c) (by omega) (by rw [u3,HA.out,EG];omega) (4096/aB c) 0 (Nat.le_refl _) (by omega);rw [Nat.zero_mul,Nat.add_zero,HA.out] at this
  show (fK β1.σ (β1.addr i) (aB c) (4096/aB c) (4096/aB c)).word (β.fed.addr i)=_
  rw [HA.out,this];unfold mD;rw [if_neg (by omega)];omega
 have Vu:=Hd LV;have HU:=Hd (And.intro u3 u6);have kg:=Hd (HS2.out.po.bu.ok.has (i:=i) (off:=0) (n:=8) hlt1 (by omega) (by omega))
 have Vv:=Hd ((LP.out.touch HT2.out (fun k hk h=>by
  rcases List.mem_cons.1 h with e | h
  ·have:=Af.out s (by simp);omega
  ·have:=Af.out k (by simp [h]);omega)).aj HT3.out)
 clear LQ hlt1 hlen1 EG LV u3 u6;unfold Pg.val
 go_wp2_with fail
 refine (HB3.out _ ((Touch.refl Nothing w3).alloc _)).mono ?_
 rintro e w4 ⟨rfl,k4,rfl⟩;have T4:Touch Nothing w3 ((w3.alloc (.cells #[.int .i64 (aF c).kind,.int .i64 (aF c).order,.int .i64 (aF c).cls,.int .i64 (aF c).live,.int .i64 (aF c).next,.int .i64 (aF c).prev,.int .i64 (aF c).first,.int .u64 (aF c).b0,.int .u64 (aF c).b1,.int .u64 (aF c).b2,.int .u64 (aF c).b3] 128)).drewN k4):=((Touch.refl Nothing w3).alloc _).drewN k4;have B4:=(aC.new w3 #[.int .i64 (aF c).kind,.int .i64 (aF c).order,.int .i64 (aF c).cls,.int .i64 (aF c).live,.int .i64 (aF c).next,.int .i64 (aF c).prev,.int .i64 (aF c).first,.int .u64 (aF c).b0,.int .u64 (aF c).b1,.int .u64 (aF c).b2,.int .u64 (aF c).b3] 128).drewN k4;generalize (w3.alloc (.cells #[.int .i64 (aF c).kind,.int .i64 (aF c).order,.int .i64 (aF c).cls,.int .i64 (aF c).live,.int .i64 (aF c).next,.int .i64 (aF c).prev,.int .i64 (aF c).first,.int .u64 (aF c).b0,.int .u64 (aF c).b1,.int .u64 (aF c).b2,.int .u64 (aF c).b3] 128)).drewN k4=w4 at *;have b6:w4.cell? ⟨w3.heap.size,6,none⟩=some (.int .i64 0):=B4.cell 6;have cw:w4.cell? ⟨1,c,none⟩=some (.int .u64 (aB c:Nat)):=(Vv.out.aj T4).widths c hc;have eu:=Hd T4;have jX:=Hd B4;have jg:=Hd (fun k=>(((jS.out.aj T4).drewN k).po.gM));have hw0:¬(aB c:Int)=0:=by omega
 have pG:=Hd (fun k=>((jS.out.aj T4).drewN k).po.bu.sp.uy ((β1.born i c).σ.base+4096*i) kg.out);have hdd:(aB c:Int)/(aB c:Int)=1:=Int.ediv_self (by omega);have d0':w4.cell? ⟨s,0,none⟩=some (.pointer (some ⟨pb,0,none⟩)):=(jS.out.aj T4).pool;clear T4 B4 d0;generalize aB c=wd at *;generalize (β1.born i c).σ.base=B at *
 go_wp2_with fail
 go_quiet (fail)
 go_wp2_with fail
 refine (jg.out _).mono ?_
 rintro e w5 ⟨rfl,rfl⟩
 go_wp2_with fail
 have LW:(β1.born i c).σ.word (B+4096*i)=B+4096*i+wd:=by
  have:=Vu.out;rw [LU.out] at this;exact this
 have HW:=pG.out nq;rw [LW,show ((B+4096*i:Nat):Int)=(B:Int)+4096*(i:Int) by omega,show ((B+4096*i+wd:Nat):Int)=(B:Int)+4096*(i:Int)+(wd:Int) by omega] at HW;have Ag:=Hd HW;have LX:((B:Int)+4096*(i:Int)+(wd:Int) != 0)=true:=by rw [bne_iff_ne];omega
 clear HW LW;refine Ag.out.mono ?_
 rintro e w5 ⟨rfl,T5⟩;have pI:w3.heap.size<w4.heap.size:=jX.out.lt;have Ah:=((Touch.refl Nothing w4).drewN nq).trans T5;have f6:w5.cell? ⟨w3.heap.size,6,none⟩=some (.int .i64 0):=(Ah.cell (p:=⟨w3.heap.size,6,none⟩) pI (fun h=>h)).trans b6;have fw:w5.cell? ⟨1,c,none⟩=some (.int .u64 wd):=(Ah.cell (p:=⟨1,c,none⟩) (World.block_lt_of_cell? _ _ cw) (fun h=>h)).trans cw;have gG:=Hd (eu.out.trans Ah);have pJ:=Hd ((jS.out.aj gG.out).po.bu.mp.yZ (jW HP.out) rfl 0 true (by rw [show (aF c).cls=(c:Int) from rfl,←HU.out.2];omega) (by rw [Ae];rfl) (by show (0:Int)≤0+1∧(0:Int)+1≤256;decide))
 have hq1:((B:Int)+4096*(i:Int)+(wd:Int)-((B:Int)+4096*(i:Int)))/(wd:Int)=1:=by
  rw [show (B:Int)+4096*(i:Int)+(wd:Int)-((B:Int)+4096*(i:Int))=(wd:Int) by omega];exact hdd
 clear T5 Ah b6 cw d0' hdd
 go_wp2_with fail
 refine pJ.out.mono ?_
 rintro e w6 ⟨rfl,r6,t6⟩;have R6:=(jS.out.aj gG.out).po.bu.fq r6 t6 rfl (List.length_set ..);have S6:=(jS.out.aj gG.out).next R6.2 (ay.Next.refl _ _) R6.1;have rJ:((β1.born i c).μ.aA i ((aF c).own 0 true)).pages[i]? = some ((aF c).own 0 true):=Mp.bQ _ (jW HP.out);have qK:=Hd (S6.po.bu.mp.qH rJ rfl 1 (by omega) (by rw [show ((aF c).own 0 true).cls=(c:Int) from rfl,←HU.out.2];omega));have jY:=Hd R6.2;have qL:=Hd S6;clear r6 t6 R6 S6 rJ hq1 f6 fw LX
 go_wp2_with fail
 refine qK.out.mono ?_
 rintro e w7 ⟨rfl,r7,t7⟩;have R7:=qL.out.po.bu.fq r7 t7 rfl (List.length_set ..);have S7:=qL.out.next R7.2 (ay.Next.refl _ _) R7.1;have nT:=Hd R7.2;have tH:=Hd S7;clear r7 t7 R7 S7
 go_wp2_with fail
 go_ret3
 refine ⟨?_,K1,?_,qJ.out,?_⟩
 ·rw [LU.out]
  show Ending.returned _=_
  congr 3
 ·have e:(β1.eT i c).μ=((β1.born i c).μ.aA i ((aF c).own 0 true)).aA i { (aF c).own 0 true with first:=1 }:=by rw [Mp.iG];rfl
  have e2:β1.eT i c=⟨(β1.born i c).σ,((β1.born i c).μ.aA i ((aF c).own 0 true)).aA i { (aF c).own 0 true with first:=1 },(β1.born i c).heads⟩:=by rw [←e];rfl
  rw [e2];exact tH.out
 ·have T:=HT1.out.mono (T:=(·∈s::K.fp)) (fun b _ hb=>List.mem_cons_of_mem _ hb);have TT:=(((HT2.out.trans HT3.out.none_).trans gG.out.none_).trans (jY.out.mono (T:=(·∈s::K1.fp)) (fun b _ hb=>List.mem_cons_of_mem _ hb))).trans (nT.out.mono (T:=(·∈s::K1.fp)) (fun b _ hb=>List.mem_cons_of_mem _ hb));refine T.trans' TT (fun b hb hm=>?_);rcases List.mem_cons.1 hm with e | hm
  ·simp [e]
  ·rcases qJ.out.fresh b hm with h | h
   ·simp [h]
   ·omega
end Go.Proofs.YtnjcmcnjgdjbiaaGreatDoor
