/- The walks of package mem: each function of a space does what the plain functions on its numbers and bytes say. Conditions: as each theorem states. -/
import Derived.Test.YtnjcmcnjgdjbiaaGreatDoorKpPartAa
import Derived.Defers
import Derived.Recover
import Derived.Lib.EndianBits
import Derived.Deep.RegionHeld3
import Derived.Deep.AppendLies
import Derived.Deep.DrawnRows
import Derived.Lib.SplitLaws
set_option maxRecDepth 100000
set_option maxHeartbeats 4000000
namespace Go.Proofs.YtnjcmcnjgdjbiaaGreatDoor
open Go.RowKit
structure Sp where
 base:Nat
 limit:Nat
 order:Nat
 size:Nat
 n:Nat
 mem:Nat→Nat
structure bM where
 sb:Nat
 pv:Value
 eD:List Nat
def Sp.part (σ:Sp) (i:Nat):List Value:=(List.range σ.size).map fun o=>.int .u8 (σ.mem (σ.base+i*σ.size+o):Nat)
structure Sp.ok (σ:Sp):Prop where
 ow:0<σ.size
 oz:σ.size≤1048576
 lim:σ.n≤64
 base0:0<σ.base
 top:σ.base+64*σ.size≤18446744073709551615
 byte:∀ a,σ.mem a<256
structure aP (w:World) (L:bM) (σ:Sp):Prop where
 blk:aC w L.sb 190 [.int .u64 (σ.base:Nat),.int .i64 (σ.limit:Nat),.int .i64 (σ.order:Nat),.int .u64 (σ.size:Nat),L.pv]
 row:Row w 34 1 L.pv σ.n (L.eD.map fun b=>.slice (some ⟨b,0,none⟩) σ.size σ.size)
 reg:∀ i b,L.eD[i]? = some b→aC w b 5 (σ.part i)
 apart:(L.sb::L.eD).Nodup
 apart':∀ g,L.pv.ownBlock=some g→g∉L.sb::L.eD
 ok:σ.ok
theorem aP.len {w:World} {L:bM} {σ:Sp} (R:aP w L σ):L.eD.length=σ.n:=by
 have:=R.row.1;simpa using this
theorem aP.zJ {w:World} {L:bM} {σ:Sp} (R:aP w L σ):∃ pa cap,L.pv=.slice pa σ.n cap∧σ.n≤cap:=by
 rcases R.row.2 with ⟨h,h0⟩ | ⟨g,cap,cur,h,_,_,hc,_⟩
 ·exact ⟨none,0,by rw [h,h0],by omega⟩
 ·exact ⟨_,cap,h,hc⟩
theorem KZ (b base size n cap:Nat) (pa:Option Addr) (w:World)
  (h0:w.cell? ⟨b,0,none⟩=some (.int .u64 base))
  (h3:w.cell? ⟨b,3,none⟩=some (.int .u64 size))
  (h4:w.cell? ⟨b,4,none⟩=some (.slice pa n cap))
  (hb:base<18446744073709551616) (_hs:size<18446744073709551616) (hn:n<18446744073709551616)
  (hsn:size*n<18446744073709551616) (hbs:base+size*n<18446744073709551616) :
  Calls Tryz.prog 61 #[.pointer (some ⟨b,0,none⟩)] w fun e w'=>e=.returned (.int .u64 ((base:Int)+size*n))∧∃ k,w'=w.drewN k:=by
 go_enter Tryz.func61,Tryz.ntmps61
 go_wp2
 go_quiet (fail)
 go_wp2
 go_ret
 exact ⟨rfl,_,rfl⟩
theorem aP.end_ {w:World} {L:bM} {σ:Sp} (R:aP w L σ) :
  Calls Tryz.prog 61 #[.pointer (some ⟨L.sb,0,none⟩)] w fun e w'=>e=.returned (.int .u64 ((σ.base+σ.size*σ.n:Nat):Int))∧∃ k,w'=w.drewN k:=by
 obtain ⟨pa,cap,hp,hc⟩:=R.zJ;have o:=R.ok;have hm:σ.size*σ.n≤σ.size*64:=Nat.mul_le_mul_left _ o.lim;have ht:=o.top;have hl:=o.lim;have hz:=o.oz;have c4:=R.blk.cell 4;rw [hp] at c4;refine (KZ L.sb σ.base σ.size σ.n cap pa w (R.blk.cell 0) (R.blk.cell 3) c4 ?_ ?_ ?_ ?_ ?_).mono ?_
 ·omega
 ·omega
 ·omega
 ·omega
 ·omega
 ·rintro e w' ⟨rfl,h⟩;exact ⟨by simp,h⟩
theorem aP.drewN {w:World} {L:bM} {σ:Sp} (R:aP w L σ) (k:Nat):aP (w.drewN k) L σ:=⟨R.blk,R.row,R.reg,R.apart,R.apart',R.ok⟩
def bM.fp (L:bM):List Nat:=(L.sb::L.eD)++L.pv.ownBlock.toList
theorem aP.touch {w w':World} {L:bM} {σ:Sp} {S:Nat→Prop} (R:aP w L σ) (T:Touch S w w') (h:∀ k,k∈L.fp→¬S k):aP w' L σ :=
 ⟨R.blk.touch T (h _ (by simp [bM.fp])),R.row.touch T (fun g hg=>h g (by simp [bM.fp,hg])),
  fun i b hb=>(R.reg i b hb).touch T (h b (by have:=List.mem_of_getElem? hb;simp [bM.fp,this])),R.apart,R.apart',R.ok⟩
theorem aP.aj {w w':World} {L:bM} {σ:Sp} (R:aP w L σ) (T:Touch Nothing w w'):aP w' L σ:=R.touch T (fun _ _ h=>h)
theorem aP.lt {w:World} {L:bM} {σ:Sp} (R:aP w L σ):∀ k∈L.fp,k<w.heap.size:=by
 intro k hk;simp only [bM.fp,List.mem_append,List.mem_cons,Option.mem_toList] at hk;rcases hk with (rfl | hk) | hk
 ·exact R.blk.lt
 ·obtain ⟨i,hi⟩:=List.mem_iff_getElem?.1 hk;exact (R.reg i k hi).lt
 ·exact R.row.lt hk
theorem aP.uw {w:World} {L:bM} {σ:Sp} (R:aP w L σ) (p n:Nat) (h0:0<n) (h1:σ.base≤p) (h2:p+n≤σ.base+σ.size*σ.n) :
  Calls Tryz.prog 113 #[.pointer (some ⟨L.sb,0,none⟩),.int .u64 p,.int .u64 n] w fun e w'=>e=.returned (.tuple #[])∧∃ k,w'=w.drewN k:=by
 have o:=R.ok;have hm:σ.size*σ.n≤σ.size*64:=Nat.mul_le_mul_left _ o.lim;have ht:=o.top;have hE:=R.end_;have hR:=fun k=>(R.drewN k).end_
 have c0:=R.blk.cell 0;simp at c0;have ht':σ.base+σ.size*σ.n≤18446744073709551615:=by omega
 generalize σ.base+σ.size*σ.n=E at *;have HE:=Hd hE;have HR:=Hd hR;clear hE R hm ht o hR;have g1:((n:Int) != 0)=true:=by rw [bne_iff_ne];omega
 go_enter Tryz.func113,Tryz.ntmps113
 go_wp2_with fail
 refine HE.out.mono ?_
 rintro e w' ⟨rfl,k,rfl⟩
 go_wp2_with fail
 refine (HR.out k).mono ?_
 rintro e w' ⟨rfl,k',rfl⟩
 go_wp2
 go_end0
 exact ⟨rfl,k+k',by simp⟩
theorem u64_quo (a s:Nat) (ha:a<18446744073709551616):IntKind.u64.wrap ((a:Int).tdiv s)=((a/s:Nat):Int):=by
 have h2:a/s≤a:=Nat.div_le_self _ _;rw [←Int.ofNat_tdiv];generalize a/s=x at *;exact IntWalk.u64_in _ (by omega)
theorem K4 (b g pb base size p n cnt cap rb q r t:Nat) (w:World) (cur cs:List Value)
  (h0:w.cell? ⟨b,0,none⟩=some (.int .u64 base))
  (h3:w.cell? ⟨b,3,none⟩=some (.int .u64 size))
  (h4:w.cell? ⟨b,4,none⟩=some (.slice (some ⟨pb,0,none⟩) cnt cap))
  (h5:w.cell? ⟨pb,q,none⟩=some (.slice (some ⟨rb,0,none⟩) size size))
  (e1:IntKind.u64.wrap (((p:Int)-base).tdiv size)=q) (e2:((p:Int)-base).tmod size=r) (hr1:r≤size) (hr2:¬size=r)
  (hg:aC w g t cur) (hcur:cur.length=n) (hcs:cs.length=n) (hn0:0<n)
  (hsrc:∀ j v,cs[j]? = some v→w.cell? ⟨rb,r+j,none⟩=some v) (h1:∀ v∈cs,v.oneCell'=true)
  (hs0:¬size=0) (hs1:size≤1048576) (hbp:base≤p) (hd:q<cnt) (hfit:r+n≤size) (hb:p+n≤18446744073709551615)
  (_hcnt:cnt≤cap) (_hcap:cap≤9223372036854775807) :
  Calls Tryz.prog 114 #[.pointer (some ⟨b,0,none⟩),.int .u64 p,.slice (some ⟨g,0,none⟩) n n] w fun e w'=>e=.returned (.tuple #[])∧aC w' g t cs∧Touch (· = g) w w':=by
 have HC:=Hd hcur;have HS:=Hd hcs;have HR:=Hd hsrc;have HG:=Hd hg;have H1:=Hd h1;clear hcur hcs hsrc hg h1
 go_enter Tryz.func114,Tryz.ntmps114
 go_wp2_with fail
 refine wp_loop_rounds 2 ?_
 rw [rounds_succ]
 go_wp2_with fail
 refine wp_region_still_tail 20 (by kernel_rfl) (by kernel_rfl) ?_
 simp only [List.take_succ_cons,List.take_zero,List.drop_succ_cons,List.drop_zero,World.drew_eq]
 repeat still_step
 refine wpStill_nil ?_
 refine ny rfl (.tmp 18) (.tmp 37) 34 34 rfl 5 Tryz.underlying34 (by kernel_rfl) _ _ _ _ _ _ rfl rfl g 0 cur t HG.out cs ?c1 ?c2 ?c3 H1.out ?_
 case c1=>rw [HS.out];show n=min (size-r) n;omega
 case c2 =>
  intro _;refine ⟨rfl,_,rfl,fun j v hj=>?_⟩;have:=HR.out j v hj;by_cases h0:j=0
  ·subst h0;simpa [Addr.add] using this
  ·simpa [Addr.add,h0] using this
 case c3=>rw [HC.out,HS.out];omega
 intro w1 HB HT;rw [HS.out]
 go_wp2_with fail
 rw [rounds_succ]
 go_wp2
 go_end0
 have hB:=HB.out;rw [I9 _ _ (HC.out.trans HS.out.symm)] at hB;exact ⟨rfl,hB,((Touch.refl _ w).drew).trans HT⟩
theorem aP.xK {w:World} {L:bM} {σ:Sp} (R:aP w L σ) {q:Nat} (hq:q<σ.n) :
  ∃ pb cap rb,L.pv=.slice (some ⟨pb,0,none⟩) σ.n cap∧σ.n≤cap∧cap≤maxLen∧L.eD[q]? = some rb∧w.cell? ⟨pb,q,none⟩=some (.slice (some ⟨rb,0,none⟩) σ.size σ.size):=by
 have hl:=R.len;obtain ⟨rb,hrb⟩:∃ rb,L.eD[q]? = some rb:=⟨_,List.getElem?_eq_getElem (by omega)⟩;rcases R.row.2 with ⟨_,h0⟩ | ⟨pb,cap,cur,hv,_,hg,hc,hm,_⟩
 ·omega
 ·refine ⟨pb,cap,rb,hv,hc,hm,hrb,?_⟩;have hrow:=R.row;rw [hv] at hrow;rw [hrow.cell q (by omega),List.getElem?_map,hrb];rfl
def Sp.bytes (σ:Sp) (p n:Nat):List Value:=(List.range n).map fun o=>.int .u8 (σ.mem (p+o):Nat)
structure Sp.has (σ:Sp) (p n:Nat):Prop where
 pos:0<n
 lo:σ.base≤p
 reg:(p-σ.base)/σ.size<σ.n
 fit:(p-σ.base)%σ.size+n≤σ.size
theorem Sp.ok.split {σ:Sp} (_o:σ.ok) (p:Nat) (h:σ.base≤p):p=σ.base+(p-σ.base)/σ.size*σ.size+(p-σ.base)%σ.size:=by
 have:=Nat.div_add_mod (p-σ.base) σ.size;rw [Nat.mul_comm] at this;omega
theorem Sp.has.top {σ:Sp} {p n:Nat} (h:σ.has p n) (o:σ.ok):p+n≤σ.base+σ.size*σ.n:=by
 have h1:=o.split p h.lo;have h2:((p-σ.base)/σ.size+1)*σ.size≤σ.n*σ.size:=Nat.mul_le_mul_right _ h.reg;have h3:=h.fit;rw [Nat.add_mul] at h2;rw [Nat.mul_comm σ.size];omega
theorem Sp.ok.wo {σ:Sp} (o:σ.ok):σ.base+σ.size*σ.n≤18446744073709551615:=by
 have hm:σ.size*σ.n≤σ.size*64:=Nat.mul_le_mul_left _ o.lim;have ht:=o.top;omega
theorem aP.El {w:World} {L:bM} {σ:Sp} (R:aP w L σ) (p n g t:Nat) (cur:List Value) (H:σ.has p n) (hg:aC w g t cur) (hn:cur.length=n) :
  Calls Tryz.prog 114 #[.pointer (some ⟨L.sb,0,none⟩),.int .u64 p,.slice (some ⟨g,0,none⟩) n n] w fun e w'=>e=.returned (.tuple #[])∧aC w' g t (σ.bytes p n)∧Touch (· = g) w w':=by
 obtain ⟨pb,cap,rb,hv,hc,hm,hrb,hcell⟩:=R.xK H.reg;have o:=R.ok;have h4:=R.blk.cell 4;rw [hv] at h4;have ht:=H.top o;have hl:=o.wo;have hsz:=o.ow;have hlt:(p-σ.base)%σ.size<σ.size:=Nat.mod_lt _ hsz;have hb:=H.lo;have ecast:((p:Int)-σ.base)=((p-σ.base:Nat):Int):=by omega
 refine K4 L.sb g pb σ.base σ.size p n σ.n cap rb ((p-σ.base)/σ.size) ((p-σ.base)%σ.size) t w cur (σ.bytes p n)
  (R.blk.cell 0) (R.blk.cell 3) h4 hcell ?_ ?_ (by omega) (by omega) hg hn (by simp [Sp.bytes]) H.pos ?_ ?_ (by omega) o.oz hb H.reg H.fit (by omega) hc (by unfold maxLen at hm;omega)
 ·rw [ecast];exact u64_quo _ _ (by omega)
 ·rw [ecast];exact (Int.ofNat_tmod _ _).symm
 ·intro j v hj;have hB:=R.reg _ _ hrb
  have hjn:j<n:=by
   have:=(List.getElem?_eq_some_iff.1 hj).1;simpa [Sp.bytes] using this
  have hfit:=H.fit;rw [hB.cell];simp only [Sp.bytes,Sp.part,List.getElem?_map] at hj ⊢;rw [List.getElem?_range hjn] at hj;rw [List.getElem?_range (by omega)];simp only [Option.map_some,Option.some.injEq] at hj ⊢;rw [←hj];have h1:=o.split p hb;have:σ.base+(p-σ.base)/σ.size*σ.size+((p-σ.base)%σ.size+j)=p+j:=by omega
  rw [this]
 ·intro v hv;simp only [Sp.bytes,List.mem_map] at hv;obtain ⟨_,_,rfl⟩:=hv;rfl
def mP (bs:List Nat):List Value:=bs.map fun (x:Nat)=>Value.int .u8 x
def Sp.put (σ:Sp) (p:Nat) (bs:List Nat):Sp:={ σ with mem:=fun a=>if p≤a∧a<p+bs.length then bs.getD (a-p) 0 else σ.mem a }
theorem K5 (b pb base size p n cnt cap rb q r c:Nat) (ad:Addr) (w:World) (cur cs:List Value)
  (h0:w.cell? ⟨b,0,none⟩=some (.int .u64 base))
  (h3:w.cell? ⟨b,3,none⟩=some (.int .u64 size))
  (h4:w.cell? ⟨b,4,none⟩=some (.slice (some ⟨pb,0,none⟩) cnt cap))
  (h5:w.cell? ⟨pb,q,none⟩=some (.slice (some ⟨rb,0,none⟩) size size))
  (e1:IntKind.u64.wrap (((p:Int)-base).tdiv size)=q) (e2:((p:Int)-base).tmod size=r) (hr1:r≤size) (hr2:¬size=r)
  (hg:aC w rb 5 cur) (hcur:cur.length=size) (hcs:cs.length=n) (hn0:0<n) (_hnc:n≤c)
  (hsrc:∀ j v,cs[j]? = some v→w.cell? (ad.add j)=some v) (h1:∀ v∈cs,v.oneCell'=true)
  (hs0:¬size=0) (hs1:size≤1048576) (hbp:base≤p) (hd:q<cnt) (hfit:r+n≤size) (hb:p+n≤18446744073709551615) :
  Calls Tryz.prog 195 #[.pointer (some ⟨b,0,none⟩),.int .u64 p,.slice (some ad) n c] w fun e w'=>e=.returned (.tuple #[])∧aC w' rb 5 (splice cur r cs)∧Touch (· = rb) w w':=by
 have HC:=Hd hcur;have HS:=Hd hcs;have HR:=Hd hsrc;have HG:=Hd hg;have H1:=Hd h1;clear hcur hcs hsrc hg h1
 go_enter Tryz.func195,Tryz.ntmps195
 go_wp2_with fail
 refine wp_loop_rounds 2 ?_
 rw [rounds_succ]
 go_wp2_with fail
 refine wp_region_still_tail 20 (by kernel_rfl) (by kernel_rfl) ?_
 simp only [List.take_succ_cons,List.take_zero,List.drop_succ_cons,List.drop_zero,World.drew_eq]
 repeat still_step
 refine wpStill_nil ?_
 refine ny rfl (.tmp 36) (.tmp 37) 34 34 rfl 5 Tryz.underlying34 (by kernel_rfl) _ _ _ _ _ _ rfl rfl rb r cur 5 HG.out cs ?c1 ?c2 ?c3 H1.out ?_
 case c1=>rw [HS.out];show n=min n (size-r);omega
 case c2=>exact fun _=>⟨rfl,_,rfl,HR.out⟩
 case c3=>rw [HC.out,HS.out];omega
 intro w1 HB HT;rw [HS.out]
 go_wp2_with fail
 all_goals
  rw [rounds_succ]
  go_wp2
  go_end0
  exact ⟨rfl,HB.out,((Touch.refl _ w).drew).trans HT⟩
theorem Sp.ok.put {σ:Sp} (o:σ.ok) (p:Nat) (bs:List Nat) (hb:∀ x∈bs,x<256):(σ.put p bs).ok:=by
 refine ⟨o.ow,o.oz,o.lim,o.base0,o.top,fun a=>?_⟩;simp only [Sp.put];split
 ·rename_i h
  have hlt:a-p<bs.length:=by omega
  rw [List.getD_eq_getElem?_getD,List.getElem?_eq_getElem hlt];exact hb _ (List.getElem_mem hlt)
 ·exact o.byte a
theorem Sp.Od {σ:Sp} (o:σ.ok) {p:Nat} {bs:List Nat} (H:σ.has p bs.length) (i:Nat) :
  (σ.put p bs).part i=if i=(p-σ.base)/σ.size then splice (σ.part i) ((p-σ.base)%σ.size) (mP bs) else σ.part i:=by
 have h1:=o.split p H.lo;have hfit:=H.fit;have hs:=o.ow;split
 ·rename_i hi
  subst hi;generalize (p-σ.base)/σ.size=q at *;generalize (p-σ.base)%σ.size=r at *;apply List.ext_getElem?;intro j;simp only [splice,Sp.part,Sp.put,mP,List.length_map];by_cases hj:j<σ.size
  ·by_cases h2:j<r
   ·rw [List.getElem?_append_left (by simp;omega),List.getElem?_take_of_lt h2];simp only [List.getElem?_map,List.getElem?_range hj,Option.map_some];rw [if_neg (by omega)]
   ·rw [List.getElem?_append_right (by simp;omega)];have hl:(List.take r (List.map (fun o=>Value.int IntKind.u8 ↑(σ.mem (σ.base+q*σ.size+o))) (List.range σ.size))).length=r:=by simp;omega
    rw [hl];by_cases h3:j<r+bs.length
    ·rw [List.getElem?_append_left (by simp;omega)];simp only [List.getElem?_map,List.getElem?_range hj,Option.map_some];rw [if_pos (by omega)];have e:σ.base+q*σ.size+j-p=j-r:=by omega
     rw [e,List.getD_eq_getElem?_getD,List.getElem?_eq_getElem (by omega)];rfl
    ·rw [List.getElem?_append_right (by simp;omega)];simp only [List.length_map,List.getElem?_drop,List.getElem?_map];have e:r+bs.length+(j-r-bs.length)=j:=by omega
     rw [e,List.getElem?_range hj];simp only [Option.map_some];rw [if_neg (by omega)]
  ·rw [List.getElem?_eq_none (by simp;omega),List.getElem?_eq_none (by simp;omega)]
 ·rename_i hi
  simp only [Sp.part,Sp.put];apply List.map_congr_left;intro x hx;have hx':x<σ.size:=by simpa using hx
  rw [if_neg];intro hc;apply hi;have hd:(i*σ.size+x)/σ.size=i:=by rw [Nat.mul_comm,Nat.mul_add_div hs,Nat.div_eq_of_lt hx'];rfl
  generalize hq:(p-σ.base)/σ.size=q at *;generalize (p-σ.base)%σ.size=r at *;have hlt:i*σ.size+x-q*σ.size<σ.size:=by omega
  have e:i*σ.size+x=σ.size*q+(i*σ.size+x-q*σ.size):=by rw [Nat.mul_comm σ.size q];omega
  rw [e,Nat.mul_add_div hs,Nat.div_eq_of_lt hlt] at hd;omega
theorem aP.Cj {w w':World} {L:bM} {σ:Sp} (R:aP w L σ) {p rb:Nat} {bs:List Nat} (H:σ.has p bs.length) (hbs:∀ x∈bs,x<256)
  (hrb:L.eD[(p-σ.base)/σ.size]? = some rb) (hB:aC w' rb 5 (splice (σ.part ((p-σ.base)/σ.size)) ((p-σ.base)%σ.size) (mP bs))) (hT:Touch (· = rb) w w') :
  aP w' L (σ.put p bs)∧Touch (·∈L.eD) w w':=by
 have hmem:rb∈L.eD:=List.mem_of_getElem? hrb;have hnd:=R.apart;have hsb:L.sb≠rb:=fun e=>(List.nodup_cons.1 hnd).1 (e▸hmem)
 have Z9:=(List.nodup_cons.1 hnd).2;refine ⟨⟨R.blk.touch hT hsb,R.row.touch hT (fun g hg e=>R.apart' g hg (by rw [e];simp [hmem])),?_,R.apart,R.apart',R.ok.put p bs hbs⟩,hT.mono (fun k _ e=>e▸hmem)⟩;intro i b hb;rw [Sp.Od R.ok H];split
 ·rename_i hi
  subst hi;rw [hb] at hrb;cases hrb;exact hB
 ·rename_i hi
  refine (R.reg i b hb).touch hT (fun e=>hi ?_);have hi':=(List.getElem?_eq_some_iff.1 hb);have hq':=(List.getElem?_eq_some_iff.1 hrb);exact (List.getElem_inj Z9).1 (hi'.2.trans (e.trans hq'.2.symm))
theorem aP.Oe {w:World} {L:bM} {σ:Sp} (R:aP w L σ) (p n c:Nat) (bs:List Nat) (ad:Addr) (H:σ.has p n) (hn:bs.length=n) (hnc:n≤c) (hbs:∀ x∈bs,x<256)
  (hsrc:∀ j v,(mP bs)[j]? = some v→w.cell? (ad.add j)=some v) :
  Calls Tryz.prog 195 #[.pointer (some ⟨L.sb,0,none⟩),.int .u64 p,.slice (some ad) n c] w fun e w'=>e=.returned (.tuple #[])∧aP w' L (σ.put p bs)∧Touch (·∈L.eD) w w':=by
 obtain ⟨pb,cap,rb,hv,hc,hm,hrb,hcell⟩:=R.xK H.reg;have o:=R.ok;have h4:=R.blk.cell 4;rw [hv] at h4;have ht:=H.top o;have hl:=o.wo;have hsz:=o.ow;have hlt:(p-σ.base)%σ.size<σ.size:=Nat.mod_lt _ hsz;have hb:=H.lo;have ecast:((p:Int)-σ.base)=((p-σ.base:Nat):Int):=by omega
 refine (K5 L.sb pb σ.base σ.size p n σ.n cap rb ((p-σ.base)/σ.size) ((p-σ.base)%σ.size) c ad w (σ.part ((p-σ.base)/σ.size)) (mP bs)
  (R.blk.cell 0) (R.blk.cell 3) h4 hcell ?_ ?_ (by omega) (by omega) (R.reg _ _ hrb) (by simp [Sp.part]) (by simp [mP,hn]) H.pos hnc hsrc ?_ (by omega) o.oz hb H.reg H.fit (by omega)).mono ?_
 ·rw [ecast];exact u64_quo _ _ (by omega)
 ·rw [ecast];exact (Int.ofNat_tmod _ _).symm
 ·intro v hv;simp only [mP,List.mem_map] at hv;obtain ⟨_,_,rfl⟩:=hv;rfl
 ·rintro e w' ⟨he,hB,hT⟩;subst hn;exact ⟨he,R.Cj H hbs hrb hB hT⟩
theorem lD (a:Addr) (w:World):Calls Tryz.prog 112 #[.nilIface,.pointer (some a)] w fun e w'=>e=.returned (.tuple #[])∧w'=w:=by
 go_enter Tryz.func112,Tryz.ntmps112
 go_wp2
 refine bodyPost_ret (results_none rfl _ _ _) rfl ?_
 exact ⟨rfl,rfl⟩
theorem SI (p:Addr) (w:World) :
  CallsD Tryz.prog 198 #[.pointer (some p)] .returning w fun e u' w'=>e=.returned (.tuple #[])∧u'=.returning∧w'=w:=by
 refine callsD_of_wpS Tryz.func198 rfl fun c₀ cs hu=>?_
 apply wpS_region;simp [wpOpsS,go_sem,recoverD,hu,Tryz.ntmps198];refine (lD p w).mono ?_
 rintro e w' ⟨rfl,rfl⟩;cases c₀
 simp_all [bodyPostS,results,Tryz.results198]
theorem SK (p:Addr) (w:World) :
  CallsD Tryz.prog 199 #[.pointer (some p)] .returning w fun e u' w'=>e=.returned (.tuple #[])∧u'=.returning∧w'=w:=by
 refine callsD_of_wpS Tryz.func199 rfl fun c₀ cs hu=>?_
 apply wpS_region;simp [wpOpsS,go_sem,recoverD,hu,Tryz.ntmps199];refine (lD p w).mono ?_
 rintro e w' ⟨rfl,rfl⟩;cases c₀
 simp_all [bodyPostS,results,Tryz.results199]
theorem SL (p:Addr) (w:World) :
  CallsD Tryz.prog 183 #[.pointer (some p)] .returning w fun e u' w'=>e=.returned (.tuple #[])∧u'=.returning∧w'=w:=by
 refine callsD_of_wpS Tryz.func183 rfl fun c₀ cs hu=>?_
 apply wpS_region;simp [wpOpsS,go_sem,recoverD,hu,Tryz.ntmps183];refine (lD p w).mono ?_
 rintro e w' ⟨rfl,rfl⟩;cases c₀
 simp_all [bodyPostS,results,Tryz.results183]
theorem SN (p:Addr) (w:World) :
  CallsD Tryz.prog 194 #[.pointer (some p)] .returning w fun e u' w'=>e=.returned (.tuple #[])∧u'=.returning∧w'=w:=by
 refine callsD_of_wpS Tryz.func194 rfl fun c₀ cs hu=>?_
 apply wpS_region;simp [wpOpsS,go_sem,recoverD,hu,Tryz.ntmps194];refine (lD p w).mono ?_
 rintro e w' ⟨rfl,rfl⟩;cases c₀
 simp_all [bodyPostS,results,Tryz.results194]
theorem SQ (p:Addr) (w:World) :
  CallsD Tryz.prog 111 #[.pointer (some p)] .returning w fun e u' w'=>e=.returned (.tuple #[])∧u'=.returning∧w'=w:=by
 refine callsD_of_wpS Tryz.func111 rfl fun c₀ cs hu=>?_
 apply wpS_region;simp [wpOpsS,go_sem,recoverD,hu,Tryz.ntmps111];refine (lD p w).mono ?_
 rintro e w' ⟨rfl,rfl⟩;cases c₀
 simp_all [bodyPostS,results,Tryz.results111]
theorem SS (p:Addr) (w:World) :
  CallsD Tryz.prog 200 #[.pointer (some p)] .returning w fun e u' w'=>e=.returned (.tuple #[])∧u'=.returning∧w'=w:=by
 refine callsD_of_wpS Tryz.func200 rfl fun c₀ cs hu=>?_
 apply wpS_region;simp [wpOpsS,go_sem,recoverD,hu,Tryz.ntmps200];refine (lD p w).mono ?_
 rintro e w' ⟨rfl,rfl⟩;cases c₀
 simp_all [bodyPostS,results,Tryz.results200]
def leBytes (m:Nat→Nat) (p:Nat):Nat→Nat
 | 0=>0
 | n+1=>leBytes m p n+m (p+n)*256^n
theorem or_zero (x:Nat) (h:x<256):bits .or .u64 0 (x:Int)=x:=by
 have:=u64_or_nat 0 x (by omega) (by omega);simpa using this
theorem XA (m0 m1 m2 m3 m4 m5 m6 m7:Nat) (h0:m0<256) (h1:m1<256) (h2:m2<256) (h3:m3<256) (h4:m4<256) (h5:m5<256) (h6:m6<256) (h7:m7<256) :
  bits .or .u64 (bits .or .u64 (bits .or .u64 (bits .or .u64 (bits .or .u64 (bits .or .u64 (bits .or .u64 (bits .or .u64 0 (m0:Int)) ((m1:Int)*256)) ((m2:Int)*65536)) ((m3:Int)*16777216))
   ((m4:Int)*4294967296)) ((m5:Int)*1099511627776)) ((m6:Int)*281474976710656)) ((m7:Int)*72057594037927936) =
  ((m0+m1*256+m2*65536+m3*16777216+m4*4294967296+m5*1099511627776+m6*281474976710656+m7*72057594037927936:Nat):Int):=by
 have s1:bits .or .u64 (m0:Int) ((m1:Int)*256)=m0+m1*256:=u64_or8 _ _ (by omega) (by omega) (by omega) (by omega) (by omega);have s2:bits .or .u64 ((m0:Int)+m1*256) ((m2:Int)*65536)=m0+m1*256+m2*65536:=u64_or16 _ _ (by omega) (by omega) (by omega) (by omega) (by omega);have s3:bits .or .u64 ((m0:Int)+m1*256+m2*65536) ((m3:Int)*16777216)=m0+m1*256+m2*65536+m3*16777216:=u64_or24 _ _ (by omega) (by omega) (by omega) (by omega) (by omega);have s4:bits .or .u64 ((m0:Int)+m1*256+m2*65536+m3*16777216) ((m4:Int)*4294967296)=m0+m1*256+m2*65536+m3*16777216+m4*4294967296:=u64_or32 _ _ (by omega) (by omega) (by omega) (by omega) (by omega);have s5:bits .or .u64 ((m0:Int)+m1*256+m2*65536+m3*16777216+m4*4294967296) ((m5:Int)*1099511627776)=m0+m1*256+m2*65536+m3*16777216+m4*4294967296+m5*1099511627776:=u64_or40 _ _ (by omega) (by omega) (by omega) (by omega) (by omega);have s6:bits .or .u64 ((m0:Int)+m1*256+m2*65536+m3*16777216+m4*4294967296+m5*1099511627776) ((m6:Int)*281474976710656)=m0+m1*256+m2*65536+m3*16777216+m4*4294967296+m5*1099511627776+m6*281474976710656:=u64_or48 _ _ (by omega) (by omega) (by omega) (by omega) (by omega);have s7:bits .or .u64 ((m0:Int)+m1*256+m2*65536+m3*16777216+m4*4294967296+m5*1099511627776+m6*281474976710656) ((m7:Int)*72057594037927936)=m0+m1*256+m2*65536+m3*16777216+m4*4294967296+m5*1099511627776+m6*281474976710656+m7*72057594037927936:=u64_or56 _ _ (by omega) (by omega) (by omega) (by omega) (by omega);rw [or_zero m0 h0,s1,s2,s3,s4,s5,s6,s7];omega
def Sp.word (σ:Sp) (p:Nat):Nat:=leBytes σ.mem p 8
def bL (v:Nat):List Nat:=[v%256,v/256%256,v/65536%256,v/16777216%256,v/4294967296%256,v/1099511627776%256,v/281474976710656%256,v/72057594037927936%256]
theorem aP.uy {w:World} {L:bM} {σ:Sp} (R:aP w L σ) (p:Nat) (H:σ.has p 8) :
  Calls Tryz.prog 142 #[.pointer (some ⟨L.sb,0,none⟩),.int .u64 p] w fun e w'=>e=.returned (.tuple #[.int .u64 (σ.word p:Nat),.int .i64 0])∧Touch Nothing w w':=by
 have zK:∀ (fn:Fn) (first cap:Array Value) (w:World),(Instr.makeFunc fn first cap).run Tryz.prog w=.ok (.func fn first cap) w:=fun _ _ _ _=>rfl
 have T0:Touch Nothing w (w.alloc (.cells #[.int .i64 0] 24)):=(Touch.refl _ _).alloc _;have HL:=Hd ((R.aj T0).uw p 8 (by omega) H.lo (H.top R.ok));have HR:=Hd R;have HH:=Hd H;clear R H
 go_enter_defers Tryz.func142,Tryz.ntmps142
 go_wp2_with fail
 refine HL.out.mono ?_
 rintro e w1 ⟨rfl,k,rfl⟩
 go_wp2_with fail
 have T1:Touch Nothing w (((w.alloc (.cells #[.int .i64 0] 24)).drewN k).alloc (.cells #[.int .u8 0,.int .u8 0,.int .u8 0,.int .u8 0,.int .u8 0,.int .u8 0,.int .u8 0,.int .u8 0] 286)):=(T0.drewN k).alloc _
 have hB:aC (((w.alloc (.cells #[.int .i64 0] 24)).drewN k).alloc (.cells #[.int .u8 0,.int .u8 0,.int .u8 0,.int .u8 0,.int .u8 0,.int .u8 0,.int .u8 0,.int .u8 0] 286)) (w.heap.size+1) 286 [.int .u8 0,.int .u8 0,.int .u8 0,.int .u8 0,.int .u8 0,.int .u8 0,.int .u8 0,.int .u8 0]:=by
  have:=aC.new ((w.alloc (.cells #[.int .i64 0] 24)).drewN k) #[.int .u8 0,.int .u8 0,.int .u8 0,.int .u8 0,.int .u8 0,.int .u8 0,.int .u8 0,.int .u8 0] 286;simpa using this
 refine ((HR.out.aj T1).El p 8 (w.heap.size+1) 286 _ HH.out hB rfl).mono ?_
 rintro e w2 ⟨rfl,hB2,T2⟩
 have hE:aC w2 w.heap.size 24 [.int .i64 0]:=by
  refine aC.touch (w:=((w.alloc (.cells #[.int .i64 0] 24)).drewN k).alloc (.cells #[.int .u8 0,.int .u8 0,.int .u8 0,.int .u8 0,.int .u8 0,.int .u8 0,.int .u8 0,.int .u8 0] 286)) ?_ T2 (by omega);exact ((aC.new w #[.int .i64 0] 24).drewN k).alloc _
 have T3:Touch Nothing w w2:=T1.trans' T2 (fun i hi e=>by omega);have e0:=hE.cell 0;have f0:=hE.free 0;have c0:=hB2.cell 0;have c1:=hB2.cell 1;have c2:=hB2.cell 2;have c3:=hB2.cell 3;have c4:=hB2.cell 4;have c5:=hB2.cell 5;have c6:=hB2.cell 6;have c7:=hB2.cell 7;have zL:=HR.out.ok.byte;simp [Sp.bytes,List.range_succ] at c0 c1 c2 c3 c4 c5 c6 c7 e0;have HT:=Hd T3;clear T0 T1 T2 T3 hB hB2 hE HL HH;have b0:=zL p;have b1:=zL (p+1);have b2:=zL (p+2);have b3:=zL (p+3);have b4:=zL (p+4);have b5:=zL (p+5);have b6:=zL (p+6);have b7:=zL (p+7);clear zL
 go_wp2_with fail
 go_rounds 9
 rw [XA _ _ _ _ _ _ _ _ b0 b1 b2 b3 b4 b5 b6 b7];refine leaves_cons (f:=198) (args:=#[.pointer (some ⟨w.heap.size,0,none⟩)]) (by simp) (by simp [go_sem]) ?_
 refine (SI ⟨w.heap.size,0,none⟩ _).mono ?_
 rintro e u' w'' ⟨rfl,rfl,rfl⟩
 have hres:σ.word p=σ.mem p+σ.mem (p+1)*256+σ.mem (p+2)*65536+σ.mem (p+3)*16777216+σ.mem (p+4)*4294967296+σ.mem (p+5)*1099511627776+σ.mem (p+6)*281474976710656+σ.mem (p+7)*72057594037927936:=by
  simp [Sp.word,leBytes]
 rw [←hres];have hT:Touch Nothing w (w2.setCell ⟨w.heap.size,0,none⟩ (.int .i64 0)):=HT.out.setCell (fun h=>absurd h (by simp)) _;simp [Leaves,settle,results,Tryz.results142,go_sem,e0];exact hT
theorem aP.qF {w:World} {L:bM} {σ:Sp} (R:aP w L σ) (p v:Nat) (H:σ.has p 8) (hv:v<18446744073709551616) :
  Calls Tryz.prog 143 #[.pointer (some ⟨L.sb,0,none⟩),.int .u64 p,.int .u64 v] w fun e w'=>e=.returned (.int .i64 0)∧aP w' L (σ.put p (bL v))∧Touch (·∈L.eD) w w':=by
 have zK:∀ (fn:Fn) (first cap:Array Value) (w:World),(Instr.makeFunc fn first cap).run Tryz.prog w=.ok (.func fn first cap) w:=fun _ _ _ _=>rfl
 have T0:Touch Nothing w (w.alloc (.cells #[.int .i64 0] 24)):=(Touch.refl _ _).alloc _;have HL:=Hd ((R.aj T0).uw p 8 (by omega) H.lo (H.top R.ok));have HR:=Hd R;have HH:=Hd H;clear R H
 go_enter_defers Tryz.func143,Tryz.ntmps143
 go_wp2_with fail
 refine HL.out.mono ?_
 rintro e w1 ⟨rfl,k,rfl⟩
 go_wp2_with fail
 refine wp_loop_rounds 9 ?_
 repeat any_goals (rw [rounds_succ];go_wp2_with fail)
 have hB:=((aC.new ((w.alloc (.cells #[.int .i64 0] 24)).drewN k) #[.int .u8 ((v:Int)%256),.int .u8 ((v:Int)/256%256),.int .u8 ((v:Int)/65536%256),.int .u8 ((v:Int)/16777216%256),.int .u8 ((v:Int)/4294967296%256),.int .u8 ((v:Int)/1099511627776%256),.int .u8 ((v:Int)/281474976710656%256),.int .u8 ((v:Int)/72057594037927936)] 286));have T1:Touch Nothing w (((w.alloc (.cells #[.int .i64 0] 24)).drewN k).alloc (.cells #[.int .u8 ((v:Int)%256),.int .u8 ((v:Int)/256%256),.int .u8 ((v:Int)/65536%256),.int .u8 ((v:Int)/16777216%256),.int .u8 ((v:Int)/4294967296%256),.int .u8 ((v:Int)/1099511627776%256),.int .u8 ((v:Int)/281474976710656%256),.int .u8 ((v:Int)/72057594037927936)] 286)):=(T0.drewN k).alloc _;have hE:=((aC.new w #[.int .i64 0] 24).drewN k).alloc (.cells #[.int .u8 ((v:Int)%256),.int .u8 ((v:Int)/256%256),.int .u8 ((v:Int)/65536%256),.int .u8 ((v:Int)/16777216%256),.int .u8 ((v:Int)/4294967296%256),.int .u8 ((v:Int)/1099511627776%256),.int .u8 ((v:Int)/281474976710656%256),.int .u8 ((v:Int)/72057594037927936)] 286)
 have el:[Value.int .u8 ((v:Int)%256),.int .u8 ((v:Int)/256%256),.int .u8 ((v:Int)/65536%256),.int .u8 ((v:Int)/16777216%256),.int .u8 ((v:Int)/4294967296%256),.int .u8 ((v:Int)/1099511627776%256),.int .u8 ((v:Int)/281474976710656%256),.int .u8 ((v:Int)/72057594037927936)]=mP (bL v):=by
  have h7:((v/72057594037927936%256:Nat):Int)=(v:Int)/72057594037927936:=by omega
  simp only [mP,bL,List.map_cons,List.map_nil,h7];simp
 generalize ((w.alloc (.cells #[.int .i64 0] 24)).drewN k).alloc (.cells #[.int .u8 ((v:Int)%256),.int .u8 ((v:Int)/256%256),.int .u8 ((v:Int)/65536%256),.int .u8 ((v:Int)/16777216%256),.int .u8 ((v:Int)/4294967296%256),.int .u8 ((v:Int)/1099511627776%256),.int .u8 ((v:Int)/281474976710656%256),.int .u8 ((v:Int)/72057594037927936)] 286)=w1 at *
 replace hB:aC w1 (w.heap.size+1) 286 (mP (bL v)):=by
  rw [←el];simpa using hB
 have hbs:∀ x∈bL v,x<256:=by
  intro x hx;simp only [bL,List.mem_cons,List.not_mem_nil,or_false] at hx;omega
 refine ((HR.out.aj T1).Oe p 8 8 (bL v) ⟨w.heap.size+1,0,none⟩ HH.out rfl (Nat.le_refl _) hbs ?_).mono ?_
 ·intro j u hj;have:(⟨w.heap.size+1,0,none⟩:Addr).add j=⟨w.heap.size+1,j,none⟩:=by unfold Addr.add;split <;> simp_all
  rw [this,hB.cell];exact hj
 rintro e w2 ⟨rfl,R2,T2⟩;have hlt:=HR.out.lt;have hE2:aC w2 w.heap.size 24 [.int .i64 0]:=aC.touch hE T2 (fun hm=>by have:=hlt _ (by simp [bM.fp,hm]:w.heap.size∈L.fp);omega);have e0:=hE2.cell 0;have f0:=hE2.free 0;simp at e0;have HT:=Hd (show Touch (·∈L.eD) w w2 from T1.none_.trans' T2 (fun _ _ h=>h));have HR2:=Hd R2;clear R2 T1 T2 hB hE hE2 el
 go_wp2_with fail
 refine leaves_cons (f:=199) (args:=#[.pointer (some ⟨w.heap.size,0,none⟩)]) (by simp) (by simp [go_sem]) ?_
 refine (SK ⟨w.heap.size,0,none⟩ _).mono ?_
 rintro e u' w'' ⟨rfl,rfl,rfl⟩;have hS:Touch (· = w.heap.size) w2 (w2.setCell ⟨w.heap.size,0,none⟩ (.int .i64 0)):=Touch.cellAt _ _ _ _;have hT:Touch (·∈L.eD) w (w2.setCell ⟨w.heap.size,0,none⟩ (.int .i64 0)):=HT.out.trans' hS (fun i hi h=>by omega);have hR:aP (w2.setCell ⟨w.heap.size,0,none⟩ (.int .i64 0)) L (σ.put p (bL v)):=HR2.out.touch hS (fun k hk h=>by have:=hlt k hk;omega);simp [Leaves,settle,results,Tryz.results143,go_sem,e0];exact ⟨hR,hT⟩
theorem info5:(Tryz.prog.info? 5).map (fun i=>(i.zero,i.size,i.bytes))=some (some (.int .u8 0),1,1):=by kernel_rfl
def jv (n:Nat):Obj:=.cells (madeCells (Value.int .u8 0).cells (n*1)) 5
theorem yC (w:World) (n:Nat):∃ cs,cs.length=n∧aC (w.alloc (jv n)) w.heap.size 5 cs:=by
 refine ⟨_,?_,aC.new w _ 5⟩;simp [size_madeCells]
theorem Em (n:Nat) (h:n≤281474976710656) (w:World) :
  (Instr.makeSlice 34 (.int .u64 (n:Int)) (.int .u64 (n:Int))).run Tryz.prog w=.ok (.slice (some ⟨w.heap.size,0,none⟩) n n) (w.alloc (jv n)) :=
 vL 34 5 (.int .u8 0) 1 1 Tryz.underlying34 info5 .u64 .u64 n (by omega) (by omega) w
theorem Sp.has.le {σ:Sp} {p n:Nat} (h:σ.has p n) (o:σ.ok):n≤1048576:=by
 have:=h.fit;have:=o.oz;omega
def Got (w:World) (n:Nat) (cs:List Value) (e:Ending) (w':World):Prop :=
 ∃ g,e=.returned (.tuple #[.slice (some ⟨g,0,none⟩) n n,.int .i64 0])∧w.heap.size≤g∧aC w' g 5 cs∧Touch Nothing w w'
theorem aP.XB {w:World} {L:bM} {σ:Sp} (R:aP w L σ) (p n:Nat) (H:σ.has p n) :
  Calls Tryz.prog 67 #[.pointer (some ⟨L.sb,0,none⟩),.int .u64 p,.int .u64 n] w (Got w n (σ.bytes p n)):=by
 have zK:∀ (fn:Fn) (first cap:Array Value) (w:World),(Instr.makeFunc fn first cap).run Tryz.prog w=.ok (.func fn first cap) w:=fun _ _ _ _=>rfl
 have T0:Touch Nothing w (w.alloc (.cells #[.int .i64 0] 24)):=(Touch.refl _ _).alloc _;have HL:=Hd ((R.aj T0).uw p n H.pos H.lo (H.top R.ok));have hmk:=fun W=>Em n (by have:=H.le R.ok;omega) W
 have HR:=Hd R;have HH:=Hd H;clear R H
 go_enter_defers Tryz.func67,Tryz.ntmps67
 go_wp2_with fail
 refine HL.out.mono ?_
 rintro e w1 ⟨rfl,k,rfl⟩
 go_wp2_with fail
 have T1:Touch Nothing w (((w.alloc (.cells #[.int .i64 0] 24)).drewN k).alloc (jv n)):=(T0.drewN k).alloc _;have hE:=((aC.new w #[.int .i64 0] 24).drewN k).alloc (jv n);obtain ⟨cs,hcs,hB⟩:=yC ((w.alloc (.cells #[.int .i64 0] 24)).drewN k) n;generalize ((w.alloc (.cells #[.int .i64 0] 24)).drewN k).alloc (jv n)=w1 at *
 replace hB:aC w1 (w.heap.size+1) 5 cs:=by simpa using hB
 refine ((HR.out.aj T1).El p n (w.heap.size+1) 5 cs HH.out hB hcs).mono ?_
 rintro e w2 ⟨rfl,hB2,T2⟩;have hE2:aC w2 w.heap.size 24 [.int .i64 0]:=hE.touch T2 (by omega);have e0:=hE2.cell 0;have f0:=hE2.free 0;simp at e0;have hS:Touch (· = w.heap.size) w2 (w2.setCell ⟨w.heap.size,0,none⟩ (.int .i64 0)):=Touch.cellAt _ _ _ _;have HT:=Hd (show Touch Nothing w (w2.setCell ⟨w.heap.size,0,none⟩ (.int .i64 0)) from (T1.trans' T2 (fun i hi e=>by omega)).trans' hS (fun i hi e=>by omega));have HB:=Hd (hB2.touch hS (by omega));clear T0 T1 T2 hB hB2 hE hE2 hS hcs
 go_wp2_with fail
 refine leaves_cons (f:=111) (args:=#[.pointer (some ⟨w.heap.size,0,none⟩)]) (by simp) (by simp [go_sem]) ?_
 refine (SQ ⟨w.heap.size,0,none⟩ _).mono ?_
 rintro e u' w'' ⟨rfl,rfl,rfl⟩;simp [Leaves,settle,results,Tryz.results67,go_sem,e0];exact ⟨w.heap.size+1,rfl,by omega,HB.out,HT.out⟩
theorem aP.UU {w:World} {L:bM} {σ:Sp} (R:aP w L σ) (p n c:Nat) (bs:List Nat) (ad:Addr) (H:σ.has p n) (hn:bs.length=n) (hnc:n≤c) (hbs:∀ x∈bs,x<256)
  (had:ad.block<w.heap.size) (hsrc:∀ j v,(mP bs)[j]? = some v→w.cell? (ad.add j)=some v) :
  Calls Tryz.prog 144 #[.pointer (some ⟨L.sb,0,none⟩),.int .u64 p,.slice (some ad) n c] w fun e w'=>e=.returned (.int .i64 0)∧aP w' L (σ.put p bs)∧Touch (·∈L.eD) w w':=by
 have zK:∀ (fn:Fn) (first cap:Array Value) (w:World),(Instr.makeFunc fn first cap).run Tryz.prog w=.ok (.func fn first cap) w:=fun _ _ _ _=>rfl
 have T0:Touch Nothing w (w.alloc (.cells #[.int .i64 0] 24)):=(Touch.refl _ _).alloc _;have HL:=Hd ((R.aj T0).uw p n H.pos H.lo (H.top R.ok));have hle:=H.le R.ok;have HR:=Hd R;have HH:=Hd H;have HN:=Hd hn;have HS:=Hd hsrc;clear R H hn hsrc
 go_enter_defers Tryz.func144,Tryz.ntmps144
 go_wp2_with fail
 refine HL.out.mono ?_
 rintro e w1 ⟨rfl,k,rfl⟩
 go_wp2_with fail
 have T1:Touch Nothing w ((w.alloc (.cells #[.int .i64 0] 24)).drewN k):=T0.drewN k;have hE:=((aC.new w #[.int .i64 0] 24).drewN k);generalize ((w.alloc (.cells #[.int .i64 0] 24)).drewN k)=w1 at *;refine ((HR.out.aj T1).Oe p n c bs ad HH.out HN.out hnc hbs ?_).mono ?_
 ·intro j v hj;rw [T1.cell (by unfold Addr.add;split <;> exact had) (fun h=>h)];exact HS.out j v hj
 rintro e w2 ⟨rfl,R2,T2⟩;have hlt:=HR.out.lt;have hE2:aC w2 w.heap.size 24 [.int .i64 0]:=aC.touch hE T2 (fun hm=>by have:=hlt _ (by simp [bM.fp,hm]:w.heap.size∈L.fp);omega);have e0:=hE2.cell 0;have f0:=hE2.free 0;simp at e0;have hS:Touch (· = w.heap.size) w2 (w2.setCell ⟨w.heap.size,0,none⟩ (.int .i64 0)):=Touch.cellAt _ _ _ _;have HT:=Hd (show Touch (·∈L.eD) w (w2.setCell ⟨w.heap.size,0,none⟩ (.int .i64 0)) from (T1.none_.trans' T2 (fun _ _ h=>h)).trans' hS (fun i hi h=>by omega));have HR2:=Hd (show aP (w2.setCell ⟨w.heap.size,0,none⟩ (.int .i64 0)) L (σ.put p bs) from R2.touch hS (fun k hk h=>by have:=hlt k hk;omega));clear R2 T0 T1 T2 hE hE2 hS
 go_wp2_with fail
 refine leaves_cons (f:=200) (args:=#[.pointer (some ⟨w.heap.size,0,none⟩)]) (by simp) (by simp [go_sem]) ?_
 refine (SS ⟨w.heap.size,0,none⟩ _).mono ?_
 rintro e u' w'' ⟨rfl,rfl,rfl⟩;simp [Leaves,settle,results,Tryz.results144,go_sem,e0];exact ⟨HR2.out,HT.out⟩
def Sp.nums (σ:Sp) (p n:Nat):List Nat:=(List.range n).map fun o=>σ.mem (p+o)
theorem Sp.Je (σ:Sp) (p n:Nat):σ.bytes p n=mP (σ.nums p n):=by simp [Sp.bytes,mP,Sp.nums]
theorem aP.copy_ {w:World} {L:bM} {σ:Sp} (R:aP w L σ) (bP from_ n:Nat) (H:σ.has bP n) (H':σ.has from_ n) :
  Calls Tryz.prog 140 #[.pointer (some ⟨L.sb,0,none⟩),.int .u64 bP,.int .u64 from_,.int .u64 n] w fun e w'=>e=.returned (.int .i64 0)∧aP w' L (σ.put bP (σ.nums from_ n))∧Touch (·∈L.eD) w w':=by
 have zK:∀ (fn:Fn) (first cap:Array Value) (w:World),(Instr.makeFunc fn first cap).run Tryz.prog w=.ok (.func fn first cap) w:=fun _ _ _ _=>rfl
 have T0:Touch Nothing w (w.alloc (.cells #[.int .i64 0] 24)):=(Touch.refl _ _).alloc _;have HL:=Hd ((R.aj T0).uw bP n H.pos H.lo (H.top R.ok));have HL2:=Hd (fun k=>((R.aj (T0.drewN k)).uw from_ n H'.pos H'.lo (H'.top R.ok)));have hmk:=fun W=>Em n (by have:=H.le R.ok;omega) W
 have HR:=Hd R;have HH:=Hd H;have HH':=Hd H';clear R H H'
 go_enter_defers Tryz.func140,Tryz.ntmps140
 go_wp2_with fail
 refine HL.out.mono ?_
 rintro e w1 ⟨rfl,k,rfl⟩
 go_wp2_with fail
 refine (HL2.out k).mono ?_
 rintro e w1 ⟨rfl,k',rfl⟩
 go_wp2_with fail
 have T1:Touch Nothing w (((w.alloc (.cells #[.int .i64 0] 24)).drewN (k+k')).alloc (jv n)):=(T0.drewN _).alloc _;have hE:=((aC.new w #[.int .i64 0] 24).drewN (k+k')).alloc (jv n);obtain ⟨cs,hcs,hB⟩:=yC ((w.alloc (.cells #[.int .i64 0] 24)).drewN (k+k')) n;generalize ((w.alloc (.cells #[.int .i64 0] 24)).drewN (k+k')).alloc (jv n)=w1 at *
 replace hB:aC w1 (w.heap.size+1) 5 cs:=by simpa using hB
 refine ((HR.out.aj T1).El from_ n (w.heap.size+1) 5 cs HH'.out hB hcs).mono ?_
 rintro e w2 ⟨rfl,hB2,T2⟩;have hE2:aC w2 w.heap.size 24 [.int .i64 0]:=hE.touch T2 (by omega);have T3:Touch Nothing w w2:=T1.trans' T2 (fun i hi e=>by omega);clear T0 T1 T2 hB hE hcs;have HT3:=Hd T3;have HE2:=Hd hE2;have HB2:=Hd hB2;clear T3 hE2 hB2
 go_wp2_with fail
 have R2:=HR.out.aj HT3.out;have hB2:=HB2.out;rw [σ.Je] at hB2;have hlt:=HR.out.lt;refine (R2.Oe bP n n (σ.nums from_ n) ⟨w.heap.size+1,0,none⟩ HH.out (by simp [Sp.nums]) (Nat.le_refl _) ?_ ?_).mono ?_
 ·intro x hx;simp only [Sp.nums,List.mem_map] at hx;obtain ⟨_,_,rfl⟩:=hx;exact HR.out.ok.byte _
 ·intro j u hj;have:(⟨w.heap.size+1,0,none⟩:Addr).add j=⟨w.heap.size+1,j,none⟩:=by unfold Addr.add;split <;> simp_all
  rw [this,hB2.cell];exact hj
 rintro e w3 ⟨rfl,R3,T4⟩;have UW:aC w3 w.heap.size 24 [.int .i64 0]:=HE2.out.touch T4 (fun hm=>by have:=hlt _ (by simp [bM.fp,hm]:w.heap.size∈L.fp);omega);have e0:=UW.cell 0;have f0:=UW.free 0;simp at e0;have hS:Touch (· = w.heap.size) w3 (w3.setCell ⟨w.heap.size,0,none⟩ (.int .i64 0)):=Touch.cellAt _ _ _ _;have HT:=Hd (show Touch (·∈L.eD) w (w3.setCell ⟨w.heap.size,0,none⟩ (.int .i64 0)) from (HT3.out.none_.trans' T4 (fun _ _ h=>h)).trans' hS (fun i hi h=>by omega));have HR3:=Hd (show aP (w3.setCell ⟨w.heap.size,0,none⟩ (.int .i64 0)) L (σ.put bP (σ.nums from_ n)) from R3.touch hS (fun k hk h=>by have:=hlt k hk;omega));clear R2 R3 T4 UW hS hB2
 go_wp2_with fail
 refine leaves_cons (f:=194) (args:=#[.pointer (some ⟨w.heap.size,0,none⟩)]) (by simp) (by simp [go_sem]) ?_
 refine (SN ⟨w.heap.size,0,none⟩ _).mono ?_
 rintro e u' w'' ⟨rfl,rfl,rfl⟩;simp [Leaves,settle,results,Tryz.results140,go_sem,e0];exact ⟨HR3.out,HT.out⟩
theorem En (b pb base size p cnt cap rb q r:Nat) (w:World)
  (h0:w.cell? ⟨b,0,none⟩=some (.int .u64 base))
  (h3:w.cell? ⟨b,3,none⟩=some (.int .u64 size))
  (h4:w.cell? ⟨b,4,none⟩=some (.slice (some ⟨pb,0,none⟩) cnt cap))
  (h5:w.cell? ⟨pb,q,none⟩=some (.slice (some ⟨rb,0,none⟩) size size))
  (e1:((p:Int)-base)/size=q) (e2:((p:Int)-base)%size=r) (hr:r<size)
  (hs0:1≤size) (hs1:size≤1048576) (hbp:base≤p) (hd:q<cnt) (hb:p≤18446744073709551615) :
  Calls Tryz.prog 184 #[.pointer (some ⟨b,0,none⟩),.int .u64 p] w fun e w'=>e=.returned (.pointer (some ⟨rb,r,none⟩))∧∃ k,w'=w.drewN k:=by
 go_enter Tryz.func184,Tryz.ntmps184
 go_wp2
 go_quiet (fail)
 go_wp2
 go_ret
 exact ⟨rfl,_,rfl⟩
theorem aP.drewN' {w:World} {L:bM} {σ:Sp} (R:aP w L σ) (k:Nat):aP (w.drewN k) L σ:=⟨R.blk,R.row,R.reg,R.apart,R.apart',R.ok⟩
theorem aP.SV {w:World} {L:bM} {σ:Sp} (R:aP w L σ) (p:Nat) (H:σ.has p 1) :
  ∃ rb,L.eD[(p-σ.base)/σ.size]? = some rb ∧
   Calls Tryz.prog 184 #[.pointer (some ⟨L.sb,0,none⟩),.int .u64 p] w fun e w'=>e=.returned (.pointer (some ⟨rb,(p-σ.base)%σ.size,none⟩))∧∃ k,w'=w.drewN k:=by
 obtain ⟨pb,cap,rb,hv,hc,hm,hrb,hcell⟩:=R.xK H.reg;have o:=R.ok;have h4:=R.blk.cell 4;rw [hv] at h4;have ht:=H.top o;have hl:=o.wo;have hsz:=o.ow;have hlt:(p-σ.base)%σ.size<σ.size:=Nat.mod_lt _ hsz;have hb:=H.lo;have ecast:((p:Int)-σ.base)=((p-σ.base:Nat):Int):=by omega
 refine ⟨rb,hrb,En L.sb pb σ.base σ.size p σ.n cap rb ((p-σ.base)/σ.size) ((p-σ.base)%σ.size) w (R.blk.cell 0) (R.blk.cell 3) h4 hcell ?_ ?_ hlt hsz o.oz hb H.reg (by omega)⟩
 ·rw [ecast];simp
 ·rw [ecast];simp
theorem aP.UY {w:World} {L:bM} {σ:Sp} (R:aP w L σ) {p rb v:Nat} (H:σ.has p 1) (hv:v<256) (hrb:L.eD[(p-σ.base)/σ.size]? = some rb) :
  aP (w.setCell ⟨rb,(p-σ.base)%σ.size,none⟩ (.int .u8 v)) L (σ.put p [v])∧Touch (·∈L.eD) w (w.setCell ⟨rb,(p-σ.base)%σ.size,none⟩ (.int .u8 v)):=by
 have hlt:(p-σ.base)%σ.size<σ.size:=Nat.mod_lt _ R.ok.ow;refine R.Cj (bs:=[v]) H (by simpa using hv) hrb ?_ (Touch.cellAt _ _ _ _);have hB:=(R.reg _ _ hrb).set ((p-σ.base)%σ.size) (.int .u8 v)
 have e:(σ.part ((p-σ.base)/σ.size)).set ((p-σ.base)%σ.size) (Value.int .u8 v)=splice (σ.part ((p-σ.base)/σ.size)) ((p-σ.base)%σ.size) (mP [v]):=by
  rw [List.set_eq_take_append_cons_drop,if_pos (by simpa [Sp.part] using hlt)];simp [splice,mP]
 rw [e] at hB;exact hB
theorem Sp.Og (σ:Sp) (i:Nat) {r:Nat} (h:r<σ.size):∃ u,(σ.part i)[r]? = some u:=⟨_,List.getElem?_eq_getElem (by simpa [Sp.part] using h)⟩
theorem Sp.SX (σ:Sp) (p k v:Nat):(σ.put p (List.replicate k v)).put (p+k) [v]=σ.put p (List.replicate (k+1) v):=by
 simp only [Sp.put,List.length_replicate,List.length_cons,List.length_nil,Nat.zero_add]
 congr 1
 funext a
 by_cases h1:p+k≤a∧a<p+k+1
 ·have:a-p<k+1:=by omega
  rw [if_pos h1,if_pos (by omega),List.getD_eq_getElem?_getD,List.getD_eq_getElem?_getD,List.getElem?_replicate,if_pos this];have e:a-(p+k)=0:=by omega
  simp [e]
 ·rw [if_neg h1];by_cases h2:p≤a∧a<p+k
  ·rw [if_pos h2,if_pos (by omega),List.getD_eq_getElem?_getD,List.getD_eq_getElem?_getD,List.getElem?_replicate,List.getElem?_replicate,if_pos (by omega),if_pos (by omega)]
  ·rw [if_neg h2,if_neg (by omega)]
theorem Sp.SY (σ:Sp) (p:Nat):σ.put p []=σ:=by
 simp only [Sp.put,List.length_nil,Nat.add_zero];have:∀ a,¬(p≤a∧a<p):=fun a h=>by omega
 simp [this]
theorem Sp.Br {σ:Sp} {p n q:Nat} {bs:List Nat}:(σ.put q bs).has p n↔σ.has p n:=⟨fun h=>⟨h.pos,h.lo,h.reg,h.fit⟩,fun h=>⟨h.pos,h.lo,h.reg,h.fit⟩⟩
theorem Sp.has.sub {σ:Sp} (o:σ.ok) {p n k m:Nat} (h:σ.has p n) (hm:0<m) (hk:k+m≤n):σ.has (p+k) m:=by
 have h1:=h.lo;have h2:=h.fit;have hs:=o.ow;have e:=o.split p h1
 have e1:p+k-σ.base=σ.size*((p-σ.base)/σ.size)+((p-σ.base)%σ.size+k):=by
  rw [Nat.mul_comm σ.size];omega
 have hd:(p+k-σ.base)/σ.size=(p-σ.base)/σ.size:=by
  have hx:(p-σ.base)%σ.size+k<σ.size:=by omega
  rw [e1,Nat.mul_add_div hs,Nat.div_eq_of_lt hx];rfl
 have hr:(p+k-σ.base)%σ.size=(p-σ.base)%σ.size+k:=by
  rw [e1,Nat.mul_add_mod,Nat.mod_eq_of_lt (by omega)]
 exact ⟨hm,by omega,by rw [hd];exact h.reg,by rw [hr];omega⟩
structure S9 (w:World) (L:bM) (σ:Sp) (p v k:Nat) (wr:World):Prop where
 rep:aP wr L (σ.put p (List.replicate k v))
 err:aC wr w.heap.size 24 [.int .i64 0]
 touch:Touch (·∈L.eD) w wr
theorem aP.XC {w:World} {L:bM} {σ:Sp} (R:aP w L σ) (p n v:Nat) (H:σ.has p n) (hv:v<256) :
  Calls Tryz.prog 134 #[.pointer (some ⟨L.sb,0,none⟩),.int .u64 p,.int .u64 n,.int .u8 v] w fun e w'=>e=.returned (.int .i64 0)∧aP w' L (σ.put p (List.replicate n v))∧Touch (·∈L.eD) w w':=by
 have zK:∀ (fn:Fn) (first cap:Array Value) (w:World),(Instr.makeFunc fn first cap).run Tryz.prog w=.ok (.func fn first cap) w:=fun _ _ _ _=>rfl
 have T0:Touch Nothing w (w.alloc (.cells #[.int .i64 0] 24)):=(Touch.refl _ _).alloc _;have HL:=Hd ((R.aj T0).uw p n H.pos H.lo (H.top R.ok));have hle:=H.le R.ok;have htop:p+n≤18446744073709551615:=by have:=H.top R.ok;have:=R.ok.wo;omega
 have hlt:=Hd R.lt;have HR:=Hd R;have HH:=Hd H;clear R H
 go_enter_defers Tryz.func134,Tryz.ntmps134
 go_wp2_with fail
 refine HL.out.mono ?_
 rintro e w1 ⟨rfl,k,rfl⟩
 go_wp2_with fail
 have hE:=Hd ((aC.new w #[.int .i64 0] 24).drewN k);have T1:=Hd (T0.drewN k);clear T0;generalize ((w.alloc (.cells #[.int .i64 0] 24)).drewN k)=w1 at *
 go_loopw [1,2] (fun a b wr=>∃ k:Nat,k≤n∧a=.int .u64 ((p:Int)+k)∧b=.int .u64 ((n:Int)-k)∧S9 w L σ p v k wr) (fun _ b _=>(intOf b).toNat)
 case atStart =>
  refine ⟨0,Nat.zero_le _,by simp,by simp,?_,hE.out,T1.out.none_⟩;rw [List.replicate_zero,Sp.SY];exact HR.out.aj T1.out
 case round =>
  obtain ⟨k,hk,rfl,rfl,hF⟩:=hrel;have HF:=Hd hF;clear hF;by_cases hlt':k<n
  ·have Hk:(σ.put p (List.replicate k v)).has (p+k) 1:=Sp.Br.2 (HH.out.sub HR.out.ok (by omega) (by omega));obtain ⟨rb,hrb,hc⟩:=HF.out.rep.SV (p+k) Hk;have hst:=fun j=>(HF.out.rep.drewN' j).UY Hk hv hrb
   have hmem:rb∈L.eD:=List.mem_of_getElem? hrb;have hblk:=HF.out.rep.reg _ _ hrb;rw [show ((p+k:Nat):Int)=(p:Int)+k from by omega] at hc;have hr':(p+k-(σ.put p (List.replicate k v)).base)%(σ.put p (List.replicate k v)).size<(σ.put p (List.replicate k v)).size:=Nat.mod_lt _ HR.out.ok.ow;obtain ⟨u,hu⟩:=Sp.Og (σ.put p (List.replicate k v)) ((p+k-(σ.put p (List.replicate k v)).base)/(σ.put p (List.replicate k v)).size) hr';generalize (p+k-(σ.put p (List.replicate k v)).base)%(σ.put p (List.replicate k v)).size=r at *;have c0:=hblk.cell r;rw [hu] at c0;have f0:=hblk.free r;have HC:=Hd hc;have HST:=Hd hst;clear hc hst hblk hr' hrb Hk hu
   go_wp2_with fail
   refine HC.out.mono ?_
   rintro e w2 ⟨rfl,j,rfl⟩
   go_wp2_with fail
   go_roundw
   case rel =>
    refine ⟨k+1,hlt',by go_num,by go_num,?_⟩;obtain ⟨s1,s2⟩:=HST.out j;rw [Sp.SX] at s1;have hne:¬(w.heap.size∈L.eD):=fun hm=>by have:=hlt.out _ (by simp [bM.fp,hm]:w.heap.size∈L.fp);omega
    exact ⟨s1,(HF.out.err.drewN j).touch s2 hne,(HF.out.touch.drewN j).trans s2⟩
   case measure=>simp [intOf];omega
  ·obtain rfl:k=n:=by omega
   have e0:=HF.out.err.cell 0;have f0:=HF.out.err.free 0;simp at e0;have hS:Touch (· = w.heap.size) wr (wr.setCell ⟨w.heap.size,0,none⟩ (.int .i64 0)):=Touch.cellAt _ _ _ _;have HT:=Hd (show Touch (·∈L.eD) w (wr.setCell ⟨w.heap.size,0,none⟩ (.int .i64 0)) from HF.out.touch.trans' hS (fun i hi h=>by omega));have HR3:=Hd (show aP (wr.setCell ⟨w.heap.size,0,none⟩ (.int .i64 0)) L (σ.put p (List.replicate k v)) from HF.out.rep.touch hS (fun i hi h=>by have:=hlt.out i hi;omega));clear hS
   go_wp2_with fail
   refine leaves_cons (f:=183) (args:=#[.pointer (some ⟨w.heap.size,0,none⟩)]) (by simp) (by simp [go_sem]) ?_
   refine (SL ⟨w.heap.size,0,none⟩ _).mono ?_
   rintro e u' w'' ⟨rfl,rfl,rfl⟩;simp [Leaves,settle,results,Tryz.results134,go_sem,e0];exact ⟨HR3.out,HT.out⟩
def eF (base:Nat) (limit order:Int):Bool :=
 decide (0≤order∧order≤8∧1≤limit∧limit≤64∧limit*2^order.toNat≤1024∧base≠0∧base%(4096*2^order.toNat)=0∧base≤9223372036854775808∧4096*2^order.toNat*limit≤9223372036854775808-(base:Int))
def dS (base:Nat) (limit order:Int):Value:=.agg #[.int .u64 base,.int .i64 limit,.int .i64 order]
theorem jP {a b:Bool} (h:a=b):Ending.returned (.bool a)=.returned (.bool b):=by rw [h]
theorem Ta (base:Nat) (limit order:Int) (w:World) (h:order<0∨8<order∨limit<1∨64<limit) :
  Calls Tryz.prog 129 #[dS base limit order] w fun e w'=>e=.returned (.bool (eF base limit order))∧Touch Nothing w w':=by
 have hm:eF base limit order=false:=by
  unfold eF;rw [decide_eq_false_iff_not];omega
 rw [hm];have HT:=Hd (show Touch Nothing w (w.alloc (.cells #[.int .u64 base,.int .i64 limit,.int .i64 order] 51)) from (Touch.refl _ _).alloc _);unfold dS;by_cases h1:order<0
 ·go_enter Tryz.func129,Tryz.ntmps129
  go_wp2
  go_ret
  exact ⟨rfl,HT.out⟩
 by_cases h2:8<order
 ·go_enter Tryz.func129,Tryz.ntmps129
  go_wp2
  go_ret
  exact ⟨rfl,HT.out⟩
 by_cases h3:limit<1
 ·go_enter Tryz.func129,Tryz.ntmps129
  go_wp2
  go_ret
  exact ⟨rfl,HT.out⟩
 have h4:64<limit:=by omega
 go_enter Tryz.func129,Tryz.ntmps129
 go_wp2
 go_ret
 exact ⟨rfl,HT.out⟩
theorem kH (base:Nat) (limit:Int) (o:Nat) (h1:1≤limit) (h2:limit≤64) (h3:o≤8) (b:Bool)
  (h:b=true↔(limit*2^o≤1024∧base≠0∧base%(4096*2^o)=0∧base≤9223372036854775808∧4096*2^o*limit≤9223372036854775808-(base:Int))):b=eF base limit o:=by
 rw [Bool.eq_iff_iff,h];unfold eF;rw [decide_eq_true_iff,Int.toNat_natCast];constructor
 ·exact fun h=>⟨by omega,by omega,h1,h2,h⟩
 ·exact fun h=>h.2.2.2.2
theorem Td (base:Nat) (limit:Int) (w:World) (hb:base<18446744073709551616) (h1:1≤limit) (h2:limit≤64) :
  Calls Tryz.prog 129 #[dS base limit 0] w fun e w'=>e=.returned (.bool (eF base limit 0))∧Touch Nothing w w':=by
 unfold dS
 go_enter Tryz.func129,Tryz.ntmps129
 go_wp2
 all_goals
  go_ret
  refine ⟨jP (kH base limit 0 h1 h2 (by omega) _ ?_),(Touch.refl _ _).alloc _⟩;simp;omega
theorem Te (base:Nat) (limit:Int) (w:World) (hb:base<18446744073709551616) (h1:1≤limit) (h2:limit≤64) :
  Calls Tryz.prog 129 #[dS base limit 1] w fun e w'=>e=.returned (.bool (eF base limit 1))∧Touch Nothing w w':=by
 unfold dS
 go_enter Tryz.func129,Tryz.ntmps129
 go_wp2
 all_goals
  go_ret
  refine ⟨jP (kH base limit 1 h1 h2 (by omega) _ ?_),(Touch.refl _ _).alloc _⟩;simp;omega
theorem Tf (base:Nat) (limit:Int) (w:World) (hb:base<18446744073709551616) (h1:1≤limit) (h2:limit≤64) :
  Calls Tryz.prog 129 #[dS base limit 2] w fun e w'=>e=.returned (.bool (eF base limit 2))∧Touch Nothing w w':=by
 unfold dS
 go_enter Tryz.func129,Tryz.ntmps129
 go_wp2
 all_goals
  go_ret
  refine ⟨jP (kH base limit 2 h1 h2 (by omega) _ ?_),(Touch.refl _ _).alloc _⟩;simp;omega
theorem Tg (base:Nat) (limit:Int) (w:World) (hb:base<18446744073709551616) (h1:1≤limit) (h2:limit≤64) :
  Calls Tryz.prog 129 #[dS base limit 3] w fun e w'=>e=.returned (.bool (eF base limit 3))∧Touch Nothing w w':=by
 unfold dS
 go_enter Tryz.func129,Tryz.ntmps129
 go_wp2
 all_goals
  go_ret
  refine ⟨jP (kH base limit 3 h1 h2 (by omega) _ ?_),(Touch.refl _ _).alloc _⟩;simp;omega
theorem Ti (base:Nat) (limit:Int) (w:World) (hb:base<18446744073709551616) (h1:1≤limit) (h2:limit≤64) :
  Calls Tryz.prog 129 #[dS base limit 4] w fun e w'=>e=.returned (.bool (eF base limit 4))∧Touch Nothing w w':=by
 unfold dS
 go_enter Tryz.func129,Tryz.ntmps129
 go_wp2
 all_goals
  go_ret
  refine ⟨jP (kH base limit 4 h1 h2 (by omega) _ ?_),(Touch.refl _ _).alloc _⟩;simp;omega
theorem Tj (base:Nat) (limit:Int) (w:World) (hb:base<18446744073709551616) (h1:1≤limit) (h2:limit≤64) :
  Calls Tryz.prog 129 #[dS base limit 5] w fun e w'=>e=.returned (.bool (eF base limit 5))∧Touch Nothing w w':=by
 unfold dS
 go_enter Tryz.func129,Tryz.ntmps129
 go_wp2
 all_goals
  go_ret
  refine ⟨jP (kH base limit 5 h1 h2 (by omega) _ ?_),(Touch.refl _ _).alloc _⟩;simp;omega
theorem Tk (base:Nat) (limit:Int) (w:World) (hb:base<18446744073709551616) (h1:1≤limit) (h2:limit≤64) :
  Calls Tryz.prog 129 #[dS base limit 6] w fun e w'=>e=.returned (.bool (eF base limit 6))∧Touch Nothing w w':=by
 unfold dS
 go_enter Tryz.func129,Tryz.ntmps129
 go_wp2
 all_goals
  go_ret
  refine ⟨jP (kH base limit 6 h1 h2 (by omega) _ ?_),(Touch.refl _ _).alloc _⟩;simp;omega
theorem Tm (base:Nat) (limit:Int) (w:World) (hb:base<18446744073709551616) (h1:1≤limit) (h2:limit≤64) :
  Calls Tryz.prog 129 #[dS base limit 7] w fun e w'=>e=.returned (.bool (eF base limit 7))∧Touch Nothing w w':=by
 unfold dS
 go_enter Tryz.func129,Tryz.ntmps129
 go_wp2
 all_goals
  go_ret
  refine ⟨jP (kH base limit 7 h1 h2 (by omega) _ ?_),(Touch.refl _ _).alloc _⟩;simp;omega
theorem Tn (base:Nat) (limit:Int) (w:World) (hb:base<18446744073709551616) (h1:1≤limit) (h2:limit≤64) :
  Calls Tryz.prog 129 #[dS base limit 8] w fun e w'=>e=.returned (.bool (eF base limit 8))∧Touch Nothing w w':=by
 unfold dS
 go_enter Tryz.func129,Tryz.ntmps129
 go_wp2
 all_goals
  go_ret
  refine ⟨jP (kH base limit 8 h1 h2 (by omega) _ ?_),(Touch.refl _ _).alloc _⟩;simp;omega
theorem Tp (base:Nat) (limit order:Int) (w:World) (hb:base<18446744073709551616) :
  Calls Tryz.prog 129 #[dS base limit order] w fun e w'=>e=.returned (.bool (eF base limit order))∧Touch Nothing w w':=by
 by_cases h:order<0∨8<order∨limit<1∨64<limit
 ·exact Ta base limit order w h
 ·have h1:1≤limit:=by omega
  have h2:limit≤64:=by omega
  have h3:order=0∨order=1∨order=2∨order=3∨order=4∨order=5∨order=6∨order=7∨order=8:=by omega
  rcases h3 with rfl | rfl | rfl | rfl | rfl | rfl | rfl | rfl | rfl
  ·exact Td base limit w hb h1 h2
  ·exact Te base limit w hb h1 h2
  ·exact Tf base limit w hb h1 h2
  ·exact Tg base limit w hb h1 h2
  ·exact Ti base limit w hb h1 h2
  ·exact Tj base limit w hb h1 h2
  ·exact Tk base limit w hb h1 h2
  ·exact Tm base limit w hb h1 h2
  ·exact Tn base limit w hb h1 h2
attribute [local go_sem ↓] Go.wp_at_zero Go.wp_at_succ
theorem aP.Eo {w:World} {L:bM} {σ:Sp} (R:aP w L σ) :
  Calls Tryz.prog 284 #[.pointer (some ⟨L.sb,0,none⟩)] w fun e w'=>e=.returned (.int .i64 (σ.n:Nat))∧w=w':=by
 obtain ⟨pa,cap,hp,hc⟩:=R.zJ;have c4:=R.blk.cell 4;simp [hp] at c4;clear R hc
 go_enter Tryz.func284,Tryz.ntmps284
 go_wp2
 go_ret
 exact ⟨rfl,rfl⟩
theorem Bt {o:Nat} (h:o≤8):1≤2^o∧2^o≤256:=⟨Nat.pos_of_ne_zero (by simp),Nat.pow_le_pow_right (n:=2) (by omega) h⟩
theorem oK {o:Nat} (h:o≤8):IntKind.u64.wrap (4096*2^o)=((4096*2^o:Nat):Int):=by
 have:=Bt h;have e:(4096*2^o:Int)=((4096*2^o:Nat):Int):=by simp
 rw [e];exact IntWalk.u64_in _ (by omega)
def Sp.fresh (base limit order:Nat):Sp:={ base:=base,limit:=limit,order:=order,size:=4096*2^order,n:=0,mem:=fun _=>0 }
theorem Oh {base order:Nat} {limit:Nat} (hb:base<18446744073709551616) (h:eF base limit order=true):(Sp.fresh base limit order).ok:=by
 unfold eF at h;rw [decide_eq_true_iff] at h;have:=Bt (show order≤8 by omega);refine ⟨?_,?_,?_,?_,?_,fun _=>by simp [Sp.fresh]⟩ <;> simp only [Sp.fresh] <;> omega
def UZ (w:World) (base limit order:Nat) (e:Ending) (w':World):Prop :=
 ∃ b,e=.returned (.tuple #[.pointer (some ⟨b,0,none⟩),.int .i64 0])∧w.heap.size≤b∧aP w' ⟨b,.slice none 0 0,[]⟩ (Sp.fresh base limit order)∧Touch Nothing w w'
theorem Tq (base limit order:Nat) (w:World) (hb:base<18446744073709551616) (h:eF base limit order=true) :
  Calls Tryz.prog 84 #[dS base limit order] w (UZ w base limit order):=by
 have hok:=Hd (Oh hb h);have hm:=Hd (fun w=>Tp base limit order w hb);rw [h] at hm;have T0:=Hd (show Touch Nothing w (w.alloc (.cells #[.int .u64 base,.int .i64 limit,.int .i64 order] 51)) from (Touch.refl _ _).alloc _);have B0:=Hd (aC.new w #[.int .u64 base,.int .i64 limit,.int .i64 order] 51);have ho:order≤8:=by simp [eF] at h;omega
 unfold dS at *
 go_enter Tryz.func84,Tryz.ntmps84
 go_wp2_with fail
 refine (hm.out _).mono ?_
 rintro e w1 ⟨rfl,T1⟩;have B1:=B0.out.touch T1 (fun h=>h);have c0:=B1.cell 0;have c1:=B1.cell 1;have c2:=B1.cell 2;simp at c0 c1 c2;have f2:=B1.free 2;have hlt:=B1.lt;have T2:=Hd (T0.out.trans T1);clear B1 T1
 go_wp2_with fail
 have hw:=oK ho;obtain ⟨sz,hsz⟩:∃ sz,sz=4096*2^order:=⟨_,rfl⟩;rw [←hsz] at hw;refine wp_region_still_tail 5 (by kernel_rfl) (by kernel_rfl) ?_
 simp only [List.take_succ_cons,List.take_zero,List.drop_succ_cons,List.drop_zero,World.drew_eq]
 repeat still_step
 refine wpStill_nil ?_
 have HZ:=Hd hsz;clear hw hsz;generalize hw1:w1.drew=w2
 go_wp2_with fail
 go_ret2
 have T3:Touch Nothing w w2:=hw1▸T2.out.drew
 refine ⟨w2.heap.size,rfl,T3.size,?_,T3.alloc _⟩;refine ⟨?_,World.ownsRow_nil _ _ _ _,fun i b hb=>by simp at hb,by simp,fun g hg=>by simp [Value.ownBlock] at hg,hok.out⟩;have:=aC.new w2 #[.int .u64 base,.int .i64 limit,.int .i64 order,.int .u64 (4096*2^order),.slice none 0 0] 190;simpa [Sp.fresh] using this
theorem aP.K6 {w:World} {L:bM} {σ:Sp} (R:aP w L σ) (deny:Bool) (h:deny=true∨σ.n=σ.limit) :
  Calls Tryz.prog 248 #[.pointer (some ⟨L.sb,0,none⟩),.bool deny] w fun e w'=>e=.returned (.tuple #[.int .u64 0,.int .i64 2])∧∃ k,w'=w.drewN k:=by
 obtain ⟨pa,cap,hp,hc⟩:=R.zJ;have c1:=R.blk.cell 1;have c4:=R.blk.cell 4;simp [hp] at c1 c4;have hl:=R.ok.lim;clear R hc;cases deny with
 | true =>
  go_enter Tryz.func248,Tryz.ntmps248
  go_wp2
  go_quiet (fail)
  go_wp2
  go_ret2
  exact ⟨rfl,_,rfl⟩
 | false =>
  have h':σ.n=σ.limit:=by simpa using h
  rw [←h'] at c1;clear h h'
  go_enter Tryz.func248,Tryz.ntmps248
  go_wp2
  go_quiet (fail)
  go_wp2
  go_ret2
  exact ⟨rfl,_,rfl⟩
def Sp.grow (σ:Sp):Sp:={ σ with n:=σ.n+1,mem:=fun a=>if σ.base+σ.n*σ.size≤a∧a<σ.base+(σ.n+1)*σ.size then 0 else σ.mem a }
def Oi (w:World) (L:bM) (σ:Sp) (e:Ending) (w':World):Prop :=
 ∃ pv g,e=.returned (.tuple #[.int .u64 (σ.base+σ.size*σ.n:Nat),.int .i64 0])∧w.heap.size≤g∧(∀ b,pv.ownBlock=some b→L.pv.ownBlock=some b∨w.heap.size≤b) ∧
  aP w' ⟨L.sb,pv,L.eD++[g]⟩ σ.grow∧Touch (fun k=>k=L.sb∨some k=L.pv.ownBlock) w w'
theorem Sp.DJ {σ:Sp} (_o:σ.ok) {i:Nat} (hi:i<σ.n):σ.grow.part i=σ.part i:=by
 simp only [Sp.part,Sp.grow];apply List.map_congr_left;intro x hx;have hx':x<σ.size:=by simpa using hx
 have:(i+1)*σ.size≤σ.n*σ.size:=Nat.mul_le_mul_right _ hi;rw [Nat.add_mul] at this;rw [if_neg (by omega)]
theorem Sp.DK (σ:Sp):σ.grow.part σ.n=List.replicate σ.size (.int .u8 0):=by
 simp only [Sp.part,Sp.grow];rw [List.eq_replicate_iff];refine ⟨by simp,?_⟩;intro v hv;simp only [List.mem_map,List.mem_range] at hv;obtain ⟨x,hx,rfl⟩:=hv;have:(σ.n+1)*σ.size=σ.n*σ.size+σ.size:=by rw [Nat.add_mul];omega
 rw [if_pos (by omega)];rfl
theorem DN (w:World) (n:Nat):aC (w.alloc (jv n)) w.heap.size 5 (List.replicate n (.int .u8 0)):=by
 have:=aC.new w (madeCells (Value.int .u8 0).cells (n*1)) 5
 have e:(madeCells (Value.int .u8 0).cells (n*1)).toList=List.replicate n (.int .u8 0):=by
  rw [Nat.mul_one];exact toList_madeCells_one _ _
 rw [e] at this;exact this
theorem Tt {w W w1:World} {L:bM} {σ:Sp} {pa:Option Addr} {cap gg cap':Nat} (T0:Touch Nothing w W) (R:aP W L σ) (hp:L.pv=.slice pa σ.n cap) (hl:σ.n<64) (hsz:W.heap.size=w.heap.size)
  (hown:w1.ownsRow 0 34 1 (.slice (some ⟨gg,0,none⟩) (σ.n+1) cap') (σ.n+1) ((L.eD.map fun b=>Value.slice (some ⟨b,0,none⟩) σ.size σ.size)++[.slice (some ⟨W.heap.size,0,none⟩) σ.size σ.size]))
  (hgrow:(((W.alloc (jv σ.size)).alloc (.cells #[.slice (some ⟨W.heap.size,0,none⟩) σ.size σ.size] 34)).drew).grownBy w1 (Value.slice pa σ.n cap).ownBlock)
  (hat:(Value.slice pa σ.n cap).ownBlock=some gg∨gg=W.heap.size+2) :
  Oi w L σ (.returned (.tuple #[.int .u64 ((σ.base:Int)+σ.size*σ.n),.int .i64 0])) (w1.setCell ⟨L.sb,4,none⟩ (.slice (some ⟨gg,0,none⟩) (σ.n+1) cap')):=by
 rw [←hp] at hgrow hat;have hlt:=R.lt;have hpv:∀ g,L.pv.ownBlock=some g→g<W.heap.size:=fun g hg=>R.row.lt hg
 have hsb:L.sb<W.heap.size:=R.blk.lt
 have T1:Touch (fun k=>some k=L.pv.ownBlock) W w1 :=
  Touch.trans (Touch.none_ ((((Touch.refl Nothing W).alloc _).alloc _).drew)) (Touch.bT hgrow (fun k hk=>hk.symm))
 have hS:Touch (fun k=>k=L.sb) w1 (w1.setCell ⟨L.sb,4,none⟩ (.slice (some ⟨gg,0,none⟩) (σ.n+1) cap')):=Touch.cellAt _ _ _ _
 have acy:gg≠L.sb:=by
  rcases hat with h | h
  ·exact fun e=>R.apart' gg h (by simp [e])
  ·omega
 have XD:¬some L.sb=L.pv.ownBlock:=fun e=>R.apart' _ e.symm (by simp)
 have hz:aC w1 W.heap.size 5 (List.replicate σ.size (.int .u8 0)):=by
  refine aC.touch (S:=fun k=>some k=L.pv.ownBlock) (((DN W σ.size).alloc _).drew) (Touch.bT hgrow (fun k hk=>hk.symm)) ?_
  intro e;have:=hpv _ e.symm;omega
 refine ⟨.slice (some ⟨gg,0,none⟩) (σ.n+1) cap',W.heap.size,?_,by omega,?_,?_,?_⟩
 ·congr 3
 ·intro b hb;simp only [Value.ownBlock,Option.some.injEq] at hb;subst hb;rcases hat with h | h
  ·exact .inl h
  ·exact .inr (by omega)
 ·refine ⟨?_,?_,?_,?_,?_,?_⟩
  ·have:=(R.blk.touch T1 XD).set 4 (.slice (some ⟨gg,0,none⟩) (σ.n+1) cap');simpa [Sp.grow] using this
  ·have:=Row.touch hown hS (fun g hg e=>by simp only [Value.ownBlock,Option.some.injEq] at hg;omega);simpa [Sp.grow] using this
  ·intro i b hb;rw [List.getElem?_append] at hb;have hlen:=R.len;split at hb
   ·rename_i hi
    have K8:=List.mem_of_getElem? hb;rw [Sp.DJ R.ok (by omega)];refine ((R.reg i b hb).touch T1 ?_).touch hS ?_
    ·exact fun e=>R.apart' b e.symm (by simp [K8])
    ·exact fun e=>(List.nodup_cons.1 R.apart).1 (e▸K8)
   ·rename_i hi
    obtain rfl:i=L.eD.length:=by
     have:=(List.getElem?_eq_some_iff.1 hb).1;simp at this;omega
    simp at hb;subst hb;rw [hlen,Sp.DK];exact hz.touch hS (by omega)
  ·rw [show L.sb::(L.eD++[W.heap.size])=(L.sb::L.eD)++[W.heap.size] from rfl,List.nodup_append];refine ⟨R.apart,by simp,?_⟩;intro a ha b hb;simp only [List.mem_singleton] at hb;have:=hlt a (by simp only [bM.fp,List.mem_append];exact .inl ha);omega
  ·intro g hg hm;simp only [Value.ownBlock,Option.some.injEq] at hg;subst hg;have hm':gg∈(L.sb::L.eD)++[W.heap.size]:=hm;rw [List.mem_append,List.mem_singleton] at hm';rcases hat with h | h
   ·rcases hm' with h' | h'
    ·exact R.apart' _ h h'
    ·have:=hpv _ h;omega
   ·rcases hm' with h' | h'
    ·have:=hlt gg (by simp only [bM.fp,List.mem_append];exact .inl h');omega
    ·omega
  ·have o:=R.ok;refine ⟨o.ow,o.oz,?_,o.base0,o.top,fun a=>?_⟩
   ·show σ.n+1≤64;omega
   ·show (if _ then 0 else σ.mem a)<256
    split
    ·omega
    ·exact o.byte a
 ·refine Touch.trans (b:=w1) ?_ ?_
  ·exact (T0.none_.trans' T1 (fun i hi h=>.inr h))
  ·exact hS.mono (fun k _ h=>.inl h)
theorem fJ {w:World} {B:Nat} {t:TypeId} {cs:List Value} (h:aC w B t cs):∀ j u,cs[j]? = some u→w.cell? ((⟨B,0,none⟩:Addr).add j)=some u:=by
 intro j u hj;have:(⟨B,0,none⟩:Addr).add j=⟨B,j,none⟩:=by unfold Addr.add;split <;> simp_all
 rw [this,h.cell];exact hj
theorem U0:(Tryz.prog.info? 34).map (fun i=>(i.zero,i.size,i.bytes))=some (some (.slice none 0 0),1,24):=by kernel_rfl
theorem aP.Jf {w:World} {L:bM} {σ:Sp} (R:aP w L σ) (h:σ.n<σ.limit) (hl:σ.limit≤64) :
  Calls Tryz.prog 248 #[.pointer (some ⟨L.sb,0,none⟩),.bool false] w (Oi w L σ):=by
 obtain ⟨pa,cap,hp,hc⟩:=R.zJ;have c1:=R.blk.cell 1;have c4:=R.blk.cell 4;have f4:=R.blk.free 4;have c3:=R.blk.cell 3;simp [hp] at c1 c3 c4;have HE:=Hd (fun k=>(R.drewN k).end_);have hmk:=fun W=>Em σ.size (by have:=R.ok.oz;omega) W
 have hsz:=R.ok.oz;have HR:=Hd R;clear R hc;have hne:decide ((σ.n:Int)=σ.limit)=false:=by simp;omega
 have hne2:((σ.n:Int) == σ.limit)=false:=by rw [beq_eq_false_iff_ne];omega
 obtain ⟨i0,hi0,hz0,hz1,hz2⟩:=info_parts U0
 go_enter Tryz.func248,Tryz.ntmps248
 go_wp2
 go_quiet (fail)
 go_wp2_with fail
 refine (HE.out _).mono ?_
 rintro e w' ⟨rfl,k,rfl⟩
 go_wp2_with fail
 have T0:=Hd (show Touch Nothing w (w.drewN (nq+k)) from (Touch.refl _ _).drewN _);have HW:=Hd (HR.out.drewN (nq+k))
 replace c3:(w.drewN (nq+k)).cell? ⟨L.sb,3,none⟩=_:=c3
 replace c4:(w.drewN (nq+k)).cell? ⟨L.sb,4,none⟩=_:=c4
 replace f4:(w.drewN (nq+k)).frozen? ⟨L.sb,4,none⟩=_:=f4
 have hlt:L.sb<(w.drewN (nq+k)).heap.size:=HR.out.blk.lt;clear c1 hne hne2;have hsize:=Hd (show (w.drewN (nq+k)).heap.size=w.heap.size from rfl);generalize w.drewN (nq+k)=W at *;have hrow:=HW.out.row;rw [hp] at hrow;have hl':=HW.out.ok.lim;have hap:(Value.slice pa σ.n cap).ownBlock≠some L.sb:=fun e=>HW.out.apart' _ (by rw [hp];exact e) (by simp)
 have hnb:aC (((W.alloc (jv σ.size)).alloc (.cells #[.slice (some ⟨W.heap.size,0,none⟩) σ.size σ.size] 34)).drew) (W.heap.size+1) 34 [.slice (some ⟨W.heap.size,0,none⟩) σ.size σ.size]:=by
  simpa using (aC.new (W.alloc (jv σ.size)) #[.slice (some ⟨W.heap.size,0,none⟩) σ.size σ.size] 34).drew
 have hnews:=Hd (fJ hnb);clear hnb;have fz1:∀ o,(W.alloc o).frozen? ⟨L.sb,4,none⟩=false:=fun o=>(World.frozen?_alloc_past o _ _ hlt).trans f4
 have fz2:∀ o o',((W.alloc o).alloc o').frozen? ⟨L.sb,4,none⟩=false:=fun o o'=>(World.frozen?_alloc_past o' _ _ (by simp;omega)).trans (fz1 o)
 go_region_law ((refine step_append_lies _ (by rfl) _ _ _ (by rfl) 0 34 i0 _ 1 24 Tryz.underlying188 hi0 hz0 hz1 hz2 rfl (by omega) (.slice pa σ.n cap) σ.n _ (by rfl) (((hrow.alloc _).alloc _).drew) ⟨W.heap.size+1,0,none⟩ 1 1 [.slice (some ⟨W.heap.size,0,none⟩) σ.size σ.size] (by rfl) (by rfl) hnews.out (by simp [Value.oneCell']) (by omega) (by unfold maxLen;omega) (by omega) (by simp) (W.heap.size+2) (by simp) ?_;intro gg cap' w1 hown1 hgrow hat Ep;have c4':w1.cell? ⟨L.sb,4,none⟩=some (.slice pa σ.n cap):=(hgrow.cell_far _ (by simp;omega) (Ne.symm hap)).trans (by simp [c4,World.cell?_alloc_past,hlt,Nat.lt_succ_of_lt hlt]);have f4':w1.frozen? ⟨L.sb,4,none⟩=false:=(hgrow.frozen_far _ (by simp;omega) (Ne.symm hap)).trans (by simp [fz2])))
 all_goals
  go_wp2
  go_ret2
  exact Tt T0.out HW.out hp (by omega) hsize.out hown1 hgrow hat
end Go.Proofs.YtnjcmcnjgdjbiaaGreatDoor
namespace Go.Proofs.YtnjcmcnjgdjbiaaGreatDoor
open Go.RowKit
theorem Jg (pb m c:Nat) (u:Value) (W:World) (hm:W.cell? ⟨pb,m,none⟩=some u) (fm:W.frozen? ⟨pb,m,none⟩=false) :
  (Builtin.clear_ #[188] 0 #[.slice (some ⟨pb,m,none⟩) 1 c]).run Tryz.prog W=.ok (.tuple #[]) (W.setCell ⟨pb,m,none⟩ (.slice none 0 0)):=by
 have hz:∀ w,(zeroValue 34).run Tryz.prog w=.ok (.slice none 0 0) w:=fun w=>by kernel_rfl
 have hadd:(⟨pb,m,none⟩:Addr).add 0=⟨pb,m,none⟩:=rfl;have hst:(store ⟨pb,m,none⟩ (.slice none 0 0)).run Tryz.prog W=.ok () (W.setCell ⟨pb,m,none⟩ (.slice none 0 0)):=by simp [go_sem,hm,fm]
 have e1:(Builtin.zeroCells (Value.slice none 0 0).cells 1).toList = [.slice none 0 0]:=by simp [Builtin.zeroCells,Value.cells]
 simp [Builtin.clear_,run_underlying Tryz.underlying188,hz,e1,storeCells,hadd,hst]
theorem Bv (b pb m cap:Nat) (u:Value) (w:World)
  (h4:w.cell? ⟨b,4,none⟩=some (.slice (some ⟨pb,0,none⟩) (m+1) cap)) (f4:w.frozen? ⟨b,4,none⟩=false)
  (hm:w.cell? ⟨pb,m,none⟩=some u) (fm:w.frozen? ⟨pb,m,none⟩=false) (hne:¬pb=b) (hc:m+1≤cap) (hl:m≤64) :
  Calls Tryz.prog 203 #[.pointer (some ⟨b,0,none⟩),.int .i64 1] w fun e w'=>e=.returned (.int .i64 0) ∧
   w'=(w.setCell ⟨pb,m,none⟩ (.slice none 0 0)).setCell ⟨b,4,none⟩ (.slice (some ⟨pb,0,none⟩) m cap):=by
 have hcl:=fun c=>Jg pb m c u w hm fm
 go_enter Tryz.func203,Tryz.ntmps203
 go_wp2_with fail
 go_ret
 exact ⟨rfl,rfl⟩
theorem Row.shrink {w:World} {e:TypeId} {size g n cap k:Nat} {xs:List Value} (h:Row w e size (.slice (some ⟨g,0,none⟩) n cap) n xs) (hk:k≤n) :
  Row w e size (.slice (some ⟨g,0,none⟩) k cap) k (xs.take (k*size)):=by
 obtain ⟨h1,h2⟩:=h;have hle:k*size≤n*size:=Nat.mul_le_mul_right _ hk;refine ⟨by rw [List.length_take,h1];omega,?_⟩;rcases h2 with ⟨hv,_⟩ | ⟨g',cap',cur,hv,hb,hg,hc,hm,hs,ht⟩
 ·cases hv
 ·cases hv;refine .inr ⟨g,cap,cur,rfl,hb,hg,by omega,hm,hs,?_⟩;rw [←ht,List.take_take]
  congr 1
  omega
def Sp.less (σ:Sp):Sp:={ σ with n:=σ.n-1 }
def K9 (w:World) (L:bM) (σ:Sp) (e:Ending) (w':World):Prop :=
 ∃ pv,e=.returned (.int .i64 0)∧(pv.ownBlock=L.pv.ownBlock)∧aP w' ⟨L.sb,pv,L.eD.dropLast⟩ σ.less∧Touch (fun k=>k=L.sb∨some k=L.pv.ownBlock) w w'
theorem aP.La {w:World} {L:bM} {σ:Sp} (R:aP w L σ) (h:0<σ.n) :
  Calls Tryz.prog 203 #[.pointer (some ⟨L.sb,0,none⟩),.int .i64 1] w (K9 w L σ):=by
 obtain ⟨m,hm⟩:∃ m,σ.n=m+1:=⟨σ.n-1,by omega⟩;obtain ⟨pb,cap,rb,hv,hc,hmx,hrb,hcell⟩:=R.xK (q:=m) (by omega);have hl:=R.ok.lim;have c4:=R.blk.cell 4;have f4:=R.blk.free 4;have hrow:=R.row;rw [hv] at hrow c4;have fm:=hrow.free m;have hpb:(L.pv).ownBlock=some pb:=by rw [hv];rfl
 have hne:¬pb=L.sb:=fun e=>R.apart' pb hpb (by simp [e])
 have hlen:=R.len;rw [hm] at c4;refine (Bv L.sb pb m cap _ w c4 f4 hcell fm hne (by omega) (by omega)).mono ?_
 rintro e w' ⟨rfl,rfl⟩;have T1:Touch (fun k=>k=pb) w (w.setCell ⟨pb,m,none⟩ (.slice none 0 0)):=Touch.cellAt _ _ _ _;have T2:Touch (fun k=>k=L.sb) (w.setCell ⟨pb,m,none⟩ (.slice none 0 0)) ((w.setCell ⟨pb,m,none⟩ (.slice none 0 0)).setCell ⟨L.sb,4,none⟩ (.slice (some ⟨pb,0,none⟩) m cap)):=Touch.cellAt _ _ _ _;refine ⟨.slice (some ⟨pb,0,none⟩) m cap,rfl,by rw [hpb];rfl,?_,?_⟩
 ·have hdl:L.eD.dropLast=L.eD.take m:=by rw [List.dropLast_eq_take];congr 1;omega
  refine ⟨?_,?_,?_,?_,?_,?_⟩
  ·have:=(R.blk.touch T1 (fun e=>hne e.symm)).set 4 (.slice (some ⟨pb,0,none⟩) m cap);simpa [Sp.less] using this
  ·have hs:=World.ownsRow.stored hrow m (.slice none 0 0)
   show World.ownsRow _ 0 34 1 _ (σ.n-1) (L.eD.dropLast.map fun b=>.slice (some ⟨b,0,none⟩) σ.size σ.size)
   have h1:σ.n-1=m:=by omega
   rw [h1,hdl];refine Row.touch (S:=fun k=>k=L.sb) (w:=w.setCell ⟨pb,m,none⟩ (.slice none 0 0)) ?_ T2 (fun g hg e=>by simp only [Value.ownBlock,Option.some.injEq] at hg;omega);have h2:=Row.shrink hs.1 (k:=m) (by omega)
   have h3:((L.eD.map fun b=>Value.slice (some ⟨b,0,none⟩) σ.size σ.size).set m (.slice none 0 0)).take (m*1)=(L.eD.take m).map fun b=>Value.slice (some ⟨b,0,none⟩) σ.size σ.size:=by
    rw [Nat.mul_one,List.take_set_of_le (Nat.le_refl _),List.map_take]
   rw [h3] at h2;exact h2
  ·intro i b hb
   have hb':L.eD[i]? = some b:=by
    rw [hdl,List.getElem?_take] at hb;split at hb
    ·exact hb
    ·simp at hb
   have K8:=List.mem_of_getElem? hb';refine ((R.reg i b hb').touch T1 ?_).touch T2 ?_
   ·exact fun e=>R.apart' pb hpb (by simp [←e,K8])
   ·exact fun e=>(List.nodup_cons.1 R.apart).1 (e▸K8)
  ·exact (R.apart.sublist (List.Sublist.cons_cons _ (List.dropLast_sublist _)))
  ·intro g hg hmem;simp only [Value.ownBlock,Option.some.injEq] at hg;subst hg;refine R.apart' pb hpb ?_
   rcases List.mem_cons.1 hmem with h | h
   ·simp [h]
   ·exact List.mem_cons_of_mem _ (List.dropLast_subset _ h)
  ·have o:=R.ok;exact ⟨o.ow,o.oz,by simp only [Sp.less];omega,o.base0,o.top,o.byte⟩
 ·exact (T1.mono (fun k _ e=>.inr (by rw [hpb,e]))).trans (T2.mono (fun k _ e=>.inl e))
theorem Touch.iter (w:World) (s:ByteArray) (pos:Nat):Touch Nothing w (w.iter s pos):=by
 have:=(Touch.refl Nothing w).alloc (.stringIter s pos);exact this
theorem uz:Txt.aV []=none:=by decide
def uD (s:ByteArray) (w:World) (e:Ending) (w':World):Prop :=
 ∃ v:Nat,e=.returned (.tuple #[.int .u64 v,.bool (Txt.aV s.data.toList).isSome])∧(∀ u,Txt.aV s.data.toList=some u→v=u)∧Touch Nothing w w'
theorem Er (s:ByteArray) (w:World) (h:s.data.toList = []):Calls Tryz.prog 126 #[.string s] w (uD s w):=by
 have h':s.toList = []:=by rw [ByteArray.toList_eq];exact h
 have H:=Hd h;clear h
 go_enter Tryz.func126,Tryz.ntmps126
 go_wp2
 go_ret2
 exact ⟨0,by rw [H.out,uz];rfl,fun u hu=>(by rw [H.out,uz] at hu;cases hu),Touch.refl _ _⟩
theorem Lb (s:ByteArray) (h:1<s.size) (h0:(s[0]'(by omega)).toNat=48):Txt.aV s.data.toList=none:=by
 unfold Txt.aV;rw [if_pos];refine .inr (.inl ⟨by simpa using h,?_⟩);rw [List.head?_eq_getElem?,Lib.data_getElem? s 0 (by omega)]
 congr 1
 exact UInt8.toNat_inj.1 h0
theorem kR (s:ByteArray) (h:0<s.size):s.toList.isEmpty=false:=by
 rw [ByteArray.toList_eq];cases hs:s.data.toList with
 | nil =>
  have:s.data.toList.length=0:=by rw [hs];rfl
  simp only [Array.length_toList] at this;have h2:s.data.size=s.size:=rfl;omega
 | cons=>rfl
theorem Gq (s:ByteArray) (w:World) (h:1<s.size) (h0:(s[0]'(by omega)).toNat=48):Calls Tryz.prog 126 #[.string s] w (uD s w):=by
 have hne:=kR s (by omega);have H:=Hd (Lb s h h0);have h':(1:Int)<(s.size:Int):=by omega
 have h0':(((s[0]'(by omega)).toNat:Nat):Int)=48:=by omega
 clear h0
 go_enter Tryz.func126,Tryz.ntmps126
 go_wp2
 go_ret2
 exact ⟨0,by rw [H.out];rfl,fun u hu=>(by rw [H.out] at hu;cases hu),Touch.refl _ _⟩
theorem Oj (s:ByteArray) (p:Nat) (h:p<s.size) (hd:Txt.dR (s[p]'h)=false):Txt.aV s.data.toList=none:=by
 unfold Txt.aV;rw [if_pos];refine .inr (.inr ?_);rw [List.all_eq_false];exact ⟨_,List.mem_of_getElem? (Lib.data_getElem? s p h),by simp [hd]⟩
theorem Ol (s:ByteArray) (h:0<s.size) (hz:¬(1<s.size∧(s[0]'h).toNat=48)) (hd:∀ p (hp:p<s.size),Txt.dR (s[p]'hp)=true) :
  Txt.aV s.data.toList=match Lib.parseUintB 64 s.data.toList with | .ok u=>some u | _=>none:=by
 have hl:s.data.toList.length=s.size:=by simp
 unfold Txt.aV;refine if_neg ?_
 rintro (e | e | e)
 ·rw [e] at hl;simp at hl;omega
 ·refine hz ⟨by omega,?_⟩;have:=e.2;rw [List.head?_eq_getElem?,Lib.data_getElem? s 0 h] at this;rw [Option.some.inj this];rfl
 ·rw [List.all_eq_false] at e;obtain ⟨x,hx,hn⟩:=e;obtain ⟨i,hi⟩:=List.mem_iff_getElem?.1 hx;have hlt:=(List.getElem?_eq_some_iff.1 hi).1;rw [Lib.data_getElem? s i (by omega)] at hi;rw [←Option.some.inj hi] at hn;exact hn (hd i (by omega))
theorem Jh (s:ByteArray) (w:World) (hs:s.size≤1048576) (G:bU w) :
  Calls Tryz.prog 179 #[.string s,.int .i64 10,.int .i64 64] w fun e w'=>∃ (v:Nat) (er:Value),e=.returned (.tuple #[.int .u64 v,er])∧Touch Nothing w w' ∧
   ((er=.nilIface∧Lib.parseUintB 64 s.data.toList=.ok v)∨((∃ t p,er=.iface t p)∧∀ u,Lib.parseUintB 64 s.data.toList≠.ok u)):=by
 cases hp:Lib.parseUintB 64 s.data.toList with
 | ok u =>
  refine (Tryz.strconv_ParseUint_10_at64_ok s (by omega) u hp w).mono ?_
  rintro e w' ⟨rfl,h⟩;refine ⟨u,_,rfl,?_,.inl ⟨rfl,rfl⟩⟩;rcases h with rfl | rfl
  ·exact Touch.refl _ _
  ·exact Touch.of_below (Lib.bytesWorld_below _ _ _)
 | range =>
  obtain ⟨ev,hv,hev⟩:=G.rng;refine (Tryz.strconv_ParseUint_10_at64_range s (by omega) hp ev w hv hev).mono ?_
  rintro e w' ⟨N,rfl,_,_,hb⟩;exact ⟨18446744073709551615,_,rfl,Touch.of_below hb,.inr ⟨⟨_,_,rfl⟩,fun u h=>(by cases h)⟩⟩
 | _ =>
  obtain ⟨ev,hv,hev⟩:=G.syn;refine (Tryz.strconv_ParseUint_10_at64_syntax s (by omega) hp ev w hv hev).mono ?_
  rintro e w' ⟨N,rfl,_,_,hb⟩;exact ⟨0,_,rfl,Touch.of_below hb,.inr ⟨⟨_,_,rfl⟩,fun u h=>(by cases h)⟩⟩
def Reached (s:ByteArray) (w:World) (w':World) (pos:Nat):Prop:=w'=w.iter s pos∧∀ p (hp:p<s.size),p<pos→Txt.dR (s[p]'hp)=true
theorem Ji {c:UInt8} (h:Txt.dR c=true):48≤((c.toNat:Nat):Int)∧((c.toNat:Nat):Int)≤57:=by
 have:=(Txt.mM c).1 h;omega
theorem Gs (s:ByteArray) (w:World) (hs:s.size≤1048576) (G:bU w) (h:0<s.size) (hz:¬(1<s.size∧(s[0]'h).toNat=48)):Calls Tryz.prog 126 #[.string s] w (uD s w):=by
 have hne:=kR s h;have HD:=Hd (Ol s h hz);have HN:=Hd (Oj s);have HP:=Hd (fun w1 (T:Touch Nothing w w1)=>Jh s w1 hs (G.aj T))
 have hz1:1<s.size→(((((s[0]'h).toNat:Nat):Int)) == 48)=false:=fun h1=>by
  rw [beq_eq_false_iff_ne];exact fun e=>hz ⟨h1,by omega⟩
 clear G hz;by_cases h1:1<s.size
 all_goals
  first | have hz2:=hz1 h1 | skip
  clear hz1;have hlo:=Hd h
  go_enter Tryz.func126,Tryz.ntmps126
  go_wp2_with fail
  go_loopw [5] (fun _ w'=>∃ pos,Reached s w w' pos) (fun _ w'=>s.size-w'.iterPos w.heap.size)
  case atStart=>exact ⟨0,rfl,fun p _ hp=>absurd hp (by omega)⟩
  case round =>
   obtain ⟨pos,rfl,hall⟩:=hrel;have HA:=Hd hall;clear hall;by_cases hp:pos<s.size
   ·by_cases ha:(s[pos]'hp).toNat<128
    ·have hnx:∀ ty,(Instr.next (.pointer (some ⟨w.heap.size,0,none⟩)) true ty).run Tryz.prog (w.iter s pos)=_:=fun ty=>run_next_ascii w s pos ty hp ha
     by_cases hd:Txt.dR (s[pos]'hp)=true
     ·have hb:=Ji hd;obtain ⟨hb1,hb2⟩:=hb;have HDg:=Hd hd;clear hd
      go_wp2_with fail
      go_roundw
      case rel =>
       refine ⟨pos+1,rfl,fun q hq hlt=>?_⟩;by_cases e:q=pos
       ·subst e;exact HDg.out
       ·exact HA.out q hq (by omega)
      case measure=>simp;omega
     ·have hd':Txt.dR (s[pos]'hp)=false:=by simpa using hd
      have hno:=Hd (HN.out pos hp hd')
      have hr:(((s[pos]'hp).toNat:Nat):Int)<48∨(48≤(((s[pos]'hp).toNat:Nat):Int)∧57<(((s[pos]'hp).toNat:Nat):Int)):=by
       have hn:¬(48≤(s[pos]'hp).toNat∧(s[pos]'hp).toNat≤57):=fun e=>hd ((Txt.mM _).2 e)
       omega
      clear hd hd';rcases hr with hr | ⟨hr0,hr⟩
      all_goals
       go_wp2_with fail
       go_ret2
       exact ⟨0,by rw [hno.out];rfl,fun u hu=>(by rw [hno.out] at hu;cases hu),Touch.iter _ _ _⟩
    ·have hh:=decode_high s pos hp (by omega);have hnx:∀ ty,(Instr.next (.pointer (some ⟨w.heap.size,0,none⟩)) true ty).run Tryz.prog (w.iter s pos)=_:=fun ty=>run_next_any w s pos ty hp
     have hdn:Txt.dR (s[pos]'hp)=false:=by
      rw [←Bool.not_eq_true];exact fun e=>by have:=(Txt.mM _).1 e;omega
     have hno:=Hd (HN.out pos hp hdn);have hl:(57:Int)<(((Utf8.decode s pos).1:Nat):Int):=by omega
     have hl0:(48:Int)≤(((Utf8.decode s pos).1:Nat):Int):=by omega
     clear hdn hh
     go_wp2_with fail
     go_ret2
     exact ⟨0,by rw [hno.out];rfl,fun u hu=>(by rw [hno.out] at hu;cases hu),Touch.iter _ _ _⟩
   ·have hnx:∀ ty,(Instr.next (.pointer (some ⟨w.heap.size,0,none⟩)) true ty).run Tryz.prog (w.iter s pos)=_:=fun ty=>run_next_end w s pos ty hp
    have hv:=Hd (HD.out (fun p hq=>HA.out p hq (by omega)));have HPc:=Hd (HP.out _ (Touch.iter w s pos));have hT:=Hd (Touch.iter w s pos)
    go_wp2_with fail
    refine HPc.out.mono ?_
    rintro e w1 ⟨v,er,rfl,T1,hor⟩;have HT1:=Hd T1;clear T1 hnx;rcases hor with ⟨rfl,ho⟩ | ⟨⟨t,q,rfl⟩,ho⟩
    ·have HO:=Hd ho;clear ho
     go_wp2_with fail
     go_quiet (fail)
     go_wp2_with fail
     go_ret2
     refine ⟨v,?_,fun u hu=>?_,(hT.out.trans HT1.out).drewN _⟩
     ·rw [hv.out,HO.out];rfl
     ·rw [hv.out,HO.out] at hu;exact Option.some.inj hu
    ·have HO:=Hd ho;clear ho
     go_wp2_with fail
     go_quiet (fail)
     go_wp2_with fail
     go_ret2
     refine ⟨v,?_,fun u hu=>?_,(hT.out.trans HT1.out).drewN _⟩
     ·rw [hv.out];cases hq:Lib.parseUintB 64 s.data.toList with
      | ok u=>exact absurd hq (HO.out u)
      | _=>rfl
     ·rw [hv.out] at hu;cases hq:Lib.parseUintB 64 s.data.toList with
      | ok u=>exact absurd hq (HO.out u)
      | _=>rw [hq] at hu;cases hu
theorem gK (s:ByteArray) (w:World) (hs:s.size≤1048576) (G:bU w):Calls Tryz.prog 126 #[.string s] w (uD s w):=by
 by_cases h:0<s.size
 ·by_cases hz:1<s.size∧(s[0]'h).toNat=48
  ·exact Gq s w hz.1 hz.2
  ·exact Gs s w hs G h hz
 ·refine Er s w ?_
  have:s.data.toList.length=0:=by
   have h2:s.data.size=s.size:=rfl;rw [Array.length_toList];omega
  exact List.eq_nil_of_length_eq_zero this
def Placed (s:ByteArray) (w:World) (e:Ending) (w':World):Prop :=
 ∃ r p:Nat,e=.returned (.tuple #[.int .i64 r,.int .u64 p,.bool (Txt.bA s.data.toList).isSome])∧(∀ u,Txt.bA s.data.toList=some u→r=u.1∧p=u.2)∧Touch Nothing w w'
theorem Ia (l:List UInt8):(⟨l.toArray⟩:ByteArray).data.toList=l:=rfl
theorem aX (l:List UInt8):(⟨l.toArray⟩:ByteArray).size=l.length:=by show l.toArray.size=_;simp
theorem Gt (s:ByteArray) (w:World) (hs:s.size≤1048576) (G:bU w) (h:s.data.toList.head? ≠ some 36):Calls Tryz.prog 125 #[.string s] w (Placed s w):=by
 have hp:Lib.hasPrefix s.data.toList [36]=false:=by rw [Txt.gF];simpa using h
 have HC:=Hd (Tryz.strings_CutPrefix s ⟨#[36]⟩ w);have HP:=Hd hp;have HN:=Hd (gK s w hs G)
 have HW:=Hd (show Txt.bA s.data.toList=(Txt.aV s.data.toList).map fun p=>(0,p) by
  unfold Txt.bA;cases hl:s.data.toList with
  | nil=>simp [uz]
  | cons x l =>
   rw [hl] at h;simp only [];rw [if_neg (fun e=>h (by simp [e]))])
 clear hp h G
 go_enter Tryz.func125,Tryz.ntmps125
 go_wp2_with fail
 refine HC.out.mono ?_
 rintro e w1 ⟨rfl,rfl⟩;rw [HP.out]
 go_wp2_with fail
 refine HN.out.mono ?_
 rintro e w2 ⟨v,rfl,hv,hT⟩;have HV:=Hd hv;have HT:=Hd hT;clear hv hT
 go_wp2_with fail
 go_ret3
 refine ⟨0,v,?_,fun u hu=>?_,HT.out⟩
 ·rw [HW.out,Option.isSome_map];rfl
 ·rw [HW.out,Option.map_eq_some_iff] at hu;obtain ⟨a,ha,rfl⟩:=hu;exact ⟨rfl,HV.out a ha⟩
theorem nX (c:UInt8) (l:List UInt8):(Txt.aL c l).1.length≤l.length∧(Txt.aL c l).2.1.length≤l.length:=by
 induction l with
 | nil=>simp [Txt.aL]
 | cons x l ih =>
  unfold Txt.aL;split
  ·simp
  ·simp only [List.length_cons];omega
theorem Jj (s:ByteArray) (w:World) (hs:s.size≤1048576) (G:bU w) (l:List UInt8) (hl:s.data.toList=36::l) (hA:Txt.aV (Txt.aL 43 l).1=none):Calls Tryz.prog 125 #[.string s] w (Placed s w):=by
 have hp:Lib.hasPrefix s.data.toList [36]=true:=by rw [Txt.gF,hl];rfl
 have ht:Lib.trimPrefix s.data.toList [36]=l:=by rw [hl];exact Txt.iC 36 l
 have hz:l.length+1=s.size:=by have:=congrArg List.length hl;simp at this;omega
 have hc:=nX 43 l;obtain ⟨m0,hm0⟩:=G.most;have HC:=Hd (Tryz.strings_CutPrefix s ⟨#[36]⟩ w);have HP:=Hd hp;have HT:=Hd ht;have HU:=Hd (Tryz.strings_Cut ⟨l.toArray⟩ ⟨#[43]⟩ _ w (by rw [aX];omega) hm0);have sQ:=Hd (Txt.nW 43 l);have HA:=Hd (fun W (T:Touch Nothing w W)=>gK ⟨(Txt.aL 43 l).1.toArray⟩ W (by rw [aX];omega) (G.aj T));have HB:=Hd (fun W (T:Touch Nothing w W)=>gK ⟨(Txt.aL 43 l).2.1.toArray⟩ W (by rw [aX];omega) (G.aj T));have nD:=Hd hA;have HW:=Hd (show Txt.bA s.data.toList=none by rw [hl];simp only [Txt.bA];rw [if_pos (by trivial),hA]);clear hA;clear hp ht hz hc G hl hs hm0
 go_enter Tryz.func125,Tryz.ntmps125
 go_wp2_with fail
 refine HC.out.mono ?_
 rintro e w0 ⟨rfl,h0⟩;obtain rfl:w=w0:=h0.symm;rw [HP.out,show Lib.trimPrefix s.data.toList (⟨#[36]⟩:ByteArray).data.toList=l from HT.out]
 go_wp2_with fail
 refine HU.out.mono ?_
 rintro e w1 ⟨rfl,k,rfl⟩;rw [show Lib.cut (⟨l.toArray⟩:ByteArray).data.toList (⟨#[43]⟩:ByteArray).data.toList=Txt.aL 43 l from sQ.out];have hT1:Touch Nothing w (w.drewN k):=(Touch.refl _ _).drewN k;generalize w.drewN k=w1 at *;have HT1:=Hd hT1;clear hT1
 go_wp2_with fail
 refine (HA.out _ HT1.out).mono ?_
 rintro e w2 ⟨v,rfl,hv,mQ⟩;have HT2:=Hd (HT1.out.trans mQ);have HV:=Hd hv;clear hv mQ;rw [show Txt.aV (⟨(Txt.aL 43 l).1.toArray⟩:ByteArray).data.toList=none from nD.out];simp only [Option.isSome_none]
 go_wp2_with fail
 go_ret3
 exact ⟨0,0,by rw [HW.out];rfl,fun u hu=>(by rw [HW.out] at hu;cases hu),HT2.out⟩
theorem Lc (s:ByteArray) (w:World) (hs:s.size≤1048576) (G:bU w) (l:List UInt8) (hl:s.data.toList=36::l) (n:Nat) (hA:Txt.aV (Txt.aL 43 l).1=some n) (hn:n<1):Calls Tryz.prog 125 #[.string s] w (Placed s w):=by
 have hp:Lib.hasPrefix s.data.toList [36]=true:=by rw [Txt.gF,hl];rfl
 have ht:Lib.trimPrefix s.data.toList [36]=l:=by rw [hl];exact Txt.iC 36 l
 have hz:l.length+1=s.size:=by have:=congrArg List.length hl;simp at this;omega
 have hc:=nX 43 l;obtain ⟨m0,hm0⟩:=G.most;have HC:=Hd (Tryz.strings_CutPrefix s ⟨#[36]⟩ w);have HP:=Hd hp;have HT:=Hd ht;have HU:=Hd (Tryz.strings_Cut ⟨l.toArray⟩ ⟨#[43]⟩ _ w (by rw [aX];omega) hm0);have sQ:=Hd (Txt.nW 43 l);have HA:=Hd (fun W (T:Touch Nothing w W)=>gK ⟨(Txt.aL 43 l).1.toArray⟩ W (by rw [aX];omega) (G.aj T));have HB:=Hd (fun W (T:Touch Nothing w W)=>gK ⟨(Txt.aL 43 l).2.1.toArray⟩ W (by rw [aX];omega) (G.aj T));have nD:=Hd hA;have HW:=Hd (show Txt.bA s.data.toList=none by rw [hl];simp only [Txt.bA];rw [if_pos (by trivial),hA];simp only [];rw [if_pos (by omega)]);clear hA;clear hp ht hz hc G hl hs hm0
 go_enter Tryz.func125,Tryz.ntmps125
 go_wp2_with fail
 refine HC.out.mono ?_
 rintro e w0 ⟨rfl,h0⟩;obtain rfl:w=w0:=h0.symm;rw [HP.out,show Lib.trimPrefix s.data.toList (⟨#[36]⟩:ByteArray).data.toList=l from HT.out]
 go_wp2_with fail
 refine HU.out.mono ?_
 rintro e w1 ⟨rfl,k,rfl⟩;rw [show Lib.cut (⟨l.toArray⟩:ByteArray).data.toList (⟨#[43]⟩:ByteArray).data.toList=Txt.aL 43 l from sQ.out];have hT1:Touch Nothing w (w.drewN k):=(Touch.refl _ _).drewN k;generalize w.drewN k=w1 at *;have HT1:=Hd hT1;clear hT1
 go_wp2_with fail
 refine (HA.out _ HT1.out).mono ?_
 rintro e w2 ⟨v,rfl,hv,mQ⟩;have HT2:=Hd (HT1.out.trans mQ);have HV:=Hd hv;clear hv mQ;rw [show Txt.aV (⟨(Txt.aL 43 l).1.toArray⟩:ByteArray).data.toList=some n from nD.out];obtain rfl:v=n:=HV.out n nD.out;simp only [Option.isSome_some]
 go_wp2_with fail
 all_goals (go_ret3;exact ⟨0,0,by rw [HW.out];rfl,fun u hu=>(by rw [HW.out] at hu;cases hu),HT2.out⟩)
theorem Jk (s:ByteArray) (w:World) (hs:s.size≤1048576) (G:bU w) (l:List UInt8) (hl:s.data.toList=36::l) (n:Nat) (hA:Txt.aV (Txt.aL 43 l).1=some n) (hn:4096<n):Calls Tryz.prog 125 #[.string s] w (Placed s w):=by
 have hp:Lib.hasPrefix s.data.toList [36]=true:=by rw [Txt.gF,hl];rfl
 have ht:Lib.trimPrefix s.data.toList [36]=l:=by rw [hl];exact Txt.iC 36 l
 have hz:l.length+1=s.size:=by have:=congrArg List.length hl;simp at this;omega
 have hc:=nX 43 l;obtain ⟨m0,hm0⟩:=G.most;have HC:=Hd (Tryz.strings_CutPrefix s ⟨#[36]⟩ w);have HP:=Hd hp;have HT:=Hd ht;have HU:=Hd (Tryz.strings_Cut ⟨l.toArray⟩ ⟨#[43]⟩ _ w (by rw [aX];omega) hm0);have sQ:=Hd (Txt.nW 43 l);have HA:=Hd (fun W (T:Touch Nothing w W)=>gK ⟨(Txt.aL 43 l).1.toArray⟩ W (by rw [aX];omega) (G.aj T));have HB:=Hd (fun W (T:Touch Nothing w W)=>gK ⟨(Txt.aL 43 l).2.1.toArray⟩ W (by rw [aX];omega) (G.aj T));have nD:=Hd hA;have HW:=Hd (show Txt.bA s.data.toList=none by rw [hl];simp only [Txt.bA];rw [if_pos (by trivial),hA];simp only [];rw [if_pos (by omega)]);clear hA;clear hp ht hz hc G hl hs hm0
 go_enter Tryz.func125,Tryz.ntmps125
 go_wp2_with fail
 refine HC.out.mono ?_
 rintro e w0 ⟨rfl,h0⟩;obtain rfl:w=w0:=h0.symm;rw [HP.out,show Lib.trimPrefix s.data.toList (⟨#[36]⟩:ByteArray).data.toList=l from HT.out]
 go_wp2_with fail
 refine HU.out.mono ?_
 rintro e w1 ⟨rfl,k,rfl⟩;rw [show Lib.cut (⟨l.toArray⟩:ByteArray).data.toList (⟨#[43]⟩:ByteArray).data.toList=Txt.aL 43 l from sQ.out];have hT1:Touch Nothing w (w.drewN k):=(Touch.refl _ _).drewN k;generalize w.drewN k=w1 at *;have HT1:=Hd hT1;clear hT1
 go_wp2_with fail
 refine (HA.out _ HT1.out).mono ?_
 rintro e w2 ⟨v,rfl,hv,mQ⟩;have HT2:=Hd (HT1.out.trans mQ);have HV:=Hd hv;clear hv mQ;rw [show Txt.aV (⟨(Txt.aL 43 l).1.toArray⟩:ByteArray).data.toList=some n from nD.out];obtain rfl:v=n:=HV.out n nD.out;simp only [Option.isSome_some]
 go_wp2_with fail
 all_goals (go_ret3;exact ⟨0,0,by rw [HW.out];rfl,fun u hu=>(by rw [HW.out] at hu;cases hu),HT2.out⟩)
theorem Jl (s:ByteArray) (w:World) (hs:s.size≤1048576) (G:bU w) (l:List UInt8) (hl:s.data.toList=36::l) (n:Nat) (hA:Txt.aV (Txt.aL 43 l).1=some n) (hn1:1≤n) (hn2:n≤4096) (hf:(Txt.aL 43 l).2.2=false):Calls Tryz.prog 125 #[.string s] w (Placed s w):=by
 have hp:Lib.hasPrefix s.data.toList [36]=true:=by rw [Txt.gF,hl];rfl
 have ht:Lib.trimPrefix s.data.toList [36]=l:=by rw [hl];exact Txt.iC 36 l
 have hz:l.length+1=s.size:=by have:=congrArg List.length hl;simp at this;omega
 have hc:=nX 43 l;obtain ⟨m0,hm0⟩:=G.most;have HC:=Hd (Tryz.strings_CutPrefix s ⟨#[36]⟩ w);have HP:=Hd hp;have HT:=Hd ht;have HU:=Hd (Tryz.strings_Cut ⟨l.toArray⟩ ⟨#[43]⟩ _ w (by rw [aX];omega) hm0);have sQ:=Hd (Txt.nW 43 l);have HA:=Hd (fun W (T:Touch Nothing w W)=>gK ⟨(Txt.aL 43 l).1.toArray⟩ W (by rw [aX];omega) (G.aj T));have HB:=Hd (fun W (T:Touch Nothing w W)=>gK ⟨(Txt.aL 43 l).2.1.toArray⟩ W (by rw [aX];omega) (G.aj T));have nD:=Hd hA;have HF:=Hd hf;have HW:=Hd (show Txt.bA s.data.toList=some (n,0) by rw [hl];simp only [Txt.bA];rw [if_pos (by trivial),hA];simp only [];rw [if_neg (by omega),hf];rfl);clear hA hf;clear hp ht hz hc G hl hs hm0
 go_enter Tryz.func125,Tryz.ntmps125
 go_wp2_with fail
 refine HC.out.mono ?_
 rintro e w0 ⟨rfl,h0⟩;obtain rfl:w=w0:=h0.symm;rw [HP.out,show Lib.trimPrefix s.data.toList (⟨#[36]⟩:ByteArray).data.toList=l from HT.out]
 go_wp2_with fail
 refine HU.out.mono ?_
 rintro e w1 ⟨rfl,k,rfl⟩;rw [show Lib.cut (⟨l.toArray⟩:ByteArray).data.toList (⟨#[43]⟩:ByteArray).data.toList=Txt.aL 43 l from sQ.out];have hT1:Touch Nothing w (w.drewN k):=(Touch.refl _ _).drewN k;generalize w.drewN k=w1 at *;have HT1:=Hd hT1;clear hT1
 go_wp2_with fail
 refine (HA.out _ HT1.out).mono ?_
 rintro e w2 ⟨v,rfl,hv,mQ⟩;have HT2:=Hd (HT1.out.trans mQ);have HV:=Hd hv;clear hv mQ;rw [show Txt.aV (⟨(Txt.aL 43 l).1.toArray⟩:ByteArray).data.toList=some n from nD.out,HF.out];obtain rfl:v=n:=HV.out n nD.out;simp only [Option.isSome_some]
 go_wp2_with fail
 go_ret3
 exact ⟨v,0,by rw [HW.out];simp,fun u hu=>(by rw [HW.out] at hu;cases hu;exact ⟨rfl,rfl⟩),HT2.out⟩
theorem Es (s:ByteArray) (w:World) (hs:s.size≤1048576) (G:bU w) (l:List UInt8) (hl:s.data.toList=36::l) (n:Nat) (hA:Txt.aV (Txt.aL 43 l).1=some n) (hn1:1≤n) (hn2:n≤4096) (hf:(Txt.aL 43 l).2.2=true) (hB:Txt.aV (Txt.aL 43 l).2.1=none):Calls Tryz.prog 125 #[.string s] w (Placed s w):=by
 have hp:Lib.hasPrefix s.data.toList [36]=true:=by rw [Txt.gF,hl];rfl
 have ht:Lib.trimPrefix s.data.toList [36]=l:=by rw [hl];exact Txt.iC 36 l
 have hz:l.length+1=s.size:=by have:=congrArg List.length hl;simp at this;omega
 have hc:=nX 43 l;obtain ⟨m0,hm0⟩:=G.most;have HC:=Hd (Tryz.strings_CutPrefix s ⟨#[36]⟩ w);have HP:=Hd hp;have HT:=Hd ht;have HU:=Hd (Tryz.strings_Cut ⟨l.toArray⟩ ⟨#[43]⟩ _ w (by rw [aX];omega) hm0);have sQ:=Hd (Txt.nW 43 l);have HA:=Hd (fun W (T:Touch Nothing w W)=>gK ⟨(Txt.aL 43 l).1.toArray⟩ W (by rw [aX];omega) (G.aj T));have HB:=Hd (fun W (T:Touch Nothing w W)=>gK ⟨(Txt.aL 43 l).2.1.toArray⟩ W (by rw [aX];omega) (G.aj T));have nD:=Hd hA;have yD:=Hd hB;have HF:=Hd hf;have HW:=Hd (show Txt.bA s.data.toList=none by rw [hl];simp only [Txt.bA];rw [if_pos (by trivial),hA];simp only [];rw [if_neg (by omega),hf];simp only [if_true];rw [hB]);clear hA hB hf;clear hp ht hz hc G hl hs hm0
 go_enter Tryz.func125,Tryz.ntmps125
 go_wp2_with fail
 refine HC.out.mono ?_
 rintro e w0 ⟨rfl,h0⟩;obtain rfl:w=w0:=h0.symm;rw [HP.out,show Lib.trimPrefix s.data.toList (⟨#[36]⟩:ByteArray).data.toList=l from HT.out]
 go_wp2_with fail
 refine HU.out.mono ?_
 rintro e w1 ⟨rfl,k,rfl⟩;rw [show Lib.cut (⟨l.toArray⟩:ByteArray).data.toList (⟨#[43]⟩:ByteArray).data.toList=Txt.aL 43 l from sQ.out];have hT1:Touch Nothing w (w.drewN k):=(Touch.refl _ _).drewN k;generalize w.drewN k=w1 at *;have HT1:=Hd hT1;clear hT1
 go_wp2_with fail
 refine (HA.out _ HT1.out).mono ?_
 rintro e w2 ⟨v,rfl,hv,mQ⟩;have HT2:=Hd (HT1.out.trans mQ);have HV:=Hd hv;clear hv mQ;rw [show Txt.aV (⟨(Txt.aL 43 l).1.toArray⟩:ByteArray).data.toList=some n from nD.out,HF.out];obtain rfl:v=n:=HV.out n nD.out;simp only [Option.isSome_some]
 go_wp2_with fail
 refine (HB.out _ HT2.out).mono ?_
 rintro e w3 ⟨p,rfl,hp,oL⟩;have HT3:=Hd (HT2.out.trans oL);have Rm:=Hd hp;clear hp oL;rw [show Txt.aV (⟨(Txt.aL 43 l).2.1.toArray⟩:ByteArray).data.toList=_ from yD.out];simp only [Option.isSome_none]
 go_wp2_with fail
 go_ret3
 exact ⟨v,p,by rw [HW.out];rfl,fun u hu=>(by rw [HW.out] at hu;cases hu),HT3.out⟩
theorem Gu (s:ByteArray) (w:World) (hs:s.size≤1048576) (G:bU w) (l:List UInt8) (hl:s.data.toList=36::l) (n:Nat) (hA:Txt.aV (Txt.aL 43 l).1=some n) (hn1:1≤n) (hn2:n≤4096) (hf:(Txt.aL 43 l).2.2=true) (hB:Txt.aV (Txt.aL 43 l).2.1=some 0):Calls Tryz.prog 125 #[.string s] w (Placed s w):=by
 have hp:Lib.hasPrefix s.data.toList [36]=true:=by rw [Txt.gF,hl];rfl
 have ht:Lib.trimPrefix s.data.toList [36]=l:=by rw [hl];exact Txt.iC 36 l
 have hz:l.length+1=s.size:=by have:=congrArg List.length hl;simp at this;omega
 have hc:=nX 43 l;obtain ⟨m0,hm0⟩:=G.most;have HC:=Hd (Tryz.strings_CutPrefix s ⟨#[36]⟩ w);have HP:=Hd hp;have HT:=Hd ht;have HU:=Hd (Tryz.strings_Cut ⟨l.toArray⟩ ⟨#[43]⟩ _ w (by rw [aX];omega) hm0);have sQ:=Hd (Txt.nW 43 l);have HA:=Hd (fun W (T:Touch Nothing w W)=>gK ⟨(Txt.aL 43 l).1.toArray⟩ W (by rw [aX];omega) (G.aj T));have HB:=Hd (fun W (T:Touch Nothing w W)=>gK ⟨(Txt.aL 43 l).2.1.toArray⟩ W (by rw [aX];omega) (G.aj T));have nD:=Hd hA;have yD:=Hd hB;have HF:=Hd hf;have HW:=Hd (show Txt.bA s.data.toList=none by rw [hl];simp only [Txt.bA];rw [if_pos (by trivial),hA];simp only [];rw [if_neg (by omega),hf];simp only [if_true];rw [hB];rfl);clear hA hB hf;clear hp ht hz hc G hl hs hm0
 go_enter Tryz.func125,Tryz.ntmps125
 go_wp2_with fail
 refine HC.out.mono ?_
 rintro e w0 ⟨rfl,h0⟩;obtain rfl:w=w0:=h0.symm;rw [HP.out,show Lib.trimPrefix s.data.toList (⟨#[36]⟩:ByteArray).data.toList=l from HT.out]
 go_wp2_with fail
 refine HU.out.mono ?_
 rintro e w1 ⟨rfl,k,rfl⟩;rw [show Lib.cut (⟨l.toArray⟩:ByteArray).data.toList (⟨#[43]⟩:ByteArray).data.toList=Txt.aL 43 l from sQ.out];have hT1:Touch Nothing w (w.drewN k):=(Touch.refl _ _).drewN k;generalize w.drewN k=w1 at *;have HT1:=Hd hT1;clear hT1
 go_wp2_with fail
 refine (HA.out _ HT1.out).mono ?_
 rintro e w2 ⟨v,rfl,hv,mQ⟩;have HT2:=Hd (HT1.out.trans mQ);have HV:=Hd hv;clear hv mQ;rw [show Txt.aV (⟨(Txt.aL 43 l).1.toArray⟩:ByteArray).data.toList=some n from nD.out,HF.out];obtain rfl:v=n:=HV.out n nD.out;simp only [Option.isSome_some]
 go_wp2_with fail
 refine (HB.out _ HT2.out).mono ?_
 rintro e w3 ⟨p,rfl,hp,oL⟩;have HT3:=Hd (HT2.out.trans oL);have Rm:=Hd hp;clear hp oL;rw [show Txt.aV (⟨(Txt.aL 43 l).2.1.toArray⟩:ByteArray).data.toList=_ from yD.out];obtain rfl:p=0:=Rm.out 0 yD.out;simp only [Option.isSome_some]
 go_wp2_with fail
 go_ret3
 exact ⟨v,0,by rw [HW.out];rfl,fun u hu=>(by rw [HW.out] at hu;cases hu),HT3.out⟩
theorem Jm (s:ByteArray) (w:World) (hs:s.size≤1048576) (G:bU w) (l:List UInt8) (hl:s.data.toList=36::l) (n:Nat) (hA:Txt.aV (Txt.aL 43 l).1=some n) (hn1:1≤n) (hn2:n≤4096) (hf:(Txt.aL 43 l).2.2=true) (m:Nat) (hB:Txt.aV (Txt.aL 43 l).2.1=some m) (hm:0<m):Calls Tryz.prog 125 #[.string s] w (Placed s w):=by
 have hp:Lib.hasPrefix s.data.toList [36]=true:=by rw [Txt.gF,hl];rfl
 have ht:Lib.trimPrefix s.data.toList [36]=l:=by rw [hl];exact Txt.iC 36 l
 have hz:l.length+1=s.size:=by have:=congrArg List.length hl;simp at this;omega
 have hc:=nX 43 l;obtain ⟨m0,hm0⟩:=G.most;have HC:=Hd (Tryz.strings_CutPrefix s ⟨#[36]⟩ w);have HP:=Hd hp;have HT:=Hd ht;have HU:=Hd (Tryz.strings_Cut ⟨l.toArray⟩ ⟨#[43]⟩ _ w (by rw [aX];omega) hm0);have sQ:=Hd (Txt.nW 43 l);have HA:=Hd (fun W (T:Touch Nothing w W)=>gK ⟨(Txt.aL 43 l).1.toArray⟩ W (by rw [aX];omega) (G.aj T));have HB:=Hd (fun W (T:Touch Nothing w W)=>gK ⟨(Txt.aL 43 l).2.1.toArray⟩ W (by rw [aX];omega) (G.aj T));have nD:=Hd hA;have yD:=Hd hB;have HF:=Hd hf;have HW:=Hd (show Txt.bA s.data.toList=some (n,m) by rw [hl];simp only [Txt.bA];rw [if_pos (by trivial),hA];simp only [];rw [if_neg (by omega),hf];simp only [if_true];rw [hB];simp only [];rw [if_neg (by omega)]);clear hA hB hf;clear hp ht hz hc G hl hs hm0
 go_enter Tryz.func125,Tryz.ntmps125
 go_wp2_with fail
 refine HC.out.mono ?_
 rintro e w0 ⟨rfl,h0⟩;obtain rfl:w=w0:=h0.symm;rw [HP.out,show Lib.trimPrefix s.data.toList (⟨#[36]⟩:ByteArray).data.toList=l from HT.out]
 go_wp2_with fail
 refine HU.out.mono ?_
 rintro e w1 ⟨rfl,k,rfl⟩;rw [show Lib.cut (⟨l.toArray⟩:ByteArray).data.toList (⟨#[43]⟩:ByteArray).data.toList=Txt.aL 43 l from sQ.out];have hT1:Touch Nothing w (w.drewN k):=(Touch.refl _ _).drewN k;generalize w.drewN k=w1 at *;have HT1:=Hd hT1;clear hT1
 go_wp2_with fail
 refine (HA.out _ HT1.out).mono ?_
 rintro e w2 ⟨v,rfl,hv,mQ⟩;have HT2:=Hd (HT1.out.trans mQ);have HV:=Hd hv;clear hv mQ;rw [show Txt.aV (⟨(Txt.aL 43 l).1.toArray⟩:ByteArray).data.toList=some n from nD.out,HF.out];obtain rfl:v=n:=HV.out n nD.out;simp only [Option.isSome_some]
 go_wp2_with fail
 refine (HB.out _ HT2.out).mono ?_
 rintro e w3 ⟨p,rfl,hp,oL⟩;have HT3:=Hd (HT2.out.trans oL);have Rm:=Hd hp;clear hp oL;rw [show Txt.aV (⟨(Txt.aL 43 l).2.1.toArray⟩:ByteArray).data.toList=_ from yD.out];obtain rfl:p=m:=Rm.out m yD.out;simp only [Option.isSome_some]
 go_wp2_with fail
 go_ret3
 exact ⟨v,p,by rw [HW.out];simp,fun u hu=>(by rw [HW.out] at hu;cases hu;exact ⟨rfl,rfl⟩),HT3.out⟩
theorem Ld (s:ByteArray) (w:World) (hs:s.size≤1048576) (G:bU w):Calls Tryz.prog 125 #[.string s] w (Placed s w):=by
 by_cases h:s.data.toList.head? = some 36
 ·obtain ⟨l,hl⟩:∃ l,s.data.toList=36::l:=by
   cases hq:s.data.toList with
   | nil=>rw [hq] at h;cases h
   | cons x l=>rw [hq] at h;simp at h;exact ⟨l,by rw [h]⟩
  cases hA:Txt.aV (Txt.aL 43 l).1 with
  | none=>exact Jj s w hs G l hl hA
  | some n =>
   by_cases h1:n<1
   ·exact Lc s w hs G l hl n hA h1
   by_cases h2:4096<n
   ·exact Jk s w hs G l hl n hA h2
   cases hf:(Txt.aL 43 l).2.2 with
   | false=>exact Jl s w hs G l hl n hA (by omega) (by omega) hf
   | true =>
    cases hB:Txt.aV (Txt.aL 43 l).2.1 with
    | none=>exact Es s w hs G l hl n hA (by omega) (by omega) hf hB
    | some m =>
     by_cases hm:m=0
     ·subst hm;exact Gu s w hs G l hl n hA (by omega) (by omega) hf hB
     ·exact Jm s w hs G l hl n hA (by omega) (by omega) hf m hB (by omega)
 ·exact Gt s w hs G h
def hf (x:UInt8):Int:=if Txt.half x=16 then -1 else (Txt.half x:Int)
def hexDigits:List UInt8:=[48,49,50,51,52,53,54,55,56,57,97,98,99,100,101,102]
theorem Om (x:UInt8):Lib.indexByte hexDigits x=hf x:=by
 have h:∀ n:Fin 256,Lib.indexByte hexDigits (UInt8.ofNat n.val)=hf (UInt8.ofNat n.val):=by decide +kernel
 have:=h ⟨x.toNat,x.toNat_lt⟩;simpa using this
theorem xL (x:UInt8):Txt.half x≤16:=by
 unfold Txt.half;split
 ·omega
 ·split <;> omega
theorem Rn (x:UInt8) (w:World):Calls Tryz.prog 180 #[.int .u8 x.toNat] w fun e w'=>e=.returned (.int .i64 (hf x))∧w'=w:=by
 have HI:=Hd (Tryz.strings_IndexByte ⟨#[48,49,50,51,52,53,54,55,56,57,97,98,99,100,101,102]⟩ (x.toNat:Int) w);have HE:=Hd (Om x)
 go_enter Tryz.func180,Tryz.ntmps180
 go_wp2_with fail
 refine HI.out.mono ?_
 rintro e w1 ⟨rfl,h0⟩;obtain rfl:w=w1:=h0.symm
 rw [show Lib.indexByte (⟨#[48,49,50,51,52,53,54,55,56,57,97,98,99,100,101,102]⟩:ByteArray).data.toList ((x.toNat:Int).toNat.toUInt8)=hf x by
  rw [←HE.out];simp [hexDigits]]
 go_wp2_with fail
 go_ret
 trivial
def sS (s:ByteArray) (w:World) (e:Ending) (w':World):Prop :=
 ∃ dp dn dc,e=.returned (.tuple #[.slice dp dn dc,.bool (Txt.cZ s.data.toList).isSome]) ∧
  (∀ d,Txt.cZ s.data.toList=some d→w'.ownsRow w.heap.size 5 1 (.slice dp dn dc) d.length (d.map fun x=>.int .u8 x.toNat))∧Touch Nothing w w'
structure DataRel (s:ByteArray) (w wr:World) (k:Nat) (v:Value) (out:List UInt8):Prop where
 len:out.length=k
 law:Txt.jO s.data.toList=(Txt.jO (s.data.toList.drop (2*k))).map (out++·)
 own:wr.ownsRow w.heap.size 5 1 v k (out.map fun x=>.int .u8 x.toNat)
 touch:Touch Nothing w wr
theorem Tv (x y:UInt8) (hx:Txt.half x≠16) (hy:Txt.half y≠16):bits BinOp.or IntKind.i64 (wrap64 (hf x*16)) (hf y)%256=((Txt.half x*16+Txt.half y).toUInt8.toNat:Int):=by
 have h1:=xL x;have h2:=xL y;unfold hf;rw [if_neg hx,if_neg hy];have key:∀ a b:Fin 16,bits BinOp.or IntKind.i64 (wrap64 ((a.val:Int)*16)) (b.val:Int)%256=((a.val*16+b.val).toUInt8.toNat:Int):=by decide +kernel
 exact key ⟨Txt.half x,by omega⟩ ⟨Txt.half y,by omega⟩
theorem wu {s:ByteArray} (h:(s.toList == [45])=false):s.data.toList≠[45]:=by
 intro e;rw [ByteArray.toList_eq,e] at h;simp at h
theorem Ck {s:ByteArray} (h45:(s.toList == [45])=false) (h0:0<s.size) (h2:s.size%2=0) (hb:s.size≤131072):Txt.cZ s.data.toList=Txt.jO s.data.toList:=by
 have hz:s.data.toList.length=s.size:=by rw [Array.length_toList];rfl
 unfold Txt.cZ;rw [if_neg (wu h45),if_neg];rintro (e | e | e)
 ·rw [e] at hz;simp at hz;omega
 ·omega
 ·omega
theorem Cm {s:ByteArray} (h45:(s.toList == [45])=false) (h0:0<s.size) (h2:s.size%2=0) (hb:s.size≤131072) {l t out:List UInt8} {x y:UInt8}
  (hl:Txt.jO s.data.toList=(Txt.jO l).map (out++·)) (hs:l=x::y::t) (h:Txt.half x=16∨Txt.half y=16):Txt.cZ s.data.toList=none:=by
 rw [Ck h45 h0 h2 hb,hl,hs];unfold Txt.jO;rw [if_pos h];rfl
theorem DataRel.step {s:ByteArray} {w wd w1:World} {k:Nat} {v v':Value} {out:List UInt8} {x y:UInt8} {o:Obj} {z:Int} (D:DataRel s w wd k v out) (hs:s.data.toList.drop (2*k)=x::y::s.data.toList.drop (2*(k+1)))
  (hx:Txt.half x≠16) (hy:Txt.half y≠16) (hz:z=((Txt.half x*16+Txt.half y).toUInt8.toNat:Int))
  (hown:w1.ownsRow w.heap.size 5 1 v' (k+1) ((out.map fun x=>.int .u8 x.toNat)++[.int .u8 z])) (hgrow:(wd.alloc o).grownBy w1 v.ownBlock):DataRel s w w1 (k+1) v' (out++[(Txt.half x*16+Txt.half y).toUInt8]):=by
 refine ⟨by simp [D.len],?_,by rw [List.map_append,List.map_cons,List.map_nil,←hz];exact hown,?_⟩
 ·rw [D.law,hs]
  conv=>lhs;rw [Txt.jO]
  rw [if_neg (fun h=>h.elim hx hy)];simp only [Option.map_map]
  congr 1
  funext l
  simp
 ·refine (D.touch.alloc o).none_.trans' (Touch.bT (S:=fun i=>w.heap.size≤i) hgrow (fun i hi=>(World.ownsRow.lt D.own i hi).1)) (fun i hi h=>by omega)
theorem Oo {s:ByteArray} {w wr:World} {k:Nat} {v:Value} {out:List UInt8} (h45:(s.toList == [45])=false) (h0:0<s.size) (h2:s.size%2=0) (hb:s.size≤131072) (D:DataRel s w wr k v out) (hk:2*k=s.size) :
  Txt.cZ s.data.toList=some out:=by
 have hz:s.data.toList.length=s.size:=by rw [Array.length_toList];rfl
 rw [Ck h45 h0 h2 hb,D.law,List.drop_eq_nil_of_le (by omega)];simp [Txt.jO]
theorem jC {w:World} {base e size n:Nat} {v:Value} {xs:List Value} (h:w.ownsRow base e size v n xs):∃ dp dn dc,v=.slice dp dn dc:=by
 rcases h.2 with ⟨h,_⟩ | ⟨g,cap,cur,h,_⟩
 ·exact ⟨none,0,0,h⟩
 ·exact ⟨_,_,_,h⟩
theorem Le (s:ByteArray) (w:World) (h45:(s.toList == [45])=false) (h0:0<s.size) (h2:s.size%2=0) (hb:s.size≤131072) :
  Calls Tryz.prog 127 #[.string s] w (sS s w):=by
 have hne:=kR s h0;have hr:((s.size:Int)).tmod 2=0:=by rw [Int.tmod_eq_emod_of_nonneg (by omega)];omega
 obtain ⟨i0,hi0,hz0,hz1,hz2⟩:=info_parts info5
 go_enter Tryz.func127,Tryz.ntmps127
 go_wp2_with fail
 go_loopw [4,5] (fun v i wr=>∃ k:Nat,2*k≤s.size∧i=.int .i64 ((2*k:Nat):Int)∧∃ out,DataRel s w wr k v out) (fun _ i _=>s.size-(intOf i).toNat)
 case atStart=>exact ⟨0,by omega,rfl,[],rfl,by simp,World.ownsRow_nil _ _ _ _,Touch.refl _ _⟩
 case round =>
  obtain ⟨k,hk,rfl,out,hD⟩:=hrel;have HD:=Hd hD;clear hD;by_cases hlt:2*k<s.size
  ·have hl1:2*k<s.size:=hlt;have hl2:2*k+1<s.size:=by omega
   have q1:(2*(k:Int)).toNat<s.size:=by omega
   have q2:(2*(k:Int)+1).toNat<s.size:=by omega
   have p0:(0:Int)≤2*(k:Int):=by omega
   have p1:(0:Int)≤2*(k:Int)+1:=by omega
   have p2:2*(k:Int)+1<(s.size:Int):=by omega
   have hw1:IntKind.i64.wrap (2*(k:Int)+1)=2*(k:Int)+1:=IntWalk.i64_in _ (by omega);have HA:=Hd (Rn (s[(2*(k:Int)).toNat]'q1) wr.drew);have HB:=Hd (Rn (s[(2*(k:Int)+1).toNat]'q2) wr.drew);have Lf:=Hd (show DataRel s w wr.drew k u4 out from ⟨HD.out.len,HD.out.law,HD.out.own.drew,HD.out.touch.drew⟩)
   have HS:=Hd (show s.data.toList.drop (2*k)=s[2*k]'hl1::s[2*k+1]'hl2::s.data.toList.drop (2*(k+1)) by
    have hz:s.data.toList.length=s.size:=by rw [Array.length_toList];rfl
    rw [List.drop_eq_getElem_cons (by omega),List.drop_eq_getElem_cons (by omega)];rfl)
   by_cases hx:Txt.half (s[2*k]'hl1)=16
   ·have ha:hf (s[2*k]'hl1)<0:=by unfold hf;rw [if_pos hx];omega
    have HN:=Hd (show Txt.cZ s.data.toList=none from Cm h45 h0 h2 hb HD.out.law HS.out (.inl hx));clear hx
    go_wp2_with fail
    refine wp_region_still_tail 9 (by kernel_rfl) (by kernel_rfl) ?_
    simp only [List.take_succ_cons,List.take_zero,List.drop_succ_cons,List.drop_zero,World.drew_eq]
    repeat still_step
    still_call HA.out
    repeat still_step
    still_call HB.out
    refine wpStill_nil ?_
    go_wp2_with fail
    go_ret2
    exact ⟨none,0,0,by rw [HN.out];rfl,fun d hd=>(by rw [HN.out] at hd;cases hd),Lf.out.touch⟩
   ·have hx':=xL (s[2*k]'hl1);have ha0:0≤hf (s[2*k]'hl1):=by unfold hf;rw [if_neg hx];omega
    have ha:¬hf (s[2*k]'hl1)<0:=by omega
    by_cases hy:Txt.half (s[2*k+1]'hl2)=16
    ·have hbb:hf (s[2*k+1]'hl2)<0:=by unfold hf;rw [if_pos hy];omega
     have HN:=Hd (show Txt.cZ s.data.toList=none from Cm h45 h0 h2 hb HD.out.law HS.out (.inr hy));clear hx hy hx'
     go_wp2_with fail
     refine wp_region_still_tail 9 (by kernel_rfl) (by kernel_rfl) ?_
     simp only [List.take_succ_cons,List.take_zero,List.drop_succ_cons,List.drop_zero,World.drew_eq]
     repeat still_step
     still_call HA.out
     repeat still_step
     still_call HB.out
     refine wpStill_nil ?_
     go_wp2_with fail
     go_ret2
     exact ⟨none,0,0,by rw [HN.out];rfl,fun d hd=>(by rw [HN.out] at hd;cases hd),Lf.out.touch⟩
    ·have hy':=xL (s[2*k+1]'hl2);have hb0:0≤hf (s[2*k+1]'hl2):=by unfold hf;rw [if_neg hy];omega
     have hbb:¬hf (s[2*k+1]'hl2)<0:=by omega
     have HE:=Hd (Tv (s[2*k]'hl1) (s[2*k+1]'hl2) hx hy);have HX:=Hd hx;have HY:=Hd hy;have hko:k≤65536:=by omega
     clear hx hy hx' hy'
     go_wp2_with fail
     refine wp_region_still_tail 9 (by kernel_rfl) (by kernel_rfl) ?_
     simp only [List.take_succ_cons,List.take_zero,List.drop_succ_cons,List.drop_zero,World.drew_eq]
     repeat still_step
     still_call HA.out
     repeat still_step
     still_call HB.out
     refine wpStill_nil ?_
     generalize wr.drew=wd at *;have hsz:w.heap.size≤wd.heap.size:=Lf.out.touch.size
     go_wp2_with (at_builtin;refine wpList_append_own _ rfl _ _ 34 rfl w.heap.size 5 i0 (.int .u8 0) 1 1 Tryz.underlying34 hi0 hz0 hz1 hz2 rfl (by decide) _ _ _ rfl (Lf.out.own.alloc _) ⟨wd.heap.size,0,none⟩ 1 1 [.int .u8 (bits BinOp.or IntKind.i64 (wrap64 (hf (s[2*k]'hl1)*16)) (hf (s[2*k+1]'hl2))%256)] rfl rfl (by intro j u hj;match j,hj with | 0,hj=>simp at hj;subst hj;simp [Addr.add]) (by intro u hu;simp at hu;subst hu;rfl) (by unfold maxLen;omega) (by omega) (by simp;omega) ?_;intro v' w1 hown1 hgrow _)
     have HO:=Hd hown1;have HG:=Hd hgrow;clear hown1 hgrow
     go_wp2_with fail
     go_roundw
     case rel=>exact ⟨k+1,by omega,by go_num,_,Lf.out.step HS.out HX.out HY.out HE.out HO.out HG.out⟩
     case measure=>simp [intOf];omega
  ·have hke:2*k=s.size:=by omega
   have HN:=Hd (Oo h45 h0 h2 hb HD.out hke);obtain ⟨dp,dn,dc,rfl⟩:=jC HD.out.own;have HL:=Hd HD.out.len;clear hke
   go_wp2_with fail
   go_ret2
   refine ⟨dp,dn,dc,by rw [HN.out];rfl,fun d hd=>?_,HD.out.touch⟩;rw [HN.out] at hd;cases hd;rw [HL.out];exact HD.out.own
theorem Lg (s:ByteArray) (w:World) (h45:(s.toList == [45])=true):Calls Tryz.prog 127 #[.string s] w (sS s w):=by
 have HN:=Hd (show Txt.cZ s.data.toList=some [] by
  have e:s.data.toList = [45]:=by rw [←ByteArray.toList_eq];simpa using h45
  unfold Txt.cZ;rw [if_pos e])
 go_enter Tryz.func127,Tryz.ntmps127
 go_wp2_with fail
 go_ret2
 refine ⟨none,0,0,by rw [HN.out];rfl,fun d hd=>?_,Touch.refl _ _⟩;rw [HN.out] at hd;cases hd;exact World.ownsRow_nil _ _ _ _
theorem data_empty (s:ByteArray) (w:World) (h:s.data.toList = []):Calls Tryz.prog 127 #[.string s] w (sS s w):=by
 have h':s.toList = []:=by rw [ByteArray.toList_eq];exact h
 have H:=Hd (show Txt.cZ s.data.toList=none by rw [h];rfl);clear h
 go_enter Tryz.func127,Tryz.ntmps127
 go_wp2_with fail
 go_ret2
 exact ⟨none,0,0,by rw [H.out];rfl,fun d hd=>(by rw [H.out] at hd;cases hd),Touch.refl _ _⟩
theorem Oq (s:ByteArray) (w:World) (h45:(s.toList == [45])=false) (h0:0<s.size) (hs:s.size≤1048576) (h2:s.size%2=1):Calls Tryz.prog 127 #[.string s] w (sS s w):=by
 have hne:=kR s h0;have hz:s.data.toList.length=s.size:=by rw [Array.length_toList];rfl
 have H:=Hd (show Txt.cZ s.data.toList=none by unfold Txt.cZ;rw [if_neg (wu h45),if_pos (.inr (.inl (by omega)))]);have hr:((s.size:Int)).tmod 2=1:=by rw [Int.tmod_eq_emod_of_nonneg (by omega)];omega
 clear h2 hz
 go_enter Tryz.func127,Tryz.ntmps127
 go_wp2_with fail
 go_ret2
 exact ⟨none,0,0,by rw [H.out];rfl,fun d hd=>(by rw [H.out] at hd;cases hd),Touch.refl _ _⟩
theorem Lh (s:ByteArray) (w:World) (h45:(s.toList == [45])=false) (hs:s.size≤1048576) (h2:s.size%2=0) (hl:131072<s.size):Calls Tryz.prog 127 #[.string s] w (sS s w):=by
 have hne:=kR s (by omega);have hz:s.data.toList.length=s.size:=by rw [Array.length_toList];rfl
 have H:=Hd (show Txt.cZ s.data.toList=none by unfold Txt.cZ;rw [if_neg (wu h45),if_pos (.inr (.inr (by omega)))]);have hr:((s.size:Int)).tmod 2=0:=by rw [Int.tmod_eq_emod_of_nonneg (by omega)];omega
 clear h2 hz
 go_enter Tryz.func127,Tryz.ntmps127
 go_wp2_with fail
 go_ret2
 exact ⟨none,0,0,by rw [H.out];rfl,fun d hd=>(by rw [H.out] at hd;cases hd),Touch.refl _ _⟩
theorem Ro (s:ByteArray) (w:World) (hs:s.size≤1048576):Calls Tryz.prog 127 #[.string s] w (sS s w):=by
 cases h45:(s.toList == [45]) with
 | true=>exact Lg s w h45
 | false =>
  by_cases h0:0<s.size
  ·by_cases h2:s.size%2=1
   ·exact Oq s w h45 h0 hs h2
   ·by_cases hl:131072<s.size
    ·exact Lh s w h45 hs (by omega) hl
    ·exact Le s w h45 h0 (by omega) (by omega)
  ·refine data_empty s w ?_
   have hz:s.data.toList.length=s.size:=by rw [Array.length_toList];rfl
   exact List.eq_nil_of_length_eq_zero (by omega)
def Strs (w:World) (g:Nat) (ws:List (List UInt8)) (p:Option Addr) (c:Nat):Prop :=
 ws.length≤c∧(ws≠[]→∃ off,p=some ⟨g,off,none⟩∧∀ i x,ws[i]? = some x→w.cell? ⟨g,off+i,none⟩=some (.string ⟨x.toArray⟩))
theorem Strs.touch {w w':World} {g:Nat} {ws:List (List UInt8)} {p:Option Addr} {c:Nat} {S:Nat→Prop} (h:Strs w g ws p c) (T:Touch S w w') (hg:¬S g):Strs w' g ws p c:=by
 refine ⟨h.1,fun hne=>?_⟩;obtain ⟨off,hp,hc⟩:=h.2 hne;refine ⟨off,hp,fun i x hx=>?_⟩;have:=hc i x hx;rw [T.cell (p:=⟨g,off+i,none⟩) (World.block_lt_of_cell? _ _ this) hg];exact this
theorem Strs.nil (w:World) (g:Nat) (p:Option Addr) (c:Nat):Strs w g [] p c:=⟨Nat.zero_le _,fun h=>absurd rfl h⟩
def U4 (w:World) (W g:Nat) (x:List UInt8) (t:List (List UInt8)) (e:Ending) (w':World):Prop :=
 e=.returned (.string ⟨x.toArray⟩)∧∃ p' c',Strs w g t p' c'∧w'=w.setCell ⟨W,0,none⟩ (.slice p' t.length c')
theorem Ot (W O g c:Nat) (p:Option Addr) (x:List UInt8) (t:List (List UInt8)) (w:World) (hw:w.cell? ⟨W,0,none⟩=some (.slice p (t.length+1) c)) (hwf:w.frozen? ⟨W,0,none⟩=false)
  (hs:Strs w g (x::t) p c):Calls Tryz.prog 124 #[.pointer (some ⟨W,0,none⟩),.pointer (some ⟨O,0,none⟩)] w (U4 w W g x t):=by
 obtain ⟨hn,hc⟩:=hs;obtain ⟨off,rfl,hc2⟩:=hc (by simp);have hn':t.length+1≤c:=by simpa using hn
 have h0:w.cell? ⟨g,off,none⟩=some (.string ⟨x.toArray⟩):=hc2 0 x rfl
 have H1:=Hd (show ∀ i y,t[i]? = some y→w.cell? ⟨g,off+1+i,none⟩=some (.string ⟨y.toArray⟩) from fun i y hy=>by
  have:=hc2 (i+1) y (by simpa using hy);rwa [show off+1+i=off+(i+1) by omega])
 have H2:=Hd hn';obtain ⟨n,hN⟩:∃ n,n=t.length+1:=⟨_,rfl⟩;rw [←hN] at hw hn';have HN:=Hd hN;have hpos:0<n:=by omega
 clear hn hc hc2 hN
 go_enter Tryz.func124,Tryz.ntmps124
 go_wp2_with fail
 ·go_ret
  have e:n-1=t.length:=by have:=HN.out;omega
  rw [e];refine ⟨rfl,_,_,⟨by have:=HN.out;omega,fun hne=>?_⟩,rfl⟩;have:=List.length_pos_iff.2 hne;have:=HN.out;omega
 ·go_ret
  have e:n-1=t.length:=by have:=HN.out;omega
  rw [e];exact ⟨rfl,_,_,⟨by have:=HN.out;omega,fun _=>⟨off+1,rfl,H1.out⟩⟩,rfl⟩
theorem nY (W O c:Nat) (p:Option Addr) (v:Value) (w:World) (hw:w.cell? ⟨W,0,none⟩=some (.slice p 0 c)) (ho:w.cell? ⟨O,0,none⟩=some v) (hof:w.frozen? ⟨O,0,none⟩=false) :
  Calls Tryz.prog 124 #[.pointer (some ⟨W,0,none⟩),.pointer (some ⟨O,0,none⟩)] w fun e w'=>e=.returned (.string ⟨#[]⟩)∧w'=w.setCell ⟨O,0,none⟩ (.bool false):=by
 go_enter Tryz.func124,Tryz.ntmps124
 go_wp2_with fail
 go_ret
 trivial
def bq (k:Nat):Txt.Form:=Txt.bq.getD k ⟨false,0,false,false⟩
def dJ (k:Nat):List UInt8:=Txt.opWords.getD k []
def Ib (k:Nat):List Value:=[.string ⟨(dJ k).toArray⟩,.bool (bq k).address,.int .i64 (bq k).numbers,.bool (bq k).data,.bool (bq k).refused]
def mR:Array Value:=#[.string ⟨#[109,97,108,108,111,99]⟩,.bool false,.int .i64 1,.bool false,.bool true,.string ⟨#[99,97,108,108,111,99]⟩,.bool false,.int .i64 2,.bool false,.bool true,.string ⟨#[97,108,105,103,110,101,100]⟩,.bool false,.int .i64 2,.bool false,.bool true,.string ⟨#[114,101,97,108,108,111,99]⟩,.bool true,.int .i64 1,.bool false,.bool true,.string ⟨#[102,114,101,101]⟩,.bool true,.int .i64 0,.bool false,.bool false,.string ⟨#[117,115,97,98,108,101]⟩,.bool true,.int .i64 0,.bool false,.bool false,.string ⟨#[108,111,97,100]⟩,.bool true,.int .i64 0,.bool false,.bool false,.string ⟨#[115,116,111,114,101]⟩,.bool true,.int .i64 1,.bool false,.bool false,.string ⟨#[108,111,97,100,119,111,114,100]⟩,.bool true,.int .i64 0,.bool false,.bool false,.string ⟨#[115,116,111,114,101,119,111,114,100]⟩,.bool true,.int .i64 1,.bool false,.bool false,.string ⟨#[114,101,97,100]⟩,.bool true,.int .i64 1,.bool false,.bool false,.string ⟨#[119,114,105,116,101]⟩,.bool true,.int .i64 0,.bool true,.bool false,.string ⟨#[116,114,105,109]⟩,.bool false,.int .i64 0,.bool false,.bool false,.string ⟨#[115,116,97,116,115]⟩,.bool false,.int .i64 0,.bool false,.bool false]
def U5 (w:World) (e:Ending) (w':World):Prop :=
 ∃ g,w.heap.size≤g∧e=.returned (.slice (some ⟨g,0,none⟩) 14 14)∧aC w' g 148 mR.toList∧Touch Nothing w w'
theorem U6 (w:World):Calls Tryz.prog 76 #[] w (U5 w):=by
 have H:=Hd (show aC (w.alloc (.cells #[.string ⟨#[109,97,108,108,111,99]⟩,.bool false,.int .i64 1,.bool false,.bool true,.string ⟨#[99,97,108,108,111,99]⟩,.bool false,.int .i64 2,.bool false,.bool true,.string ⟨#[97,108,105,103,110,101,100]⟩,.bool false,.int .i64 2,.bool false,.bool true,.string ⟨#[114,101,97,108,108,111,99]⟩,.bool true,.int .i64 1,.bool false,.bool true,.string ⟨#[102,114,101,101]⟩,.bool true,.int .i64 0,.bool false,.bool false,.string ⟨#[117,115,97,98,108,101]⟩,.bool true,.int .i64 0,.bool false,.bool false,.string ⟨#[108,111,97,100]⟩,.bool true,.int .i64 0,.bool false,.bool false,.string ⟨#[115,116,111,114,101]⟩,.bool true,.int .i64 1,.bool false,.bool false,.string ⟨#[108,111,97,100,119,111,114,100]⟩,.bool true,.int .i64 0,.bool false,.bool false,.string ⟨#[115,116,111,114,101,119,111,114,100]⟩,.bool true,.int .i64 1,.bool false,.bool false,.string ⟨#[114,101,97,100]⟩,.bool true,.int .i64 1,.bool false,.bool false,.string ⟨#[119,114,105,116,101]⟩,.bool true,.int .i64 0,.bool true,.bool false,.string ⟨#[116,114,105,109]⟩,.bool false,.int .i64 0,.bool false,.bool false,.string ⟨#[115,116,97,116,115]⟩,.bool false,.int .i64 0,.bool false,.bool false] 148)) w.heap.size 148 mR.toList from aC.new w mR 148)
 go_enter Tryz.func76,Tryz.ntmps76
 go_wp2_with fail
 go_ret
 exact ⟨w.heap.size,Nat.le_refl _,rfl,H.out,(Touch.refl _ _).alloc _⟩
theorem Ou (k:Nat) (hk:k<14) (j:Nat) (hj:j<5):mR.toList[k*5+j]? = (Ib k)[j]? := by
 match k,hk,j,hj with
 | 0,_,0,_=>rfl
 | 0,_,1,_=>rfl
 | 0,_,2,_=>rfl
 | 0,_,3,_=>rfl
 | 0,_,4,_=>rfl
 | 1,_,0,_=>rfl
 | 1,_,1,_=>rfl
 | 1,_,2,_=>rfl
 | 1,_,3,_=>rfl
 | 1,_,4,_=>rfl
 | 2,_,0,_=>rfl
 | 2,_,1,_=>rfl
 | 2,_,2,_=>rfl
 | 2,_,3,_=>rfl
 | 2,_,4,_=>rfl
 | 3,_,0,_=>rfl
 | 3,_,1,_=>rfl
 | 3,_,2,_=>rfl
 | 3,_,3,_=>rfl
 | 3,_,4,_=>rfl
 | 4,_,0,_=>rfl
 | 4,_,1,_=>rfl
 | 4,_,2,_=>rfl
 | 4,_,3,_=>rfl
 | 4,_,4,_=>rfl
 | 5,_,0,_=>rfl
 | 5,_,1,_=>rfl
 | 5,_,2,_=>rfl
 | 5,_,3,_=>rfl
 | 5,_,4,_=>rfl
 | 6,_,0,_=>rfl
 | 6,_,1,_=>rfl
 | 6,_,2,_=>rfl
 | 6,_,3,_=>rfl
 | 6,_,4,_=>rfl
 | 7,_,0,_=>rfl
 | 7,_,1,_=>rfl
 | 7,_,2,_=>rfl
 | 7,_,3,_=>rfl
 | 7,_,4,_=>rfl
 | 8,_,0,_=>rfl
 | 8,_,1,_=>rfl
 | 8,_,2,_=>rfl
 | 8,_,3,_=>rfl
 | 8,_,4,_=>rfl
 | 9,_,0,_=>rfl
 | 9,_,1,_=>rfl
 | 9,_,2,_=>rfl
 | 9,_,3,_=>rfl
 | 9,_,4,_=>rfl
 | 10,_,0,_=>rfl
 | 10,_,1,_=>rfl
 | 10,_,2,_=>rfl
 | 10,_,3,_=>rfl
 | 10,_,4,_=>rfl
 | 11,_,0,_=>rfl
 | 11,_,1,_=>rfl
 | 11,_,2,_=>rfl
 | 11,_,3,_=>rfl
 | 11,_,4,_=>rfl
 | 12,_,0,_=>rfl
 | 12,_,1,_=>rfl
 | 12,_,2,_=>rfl
 | 12,_,3,_=>rfl
 | 12,_,4,_=>rfl
 | 13,_,0,_=>rfl
 | 13,_,1,_=>rfl
 | 13,_,2,_=>rfl
 | 13,_,3,_=>rfl
 | 13,_,4,_=>rfl
theorem oM {w:World} {g:Nat} (B:aC w g 148 mR.toList) (k:Nat) (hk:k<14) (j:Nat) (hj:j<5):w.cell? ⟨g,k*5+j,none⟩=(Ib k)[j]? := by
 rw [B.cell];exact Ou k hk j hj
theorem Cn (c:UInt8) (s:List UInt8):∀ x∈Txt.aW c s,x.length≤s.length:=by
 induction s with
 | nil=>intro x hx;simp [Txt.aW] at hx;simp [hx]
 | cons y s ih =>
  intro x hx;unfold Txt.aW at hx;split at hx
  ·rcases List.mem_cons.1 hx with h | h
   ·simp [h]
   ·have:=ih x h;simp;omega
  ·split at hx
   ·rename_i he
    simp at hx;simp [hx]
   ·rename_i v ws he
    rw [he] at ih;rcases List.mem_cons.1 hx with h | h
    ·have:=ih v (by simp);simp [h];omega
    ·have:=ih x (by simp [h]);simp;omega
theorem rA (c:UInt8) (s:List UInt8):Txt.aW c s≠[]:=by
 cases s with
 | nil=>simp [Txt.aW]
 | cons y s =>
  unfold Txt.aW;split
  ·simp
  ·split <;> simp
def zM (c:UInt8) (l:List UInt8) (w:World) (e:Ending) (w':World):Prop :=
 ∃ g,w.heap.size≤g∧e=.returned (.slice (some ⟨g,0,none⟩) (Txt.aW c l).length (Txt.aW c l).length)∧Strs w' g (Txt.aW c l) (some ⟨g,0,none⟩) (Txt.aW c l).length∧g<w'.heap.size∧Touch Nothing w w'
theorem Et (c:UInt8) (s:ByteArray) (w:World) (hs:s.size≤1048576) (G:bU w):Calls Tryz.prog 31 #[.string s,.string ⟨#[c]⟩] w (zM c s.data.toList w):=by
 obtain ⟨m,hm⟩:=G.most;refine (Tryz.strings_Split s ⟨#[c]⟩ m w (by omega) hm (Nat.le_refl 1)).mono ?_
 rintro e w' ⟨rfl,rfl⟩;obtain ⟨h1,h2⟩:=Txt.KY c s.data.toList;have hc:Lib.countB s ⟨#[c]⟩=Lib.count s.data.toList [c]:=rfl;have hd:=Lib.splitB_data ⟨#[c]⟩ 0 (Lib.countB s ⟨#[c]⟩) s;rw [hc,h1] at hd;rw [hc,h2];refine ⟨w.heap.size,Nat.le_refl _,rfl,⟨Nat.le_refl _,fun _=>⟨0,rfl,fun i x hx=>?_⟩⟩,by simp,(Touch.refl _ _).alloc _⟩;have B:=aC.new w (List.map Value.string (Lib.splitB ⟨#[c]⟩ 0 (Lib.count s.data.toList [c]) s)).toArray 9;rw [show (0:Nat)+i=i by omega,B.cell];rw [←hd,List.getElem?_map,Option.map_eq_some_iff] at hx;obtain ⟨b,hb,rfl⟩:=hx;simp [hb]
end Go.Proofs.YtnjcmcnjgdjbiaaGreatDoor
