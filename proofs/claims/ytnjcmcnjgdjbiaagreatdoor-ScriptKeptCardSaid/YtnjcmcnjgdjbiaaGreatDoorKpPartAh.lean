/- Conditions: as each theorem states. -/
import Derived.Test.YtnjcmcnjgdjbiaaGreatDoorKpPartAg
set_option maxRecDepth 100000
set_option maxHeartbeats 2000000
namespace Go.Proofs.YtnjcmcnjgdjbiaaGreatDoor
def low (a k:Nat):Nat:=a/2^(k+1)*2^(k+1)
theorem zh {a k:Nat} (h:2^k∣a):(∀ y,(Inb a k y∨Inb (dM a k) k y)↔Inb (low a k) (k+1) y)∧2^(k+1)∣low a k∧2^k∣dM a k∧dM a k/2^(k+1)=a/2^(k+1)∧dM a k≠a:=by
 have hd:=zf k (a/2^(k+1));have hp:2^(k+1)=2*2^k:=by rw [Nat.pow_succ,Nat.mul_comm]
 have hl:low a k=2*(a/2^(k+1))*2^k:=by
  unfold low
  conv=>lhs;rw [show a/2^(k+1)*2^(k+1)=a/2^(k+1)*(2*2^k) by rw [←hp]]
  rw [←Nat.mul_assoc,Nat.mul_comm _ 2]
 have hne:=BK k (a/2^(k+1));have p0:=fF k;rcases wN h with ⟨e,_⟩ | ⟨e,_⟩
 ·generalize a/2^(k+1)=q at *;subst e;rw [BL];refine ⟨fun y=>?_,Nat.dvd_mul_left _ _,Nat.dvd_mul_left _ _,hd.2,fun x=>hne x.symm⟩;rw [hl];unfold Inb;rw [hp,Nat.add_mul,Nat.one_mul];omega
 ·generalize a/2^(k+1)=q at *;subst e;rw [xX];refine ⟨fun y=>?_,Nat.dvd_mul_left _ _,Nat.dvd_mul_left _ _,hd.1,hne⟩;rw [hl];unfold Inb;rw [hp,Nat.add_mul,Nat.one_mul];omega
def Bu.kN:Nat→Bu→(Nat→List Nat)→Nat→Nat→Bu × (Nat→List Nat)
 | 0,β,F,a,k=>((β.enter a k).turned a k,upd F k (a::F k))
 | f+1,β,F,a,k =>
  if dM a k∈F k then Bu.kN f ((β.bZ k (dM a k)).turned (dM a k) k) (upd F k ((F k).erase (dM a k))) (low a k) (k+1)
  else ((β.enter a k).turned a k,upd F k (a::F k))
theorem BInv.up {β:Bu} {F:Nat→List Nat} {a k:Nat} (I:BInv β F (Inb a k)) (hk:k<β.μ.order) (al:2^k∣a) (hm:dM a k∈F k) :
  BInv ((β.bZ k (dM a k)).turned (dM a k) k) (upd F k ((F k).erase (dM a k))) (Inb (low a k) (k+1)) ∧
  Keeps β ((β.bZ k (dM a k)).turned (dM a k) k) (bE β.μ.order F (Inb a k)) ∧
  ∀ y,bE β.μ.order (upd F k ((F k).erase (dM a k))) (Inb (low a k) (k+1)) y↔bE β.μ.order F (Inb a k) y:=by
 obtain ⟨I1,K1,U1⟩:=I.bZ (by omega) hm;have hj:=(zh al).1;have hfun:(fun y=>Inb a k y∨Inb (dM a k) k y)=Inb (low a k) (k+1):=funext fun y=>propext (hj y)
 rw [hfun] at I1 U1;exact ⟨I1,K1,U1⟩
theorem BInv.give:∀ (f:Nat) {β:Bu} {F:Nat→List Nat} {a k:Nat},BInv β F (Inb a k)→k+f=β.μ.order→2^k∣a →
  BInv (Bu.kN f β F a k).1 (Bu.kN f β F a k).2 aH∧Keeps β (Bu.kN f β F a k).1 (bE β.μ.order F (Inb a k)) ∧
  ∀ y,bE β.μ.order (Bu.kN f β F a k).2 aH y↔bE β.μ.order F (Inb a k) y:=by
 intro f
 have last:∀ {β:Bu} {F:Nat→List Nat} {a k:Nat},BInv β F (Inb a k)→k≤β.μ.order→2^k∣a→(k<β.μ.order→dM a k∉F k) →
   BInv ((β.enter a k).turned a k) (upd F k (a::F k)) aH∧Keeps β ((β.enter a k).turned a k) (bE β.μ.order F (Inb a k))∧∀ y,bE β.μ.order (upd F k (a::F k)) aH y↔bE β.μ.order F (Inb a k) y:=by
  intro β F a k I hk al hm;obtain ⟨I1,K1,U1⟩:=I.attach hk al (fun _ h=>h) hm;have hfun:(fun y=>Inb a k y∧¬Inb a k y)=aH:=funext fun y=>propext ⟨fun h=>h.2 h.1,fun h=>h.elim⟩
  rw [hfun] at I1 U1;exact ⟨I1,K1,U1⟩
 induction f with
 | zero =>
  intro β F a k I hf al;exact last I (by omega) al (fun h=>by omega)
 | succ f ih =>
  intro β F a k I hf al;unfold Bu.kN;split
  ·next hm =>
   obtain ⟨I1,K1,U1⟩:=I.up (by omega) al hm;obtain ⟨I2,K2,U2⟩:=ih I1 (by rw [K1.order];omega) (zh al).2.1;rw [K1.order] at K2 U2;exact ⟨I2,K1.trans K2 (fun x hx=>(U1 x).1 hx),fun y=>(U2 y).trans (U1 y)⟩
  ·next hm=>exact last I (by omega) al (fun _=>hm)
def Bu.given (β:Bu) (F:Nat→List Nat) (a k:Nat):Bu:=(Bu.kN (β.μ.order-k) β F a k).1
theorem BInv.given {β:Bu} {F:Nat→List Nat} {H:Nat→Prop} {a k:Nat} (I:BInv β F H) (hH:∀ y,H y↔Inb a k y) (hk:k≤β.μ.order) (al:2^k∣a) :
  BInv (β.given F a k) (Bu.kN (β.μ.order-k) β F a k).2 aH∧Keeps β (β.given F a k) (bE β.μ.order F H)∧∀ y,bE β.μ.order (Bu.kN (β.μ.order-k) β F a k).2 aH y↔bE β.μ.order F H y:=by
 obtain rfl:H=Inb a k:=funext fun y=>propext (hH y)
 exact BInv.give _ I (by omega) al
theorem BInv.shrink {β:Bu} {F:Nat→List Nat} (I:BInv β F aH) (hs:β.Has) {i j o:Nat} (lo:o≤j) (hj:j≤β.μ.order) (hB:bf β.μ.pages i j 2) :
  (∀ m',m'<j-o→xM (β.gJ i j m') (i+2^(j-1-m')) (j-1-m'))∧BInv (β.cut i j o) (qP F i j (j-o)) aH∧Keeps β (β.cut i j o) (bE β.μ.order F (Inb i j)) ∧
  bf (β.cut i j o).μ.pages i o 2∧(∀ y,bE β.μ.order (qP F i j (j-o)) aH y↔bE β.μ.order F (Inb i j) y∧¬Inb i o y)∧(∀ y,Inb i j y→¬bE β.μ.order F aH y):=by
 have I1:=I.mH hB;have hH:(fun y=>aH y∨Inb i j y)=Inb i j:=funext fun y=>propext ⟨fun h=>h.resolve_left id,.inr⟩
 rw [hH] at I1;obtain ⟨I2,K2,U2,C2⟩:=I1.gJ hj hB.al hs (j-o) (by omega);rw [show j-(j-o)=o by omega] at I2 U2;have RQ:2^o∣i:=Nat.dvd_trans (Nat.pow_dvd_pow 2 lo) hB.al;have ho2:=K2.order;obtain ⟨I3,K3,B3⟩:=I2.live (a:=i) (k:=o) (by rw [ho2];omega) RQ (fun _ h=>h);have hH3:(fun y=>Inb i o y∧¬Inb i o y)=aH:=funext fun y=>propext ⟨fun h=>h.2 h.1,fun h=>h.elim⟩
 rw [hH3] at I3;refine ⟨C2,I3,K2.trans K3 (fun x hx=>(U2 x).1 (.inl hx)),B3,?_,?_⟩
 ·intro y;have h2:=U2 y;constructor
  ·rintro (h | h)
   ·exact h.elim
   ·refine ⟨h2.1 (.inr h),fun hy=>?_⟩;obtain ⟨k,hk,x,hx,hxy⟩:=h;exact I2.apart k (by rw [ho2];exact hk) x hx y hy hxy
  ·rintro ⟨h,hy⟩;rcases h2.2 h with h | h
   ·exact (hy h).elim
   ·exact .inr h
 ·rintro y hy (h | ⟨k,hk,x,hx,hxy⟩)
  ·exact h
  ·have:=(I.free k hk x hx).same hB hxy hy;omega
theorem BInv.AO {β:Bu} {F:Nat→List Nat} (I:BInv β F aH) {x:Nat} {p:Pg} (hx:β.μ.pages[x]? = some p):(bE β.μ.order F aH x↔p.kind=0∨p.kind=1):=by
 have hl:=(List.getElem?_eq_some_iff.1 hx).1;constructor
 ·rintro (h | ⟨k,hk,h,hh,hxh⟩)
  ·exact h.elim
  ·have e:=Option.some.inj (hx.symm.trans ((I.free k hk h hh).page hxh));rw [e];simp only [bK,aD];split <;> simp
 ·intro hp;rcases I.uW x hl id with h | ⟨a,k,hk,hb,hy,_⟩ | ⟨q,hq,hq4,_⟩
  ·exact .inr h
  ·have e:=Option.some.inj (hx.symm.trans (hb.page hy));rw [e] at hp;simp only [bK,aD] at hp;split at hp <;> omega
  ·have e:=Option.some.inj (hx.symm.trans hq);rw [e] at hp;omega
theorem BInv.Po {β:Bu} {F:Nat→List Nat} (I:BInv β F aH) {x:Nat} {p:Pg} (hx:β.μ.pages[x]? = some p) (hp:p.kind=0):∃ k,k≤β.μ.order∧x∈F k∧p.order=k:=by
 rcases (I.AO hx).2 (.inl hp) with h | ⟨k,hk,h,hh,hxh⟩
 ·exact h.elim
 ·have e:=Option.some.inj (hx.symm.trans ((I.free k hk h hh).page hxh))
  have e0:x-h=0:=by
   rw [e] at hp;simp only [bK,aD] at hp;split at hp <;> omega
  have:x=h:=by have:=hxh.1;omega
  subst this;exact ⟨k,hk,hh,by rw [e];rfl⟩
theorem BInv.isLive {β:Bu} {F:Nat→List Nat} (I:BInv β F aH) {x:Nat} {p:Pg} (hx:β.μ.pages[x]? = some p) (hp:p.kind=2∨p.kind=3):∃ a k,k≤β.μ.order∧bf β.μ.pages a k 2∧Inb a k x∧p.order=k∧a=x/2^k*2^k∧(p.kind=2↔x=a):=by
 have hl:=(List.getElem?_eq_some_iff.1 hx).1;rcases I.uW x hl id with h | ⟨a,k,hk,hb,hy,_⟩ | ⟨q,hq,hq4,_⟩
 ·have:=(I.AO hx).1 (.inr h);omega
 ·have e:=Option.some.inj (hx.symm.trans (hb.page hy));refine ⟨a,k,hk,hb,hy,by rw [e];rfl,JE hb.al hy,?_⟩;rw [e];have:=hy.1;simp only [bK,aD];split <;> omega
 ·have e:=Option.some.inj (hx.symm.trans hq);rw [e] at hp;omega
def Bu.pulled (β:Bu) (x:Nat):Bu:={ β.bZ β.μ.order x with μ:=β.μ.run x β.μ.order 2 }
theorem BInv.pull {β:Bu} {F:Nat→List Nat} (I:BInv β F aH) {x:Nat} (hx:x∈F β.μ.order) :
  BInv (β.pulled x) (upd F β.μ.order ((F β.μ.order).erase x)) aH ∧
  Keeps β (β.pulled x) (bE β.μ.order F aH)∧bf (β.μ.run x β.μ.order 2).pages x β.μ.order 2 ∧
  (∀ y,bE β.μ.order (upd F β.μ.order ((F β.μ.order).erase x)) aH y↔bE β.μ.order F aH y∧¬Inb x β.μ.order y):=by
 obtain ⟨I1,K1,U1⟩:=I.bZ (Nat.le_refl _) hx
 have ht:(β.bZ β.μ.order x).turned x β.μ.order=β.bZ β.μ.order x:=by
  have:=uY (β.bZ β.μ.order x) x;rwa [jG] at this
 rw [ht] at I1 K1;have hH:(fun y=>aH y∨Inb x β.μ.order y)=Inb x β.μ.order:=funext fun y=>propext ⟨fun h=>h.resolve_left id,.inr⟩
 rw [hH] at I1 U1;have al:=(I.free _ (Nat.le_refl _) x hx).al;obtain ⟨I3,K3,B3⟩:=I1.live (a:=x) (k:=β.μ.order) (by rw [jG];exact Nat.le_refl _) al (fun _ h=>h);rw [jG] at I3 K3 B3;have hH3:(fun y=>Inb x β.μ.order y∧¬Inb x β.μ.order y)=aH:=funext fun y=>propext ⟨fun h=>h.2 h.1,fun h=>h.elim⟩
 rw [hH3] at I3;refine ⟨I3,K1.trans K3 (fun y hy=>(U1 y).1 (.inl hy)),B3,fun y=>?_⟩;have h2:=U1 y;constructor
 ·rintro (h | h)
  ·exact h.elim
  ·refine ⟨h2.1 (.inr h),fun hy=>?_⟩;obtain ⟨k,hk,z,hz,hzy⟩:=h;exact I1.apart k (by rw [jG];exact hk) z hz y hy hzy
 ·rintro ⟨h,hy⟩;rcases h2.2 h with h | h
  ·exact (hy h).elim
  ·exact .inr h
def Mp.shrink (μ:Mp):Mp:=Mp.paired { μ with pages:=μ.pages.take (μ.pages.length-2^μ.order) }
theorem qc (μ:Mp) {x:Nat} (h:x<μ.pages.length-2^μ.order):μ.shrink.pages[x]? = μ.pages[x]? := by
 unfold Mp.shrink;rw [(Mp.gu _).1];exact List.getElem?_take_of_lt h
theorem vk (μ:Mp):μ.shrink.pages.length=μ.pages.length-2^μ.order∧μ.shrink.order=μ.order:=by
 unfold Mp.shrink;rw [(Mp.gu _).1,(Mp.gu _).2];exact ⟨by simp,rfl⟩
theorem BInv.drop {β:Bu} {F:Nat→List Nat} (I:BInv β F aH) (hB:bf β.μ.pages (β.μ.pages.length-2^β.μ.order) β.μ.order 2):BInv { β with σ:=β.σ.less,μ:=β.μ.shrink } F aH:=by
 obtain ⟨hl,ho⟩:=vk β.μ;have hle:=hB.le;have p0:=fF β.μ.order;have hge:2^β.μ.order≤β.μ.pages.length:=Nat.le_of_dvd (by omega) I.full;have hfull:2^β.μ.order∣β.μ.pages.length-2^β.μ.order:=Nat.dvd_sub I.full (Nat.dvd_refl _)
 -- what is not the top region lies below it
 have hbel:∀ {a k:Nat} {kd:Int},bf β.μ.pages a k kd→(a≠β.μ.pages.length-2^β.μ.order∨k≠β.μ.order∨kd≠2)→a+2^k≤β.μ.pages.length-2^β.μ.order:=by
  intro a k kd hb hne;have h1:=hb.le;have p1:=fF k;refine Classical.byContradiction (fun hc=>?_);have:=hb.same hB (x:=a+2^k-1) ⟨by omega,by omega⟩ ⟨by omega,by omega⟩;omega
 have hfr:∀ k,k≤β.μ.order→∀ i∈F k,i+2^k≤β.μ.pages.length-2^β.μ.order:=fun k hk i hi=>hbel (I.free k hk i hi) (.inr (.inr (by omega)))
 have vg:∀ k,k<β.μ.order→β.μ.shrink.pairs.getD k ⟨0,[]⟩=reset (β.μ.pages.length-2^β.μ.order) k (β.μ.pairs.getD k ⟨0,[]⟩):=by
  intro k hk;have:=yM { β.μ with pages:=β.μ.pages.take (β.μ.pages.length-2^β.μ.order) } k hk I.yL;unfold Mp.shrink;rw [this];simp
 constructor
 ·show β.μ.shrink.order≤8;rw [ho];exact I.ord
 ·show β.heads.length=β.μ.shrink.order+1;rw [ho];exact I.heads
 ·show β.μ.shrink.pairs.length=β.μ.shrink.order
  rw [ho];unfold Mp.shrink;rw [AJ];exact I.yL
 ·exact I.base
 ·show β.σ.base+4096*β.μ.shrink.pages.length<_;rw [hl];have:=I.top;omega
 ·show 2^β.μ.shrink.order∣β.μ.shrink.pages.length;rw [ho,hl];exact hfull
 ·intro x hx;exact hx.elim
 ·show ∀ k,k≤β.μ.shrink.order→DL β.σ.less β.σ.base 0 _ _
  rw [ho];exact fun k hk=>DL.congr (σ:=β.σ) (fun i hi=>⟨rfl,rfl⟩) (I.lists k hk)
 ·show ∀ k,k≤β.μ.shrink.order→_;rw [ho];exact I.nodup
 ·show ∀ k,k≤β.μ.shrink.order→∀ i∈F k,bf β.μ.shrink.pages i k 0
  rw [ho];exact fun k hk i hi=>(I.free k hk i hi).far (fun x hx=>qc β.μ (by have:=hfr k hk i hi;have:=hx.2;omega))
 ·intro k _ i _ x hx;exact hx.elim
 ·show ∀ x,x<β.μ.shrink.pages.length→¬aH x→(∃ k,k≤β.μ.shrink.order∧_)∨wM β.μ.shrink.order β.μ.shrink.pages aH x
  rw [ho,hl];intro x hx hnx;rcases I.uW x (by omega) hnx with h1 | ⟨a,k,hk,hb,hy,hap⟩ | ⟨p,hp1,hp2⟩
  ·exact .inl h1
  ·refine .inr (.inl ⟨a,k,hk,hb.far (fun y hy'=>qc β.μ ?_),hy,hap⟩)
   have:a+2^k≤β.μ.pages.length-2^β.μ.order:=by
    refine hbel hb ?_
    have:=hy.1;omega
   have:=hy'.2;omega
  ·exact .inr (.inr ⟨p,(qc β.μ hx).trans hp1,hp2⟩)
 ·show ∀ k,k<β.μ.shrink.order→(β.μ.shrink.pairs.getD k _).n=β.μ.shrink.pages.length/_
  rw [ho,hl];intro k hk;rw [vg k hk];rfl
 ·show ∀ k,k<β.μ.shrink.order→(β.μ.shrink.pairs.getD k _).ws.length=((β.μ.shrink.pairs.getD k _).n+63)/64
  rw [ho];intro k hk;rw [vg k hk];exact uZ _ _
 ·show ∀ k,k<β.μ.shrink.order→∀ q,eZ (β.μ.shrink.pairs.getD k _).ws q=_
  rw [ho];intro k hk q;rw [vg k hk];exact I.fit hfull (fun k hk i hi=>by have:=hfr k hk i hi;have:=fF k;omega) k hk q
 ·show ∀ k,k<β.μ.shrink.order→_;rw [ho];exact I.merged
theorem Mq {base limit order:Nat} (hb:0<base) (ho:order≤8) (ht:base<18446744073709551616):BInv (Bu.fresh base limit order) (fun _=>[]) aH:=by
 have hpr:∀ k,k<order→(List.replicate order jf).getD k ⟨0,[]⟩=jf:=by
  intro k hk;rw [List.getD_eq_getElem?_getD,List.getElem?_replicate,if_pos hk];rfl
 refine ⟨ho,by simp [Bu.fresh,lH],by simp [Bu.fresh,lH],hb,?_,⟨0,rfl⟩,fun _ h=>h.elim,?_,fun _ _=>List.nodup_nil,fun _ _ _ h=>by simp at h,fun _ _ _ h=>by simp at h,?_,?_,?_,?_,fun _ _ _ h=>by simp at h⟩
 ·show base+4096*0<_;omega
 ·intro k hk
  show (List.replicate (order+1) 0).getD k 0=0
  rw [List.getD_eq_getElem?_getD,List.getElem?_replicate];split <;> rfl
 ·intro x hx;exact absurd hx (Nat.not_lt_zero _)
 ·intro k hk
  show ((List.replicate order jf).getD k ⟨0,[]⟩).n=0/_
  rw [hpr k hk];simp [jf]
 ·intro k hk
  show ((List.replicate order jf).getD k ⟨0,[]⟩).ws.length=(((List.replicate order jf).getD k ⟨0,[]⟩).n+63)/64
  rw [hpr k hk];exact uZ [] 0
 ·intro k hk q
  show eZ ((List.replicate order jf).getD k ⟨0,[]⟩).ws q=_
  rw [hpr k hk]
  show eZ (oN [] 0) q=_
  rw [CO];simp
def PL (N P:Nat→Int):Int→Int→List Nat→Prop
 | _,h,[]=>h = -1
 | pr,h,i::t=>h=i∧P i=pr∧PL N P i (N i) t
theorem PL.congr {N P N' P':Nat→Int}:∀ {l:List Nat} {pr h:Int},(∀ i∈l,N' i=N i∧P' i=P i)→PL N P pr h l→PL N' P' pr h l
 | [],_,_,_,D=>D
 | i::t,pr,h,H,D=>by
  obtain ⟨h1,h2⟩:=H i (by simp);refine ⟨D.1,h2.trans D.2.1,?_⟩;rw [h1];exact PL.congr (fun j hj=>H j (by simp [hj])) D.2.2
theorem PL.Aw {N P N' P':Nat→Int} {pr pr' h:Int}:∀ {l:List Nat},(∀ i∈l,N' i=N i)→(∀ i∈l.tail,P' i=P i)→(∀ i∈l.head?,P' i=pr')→PL N P pr h l→PL N' P' pr' h l
 | [],_,_,_,D=>D
 | i::t,hn,hp,hh,D=>by
  refine ⟨D.1,hh i (by simp),?_⟩;rw [hn i (by simp)];exact PL.congr (fun j hj=>⟨hn j (by simp [hj]),hp j (by simpa using hj)⟩) D.2.2
def qQ:List Nat→Int
 | []=>-1
 | f::_=>f
def Mr (pr:Int) (l:List Nat):Int:=match l.getLast? with | none=>pr | some y=>(y:Int)
theorem og {pr:Int} {y:Nat} {l:List Nat} (h:l.getLast? = some y):Mr pr l=y:=by unfold Mr;rw [h]
theorem PL.nL {N P:Nat→Int} {x:Nat} {t:List Nat}:∀ {a:List Nat} {pr h:Int},PL N P pr h (a++x::t)→P x=Mr pr a
 | [],_,_,D=>D.2.1
 | [y],_,_,D=>D.2.2.2.1
 | y::z::a,pr,h,D=>by
  have:=PL.nL (a:=z::a) D.2.2;obtain ⟨u,hu⟩:=j3 (l:=z::a) (by simp);rw [this,og hu,og ((List.getLast?_cons_cons).trans hu)]
theorem PL.lZ {N P:Nat→Int} {x:Nat} {t:List Nat}:∀ {a:List Nat} {pr h:Int},PL N P pr h (a++x::t)→N x=qQ t
 | [],_,_,D=>by
  have D:=D.2.2;cases t with
  | nil=>exact D
  | cons y t=>exact D.1
 | _::a,_,_,D=>PL.lZ (a:=a) D.2.2
theorem PL.remove {N P N' P':Nat→Int} {x:Nat} {t:List Nat}:∀ {a:List Nat} {pr h:Int},PL N P pr h (a++x::t)→(a++x::t).Nodup→(pr = -1∨∃ q:Nat,pr=q∧q∉a++x::t) →
  (∀ j∈a++t,N' j=if (j:Int)=P x then N x else N j)→(∀ j∈a++t,P' j=if (j:Int)=N x then P x else P j)→PL N' P' pr (if a = [] then N x else h) (a++t)
 | [],pr,h,D,M,hq,hN,hP=>by
  have hn:=D.lZ (a:=[]);have hp:P x=pr:=D.2.1;simp only [if_true,List.nil_append] at *;simp only [List.nodup_cons] at M;refine PL.Aw (fun i hi=>?_) (fun i hi=>?_) (fun i hi=>?_) D.2.2
  ·rw [hN i hi,if_neg];intro e;rcases hq with e0 | ⟨q,eq,hq⟩
   ·omega
   ·have:q=i:=by omega
    exact hq (by simp [this,hi])
  ·cases t with
   | nil=>simp at hi
   | cons y t =>
    have hi':i∈t:=by simpa using hi
    rw [hP i (by simp [hi']),if_neg];intro e;have hn:N x=(y:Int):=hn;have:y=i:=by omega
    subst this;simp only [List.nodup_cons] at M;exact M.2.1 hi'
  ·cases t with
   | nil=>simp at hi
   | cons y t =>
    obtain rfl:y=i:=by simpa using hi
    have hn:N x=(y:Int):=hn;rw [hP y (by simp),if_pos hn.symm,hp]
 | y::a,pr,h,D,M,hq,hN,hP=>by
  have hM:=M;simp only [List.cons_append,List.nodup_cons] at M;have ih:=PL.remove (a:=a) D.2.2 M.2 (.inr ⟨y,rfl,M.1⟩) (fun j hj=>hN j (by rcases List.mem_append.1 hj with h | h <;> simp [h])) (fun j hj=>hP j (by rcases List.mem_append.1 hj with h | h <;> simp [h]));have hn:=PL.lZ (a:=y::a) D;have hp:=PL.nL (a:=y::a) D;have hyx:y≠x:=fun e=>M.1 (by simp [e])
  have VE:y∉t:=fun e=>M.1 (by simp [e])
  refine ⟨by simpa using D.1,?_,?_⟩
  ·rw [hP y (by simp),if_neg,D.2.1];intro e;cases t with
   | nil=>have hn:N x = -1:=hn;omega
   | cons z t =>
    have hn:N x=(z:Int):=hn;have:z=y:=by omega
    exact VE (by simp [this])
  ·rw [hN y (by simp)];cases a with
   | nil =>
    have hp1:P x=(y:Int):=hp;rw [if_pos hp1.symm];simpa using ih
   | cons z a =>
    rw [if_neg]
    ·simpa using ih
    intro e;obtain ⟨u,hu⟩:=j3 (l:=z::a) (by simp);rw [og ((List.getLast?_cons_cons).trans hu)] at hp;have hm:u∈z::a:=List.mem_of_getLast? hu;have:u=y:=by omega
    rw [this] at hm;exact M.1 (List.mem_append_left _ hm)
theorem PL.push {N P N' P':Nat→Int} {h:Int} {i:Nat} {l:List Nat} (D:PL N P (-1) h l) (M:l.Nodup) (hN:∀ j∈l,N' j=N j) (hP:∀ j∈l,P' j=if (j:Int)=h then (i:Int) else P j) (ni:N' i=h) (pi:P' i = -1):PL N' P' (-1) i (i::l):=by
 refine ⟨rfl,pi,?_⟩;rw [ni];cases l with
 | nil=>exact D
 | cons y t =>
  simp only [List.nodup_cons] at M;have hh:h=(y:Int):=D.1;refine PL.Aw hN (fun j hj=>?_) (fun j hj=>?_) D
  ·have hj':j∈t:=by simpa using hj
   rw [hP j (by simp [hj']),if_neg];intro e;have:y=j:=by omega
   subst this;exact M.1 hj'
  ·obtain rfl:y=j:=by simpa using hj
   rw [hP y (by simp),if_pos hh.symm]
theorem PL.head {N P:Nat→Int} {pr h:Int} {l:List Nat} (D:PL N P pr h l):h=qQ l:=by
 cases l with
 | nil=>exact D
 | cons i t=>exact D.1
def Ms (at_ wd:Nat):List Nat→Nat
 | []=>0
 | f::_=>at_+f*wd
def CL (σ:Sp) (at_ wd:Nat):List Nat→Prop
 | []=>True
 | f::t=>σ.word (at_+f*wd)=Ms at_ wd t∧CL σ at_ wd t
theorem CL.congr {σ σ':Sp} {at_ wd:Nat}:∀ {l:List Nat},(∀ f∈l,σ'.word (at_+f*wd)=σ.word (at_+f*wd))→CL σ at_ wd l→CL σ' at_ wd l
 | [],_,_=>trivial
 | f::t,H,D=>⟨(H f (by simp)).trans D.1,CL.congr (fun g hg=>H g (by simp [hg])) D.2⟩
theorem EY (p:Pg) (q q' v:Nat) (h:q<4) (h':q'<4):(p.aQ q v).word q'=if q'=q then v else p.word q':=by
 have:q=0∨q=1∨q=2∨q=3:=by omega
 have:q'=0∨q'=1∨q'=2∨q'=3:=by omega
 rcases ‹q=0∨_› with rfl | rfl | rfl | rfl <;> rcases ‹q'=0∨_› with rfl | rfl | rfl | rfl <;> rfl
theorem mY (p:Pg) (c x:Nat) (live:Bool) (hc:c<256) (hx:x<256):(p.own c live).bit x=(p.bit x != decide (x=c)):=by
 have e:(p.own c live).bit x=(p.mV c).bit x:=by
  unfold Pg.bit
  have:∀ q,(p.own c live).word q=(p.mV c).word q:=fun q=>by
   unfold Pg.own Pg.word;rfl
  exact congrArg (fun v:Nat=>v.testBit (x%64)) (this (x/64))
 rw [e];unfold Pg.mV Pg.bit;rw [EY _ _ _ _ (by omega) (by omega)];by_cases h:x/64=c/64
 ·rw [if_pos h,Nat.testBit_xor,Nat.testBit_two_pow,h];have:(decide (c%64=x%64))=decide (x=c):=decide_eq_decide.2 (by omega);rw [this]
 ·rw [if_neg h];have:decide (x=c)=false:=decide_eq_false (by rintro rfl;exact h rfl);rw [this];simp
theorem jh (p:Pg) (c:Nat) (live:Bool):(p.own c live).kind=p.kind∧(p.own c live).order=p.order∧(p.own c live).cls=p.cls∧(p.own c live).next=p.next∧(p.own c live).prev=p.prev∧(p.own c live).first=p.first:=by
 unfold Pg.own Pg.mV;have:c/64=0∨c/64=1∨c/64=2∨3≤c/64:=by omega
 rcases this with h | h | h | h
 ·rw [h];exact ⟨rfl,rfl,rfl,rfl,rfl,rfl⟩
 ·rw [h];exact ⟨rfl,rfl,rfl,rfl,rfl,rfl⟩
 ·rw [h];exact ⟨rfl,rfl,rfl,rfl,rfl,rfl⟩
 ·obtain ⟨n,hn⟩:∃ n,c/64=n+3:=⟨c/64-3,by omega⟩;rw [hn];exact ⟨rfl,rfl,rfl,rfl,rfl,rfl⟩
structure dN (σ:Sp) (at_:Nat) (p:Pg) (fc:List Nat):Prop where
 order:p.order=0
 cls:0≤p.cls∧p.cls<8
 nodup:fc.Nodup
 mem:∀ x,x∈fc↔x<aR p.cls∧p.bit x=false
 high:∀ x,aR p.cls≤x→x<256→p.bit x=false
 live:p.live=(aR p.cls:Int)-fc.length
 some_:0<p.live
 first:p.first=qQ fc
 chain:CL σ at_ (aB p.cls.toNat) fc
def lJ (ps:List Pg) (i:Nat):Int:=(ps.getD i eH).next
def lK (ps:List Pg) (i:Nat):Int:=(ps.getD i eH).prev
theorem eY {ps:List Pg} {i:Nat} {p:Pg} (h:ps[i]? = some p):lJ ps i=p.next:=by unfold lJ;rw [List.getD_eq_getElem?_getD,h];rfl
theorem fH {ps:List Pg} {i:Nat} {p:Pg} (h:ps[i]? = some p):lK ps i=p.prev:=by unfold lK;rw [List.getD_eq_getElem?_getD,h];rfl
structure fA (β:Bu) (ps:List Int) (C:Nat→List Nat) (L:Nat→List Nat):Prop where
 len:ps.length=8
 pages:∀ i p,β.μ.pages[i]? = some p→p.kind=4→dN β.σ (β.addr i) p (C i)
 lists:∀ c,c<8→PL (lJ β.μ.pages) (lK β.μ.pages) (-1) (ps.getD c 0) (L c)
 nodup:∀ c,c<8→(L c).Nodup
 mem:∀ c,c<8→∀ i,i∈L c↔∃ p,β.μ.pages[i]? = some p∧p.kind=4∧p.cls=c∧C i≠[]
theorem dN.bytes {σ σ':Sp} {at_:Nat} {p:Pg} {fc:List Nat} (h:dN σ at_ p fc) (hw:∀ f∈fc,σ'.word (at_+f*aB p.cls.toNat)=σ.word (at_+f*aB p.cls.toNat)):dN σ' at_ p fc :=
 ⟨h.order,h.cls,h.nodup,h.mem,h.high,h.live,h.some_,h.first,CL.congr hw h.chain⟩
theorem fu (c:Int) (h:0≤c∧c<8):aR c*aB c.toNat=4096∧16≤aB c.toNat∧aB c.toNat≤2048∧2≤aR c∧aR c≤256:=by
 obtain ⟨n,rfl⟩:=Int.eq_ofNat_of_zero_le h.1;have hn:n<8:=by omega
 obtain ⟨u1,u2,u3,u4,u5,u6⟩:=dK hn;simp only [Int.toNat_natCast];rw [←u6];exact ⟨u3,u1,u2,u4,u5⟩
theorem jB (c:Int) (h:0≤c∧c<8) {x:Nat} (hx:x<aR c):x*aB c.toNat+aB c.toNat≤4096:=by
 obtain ⟨h1,_⟩:=fu c h;have:(x+1)*aB c.toNat≤aR c*aB c.toNat:=Nat.mul_le_mul_right _ hx;rw [Nat.succ_mul,h1] at this;exact this
theorem dN.qd {σ σ':Sp} {b i:Nat} {p:Pg} {fc:List Nat} (h:dN σ (b+4096*i) p fc) (hb:∀ off,off<4096→σ'.mem (b+4096*i+off)=σ.mem (b+4096*i+off)):dN σ' (b+4096*i) p fc:=by
 refine h.bytes (fun f hf=>iw (fun a h1 h2=>?_));have:=jB p.cls h.cls ((h.mem f).1 hf).1;have:=fu p.cls h.cls;have:=hb (a-(b+4096*i)) (by omega);rwa [show b+4096*i+(a-(b+4096*i))=a by omega] at this
theorem fA.keeps {β β':Bu} {ps:List Int} {C L:Nat→List Nat} {O:Nat→Prop} (S:fA β ps C L) (K:Keeps β β' O) (hO:∀ i p,β.μ.pages[i]? = some p→p.kind=4→¬O i):fA β' ps C L:=by
 have hpg:∀ (i:Nat) (p:Pg),p.kind=4→(β'.μ.pages[i]? = some p↔β.μ.pages[i]? = some p):=by
  intro i p h4;constructor
  ·exact fun h=>K.slab i p h h4
  ·intro h;rw [K.page i (hO i p h h4)];exact h
 refine ⟨S.len,fun i p hp h4=>?_,fun c hc=>?_,S.nodup,fun c hc i=>?_⟩
 ·have hp0:=(hpg i p h4).1 hp;have:=S.pages i p hp0 h4;unfold Bu.addr at this ⊢;rw [K.base];exact this.qd (fun off ho=>K.byte i off (hO i p hp0 h4) ho)
 ·refine PL.congr (fun i hi=>?_) (S.lists c hc);obtain ⟨p,hp,h4,_⟩:=(S.mem c hc i).1 hi;have hp':=(hpg i p h4).2 hp;rw [eY hp,eY hp',fH hp,fH hp'];exact ⟨rfl,rfl⟩
 ·rw [S.mem c hc i];constructor
  ·rintro ⟨p,hp,h4,h⟩;exact ⟨p,(hpg i p h4).2 hp,h4,h⟩
  ·rintro ⟨p,hp,h4,h⟩;exact ⟨p,(hpg i p h4).1 hp,h4,h⟩
theorem dN.lt {σ:Sp} {at_:Nat} {p:Pg} {fc:List Nat} (h:dN σ at_ p fc) {f:Nat} (hf:f∈fc):f<aR p.cls∧f<256:=by
 have:=((h.mem f).1 hf).1;have:=(fu p.cls h.cls).2.2.2.2;omega
theorem dN.take {σ:Sp} {at_ f:Nat} {p:Pg} {u:List Nat} (h:dN σ at_ p (f::u)):dN σ at_ (p.take f (qQ u)) u:=by
 obtain ⟨h1,aas⟩:=h.lt (List.mem_cons_self);obtain ⟨s1,s2,s3,s4,s5,s6⟩:=jh p f true;have hc:(p.take f (qQ u)).cls=p.cls:=s3;have hbit:∀ x,x<256→(p.take f (qQ u)).bit x=(p.bit x != decide (x=f)):=fun x hx=>mY p f x true aas hx
 have hn:=h.nodup;simp only [List.nodup_cons] at hn;have hle:=(fu p.cls h.cls).2.2.2.2;have Mt:=((h.mem f).1 (by simp)).2;refine ⟨s2.trans h.order,by rw [hc];exact h.cls,hn.2,fun x=>?_,fun x h1' h2=>?_,?_,?_,rfl,by rw [hc];exact h.chain.2⟩
 ·rw [hc];have hm:=h.mem x;constructor
  ·intro hx;have:=hm.1 (by simp [hx]);refine ⟨this.1,?_⟩;rw [hbit x (by omega),this.2,decide_eq_false (by rintro rfl;exact hn.1 hx)];rfl
  ·rintro ⟨hx,hb⟩;rw [hbit x (by omega)] at hb;by_cases e:x=f
   ·subst e;rw [Mt] at hb;simp at hb
   ·rw [decide_eq_false e] at hb;have:=hm.2 ⟨hx,by simpa using hb⟩;simpa [e] using this
 ·rw [hc] at h1';rw [hbit x h2,h.high x h1' h2,decide_eq_false (by omega)];rfl
 ·show p.live+1=_
  rw [hc,h.live];simp;omega
 ·show 0<p.live+1
  have:=h.some_;omega
def Pg.give (p:Pg) (x:Nat):Pg:={ p.own x false with first:=x }
theorem dN.give {σ:Sp} {at_ x:Nat} {p:Pg} {fc:List Nat} (h:dN σ at_ p fc) (hx:x<aR p.cls) (hb:p.bit x=true) (h1:1<p.live) (h64:at_+4096<18446744073709551616) (σ':Sp)
  (hσ:σ'=σ.aQ (at_+x*aB p.cls.toNat) (Ms at_ (aB p.cls.toNat) fc)):dN σ' at_ (p.give x) (x::fc):=by
 obtain ⟨w1,w2,w3,w4,w5⟩:=fu p.cls h.cls;obtain ⟨s1,s2,s3,s4,s5,s6⟩:=jh p x false;have hc:(p.give x).cls=p.cls:=s3;have hbit:∀ y,y<256→(p.give x).bit y=(p.bit y != decide (y=x)):=fun y hy=>mY p x y false (by omega) hy
 have hxn:x∉fc:=fun e=>by
  have:=((h.mem x).1 e).2;rw [hb] at this;simp at this
 have hlt:∀ f∈fc,f*aB p.cls.toNat+aB p.cls.toNat≤4096:=fun f hf=>jB p.cls h.cls (h.lt hf).1
 have hhd:Ms at_ (aB p.cls.toNat) fc<18446744073709551616:=by
  cases fc with
  | nil=>show 0<_;omega
  | cons f t=>have:=hlt f (by simp);show at_+f*_<_;omega
 refine ⟨s2.trans h.order,by rw [hc];exact h.cls,List.nodup_cons.2 ⟨hxn,h.nodup⟩,fun y=>?_,fun y h1' h2=>?_,?_,?_,rfl,?_⟩
 ·rw [hc];have hm:=h.mem y;constructor
  ·intro hy;rcases List.mem_cons.1 hy with rfl | hy
   ·refine ⟨hx,?_⟩;rw [hbit y (by omega),hb];simp
   ·have:=hm.1 hy;refine ⟨this.1,?_⟩;have hyx:y≠x:=fun e=>hxn (e▸hy)
    rw [hbit y (by omega),this.2,decide_eq_false hyx];rfl
  ·rintro ⟨hy,hyb⟩;by_cases e:y=x
   ·simp [e]
   ·rw [hbit y (by omega),decide_eq_false e] at hyb;have:=hm.2 ⟨hy,by simpa using hyb⟩;simp [this]
 ·rw [hc] at h1';rw [hbit y h2,h.high y h1' h2,decide_eq_false (by omega)];rfl
 ·show p.live-1=_
  rw [hc,h.live];simp;omega
 ·show 0<p.live-1
  omega
 ·rw [hc,hσ];refine ⟨uU _ _ _ hhd,CL.congr (fun f hf=>?_) h.chain⟩;refine lY _ _ _ _ ?_
  have hfx:f≠x:=by rintro rfl;exact hxn hf
  rcases Nat.lt_or_gt_of_ne hfx with h' | h'
  ·have:(f+1)*aB p.cls.toNat≤x*aB p.cls.toNat:=Nat.mul_le_mul_right _ h';rw [Nat.succ_mul] at this;omega
  ·have:(x+1)*aB p.cls.toNat≤f*aB p.cls.toNat:=Nat.mul_le_mul_right _ h';rw [Nat.succ_mul] at this;omega
def bX (q q0:Pg):Prop:=q = { q0 with next:=q.next,prev:=q.prev }
theorem lM (q0:Pg) (n p:Int):bX { q0 with next:=n,prev:=p } q0:=rfl
theorem bX.refl (q:Pg):bX q q:=rfl
theorem bX.cells {σ:Sp} {at_:Nat} {q q0:Pg} {fc:List Nat} (h:bX q q0) (D:dN σ at_ q0 fc):dN σ at_ q fc∧q.kind=q0.kind∧q.cls=q0.cls:=by
 unfold bX at h;rw [h];exact ⟨⟨D.order,D.cls,D.nodup,D.mem,D.high,D.live,D.some_,D.first,D.chain⟩,rfl,rfl⟩
theorem bX.kind {q q0:Pg} (h:bX q q0):q.kind=q0.kind∧q.cls=q0.cls:=by
 unfold bX at h;rw [h];exact ⟨rfl,rfl⟩
theorem fA.turn {β β':Bu} {ps ps':List Int} {C L L':Nat→List Nat} (S:fA β ps C L) (i:Nat) (u:List Nat) (hb:β'.σ.base=β.σ.base) (hlen:ps'.length=8)
  (hpg:∀ j,j≠i→(∀ q0,β.μ.pages[j]? = some q0→∃ q,β'.μ.pages[j]? = some q∧bX q q0)∧(∀ q,β'.μ.pages[j]? = some q→∃ q0,β.μ.pages[j]? = some q0))
  (hby:∀ j q0,j≠i→β.μ.pages[j]? = some q0→q0.kind=4→∀ off,off<4096→β'.σ.mem (β.σ.base+4096*j+off)=β.σ.mem (β.σ.base+4096*j+off))
  (hi:∀ p,β'.μ.pages[i]? = some p→p.kind=4→dN β'.σ (β.addr i) p u)
  (hl:∀ c,c<8→PL (lJ β'.μ.pages) (lK β'.μ.pages) (-1) (ps'.getD c 0) (L' c)) (hn:∀ c,c<8→(L' c).Nodup)
  (hm:∀ c,c<8→(i∈L' c↔∃ p,β'.μ.pages[i]? = some p∧p.kind=4∧p.cls=c∧u≠[])∧∀ j,j≠i→(j∈L' c↔j∈L c)):fA β' ps' (upd C i u) L':=by
 have ha:∀ j,β'.addr j=β.addr j:=fun j=>by unfold Bu.addr;rw [hb]
 refine ⟨hlen,fun j p hp h4=>?_,hl,hn,fun c hc j=>?_⟩
 ·rw [ha];by_cases e:j=i
  ·subst e;rw [fG];exact hi p hp h4
  ·rw [upd_ne _ _ e];obtain ⟨q0,hq0⟩:=(hpg j e).2 p hp;obtain ⟨q,hq,hs⟩:=(hpg j e).1 q0 hq0;obtain rfl:p=q:=Option.some.inj (hp.symm.trans hq);have YN:q0.kind=4:=hs.kind.1.symm.trans h4;exact (hs.cells (dN.qd (S.pages j q0 hq0 YN) (hby j q0 e hq0 YN))).1
 ·by_cases e:j=i
  ·subst e;rw [fG];exact (hm c hc).1
  ·rw [upd_ne _ _ e,(hm c hc).2 j e,S.mem c hc j];constructor
   ·rintro ⟨p,hp,h4,hcl,hne⟩;obtain ⟨q,hq,hs⟩:=(hpg j e).1 p hp;exact ⟨q,hq,hs.kind.1.trans h4,hs.kind.2.trans hcl,hne⟩
   ·rintro ⟨q,hq,h4,hcl,hne⟩;obtain ⟨q0,hq0⟩:=(hpg j e).2 q hq;obtain ⟨q',hq',hs⟩:=(hpg j e).1 q0 hq0;obtain rfl:q=q':=Option.some.inj (hq.symm.trans hq');exact ⟨q0,hq0,hs.kind.1.symm.trans h4,hs.kind.2.symm.trans hcl,hne⟩
theorem fA.jH {β:Bu} {ps:List Int} {C L:Nat→List Nat} (S:fA β ps C L) {c i:Nat} (hc:c<8) (hi:i∈L c):∃ p,β.μ.pages[i]? = some p∧p.kind=4∧p.cls=c∧C i≠[]:=(S.mem c hc i).1 hi
theorem fA.one {β:Bu} {ps:List Int} {C L:Nat→List Nat} (S:fA β ps C L) {c c' i:Nat} (hc:c<8) (hc':c'<8) (hi:i∈L c) (hi':i∈L c'):c=c':=by
 obtain ⟨p,hp,_,h1,_⟩:=S.jH hc hi;obtain ⟨p',hp',_,h2,_⟩:=S.jH hc' hi';obtain rfl:p=p':=Option.some.inj (hp.symm.trans hp');omega
theorem fA.cell {β:Bu} {σ':Sp} {ps:List Int} {C L:Nat→List Nat} (S:fA β ps C L) {i:Nat} {p p':Pg} {u:List Nat} (hp:β.μ.pages[i]? = some p) (hk:p.kind=4) (hb:σ'.base=β.σ.base)
  (hk':p'.kind=4) (hc':p'.cls=p.cls) (hl':p'.next=p.next∧p'.prev=p.prev) (hu:C i≠[]↔u≠[]) (D:dN σ' (β.addr i) p' u)
  (hby:∀ j,j≠i→∀ off,off<4096→σ'.mem (β.σ.base+4096*j+off)=β.σ.mem (β.σ.base+4096*j+off)) :
  fA { β with σ:=σ',μ:=β.μ.aA i p' } ps (upd C i u) L:=by
 have hlt:=(List.getElem?_eq_some_iff.1 hp).1;have hs:(β.μ.aA i p').pages[i]? = some p':=List.getElem?_set_self hlt;have hn:∀ x,x≠i→(β.μ.aA i p').pages[x]? = β.μ.pages[x]? := fun x h=>List.getElem?_set_ne (fun e=>h e.symm)
 refine S.turn i u hb S.len (fun j hj=>⟨fun q0 h=>⟨q0,(hn j hj).trans h,bX.refl _⟩,fun q h=>⟨q,(hn j hj).symm.trans h⟩⟩) (fun j _ hj _ _=>hby j hj) (fun q hq _=>?_) (fun c hc=>?_) S.nodup (fun c hc=>⟨?_,fun j hj=>Iff.rfl⟩)
 ·obtain rfl:p'=q:=Option.some.inj (hs.symm.trans hq);exact D
 ·refine PL.congr (fun j hj=>?_) (S.lists c hc);by_cases e:j=i
  ·subst e
   show lJ (β.μ.aA j p').pages j=_∧lK (β.μ.aA j p').pages j=_
   rw [eY hs,fH hs,eY hp,fH hp];exact hl'
  ·show lJ (β.μ.aA i p').pages j=_∧lK (β.μ.aA i p').pages j=_
   unfold lJ lK;rw [List.getD_eq_getElem?_getD,List.getD_eq_getElem?_getD,hn j e];exact ⟨rfl,rfl⟩
 ·rw [S.mem c hc i];constructor
  ·rintro ⟨q,hq,h4,hcl,hne⟩;obtain rfl:p=q:=Option.some.inj (hp.symm.trans hq);exact ⟨p',hs,hk',hc'.trans hcl,hu.1 hne⟩
  ·rintro ⟨q,hq,h4,hcl,hne⟩;obtain rfl:p'=q:=Option.some.inj (hs.symm.trans hq);exact ⟨p,hp,hk,hc'.symm.trans hcl,hu.2 hne⟩
def Mp.dh (μ:Mp) (j:Nat) (f:Pg→Pg):Mp:=match μ.pages[j]? with | some q=>μ.aA j (f q) | none=>μ
theorem l8 (μ:Mp) (j x:Nat) (f:Pg→Pg):(μ.dh j f).pages[x]? = if x=j then (μ.pages[x]?).map f else μ.pages[x]? := by
 unfold Mp.dh;split
 ·next q hq =>
  have hlt:=(List.getElem?_eq_some_iff.1 hq).1;split
  ·next e=>subst e;rw [hq];exact List.getElem?_set_self hlt
  ·next e=>exact List.getElem?_set_ne (fun h=>e h.symm)
 ·next hq =>
  split
  ·next e=>subst e;rw [hq];rfl
  ·rfl
theorem gV {μ:Mp} {j:Nat} {q:Pg} (f:Pg→Pg) (h:μ.pages[j]? = some q):μ.dh j f=μ.aA j (f q):=by
 unfold Mp.dh;rw [h]
theorem nM (μ:Mp) (j:Nat) (f:Pg→Pg):(μ.dh j f).order=μ.order∧(μ.dh j f).pairs=μ.pairs∧(μ.dh j f).pages.length=μ.pages.length:=by
 unfold Mp.dh;split
 ·exact ⟨rfl,rfl,List.length_set ..⟩
 ·exact ⟨rfl,rfl,rfl⟩
def Mp.bH (μ:Mp) (i:Nat) (p:Pg):Mp :=
 ((if p.prev<0 then μ else μ.dh p.prev.toNat (fun q=>{ q with next:=p.next })) |> fun Mv=>if p.next<0 then Mv else Mv.dh p.next.toNat (fun q=>{ q with prev:=p.prev })).dh i (fun q=>{ q with next:=-1,prev:=-1 })
def ji (ps:List Int) (c:Nat) (p:Pg):List Int:=if p.prev<0 then ps.set c p.next else ps
theorem oG (μ:Mp) (i:Nat) (p:Pg):(μ.bH i p).order=μ.order∧(μ.bH i p).pairs=μ.pairs∧(μ.bH i p).pages.length=μ.pages.length:=by
 unfold Mp.bH;simp only;obtain ⟨a1,a2,a3⟩:=nM (if p.next<0 then (if p.prev<0 then μ else μ.dh p.prev.toNat (fun q=>{ q with next:=p.next })) else (if p.prev<0 then μ else μ.dh p.prev.toNat (fun q=>{ q with next:=p.next })).dh p.next.toNat (fun q=>{ q with prev:=p.prev })) i (fun q=>{ q with next:=-1,prev:=-1 });rw [a1,a2,a3]
 have h1:∀ (b:Prop) [Decidable b] (ν:Mp) (j:Nat) (f:Pg→Pg),(if b then ν else ν.dh j f).order=ν.order∧(if b then ν else ν.dh j f).pairs=ν.pairs∧(if b then ν else ν.dh j f).pages.length=ν.pages.length:=by
  intro b _ ν j f;split
  ·exact ⟨rfl,rfl,rfl⟩
  ·exact nM ν j f
 obtain ⟨b1,b2,b3⟩:=h1 (p.next<0) (if p.prev<0 then μ else μ.dh p.prev.toNat (fun q=>{ q with next:=p.next })) p.next.toNat (fun q=>{ q with prev:=p.prev });obtain ⟨c1,c2,c3⟩:=h1 (p.prev<0) μ p.prev.toNat (fun q=>{ q with next:=p.next });exact ⟨b1.trans c1,b2.trans c2,b3.trans c3⟩
theorem vo (μ:Mp) (i:Nat) (p:Pg) (x:Nat) (h1:p.prev≠i) (h2:p.next≠i) :
  (μ.bH i p).pages[x]? = (μ.pages[x]?).map (fun q=>{ q with next:=if x=i then -1 else if (x:Int)=p.prev then p.next else q.next,prev:=if x=i then -1 else if (x:Int)=p.next then p.prev else q.prev }):=by
 unfold Mp.bH;simp only;rw [l8]
 have e1:∀ ν:Mp,(if p.next<0 then ν else ν.dh p.next.toNat (fun q=>{ q with prev:=p.prev })).pages[x]? = (ν.pages[x]?).map (fun q=>{ q with prev:=if (x:Int)=p.next then p.prev else q.prev }):=by
  intro ν;split
  ·have hx:¬((x:Int)=p.next):=by omega
   simp [hx]
  ·rw [l8];by_cases e:x=p.next.toNat
   ·have hx:((x:Int)=p.next):=by omega
    rw [if_pos e];simp only [if_pos hx]
   ·have hx:¬((x:Int)=p.next):=by omega
    rw [if_neg e];simp only [if_neg hx];simp
 have e2:(if p.prev<0 then μ else μ.dh p.prev.toNat (fun q=>{ q with next:=p.next })).pages[x]? = (μ.pages[x]?).map (fun q=>{ q with next:=if (x:Int)=p.prev then p.next else q.next }):=by
  split
  ·have hx:¬((x:Int)=p.prev):=by omega
   simp [hx]
  ·rw [l8];by_cases e:x=p.prev.toNat
   ·have hx:((x:Int)=p.prev):=by omega
    rw [if_pos e];simp only [if_pos hx]
   ·have hx:¬((x:Int)=p.prev):=by omega
    rw [if_neg e];simp only [if_neg hx];simp
 rw [e1,e2];split
 ·next e =>
  subst e;simp only [Option.map_map]
  congr 1
 ·next e =>
  simp only [Option.map_map]
  congr 1
theorem fA.Mw {β β':Bu} {ps:List Int} {C L:Nat→List Nat} (S:fA β ps C L) {c i:Nat} {p p':Pg} (hc:c<8) (hi:i∈L c) (hp:β.μ.pages[i]? = some p) (hl':p'.next=p.next∧p'.prev=p.prev)
  (hb:β'.σ.base=β.σ.base) (hby:∀ j q0,j≠i→β.μ.pages[j]? = some q0→q0.kind=4→∀ off,off<4096→β'.σ.mem (β.σ.base+4096*j+off)=β.σ.mem (β.σ.base+4096*j+off))
  (hpg:∀ x,x≠i→β'.μ.pages[x]? = ((β.μ.aA i p').bH i p').pages[x]?) (hD:∀ q,β'.μ.pages[i]? = some q→q.kind=4→dN β'.σ (β.addr i) q []) :
  fA β' (ji ps c p') (upd C i []) (upd L c ((L c).erase i)):=by
 obtain ⟨a,t,hL⟩:=List.append_of_mem hi;have D:=S.lists c hc;have M:=S.nodup c hc
 have hE:(L c).erase i=a++t:=by
  rw [hL] at M ⊢
  have:i∉a:=by
   intro h;rw [List.nodup_append] at M;exact M.2.2 i h i (by simp) rfl
  rw [List.erase_append_right _ this];simp
 have RU:lJ β.μ.pages i=p'.next:=(eY hp).trans hl'.1.symm;have VF:lK β.μ.pages i=p'.prev:=(fH hp).trans hl'.2.symm;rw [hL] at D M;have qg:=D.nL;have hnext:=D.lZ;rw [VF] at qg;rw [RU] at hnext
 have hia:i∉a∧i∉t:=by
  rw [List.nodup_append] at M;refine ⟨fun h=>M.2.2 i h i (by simp) rfl,fun h=>?_⟩;have:=M.2.1;simp only [List.nodup_cons] at this;exact this.1 h
 have VG:∀ y:Nat,(y:Int)=p'.prev→y∈a:=by
  intro y hy;cases hg:a.getLast? with
  | none=>unfold Mr at qg;rw [hg] at qg;have qg:p'.prev = -1:=qg;omega
  | some z =>
   rw [og hg] at qg;have:y=z:=by omega
   subst this;exact List.mem_of_getLast? hg
 have JG:∀ y:Nat,(y:Int)=p'.next→y∈t:=by
  intro y hy;cases t with
  | nil=>have hnext:p'.next = -1:=hnext;omega
  | cons z t =>
   have hnext:p'.next=(z:Int):=hnext;have:y=z:=by omega
   subst this;simp
 have hpi:p'.prev≠i:=fun e=>hia.1 (VG i e.symm)
 have hni:p'.next≠i:=fun e=>hia.2 (JG i e.symm)
 have hlt:=(List.getElem?_eq_some_iff.1 hp).1
 have hget:∀ x,x≠i→β'.μ.pages[x]? = (β.μ.pages[x]?).map (fun q=>{ q with next:=if (x:Int)=p'.prev then p'.next else q.next,prev:=if (x:Int)=p'.next then p'.prev else q.prev }):=by
  intro x hx;rw [hpg x hx,vo _ _ _ _ hpi hni];rw [show (β.μ.aA i p').pages[x]? = β.μ.pages[x]? from List.getElem?_set_ne (fun e=>hx e.symm)];simp only [hx,if_false]
 have hNF:∀ j∈a++t,lJ β'.μ.pages j=if (j:Int)=p'.prev then p'.next else lJ β.μ.pages j:=by
  intro j hj;have hji:j≠i:=by rintro rfl;rcases List.mem_append.1 hj with h | h;exact hia.1 h;exact hia.2 h
  obtain ⟨q,hq,_⟩:=S.jH hc (show j∈L c by rw [hL];rcases List.mem_append.1 hj with h | h <;> simp [h]);have:=hget j hji;rw [hq] at this;rw [eY this,eY hq]
 have hPF:∀ j∈a++t,lK β'.μ.pages j=if (j:Int)=p'.next then p'.prev else lK β.μ.pages j:=by
  intro j hj;have hji:j≠i:=by rintro rfl;rcases List.mem_append.1 hj with h | h;exact hia.1 h;exact hia.2 h
  obtain ⟨q,hq,_⟩:=S.jH hc (show j∈L c by rw [hL];rcases List.mem_append.1 hj with h | h <;> simp [h]);have:=hget j hji;rw [hq] at this;rw [fH this,fH hq]
 refine S.turn i [] hb ?_ (fun j hj=>⟨fun q0 h=>⟨_,by rw [hget j hj,h];rfl,lM q0 _ _⟩,fun q h=>?_⟩) hby hD (fun d hd=>?_) (fun d hd=>?_) (fun d hd=>⟨?_,fun j hj=>?_⟩)
 ·unfold ji;split
  ·rw [List.length_set];exact S.len
  ·exact S.len
 ·rw [hget j hj] at h;cases h0:β.μ.pages[j]? with
  | none=>rw [h0] at h;simp at h
  | some q0=>exact ⟨q0,rfl⟩
 ·by_cases e:d=c
  ·subst e;rw [fG,hE];have R:=PL.remove (N':=lJ β'.μ.pages) (P':=lK β'.μ.pages) D M (.inl rfl) (fun j hj=>by rw [hNF j hj,VF,RU]) (fun j hj=>by rw [hPF j hj,VF,RU]);rw [RU] at R
   have hneg:p'.prev<0↔a = []:=by
    cases a with
    | nil=>have qg:p'.prev = -1:=qg;simp;omega
    | cons y a =>
     obtain ⟨z,hz⟩:=j3 (l:=y::a) (by simp);rw [og hz] at qg;simp;omega
   unfold ji;by_cases ha:a = []
   ·rw [if_pos (hneg.2 ha)];rw [if_pos ha] at R;rw [List.getD_eq_getElem?_getD,List.getElem?_set_self (by rw [S.len];omega)];exact R
   ·rw [if_neg (fun h=>ha (hneg.1 h))];rw [if_neg ha] at R;exact R
  ·rw [upd_ne _ _ e]
   have hpd:(ji ps c p').getD d 0=ps.getD d 0:=by
    unfold ji;split
    ·rw [List.getD_eq_getElem?_getD,List.getD_eq_getElem?_getD,List.getElem?_set_ne (fun h=>e h.symm)]
    ·rfl
   rw [hpd];refine PL.congr (fun j hj=>?_) (S.lists d hd);obtain ⟨q,hq,_⟩:=S.jH hd hj;have hji:j≠i:=by rintro rfl;exact e (S.one hd hc hj hi)
   have h:=hget j hji;rw [hq] at h;have hjp:¬((j:Int)=p'.prev):=fun h=>e (S.one hd hc hj (by rw [hL];simp [VG j h]))
   have hjn:¬((j:Int)=p'.next):=fun h=>e (S.one hd hc hj (by rw [hL];simp [JG j h]))
   rw [eY h,fH h,eY hq,fH hq];exact ⟨if_neg hjp,if_neg hjn⟩
 ·by_cases e:d=c
  ·subst e;rw [fG];exact (S.nodup d hd).erase i
  ·rw [upd_ne _ _ e];exact S.nodup d hd
 ·constructor
  ·intro h;exfalso;by_cases e:d=c
   ·subst e;rw [fG] at h;exact ((S.nodup d hd).mem_erase_iff.1 h).1 rfl
   ·rw [upd_ne _ _ e] at h;exact e (S.one hd hc h hi)
  ·rintro ⟨_,_,_,_,h⟩;exact (h rfl).elim
 ·by_cases e:d=c
  ·subst e;rw [fG,(S.nodup d hd).mem_erase_iff];simp [hj]
  ·rw [upd_ne _ _ e]
def Mp.jm (μ:Mp) (i:Nat) (h:Int):Mp :=
 (fun Mv:Mp=>if h<0 then Mv else Mv.dh h.toNat (fun q=>{ q with prev:=(i:Int) })) (μ.dh i (fun q=>{ q with next:=h,prev:=-1 }))
theorem JH (μ:Mp) (i:Nat) (h:Int):(μ.jm i h).order=μ.order∧(μ.jm i h).pairs=μ.pairs∧(μ.jm i h).pages.length=μ.pages.length:=by
 unfold Mp.jm;obtain ⟨c1,c2,c3⟩:=nM μ i (fun q=>{ q with next:=h,prev:=-1 });simp only;split
 ·exact ⟨c1,c2,c3⟩
 ·obtain ⟨b1,b2,b3⟩:=nM (μ.dh i (fun q=>{ q with next:=h,prev:=-1 })) h.toNat (fun q=>{ q with prev:=(i:Int) });exact ⟨b1.trans c1,b2.trans c2,b3.trans c3⟩
theorem CP (μ:Mp) (i:Nat) (h:Int) (x:Nat) (hi:h≠i) :
  (μ.jm i h).pages[x]? = (μ.pages[x]?).map (fun q=>{ q with next:=if x=i then h else q.next,prev:=if x=i then -1 else if (x:Int)=h then (i:Int) else q.prev }):=by
 unfold Mp.jm;simp only
 have e1:(μ.dh i (fun q=>{ q with next:=h,prev:=-1 })).pages[x]? = (μ.pages[x]?).map (fun q=>{ q with next:=if x=i then h else q.next,prev:=if x=i then -1 else q.prev }):=by
  rw [l8];by_cases e:x=i
  ·simp [e]
  ·simp [e]
 split
 ·have hx:¬((x:Int)=h):=by omega
  rw [e1];simp [hx]
 ·rw [l8,e1];by_cases e:x=h.toNat
  ·have hx:((x:Int)=h):=by omega
   have:¬x=i:=by omega
   rw [if_pos e];simp only [if_pos hx,if_neg this];simp
  ·have hx:¬((x:Int)=h):=by omega
   rw [if_neg e];simp only [if_neg hx]
theorem fA.hang {β β':Bu} {ps:List Int} {C L:Nat→List Nat} (S:fA β ps C L) {c i:Nat} {p':Pg} {u:List Nat} (hc:c<8) (hi:∀ d,d<8→i∉L d)
  (hb:β'.σ.base=β.σ.base) (hby:∀ j q0,j≠i→β.μ.pages[j]? = some q0→q0.kind=4→∀ off,off<4096→β'.σ.mem (β.σ.base+4096*j+off)=β.σ.mem (β.σ.base+4096*j+off))
  (hpg:∀ x,x≠i→β'.μ.pages[x]? = (β.μ.pages[x]?).map (fun q=>{ q with prev:=if (x:Int)=ps.getD c 0 then (i:Int) else q.prev }))
  (hp':β'.μ.pages[i]? = some p') (hk:p'.kind=4) (hcl:p'.cls=c) (hl:p'.next=ps.getD c 0∧p'.prev = -1) (hu:u≠[]) (hD:dN β'.σ (β.addr i) p' u) :
  fA β' (ps.set c i) (upd C i u) (upd L c (i::L c)):=by
 have D:=S.lists c hc;have hh:=D.head
 have aat:∀ y:Nat,(y:Int)=ps.getD c 0→y∈L c:=by
  intro y hy;cases hL:L c with
  | nil=>rw [hL] at hh;have hh:ps.getD c 0 = -1:=hh;omega
  | cons z t =>
   rw [hL] at hh;have hh:ps.getD c 0=(z:Int):=hh;have:y=z:=by omega
   simp [this]
 have hNP:∀ d,d<8→∀ j∈L d,lJ β'.μ.pages j=lJ β.μ.pages j∧lK β'.μ.pages j=if (j:Int)=ps.getD c 0 then (i:Int) else lK β.μ.pages j:=by
  intro d hd j hj;obtain ⟨q,hq,_⟩:=S.jH hd hj;have h:=hpg j (by rintro rfl;exact hi d hd hj);rw [hq] at h;rw [eY h,fH h,eY hq,fH hq];exact ⟨rfl,rfl⟩
 refine S.turn i u hb (by rw [List.length_set];exact S.len) (fun j hj=>⟨fun q0 h=>⟨_,by rw [hpg j hj,h];rfl,lM q0 q0.next _⟩,fun q h=>?_⟩) hby (fun q hq _=>?_) (fun d hd=>?_) (fun d hd=>?_) (fun d hd=>⟨?_,fun j hj=>?_⟩)
 ·rw [hpg j hj] at h;cases h0:β.μ.pages[j]? with
  | none=>rw [h0] at h;simp at h
  | some q0=>exact ⟨q0,rfl⟩
 ·obtain rfl:p'=q:=Option.some.inj (hp'.symm.trans hq);exact hD
 ·by_cases e:d=c
  ·subst e;rw [fG,List.getD_eq_getElem?_getD,List.getElem?_set_self (by rw [S.len];omega)];exact PL.push D (S.nodup d hd) (fun j hj=>(hNP d hd j hj).1) (fun j hj=>(hNP d hd j hj).2) ((eY hp').trans hl.1) ((fH hp').trans hl.2)
  ·rw [upd_ne _ _ e,List.getD_eq_getElem?_getD,List.getElem?_set_ne (fun h=>e h.symm),←List.getD_eq_getElem?_getD];refine PL.congr (fun j hj=>?_) (S.lists d hd);obtain ⟨h1,h2⟩:=hNP d hd j hj;refine ⟨h1,h2.trans (if_neg fun h=>?_)⟩;exact e (S.one hd hc hj (aat j h))
 ·by_cases e:d=c
  ·subst e;rw [fG];exact List.nodup_cons.2 ⟨hi d hd,S.nodup d hd⟩
  ·rw [upd_ne _ _ e];exact S.nodup d hd
 ·by_cases e:d=c
  ·subst e;rw [fG];simp only [List.mem_cons,true_or,true_iff];exact ⟨p',hp',hk,hcl,hu⟩
  ·rw [upd_ne _ _ e];constructor
   ·exact fun h=>(hi d hd h).elim
   ·rintro ⟨q,hq,_,h,_⟩;obtain rfl:p'=q:=Option.some.inj (hp'.symm.trans hq);omega
 ·by_cases e:d=c
  ·subst e;rw [fG];simp [hj]
  ·rw [upd_ne _ _ e]
end Go.Proofs.YtnjcmcnjgdjbiaaGreatDoor
namespace Go.Proofs.YtnjcmcnjgdjbiaaGreatDoor
open Go.RowKit
theorem aM.fq {w w':World} {s pb:Nat} {K:ay} {β:Bu} {ps:List Int} {μ':Mp} (R:aM w s pb K β ps) (h:aI w' K.M μ') (T:Touch (fun k=>some k=K.M.gv.ownBlock) w w') (ho:μ'.order=β.μ.order) (hl:μ'.pages.length=β.μ.pages.length) :
  aM w' s pb K { β with μ:=μ' } ps∧Touch (·∈K.fp) w w':=by
 have:=R.po.bu.fq h T ho hl;exact ⟨R.next this.2 (ay.Next.refl _ _) this.1,this.2⟩
theorem aM.Pp {w:World} {s pb:Nat} {K:ay} {β:Bu} {ps:List Int} (R:aM w s pb K β ps) (i c:Nat) {p:Pg} (hi:β.μ.pages[i]? = some p) (hk:p.kind=4) (hc:c<8)
  (hp:p.prev = -1) (hn:p.next = -1) :
  Calls Tryz.prog 246 #[.pointer (some ⟨s,0,none⟩),.int .i64 i,.int .i64 c] w fun e w'=>e=.returned (.tuple #[])∧aM w' s pb K { β with μ:=β.μ.bH i p } (ji ps c p)∧Touch (·∈s::K.fp) w w':=by
 have hU:β.μ.bH i p=(β.μ.aA i { p with next:=-1,prev:=-1 }):=by
  unfold Mp.bH;rw [hp,hn];have h1:(-1:Int)<0:=by decide
  simp only [if_pos h1];rw [gV (j:=i) (q:=p) _ hi]
 have hps:ji ps c p=ps.set c (-1):=by
  unfold ji;rw [if_pos (by rw [hp];decide),hn]
 rw [hU,hps]
 have hval:p.val=.agg #[.int .i64 p.kind,.int .i64 p.order,.int .i64 p.cls,.int .i64 p.live,.int .i64 (-1),.int .i64 (-1),.int .i64 p.first,.int .u64 p.b0,.int .u64 p.b1,.int .u64 p.b2,.int .u64 p.b3]:=by
  unfold Pg.val;rw [hp,hn]
 have VH:=(List.getElem?_eq_some_iff.1 hi).1;have hlen:=R.po.bu.mp.ok.len;have c0:=R.pool;have HM:=Hd R.po.jQ;have hat:=R.po.bu.mp.at_ hi;rw [hval] at hat;have iW:=Hd hat;have HR:=Hd R;have HI:=Hd hi;have HK:=Hd hk;clear R hat hval hi hk hp hn hU hps
 go_enter Tryz.func246,Tryz.ntmps246
 go_wp2_with fail
 refine HM.out.mono ?_
 rintro e w1 ⟨rfl,rfl⟩
 go_wp2_with fail
 refine iW.out.mono ?_
 rintro e w2 ⟨rfl,T2⟩;have S2:=HR.out.aj T2;have HS2:=Hd S2;have HT2:=Hd T2;clear S2 T2 c0 iW HM
 go_wp2_with fail
 have T3:=(Touch.refl Nothing w2).alloc (.cells #[.int .i64 p.kind,.int .i64 p.order,.int .i64 p.cls,.int .i64 p.live,.int .i64 (-1),.int .i64 (-1),.int .i64 p.first,.int .u64 p.b0,.int .u64 p.b1,.int .u64 p.b2,.int .u64 p.b3] 128);have B3:=aC.new w2 #[.int .i64 p.kind,.int .i64 p.order,.int .i64 p.cls,.int .i64 p.live,.int .i64 (-1),.int .i64 (-1),.int .i64 p.first,.int .u64 p.b0,.int .u64 p.b1,.int .u64 p.b2,.int .u64 p.b3] 128;generalize w2.alloc (.cells #[.int .i64 p.kind,.int .i64 p.order,.int .i64 p.cls,.int .i64 p.live,.int .i64 (-1),.int .i64 (-1),.int .i64 p.first,.int .u64 p.b0,.int .u64 p.b1,.int .u64 p.b2,.int .u64 p.b3] 128)=w3 at *;have hx:w2.heap.size<w3.heap.size:=B3.lt;have jo:∀ k,k∈s::pb::K.fp→k<w2.heap.size:=HS2.out.lt;have VI:=Hd jo
 have o7:¬some w2.heap.size=K.M.gv.ownBlock:=by
  intro e;have:=jo w2.heap.size (by simp [ay.fp,aT.fp,←e]);omega
 have AP:=Hd o7;clear jo o7;generalize hX:w2.heap.size=X at *;have b4:w3.cell? ⟨X,4,none⟩=some (.int .i64 (-1)):=B3.cell 4;have b5:w3.cell? ⟨X,5,none⟩=some (.int .i64 (-1)):=B3.cell 5;have S3:=HS2.out.aj T3;have hsx:s≠X:=by have:=HS2.out.lt s (by simp);omega
 have d1:=S3.part c hc;have f1:=S3.blk.free (1+c);have hsl:=S3.lt s (by simp);have HB3:=Hd B3;have wP:=Hd ((S3.xP c (-1)).aj ((Touch.refl Nothing _).drew));have EZ:=Hd (show Touch (·∈s::K.fp) w (w3.setCell ⟨s,1+c,none⟩ (.int .i64 (-1))).drew from (((HT2.out.trans T3).none_).trans ((Touch.cellAt w3 s (1+c) (.int .i64 (-1))).mono (fun k _ h=>by simp [h]))).drew);clear S3 T3 B3 hX
 go_wp2_with fail
 have hc8:(c:Int)<8:=by omega
 have hxs:¬X=s:=fun e=>hsx e.symm
 refine wp_region_still_tail 6 (by kernel_rfl) (by kernel_rfl) ?_
 simp only [List.take_succ_cons,List.take_zero,List.drop_succ_cons,List.drop_zero,World.drew_eq]
 repeat still_step
 refine wpStill_nil ?_
 have E5:=Hd (wP.out.po.bu.mp.kS HI.out HK.out (-1) (-1) (by omega) (by omega) (by omega) (by omega))
 go_wp2_with fail
 clear b4 b5 d1 f1;generalize ((w3.setCell ⟨s,1+c,none⟩ (.int .i64 (-1))).drew)=wa at *;refine E5.out.mono ?_
 rintro e wz ⟨rfl,rz,tz⟩;have Rz:=wP.out.fq rz tz rfl (List.length_set ..)
 go_wp2_with fail
 go_end0
 exact ⟨rfl,Rz.1,EZ.out.trans (Rz.2.mono (fun k _ h=>List.mem_cons_of_mem _ h))⟩
theorem aM.Pq {w:World} {s pb:Nat} {K:ay} {β:Bu} {ps:List Int} (R:aM w s pb K β ps) (i c:Nat) {p:Pg} (hi:β.μ.pages[i]? = some p) (hk:p.kind=4) (hc:c<8)
  (hp:p.prev = -1) (j2:Nat) (q2:Pg) (hn:p.next=j2) (vv:j2≠i) (hq2:β.μ.pages[j2]? = some q2) (vw:q2.kind=4) (zi:q2.next<β.μ.pages.length) :
  Calls Tryz.prog 246 #[.pointer (some ⟨s,0,none⟩),.int .i64 i,.int .i64 c] w fun e w'=>e=.returned (.tuple #[])∧aM w' s pb K { β with μ:=β.μ.bH i p } (ji ps c p)∧Touch (·∈s::K.fp) w w':=by
 have hU:β.μ.bH i p=((β.μ.aA j2 { q2 with next:=q2.next,prev:=(-1) }).aA i { p with next:=-1,prev:=-1 }):=by
  unfold Mp.bH;rw [hp,hn];have h1:(-1:Int)<0:=by decide
  have h2:∀ x:Nat,¬((x:Int)<0):=fun x=>by omega
  simp only [if_pos h1,if_neg (h2 _),Int.toNat_natCast];rw [gV (j:=j2) (q:=q2) _ hq2];rw [gV (j:=i) (q:=p) _ (by rw [show ((β.μ.aA j2 { q2 with next:=q2.next,prev:=(-1) })).pages[i]? = β.μ.pages[i]? from List.getElem?_set_ne vv];exact hi)]
 have hps:ji ps c p=ps.set c (j2:Int):=by
  unfold ji;rw [if_pos (by rw [hp];decide),hn]
 rw [hU,hps]
 have hval:p.val=.agg #[.int .i64 p.kind,.int .i64 p.order,.int .i64 p.cls,.int .i64 p.live,.int .i64 (j2:Int),.int .i64 (-1),.int .i64 p.first,.int .u64 p.b0,.int .u64 p.b1,.int .u64 p.b2,.int .u64 p.b3]:=by
  unfold Pg.val;rw [hp,hn]
 have VH:=(List.getElem?_eq_some_iff.1 hi).1;have hlen:=R.po.bu.mp.ok.len;have aau:=(List.getElem?_eq_some_iff.1 hq2).1;have c0:=R.pool;have HM:=Hd R.po.jQ;have hat:=R.po.bu.mp.at_ hi;rw [hval] at hat;have iW:=Hd hat;have HR:=Hd R;have HI:=Hd hi;have HK:=Hd hk;have Ir:=Hd hq2;have Pt:=Hd vw;clear R hat hval hi hk hp hn hU hps hq2 vw
 go_enter Tryz.func246,Tryz.ntmps246
 go_wp2_with fail
 refine HM.out.mono ?_
 rintro e w1 ⟨rfl,rfl⟩
 go_wp2_with fail
 refine iW.out.mono ?_
 rintro e w2 ⟨rfl,T2⟩;have S2:=HR.out.aj T2;have HS2:=Hd S2;have HT2:=Hd T2;clear S2 T2 c0 iW HM
 go_wp2_with fail
 have T3:=(Touch.refl Nothing w2).alloc (.cells #[.int .i64 p.kind,.int .i64 p.order,.int .i64 p.cls,.int .i64 p.live,.int .i64 (j2:Int),.int .i64 (-1),.int .i64 p.first,.int .u64 p.b0,.int .u64 p.b1,.int .u64 p.b2,.int .u64 p.b3] 128);have B3:=aC.new w2 #[.int .i64 p.kind,.int .i64 p.order,.int .i64 p.cls,.int .i64 p.live,.int .i64 (j2:Int),.int .i64 (-1),.int .i64 p.first,.int .u64 p.b0,.int .u64 p.b1,.int .u64 p.b2,.int .u64 p.b3] 128;generalize w2.alloc (.cells #[.int .i64 p.kind,.int .i64 p.order,.int .i64 p.cls,.int .i64 p.live,.int .i64 (j2:Int),.int .i64 (-1),.int .i64 p.first,.int .u64 p.b0,.int .u64 p.b1,.int .u64 p.b2,.int .u64 p.b3] 128)=w3 at *;have hx:w2.heap.size<w3.heap.size:=B3.lt;have jo:∀ k,k∈s::pb::K.fp→k<w2.heap.size:=HS2.out.lt;have VI:=Hd jo
 have o7:¬some w2.heap.size=K.M.gv.ownBlock:=by
  intro e;have:=jo w2.heap.size (by simp [ay.fp,aT.fp,←e]);omega
 have AP:=Hd o7;clear jo o7;generalize hX:w2.heap.size=X at *;have b4:w3.cell? ⟨X,4,none⟩=some (.int .i64 (j2:Int)):=B3.cell 4;have b5:w3.cell? ⟨X,5,none⟩=some (.int .i64 (-1)):=B3.cell 5;have S3:=HS2.out.aj T3;have hsx:s≠X:=by have:=HS2.out.lt s (by simp);omega
 have d1:=S3.part c hc;have f1:=S3.blk.free (1+c);have hsl:=S3.lt s (by simp);have HB3:=Hd B3;have wP:=Hd ((S3.xP c (j2:Int)).aj ((Touch.refl Nothing _).drew));have EZ:=Hd (show Touch (·∈s::K.fp) w (w3.setCell ⟨s,1+c,none⟩ (.int .i64 (j2:Int))).drew from (((HT2.out.trans T3).none_).trans ((Touch.cellAt w3 s (1+c) (.int .i64 (j2:Int))).mono (fun k _ h=>by simp [h]))).drew);clear S3 T3 B3 hX
 go_wp2_with fail
 have hc8:(c:Int)<8:=by omega
 have hxs:¬X=s:=fun e=>hsx e.symm
 refine wp_region_still_tail 6 (by kernel_rfl) (by kernel_rfl) ?_
 simp only [List.take_succ_cons,List.take_zero,List.drop_succ_cons,List.drop_zero,World.drew_eq]
 repeat still_step
 refine wpStill_nil ?_
 have wQ:=Hd (wP.out.po.bu.mp.at_ Ir.out);have e4:((w3.setCell ⟨s,1+c,none⟩ (.int .i64 (j2:Int))).drew).cell? ⟨X,4,none⟩=some (.int .i64 (j2:Int)):=((Touch.cellAt w3 s (1+c) (.int .i64 (j2:Int))).drew.cell (p:=⟨X,4,none⟩) hx hxs).trans b4;have e5:((w3.setCell ⟨s,1+c,none⟩ (.int .i64 (j2:Int))).drew).cell? ⟨X,5,none⟩=some (.int .i64 (-1)):=((Touch.cellAt w3 s (1+c) (.int .i64 (j2:Int))).drew.cell (p:=⟨X,5,none⟩) hx hxs).trans b5;have ex:X<((w3.setCell ⟨s,1+c,none⟩ (.int .i64 (j2:Int))).drew).heap.size:=Nat.lt_of_lt_of_le hx (Touch.cellAt w3 s (1+c) (.int .i64 (j2:Int))).drew.size;have HE:=Hd (And.intro e4 (And.intro e5 ex));clear e4 e5 ex
 go_wp2_with fail
 obtain ⟨e4,e5,ex⟩:=HE.out;clear HE b4 b5 d1 f1;generalize ((w3.setCell ⟨s,1+c,none⟩ (.int .i64 (j2:Int))).drew)=wa at *;refine wQ.out.mono ?_
 rintro e wb ⟨rfl,Tb⟩;have hxb:X<wb.heap.size:=Nat.lt_of_lt_of_le ex Tb.size;have b4:wb.cell? ⟨X,4,none⟩=some (.int .i64 (j2:Int)):=(Tb.cell (p:=⟨X,4,none⟩) ex (fun h=>h)).trans e4;have b5:wb.cell? ⟨X,5,none⟩=some (.int .i64 (-1)):=(Tb.cell (p:=⟨X,5,none⟩) ex (fun h=>h)).trans e5;have Tc:=(Touch.refl Nothing wb).alloc (.cells #[.int .i64 q2.kind,.int .i64 q2.order,.int .i64 q2.cls,.int .i64 q2.live,.int .i64 q2.next,.int .i64 q2.prev,.int .i64 q2.first,.int .u64 q2.b0,.int .u64 q2.b1,.int .u64 q2.b2,.int .u64 q2.b3] 128);have c4:=(Tc.cell (p:=⟨X,4,none⟩) hxb (fun h=>h)).trans b4;have c5:=(Tc.cell (p:=⟨X,5,none⟩) hxb (fun h=>h)).trans b5;have Sc:=wP.out.aj (Tb.trans Tc);have E8:=HR.out.po.bu.mp.ok.page q2 (List.mem_of_getElem? Ir.out);have hll:(β.μ).pages.length=β.μ.pages.length:=by rfl
 have E9:=Hd (Sc.po.bu.mp.kS Ir.out Pt.out q2.next (-1) E8.next.1 (by show q2.next<((β.μ).pages.length:Int);rw [hll];exact zi) (by omega) (by show (-1)<((β.μ).pages.length:Int);rw [hll];omega));have HSc:=Hd Sc;have VJ:=Hd (EZ.out.trans (Tb.trans Tc).none_);clear Tb wQ Tc c4 c5 Sc E8 ex e4 e5;unfold Pg.val
 go_wp2_with fail
 clear b4 b5 hxb;generalize wb.alloc (.cells #[.int .i64 q2.kind,.int .i64 q2.order,.int .i64 q2.cls,.int .i64 q2.live,.int .i64 q2.next,.int .i64 q2.prev,.int .i64 q2.first,.int .u64 q2.b0,.int .u64 q2.b1,.int .u64 q2.b2,.int .u64 q2.b3] 128)=wc at *;refine E9.out.mono ?_
 rintro e wd ⟨rfl,rd,td⟩;have Rd:=HSc.out.fq rd td rfl (List.length_set ..);have E5:=Hd (Rd.1.po.bu.mp.kS ((List.getElem?_set_ne vv).trans HI.out) HK.out (-1) (-1) (by omega) (by show (-1:Int)<_;omega) (by omega) (by show (-1:Int)<_;omega));have VK:=Hd Rd.1;have VL:=Hd (VJ.out.trans (Rd.2.mono (fun k _ h=>List.mem_cons_of_mem _ h)));clear Rd rd td E9
 go_wp2_with fail
 refine E5.out.mono ?_
 rintro e wz ⟨rfl,rz,tz⟩;have Rz:=VK.out.fq rz tz rfl (List.length_set ..)
 go_wp2_with fail
 go_end0
 exact ⟨rfl,Rz.1,VL.out.trans (Rz.2.mono (fun k _ h=>List.mem_cons_of_mem _ h))⟩
theorem aM.Pv {w:World} {s pb:Nat} {K:ay} {β:Bu} {ps:List Int} (R:aM w s pb K β ps) (i c:Nat) {p:Pg} (hi:β.μ.pages[i]? = some p) (hk:p.kind=4) (_hc:c<8)
  (j:Nat) (q:Pg) (hp:p.prev=j) (hji:j≠i) (hq:β.μ.pages[j]? = some q) (hqk:q.kind=4) (Iu:q.prev<β.μ.pages.length) (hn:p.next = -1) :
  Calls Tryz.prog 246 #[.pointer (some ⟨s,0,none⟩),.int .i64 i,.int .i64 c] w fun e w'=>e=.returned (.tuple #[])∧aM w' s pb K { β with μ:=β.μ.bH i p } (ji ps c p)∧Touch (·∈s::K.fp) w w':=by
 have hU:β.μ.bH i p=((β.μ.aA j { q with next:=(-1),prev:=q.prev }).aA i { p with next:=-1,prev:=-1 }):=by
  unfold Mp.bH;rw [hp,hn];have h1:(-1:Int)<0:=by decide
  have h2:∀ x:Nat,¬((x:Int)<0):=fun x=>by omega
  simp only [if_pos h1,if_neg (h2 _),Int.toNat_natCast];rw [gV (j:=j) _ hq];rw [gV (j:=i) (q:=p) _ (by rw [show ((β.μ.aA j { q with next:=(-1),prev:=q.prev })).pages[i]? = β.μ.pages[i]? from List.getElem?_set_ne hji];exact hi)]
 have hps:ji ps c p=ps:=by
  unfold ji;rw [if_neg (by rw [hp];omega)]
 rw [hU,hps]
 have hval:p.val=.agg #[.int .i64 p.kind,.int .i64 p.order,.int .i64 p.cls,.int .i64 p.live,.int .i64 (-1),.int .i64 (j:Int),.int .i64 p.first,.int .u64 p.b0,.int .u64 p.b1,.int .u64 p.b2,.int .u64 p.b3]:=by
  unfold Pg.val;rw [hp,hn]
 have VH:=(List.getElem?_eq_some_iff.1 hi).1;have hlen:=R.po.bu.mp.ok.len;have hlj:=(List.getElem?_eq_some_iff.1 hq).1;have c0:=R.pool;have HM:=Hd R.po.jQ;have hat:=R.po.bu.mp.at_ hi;rw [hval] at hat;have iW:=Hd hat;have HR:=Hd R;have HI:=Hd hi;have HK:=Hd hk;have HQ:=Hd hq;have Mx:=Hd hqk;clear R hat hval hi hk hp hn hU hps hq hqk
 go_enter Tryz.func246,Tryz.ntmps246
 go_wp2_with fail
 refine HM.out.mono ?_
 rintro e w1 ⟨rfl,rfl⟩
 go_wp2_with fail
 refine iW.out.mono ?_
 rintro e w2 ⟨rfl,T2⟩;have S2:=HR.out.aj T2;have HS2:=Hd S2;have HT2:=Hd T2;clear S2 T2 c0 iW HM
 go_wp2_with fail
 have T3:=(Touch.refl Nothing w2).alloc (.cells #[.int .i64 p.kind,.int .i64 p.order,.int .i64 p.cls,.int .i64 p.live,.int .i64 (-1),.int .i64 (j:Int),.int .i64 p.first,.int .u64 p.b0,.int .u64 p.b1,.int .u64 p.b2,.int .u64 p.b3] 128);have B3:=aC.new w2 #[.int .i64 p.kind,.int .i64 p.order,.int .i64 p.cls,.int .i64 p.live,.int .i64 (-1),.int .i64 (j:Int),.int .i64 p.first,.int .u64 p.b0,.int .u64 p.b1,.int .u64 p.b2,.int .u64 p.b3] 128;generalize w2.alloc (.cells #[.int .i64 p.kind,.int .i64 p.order,.int .i64 p.cls,.int .i64 p.live,.int .i64 (-1),.int .i64 (j:Int),.int .i64 p.first,.int .u64 p.b0,.int .u64 p.b1,.int .u64 p.b2,.int .u64 p.b3] 128)=w3 at *;have hx:w2.heap.size<w3.heap.size:=B3.lt;have jo:∀ k,k∈s::pb::K.fp→k<w2.heap.size:=HS2.out.lt;have VI:=Hd jo
 have o7:¬some w2.heap.size=K.M.gv.ownBlock:=by
  intro e;have:=jo w2.heap.size (by simp [ay.fp,aT.fp,←e]);omega
 have AP:=Hd o7;clear jo o7;generalize hX:w2.heap.size=X at *;have b4:w3.cell? ⟨X,4,none⟩=some (.int .i64 (-1)):=B3.cell 4;have b5:w3.cell? ⟨X,5,none⟩=some (.int .i64 (j:Int)):=B3.cell 5;have S3:=HS2.out.aj T3;have hsx:s≠X:=by have:=HS2.out.lt s (by simp);omega
 have wQ:=Hd (S3.po.bu.mp.at_ HQ.out);have oQ:=Hd (And.intro b4 (And.intro b5 hx));have HT3:=Hd T3;clear S3 T3 B3 hX b4 b5
 go_wp2_with fail
 refine wQ.out.mono ?_
 rintro e w4 ⟨rfl,T4⟩;have hx4:X<w4.heap.size:=Nat.lt_of_lt_of_le oQ.out.2.2 T4.size;have b4:w4.cell? ⟨X,4,none⟩=some (.int .i64 (-1)):=(T4.cell (p:=⟨X,4,none⟩) oQ.out.2.2 (fun h=>h)).trans oQ.out.1;have b5:w4.cell? ⟨X,5,none⟩=some (.int .i64 (j:Int)):=(T4.cell (p:=⟨X,5,none⟩) oQ.out.2.2 (fun h=>h)).trans oQ.out.2.1;have eu:=Hd (HT3.out.trans T4);have T5:=(Touch.refl Nothing w4).alloc (.cells #[.int .i64 q.kind,.int .i64 q.order,.int .i64 q.cls,.int .i64 q.live,.int .i64 q.next,.int .i64 q.prev,.int .i64 q.first,.int .u64 q.b0,.int .u64 q.b1,.int .u64 q.b2,.int .u64 q.b3] 128);have c4:=(T5.cell (p:=⟨X,4,none⟩) hx4 (fun h=>h)).trans b4;have c5:=(T5.cell (p:=⟨X,5,none⟩) hx4 (fun h=>h)).trans b5;have MB:=Hd (And.intro c4 (And.intro c5 (Nat.lt_of_lt_of_le hx4 T5.size)));have S5:=HS2.out.aj (eu.out.trans T5);have hqo:=HR.out.po.bu.mp.ok.page q (List.mem_of_getElem? HQ.out);have yI:=Hd (S5.po.bu.mp.kS HQ.out Mx.out (-1) q.prev (by omega) (by omega) hqo.prev.1 Iu);have rG:=Hd S5;have gG:=Hd (eu.out.trans T5);clear T4 wQ hx T5 c4 c5 S5 hqo;unfold Pg.val
 go_wp2_with fail
 clear b4 b5 hx4;obtain ⟨c4,c5,hx5⟩:=MB.out;clear MB;generalize w4.alloc (.cells #[.int .i64 q.kind,.int .i64 q.order,.int .i64 q.cls,.int .i64 q.live,.int .i64 q.next,.int .i64 q.prev,.int .i64 q.first,.int .u64 q.b0,.int .u64 q.b1,.int .u64 q.b2,.int .u64 q.b3] 128)=w5 at *;refine yI.out.mono ?_
 rintro e w6 ⟨rfl,r6,t6⟩;have R6:=rG.out.fq r6 t6 rfl (List.length_set ..);have wP:=Hd R6.1;have EZ:=Hd (show Touch (·∈s::K.fp) w w6 from ((HT2.out.trans gG.out).none_).trans (R6.2.mono (fun k _ h=>List.mem_cons_of_mem _ h)));have d4:w6.cell? ⟨X,4,none⟩=some (.int .i64 (-1)):=(t6.cell (p:=⟨X,4,none⟩) hx5 AP.out).trans c4;have d5:w6.cell? ⟨X,5,none⟩=some (.int .i64 (j:Int)):=(t6.cell (p:=⟨X,5,none⟩) hx5 AP.out).trans c5;have ex:X<w6.heap.size:=Nat.lt_of_lt_of_le hx5 t6.size;clear R6 r6 t6 c4 c5 hx5 yI;have HE:=Hd (And.intro d4 (And.intro d5 ex));have hi':((β.μ.aA j { q with next:=(-1),prev:=q.prev })).pages[i]? = some p:=(List.getElem?_set_ne hji).trans HI.out;have E5:=Hd (wP.out.po.bu.mp.kS hi' HK.out (-1) (-1) (by omega) (by show (-1:Int)<_;omega) (by omega) (by show (-1:Int)<_;omega));clear hi'
 go_wp2_with fail
 clear HE d4 d5;refine E5.out.mono ?_
 rintro e wz ⟨rfl,rz,tz⟩;have Rz:=wP.out.fq rz tz rfl (List.length_set ..)
 go_wp2_with fail
 go_end0
 exact ⟨rfl,Rz.1,EZ.out.trans (Rz.2.mono (fun k _ h=>List.mem_cons_of_mem _ h))⟩
theorem aM.Pw {w:World} {s pb:Nat} {K:ay} {β:Bu} {ps:List Int} (R:aM w s pb K β ps) (i c:Nat) {p:Pg} (hi:β.μ.pages[i]? = some p) (hk:p.kind=4) (_hc:c<8)
  (j:Nat) (q:Pg) (hp:p.prev=j) (hji:j≠i) (hq:β.μ.pages[j]? = some q) (hqk:q.kind=4) (Iu:q.prev<β.μ.pages.length) (j2:Nat) (q2:Pg) (hn:p.next=j2) (vv:j2≠i) (hq2:β.μ.pages[j2]? = some q2) (vw:q2.kind=4) (zi:q2.next<β.μ.pages.length) (hjj:j2≠j) :
  Calls Tryz.prog 246 #[.pointer (some ⟨s,0,none⟩),.int .i64 i,.int .i64 c] w fun e w'=>e=.returned (.tuple #[])∧aM w' s pb K { β with μ:=β.μ.bH i p } (ji ps c p)∧Touch (·∈s::K.fp) w w':=by
 have hU:β.μ.bH i p=(((β.μ.aA j { q with next:=(j2:Int),prev:=q.prev }).aA j2 { q2 with next:=q2.next,prev:=(j:Int) }).aA i { p with next:=-1,prev:=-1 }):=by
  unfold Mp.bH;rw [hp,hn];have h2:∀ x:Nat,¬((x:Int)<0):=fun x=>by omega
  simp only [if_neg (h2 _),Int.toNat_natCast];rw [gV (j:=j) _ hq];rw [gV (j:=j2) (q:=q2) _ (by rw [show ((β.μ.aA j { q with next:=(j2:Int),prev:=q.prev })).pages[j2]? = β.μ.pages[j2]? from List.getElem?_set_ne (fun e=>hjj e.symm)];exact hq2)];rw [gV (j:=i) (q:=p) _ (by rw [show (((β.μ.aA j { q with next:=(j2:Int),prev:=q.prev }).aA j2 { q2 with next:=q2.next,prev:=(j:Int) })).pages[i]? = ((β.μ.aA j { q with next:=(j2:Int),prev:=q.prev })).pages[i]? from List.getElem?_set_ne vv,show ((β.μ.aA j { q with next:=(j2:Int),prev:=q.prev })).pages[i]? = β.μ.pages[i]? from List.getElem?_set_ne hji];exact hi)]
 have hps:ji ps c p=ps:=by
  unfold ji;rw [if_neg (by rw [hp];omega)]
 rw [hU,hps]
 have hval:p.val=.agg #[.int .i64 p.kind,.int .i64 p.order,.int .i64 p.cls,.int .i64 p.live,.int .i64 (j2:Int),.int .i64 (j:Int),.int .i64 p.first,.int .u64 p.b0,.int .u64 p.b1,.int .u64 p.b2,.int .u64 p.b3]:=by
  unfold Pg.val;rw [hp,hn]
 have VH:=(List.getElem?_eq_some_iff.1 hi).1;have hlen:=R.po.bu.mp.ok.len;have hlj:=(List.getElem?_eq_some_iff.1 hq).1;have aau:=(List.getElem?_eq_some_iff.1 hq2).1;have c0:=R.pool;have HM:=Hd R.po.jQ;have hat:=R.po.bu.mp.at_ hi;rw [hval] at hat;have iW:=Hd hat;have HR:=Hd R;have HI:=Hd hi;have HK:=Hd hk;have HQ:=Hd hq;have Mx:=Hd hqk;have Ir:=Hd hq2;have Pt:=Hd vw;clear R hat hval hi hk hp hn hU hps hq hqk hq2 vw
 go_enter Tryz.func246,Tryz.ntmps246
 go_wp2_with fail
 refine HM.out.mono ?_
 rintro e w1 ⟨rfl,rfl⟩
 go_wp2_with fail
 refine iW.out.mono ?_
 rintro e w2 ⟨rfl,T2⟩;have S2:=HR.out.aj T2;have HS2:=Hd S2;have HT2:=Hd T2;clear S2 T2 c0 iW HM
 go_wp2_with fail
 have T3:=(Touch.refl Nothing w2).alloc (.cells #[.int .i64 p.kind,.int .i64 p.order,.int .i64 p.cls,.int .i64 p.live,.int .i64 (j2:Int),.int .i64 (j:Int),.int .i64 p.first,.int .u64 p.b0,.int .u64 p.b1,.int .u64 p.b2,.int .u64 p.b3] 128);have B3:=aC.new w2 #[.int .i64 p.kind,.int .i64 p.order,.int .i64 p.cls,.int .i64 p.live,.int .i64 (j2:Int),.int .i64 (j:Int),.int .i64 p.first,.int .u64 p.b0,.int .u64 p.b1,.int .u64 p.b2,.int .u64 p.b3] 128;generalize w2.alloc (.cells #[.int .i64 p.kind,.int .i64 p.order,.int .i64 p.cls,.int .i64 p.live,.int .i64 (j2:Int),.int .i64 (j:Int),.int .i64 p.first,.int .u64 p.b0,.int .u64 p.b1,.int .u64 p.b2,.int .u64 p.b3] 128)=w3 at *;have hx:w2.heap.size<w3.heap.size:=B3.lt;have jo:∀ k,k∈s::pb::K.fp→k<w2.heap.size:=HS2.out.lt;have VI:=Hd jo
 have o7:¬some w2.heap.size=K.M.gv.ownBlock:=by
  intro e;have:=jo w2.heap.size (by simp [ay.fp,aT.fp,←e]);omega
 have AP:=Hd o7;clear jo o7;generalize hX:w2.heap.size=X at *;have b4:w3.cell? ⟨X,4,none⟩=some (.int .i64 (j2:Int)):=B3.cell 4;have b5:w3.cell? ⟨X,5,none⟩=some (.int .i64 (j:Int)):=B3.cell 5;have S3:=HS2.out.aj T3;have hsx:s≠X:=by have:=HS2.out.lt s (by simp);omega
 have wQ:=Hd (S3.po.bu.mp.at_ HQ.out);have oQ:=Hd (And.intro b4 (And.intro b5 hx));have HT3:=Hd T3;clear S3 T3 B3 hX b4 b5
 go_wp2_with fail
 refine wQ.out.mono ?_
 rintro e w4 ⟨rfl,T4⟩;have hx4:X<w4.heap.size:=Nat.lt_of_lt_of_le oQ.out.2.2 T4.size;have b4:w4.cell? ⟨X,4,none⟩=some (.int .i64 (j2:Int)):=(T4.cell (p:=⟨X,4,none⟩) oQ.out.2.2 (fun h=>h)).trans oQ.out.1;have b5:w4.cell? ⟨X,5,none⟩=some (.int .i64 (j:Int)):=(T4.cell (p:=⟨X,5,none⟩) oQ.out.2.2 (fun h=>h)).trans oQ.out.2.1;have eu:=Hd (HT3.out.trans T4);have T5:=(Touch.refl Nothing w4).alloc (.cells #[.int .i64 q.kind,.int .i64 q.order,.int .i64 q.cls,.int .i64 q.live,.int .i64 q.next,.int .i64 q.prev,.int .i64 q.first,.int .u64 q.b0,.int .u64 q.b1,.int .u64 q.b2,.int .u64 q.b3] 128);have c4:=(T5.cell (p:=⟨X,4,none⟩) hx4 (fun h=>h)).trans b4;have c5:=(T5.cell (p:=⟨X,5,none⟩) hx4 (fun h=>h)).trans b5;have MB:=Hd (And.intro c4 (And.intro c5 (Nat.lt_of_lt_of_le hx4 T5.size)));have S5:=HS2.out.aj (eu.out.trans T5);have hqo:=HR.out.po.bu.mp.ok.page q (List.mem_of_getElem? HQ.out);have yI:=Hd (S5.po.bu.mp.kS HQ.out Mx.out (j2:Int) q.prev (by omega) (by omega) hqo.prev.1 Iu);have rG:=Hd S5;have gG:=Hd (eu.out.trans T5);clear T4 wQ hx T5 c4 c5 S5 hqo;unfold Pg.val
 go_wp2_with fail
 clear b4 b5 hx4;obtain ⟨c4,c5,hx5⟩:=MB.out;clear MB;generalize w4.alloc (.cells #[.int .i64 q.kind,.int .i64 q.order,.int .i64 q.cls,.int .i64 q.live,.int .i64 q.next,.int .i64 q.prev,.int .i64 q.first,.int .u64 q.b0,.int .u64 q.b1,.int .u64 q.b2,.int .u64 q.b3] 128)=w5 at *;refine yI.out.mono ?_
 rintro e w6 ⟨rfl,r6,t6⟩;have R6:=rG.out.fq r6 t6 rfl (List.length_set ..);have wP:=Hd R6.1;have EZ:=Hd (show Touch (·∈s::K.fp) w w6 from ((HT2.out.trans gG.out).none_).trans (R6.2.mono (fun k _ h=>List.mem_cons_of_mem _ h)));have d4:w6.cell? ⟨X,4,none⟩=some (.int .i64 (j2:Int)):=(t6.cell (p:=⟨X,4,none⟩) hx5 AP.out).trans c4;have d5:w6.cell? ⟨X,5,none⟩=some (.int .i64 (j:Int)):=(t6.cell (p:=⟨X,5,none⟩) hx5 AP.out).trans c5;have ex:X<w6.heap.size:=Nat.lt_of_lt_of_le hx5 t6.size;clear R6 r6 t6 c4 c5 hx5 yI;have HE:=Hd (And.intro d4 (And.intro d5 ex));have Px:((β.μ.aA j { q with next:=(j2:Int),prev:=q.prev })).pages[j2]? = some q2:=(List.getElem?_set_ne (fun e=>hjj e.symm)).trans Ir.out;have wQ:=Hd (wP.out.po.bu.mp.at_ Px);have aav:=Hd Px;clear Px
 go_wp2_with fail
 clear HE;refine wQ.out.mono ?_
 rintro e wb ⟨rfl,Tb⟩;have hxb:X<wb.heap.size:=Nat.lt_of_lt_of_le ex Tb.size;have b4:wb.cell? ⟨X,4,none⟩=some (.int .i64 (j2:Int)):=(Tb.cell (p:=⟨X,4,none⟩) ex (fun h=>h)).trans d4;have b5:wb.cell? ⟨X,5,none⟩=some (.int .i64 (j:Int)):=(Tb.cell (p:=⟨X,5,none⟩) ex (fun h=>h)).trans d5;have Tc:=(Touch.refl Nothing wb).alloc (.cells #[.int .i64 q2.kind,.int .i64 q2.order,.int .i64 q2.cls,.int .i64 q2.live,.int .i64 q2.next,.int .i64 q2.prev,.int .i64 q2.first,.int .u64 q2.b0,.int .u64 q2.b1,.int .u64 q2.b2,.int .u64 q2.b3] 128);have c4:=(Tc.cell (p:=⟨X,4,none⟩) hxb (fun h=>h)).trans b4;have c5:=(Tc.cell (p:=⟨X,5,none⟩) hxb (fun h=>h)).trans b5;have Sc:=wP.out.aj (Tb.trans Tc);have E8:=HR.out.po.bu.mp.ok.page q2 (List.mem_of_getElem? Ir.out);have hll:((β.μ.aA j { q with next:=(j2:Int),prev:=q.prev })).pages.length=β.μ.pages.length:=by exact List.length_set ..
 have E9:=Hd (Sc.po.bu.mp.kS aav.out Pt.out q2.next (j:Int) E8.next.1 (by show q2.next<(((β.μ.aA j { q with next:=(j2:Int),prev:=q.prev })).pages.length:Int);rw [hll];exact zi) (by omega) (by show (j:Int)<(((β.μ.aA j { q with next:=(j2:Int),prev:=q.prev })).pages.length:Int);rw [hll];omega));have HSc:=Hd Sc;have VJ:=Hd (EZ.out.trans (Tb.trans Tc).none_);clear Tb wQ Tc c4 c5 Sc E8 ex d4 d5;unfold Pg.val
 go_wp2_with fail
 clear b4 b5 hxb;generalize wb.alloc (.cells #[.int .i64 q2.kind,.int .i64 q2.order,.int .i64 q2.cls,.int .i64 q2.live,.int .i64 q2.next,.int .i64 q2.prev,.int .i64 q2.first,.int .u64 q2.b0,.int .u64 q2.b1,.int .u64 q2.b2,.int .u64 q2.b3] 128)=wc at *;refine E9.out.mono ?_
 rintro e wd ⟨rfl,rd,td⟩;have Rd:=HSc.out.fq rd td rfl (List.length_set ..);have E5:=Hd (Rd.1.po.bu.mp.kS ((List.getElem?_set_ne vv).trans ((List.getElem?_set_ne hji).trans HI.out)) HK.out (-1) (-1) (by omega) (by show (-1:Int)<_;omega) (by omega) (by show (-1:Int)<_;omega));have VK:=Hd Rd.1;have VL:=Hd (VJ.out.trans (Rd.2.mono (fun k _ h=>List.mem_cons_of_mem _ h)));clear Rd rd td E9
 go_wp2_with fail
 refine E5.out.mono ?_
 rintro e wz ⟨rfl,rz,tz⟩;have Rz:=VK.out.fq rz tz rfl (List.length_set ..)
 go_wp2_with fail
 go_end0
 exact ⟨rfl,Rz.1,VL.out.trans (Rz.2.mono (fun k _ h=>List.mem_cons_of_mem _ h))⟩
def lW (μ:Mp) (i:Nat) (n:Int):Prop:=n = -1∨∃ (j:Nat) (q:Pg),n=j∧j≠i∧μ.pages[j]? = some q∧q.kind=4∧q.prev<μ.pages.length∧q.next<μ.pages.length
theorem aM.Iw {w:World} {s pb:Nat} {K:ay} {β:Bu} {ps:List Int} (R:aM w s pb K β ps) (i c:Nat) {p:Pg} (hi:β.μ.pages[i]? = some p) (hk:p.kind=4) (hc:c<8)
  (hp:lW β.μ i p.prev) (hn:lW β.μ i p.next) (hne:p.prev = -1∨p.prev≠p.next) :
  Calls Tryz.prog 246 #[.pointer (some ⟨s,0,none⟩),.int .i64 i,.int .i64 c] w fun e w'=>e=.returned (.tuple #[])∧aM w' s pb K { β with μ:=β.μ.bH i p } (ji ps c p)∧Touch (·∈s::K.fp) w w':=by
 rcases hp with hp | ⟨j,q,hp,hji,hq,hqk,Iu,MC⟩
 ·rcases hn with hn | ⟨j2,q2,hn,vv,hq2,vw,aaw,zi⟩
  ·exact R.Pp i c hi hk hc hp hn
  ·exact R.Pq i c hi hk hc hp j2 q2 hn vv hq2 vw zi
 ·rcases hn with hn | ⟨j2,q2,hn,vv,hq2,vw,aaw,zi⟩
  ·exact R.Pv i c hi hk hc j q hp hji hq hqk Iu hn
  ·exact R.Pw i c hi hk hc j q hp hji hq hqk Iu j2 q2 hn vv hq2 vw zi (by
    rintro rfl;rcases hne with h | h
    ·omega
    ·exact h (hp.trans hn.symm))
theorem fA.links {β:Bu} {ps:List Int} {C L:Nat→List Nat} (S:fA β ps C L) {c i:Nat} {p:Pg} (hc:c<8) (hi:i∈L c) (hp:β.μ.pages[i]? = some p) :
  (p.prev = -1∨∃ j∈L c,j≠i∧p.prev=(j:Int))∧(p.next = -1∨∃ j∈L c,j≠i∧p.next=(j:Int))∧(p.prev = -1∨p.prev≠p.next):=by
 obtain ⟨a,t,hL⟩:=List.append_of_mem hi;have D:=S.lists c hc;have M:=S.nodup c hc;rw [hL] at D M ⊢;have h1:=D.nL;have h2:=D.lZ;rw [fH hp] at h1;rw [eY hp] at h2;rw [List.nodup_append] at M;obtain ⟨_,M2,M3⟩:=M;simp only [List.nodup_cons] at M2
 have ha:p.prev = -1∨∃ j∈a,p.prev=(j:Int):=by
  cases hg:a.getLast? with
  | none=>unfold Mr at h1;rw [hg] at h1;exact .inl h1
  | some z=>rw [og hg] at h1;exact .inr ⟨z,List.mem_of_getLast? hg,h1⟩
 have ht:p.next = -1∨∃ j∈t,p.next=(j:Int):=by
  cases t with
  | nil=>exact .inl h2
  | cons y t=>exact .inr ⟨y,by simp,h2⟩
 refine ⟨ha.imp id (fun ⟨j,hj,e⟩=>⟨j,by simp [hj],fun h=>M3 j hj i (by simp) h,e⟩),ht.imp id (fun ⟨j,hj,e⟩=>⟨j,by simp [hj],fun h=>M2.1 (h▸hj),e⟩),?_⟩;rcases ha with ha | ⟨j,hj,e⟩
 ·exact .inl ha
 ·refine .inr (fun h=>?_);rcases ht with ht | ⟨j2,hj2,e2⟩
  ·omega
  ·have:j=j2:=by omega
   subst this;exact M3 j hj j (by simp [hj2]) rfl
theorem fA.nb {β:Bu} {ps:List Int} {C L:Nat→List Nat} (S:fA β ps C L) {c i:Nat} {p:Pg} (hc:c<8) (hi:i∈L c) (hp:β.μ.pages[i]? = some p):lW β.μ i p.prev∧lW β.μ i p.next∧(p.prev = -1∨p.prev≠p.next):=by
 have hlk:∀ j q,j∈L c→β.μ.pages[j]? = some q→q.prev<β.μ.pages.length∧q.next<β.μ.pages.length:=by
  intro j q hj hq;obtain ⟨h1,h2,_⟩:=S.links hc hj hq
  have lt:∀ x,x∈L c→x<β.μ.pages.length:=fun x hx=>by
   obtain ⟨q,hq,_⟩:=S.jH hc hx;exact (List.getElem?_eq_some_iff.1 hq).1
  constructor
  ·rcases h1 with h | ⟨x,hx,_,h⟩
   ·omega
   ·have:=lt x hx;omega
  ·rcases h2 with h | ⟨x,hx,_,h⟩
   ·omega
   ·have:=lt x hx;omega
 obtain ⟨h1,h2,h3⟩:=S.links hc hi hp;refine ⟨h1.imp id (fun ⟨j,hj,ne,e⟩=>?_),h2.imp id (fun ⟨j,hj,ne,e⟩=>?_),h3⟩
 ·obtain ⟨q,hq,h4,_⟩:=S.jH hc hj;exact ⟨j,q,e,ne,hq,h4,hlk j q hj hq⟩
 ·obtain ⟨q,hq,h4,_⟩:=S.jH hc hj;exact ⟨j,q,e,ne,hq,h4,hlk j q hj hq⟩
theorem lW.set {μ:Mp} {i:Nat} {n:Int} {p':Pg} (h:lW μ i n):lW (μ.aA i p') i n:=by
 refine h.imp id (fun ⟨j,q,e,ne,hq,h4,h1,h2⟩=>⟨j,q,e,ne,(List.getElem?_set_ne (fun x=>ne x.symm)).trans hq,h4,?_,?_⟩)
 ·rw [show (μ.aA i p').pages.length=μ.pages.length from List.length_set ..];exact h1
 ·rw [show (μ.aA i p').pages.length=μ.pages.length from List.length_set ..];exact h2
theorem aM.Py {w:World} {s pb:Nat} {K:ay} {β:Bu} {ps:List Int} (R:aM w s pb K β ps) (G:bU w) (c i f:Nat) (f2:Nat) (deny:Bool) {p:Pg} (hc:c<8) (he:ps.getD c 0=(i:Int)) (hl:β.μ.pages.length=β.σ.n*2^β.μ.order)
  (hi:β.μ.pages[i]? = some p) (hk:p.kind=4) (hcl:p.cls=c) (hf:p.first=(f:Int)) (hfl:f<aR c) (hb:p.bit f=false) (hlv:0≤p.live+1∧p.live+1≤256)
  (hf2:f2<aR c) (hw:β.σ.word (β.addr i+f*aB c)=β.addr i+f2*aB c) :
  Calls Tryz.prog 191 #[.pointer (some ⟨s,0,none⟩),.int .i64 c,.bool deny] w
   (Taken w s pb K { β with μ:=β.μ.aA i (p.take f f2) } ps (.tuple #[.int .u64 (β.addr i+f*aB c:Nat),.bool false,.int .i64 0])):=by
 have c0:=R.pool;have c1:=R.part c hc;rw [he] at c1;have hlt:=(List.getElem?_eq_some_iff.1 hi).1;have hlen:=R.po.bu.mp.ok.len;have htop:β.σ.base+4096*i+4096≤18446744073709551615:=R.po.bu.ok.dZ R.po.bu.sp.ok hlt;obtain ⟨u1,u2,u3,u4,u5,u6⟩:=dK hc
 have hin:f*aB c+aB c≤4096:=by
  have:=jB c (by omega) hfl;simpa using this
 have hval:p.val=.agg #[.int .i64 p.kind,.int .i64 p.order,.int .i64 p.cls,.int .i64 p.live,.int .i64 p.next,.int .i64 p.prev,.int .i64 (f:Int),.int .u64 p.b0,.int .u64 p.b1,.int .u64 p.b2,.int .u64 p.b3]:=by
  unfold Pg.val;rw [hf]
 have hat:=R.po.bu.mp.at_ hi;rw [hval] at hat;have iW:=Hd hat;have HM:=Hd R.po.jQ;have HR:=Hd R;have HG:=Hd G;have HI:=Hd hi;have HK:=Hd hk;have tQ:=Hd hcl;have pE:=Hd hb;have HF:=Hd hf;have HL:=Hd hl;have rQ:=Hd hlv;have HW:=Hd hw;have kg:Hid (β.σ.has (β.σ.base+4096*i+f*aB c) 8):=Hd (R.po.bu.ok.has (i:=i) (off:=f*aB c) (n:=8) hlt (by omega) (by omega));have HU:=Hd (And.intro u3 u6);have hi3:i≤1023:=by omega
 have VN:=Hd hfl;have D9:f<256:=by omega
 have hin2:f2*aB c+aB c≤4096:=by
  have:=jB c (by omega) hf2;simpa using this
 have EA:=Hd hf2;have abv:f2<256:=by omega
 clear hf2;clear R G hl hi hk hcl hf hfl hb hlv hw hval hat hlt hlen he u3 u6
 go_enter Tryz.func191,Tryz.ntmps191
 have hi0:¬((i:Int)<0):=by omega
 go_wp2_with fail
 refine HM.out.mono ?_
 rintro e w1 ⟨rfl,rfl⟩
 go_wp2_with fail
 refine iW.out.mono ?_
 rintro e w2 ⟨rfl,T2⟩;have HT2:=Hd T2;have S2:=HR.out.aj T2;have HB2:=Hd (fun W (T:Touch Nothing w2 W)=>(S2.aj T).pW HL.out);have HS2:=Hd S2;have HG2:=Hd (HG.out.aj T2);clear T2 S2 iW HM
 go_wp2_with fail
 have T3:=(Touch.refl Nothing w2).alloc (.cells #[.int .i64 p.kind,.int .i64 p.order,.int .i64 p.cls,.int .i64 p.live,.int .i64 p.next,.int .i64 p.prev,.int .i64 (f:Int),.int .u64 p.b0,.int .u64 p.b1,.int .u64 p.b2,.int .u64 p.b3] 128);have B3:=aC.new w2 #[.int .i64 p.kind,.int .i64 p.order,.int .i64 p.cls,.int .i64 p.live,.int .i64 p.next,.int .i64 p.prev,.int .i64 (f:Int),.int .u64 p.b0,.int .u64 p.b1,.int .u64 p.b2,.int .u64 p.b3] 128;refine (HB2.out _ T3).mono ?_
 rintro e w4 ⟨rfl,k4,rfl⟩
 replace T3:=T3.drewN k4
 replace B3:=B3.drewN k4
 have jo:∀ k,k∈s::pb::K.fp→k<w2.heap.size:=HS2.out.lt
 have o7:¬some w2.heap.size=K.M.gv.ownBlock:=by
  intro e;have:=jo w2.heap.size (by simp [ay.fp,aT.fp,←e]);omega
 have AP:=Hd o7;clear jo o7;generalize (w2.alloc (.cells #[.int .i64 p.kind,.int .i64 p.order,.int .i64 p.cls,.int .i64 p.live,.int .i64 p.next,.int .i64 p.prev,.int .i64 (f:Int),.int .u64 p.b0,.int .u64 p.b1,.int .u64 p.b2,.int .u64 p.b3] 128)).drewN k4=w4 at *;have hx:w2.heap.size<w4.heap.size:=B3.lt;generalize hX:w2.heap.size=X at *;have b6:w4.cell? ⟨X,6,none⟩=some (.int .i64 (f:Int)):=B3.cell 6;have cw:w4.cell? ⟨1,c,none⟩=some (.int .u64 (aB c:Nat)):=(HG2.out.aj T3).widths c hc;have HT3:=Hd T3;have S4:=HS2.out.aj T3;have yG:=Hd S4;have jg:=Hd (fun k=>((S4.drewN k).po.gM));have pG:=Hd (fun k=>(S4.drewN k).po.bu.sp.uy (β.σ.base+4096*i+f*aB c) kg.out);have d0:w4.cell? ⟨s,0,none⟩=some (.pointer (some ⟨pb,0,none⟩)):=S4.pool;have hw0:¬(aB c:Int)=0:=by omega
 obtain ⟨d,hd⟩:∃ d,d=f*aB c:=⟨_,rfl⟩;have hdi:(f:Int)*(aB c:Int)=(d:Int):=by rw [hd];simp
 rw [←hd] at hin;have HD:=Hd hd;clear T3 B3 S4 hX hd c0;generalize hwd:aB c=wd at *;generalize yN:β.σ.base=B at *
 go_wp2_with fail
 go_quiet (fail)
 go_wp2_with fail
 refine (jg.out _).mono ?_
 rintro e w5 ⟨rfl,rfl⟩
 go_wp2_with fail
 have hWd:=pG.out nq;rw [HD.out.symm] at hWd;have CQ:=HW.out;rw [show β.addr i=B+4096*i by rw [←yN];rfl,HD.out.symm] at CQ;rw [CQ,show ((B+4096*i+d:Nat):Int)=(B:Int)+4096*(i:Int)+(d:Int) by omega] at hWd;obtain ⟨d2,hd2⟩:∃ d2,d2=f2*wd:=⟨_,rfl⟩;rw [←hd2] at hin2;rw [←hd2,show ((B+4096*i+d2:Nat):Int)=(B:Int)+4096*(i:Int)+(d2:Int) by omega] at hWd;have LX:((B:Int)+4096*(i:Int)+(d2:Int) != 0)=true:=by rw [bne_iff_ne];have:=HR.out.po.bu.sp.ok.base0;rw [yN] at this;omega
 have hq1:((B:Int)+4096*(i:Int)+(d2:Int)-((B:Int)+4096*(i:Int)))/(wd:Int)=(f2:Int):=by
  rw [show (B:Int)+4096*(i:Int)+(d2:Int)-((B:Int)+4096*(i:Int))=(d2:Int) by omega,hd2]
  exact_mod_cast Nat.mul_div_cancel f2 (by omega:0<wd)
 clear hd2;have Ag:=Hd hWd;clear hWd CQ;refine Ag.out.mono ?_
 rintro e w5 ⟨rfl,T5⟩;have tT:=((Touch.refl Nothing w4).drewN nq).trans T5;have f6:w5.cell? ⟨X,6,none⟩=some (.int .i64 (f:Int)):=(tT.cell (p:=⟨X,6,none⟩) hx (fun h=>h)).trans b6;have fw:w5.cell? ⟨1,c,none⟩=some (.int .u64 wd):=(tT.cell (p:=⟨1,c,none⟩) (World.block_lt_of_cell? _ _ cw) (fun h=>h)).trans cw;have hx5:X<w5.heap.size:=Nat.lt_of_lt_of_le hx tT.size;have gG:=Hd ((HT2.out.trans HT3.out).trans tT);have S5:=yG.out.aj tT;have pJ:=Hd (S5.po.bu.mp.yZ HI.out HK.out f true (by rw [tQ.out];exact VN.out) (by rw [pE.out];rfl) rQ.out);have rG:=Hd S5;clear T5 tT S5 b6 cw hx pG jg Ag d0
 go_wp2_with fail
 refine pJ.out.mono ?_
 rintro e w6 ⟨rfl,r6,t6⟩;have R6:=rG.out.fq r6 t6 rfl (List.length_set ..);have rJ:(β.μ.aA i (p.own f true)).pages[i]? = some (p.own f true):=Mp.bQ _ HI.out;have hsm:=jh p f true;have qK:=Hd (R6.1.po.bu.mp.qH rJ (hsm.1.trans HK.out) (f2:Int) (by omega) (by rw [hsm.2.2.1,tQ.out];have:=HU.out.2;have:=EA.out;omega));have jY:=Hd (gG.out.none_.trans R6.2);have qL:=Hd R6.1;clear r6 t6 R6 rJ hsm f6 fw LX hq1
 go_wp2_with fail
 refine qK.out.mono ?_
 rintro e w7 ⟨rfl,r7,t7⟩;have R7:=qL.out.fq r7 t7 rfl (List.length_set ..);have e7:(β.μ.aA i (p.own f true)).aA i { p.own f true with first:=(f2:Int) }=β.μ.aA i (p.take f (f2:Int)):=by rw [Mp.iG];rfl
 have CR:aM w7 s pb K { β with μ:=β.μ.aA i (p.take f (f2:Int)) } ps:=by rw [←e7];exact R7.1
 have tH:=Hd CR;have nT:=Hd (jY.out.trans R7.2);clear r7 t7 R7 e7 CR
 go_wp2_with fail
 go_ret3
 refine ⟨?_,K,tH.out,ay.Next.refl _ _,nT.out.mono (fun k _ h=>List.mem_cons_of_mem _ h)⟩
 show Ending.returned (.tuple #[.int .u64 ((B:Int)+4096*(i:Int)+(d:Int)),.bool false,.int .i64 0])=_
 have hA:β.addr i+f*wd=B+4096*i+d:=by rw [←HD.out,←yN];rfl
 rw [hA,show ((B+4096*i+d:Nat):Int)=(B:Int)+4096*(i:Int)+(d:Int) by omega]
theorem aM.ME {w:World} {s pb:Nat} {K:ay} {β:Bu} {ps:List Int} (R:aM w s pb K β ps) (G:bU w) (c i f:Nat) (deny:Bool) {p:Pg} (hc:c<8) (he:ps.getD c 0=(i:Int)) (hl:β.μ.pages.length=β.σ.n*2^β.μ.order)
  (hi:β.μ.pages[i]? = some p) (hk:p.kind=4) (hcl:p.cls=c) (hf:p.first=(f:Int)) (hfl:f<aR c) (hb:p.bit f=false) (hlv:0≤p.live+1∧p.live+1≤256)
  (hw:β.σ.word (β.addr i+f*aB c)=0) (hnp:lW β.μ i p.prev) (hnn:lW β.μ i p.next) (hne:p.prev = -1∨p.prev≠p.next) :
  Calls Tryz.prog 191 #[.pointer (some ⟨s,0,none⟩),.int .i64 c,.bool deny] w
   (Taken w s pb K { β with μ:=(β.μ.aA i (p.take f (-1))).bH i (p.take f (-1)) } (ji ps c (p.take f (-1))) (.tuple #[.int .u64 (β.addr i+f*aB c:Nat),.bool false,.int .i64 0])):=by
 have c0:=R.pool;have c1:=R.part c hc;rw [he] at c1;have hlt:=(List.getElem?_eq_some_iff.1 hi).1;have hlen:=R.po.bu.mp.ok.len;have htop:β.σ.base+4096*i+4096≤18446744073709551615:=R.po.bu.ok.dZ R.po.bu.sp.ok hlt;obtain ⟨u1,u2,u3,u4,u5,u6⟩:=dK hc
 have hin:f*aB c+aB c≤4096:=by
  have:=jB c (by omega) hfl;simpa using this
 have hval:p.val=.agg #[.int .i64 p.kind,.int .i64 p.order,.int .i64 p.cls,.int .i64 p.live,.int .i64 p.next,.int .i64 p.prev,.int .i64 (f:Int),.int .u64 p.b0,.int .u64 p.b1,.int .u64 p.b2,.int .u64 p.b3]:=by
  unfold Pg.val;rw [hf]
 have hat:=R.po.bu.mp.at_ hi;rw [hval] at hat;have iW:=Hd hat;have HM:=Hd R.po.jQ;have HR:=Hd R;have HG:=Hd G;have HI:=Hd hi;have HK:=Hd hk;have tQ:=Hd hcl;have pE:=Hd hb;have HF:=Hd hf;have HL:=Hd hl;have rQ:=Hd hlv;have HW:=Hd hw;have kg:Hid (β.σ.has (β.σ.base+4096*i+f*aB c) 8):=Hd (R.po.bu.ok.has (i:=i) (off:=f*aB c) (n:=8) hlt (by omega) (by omega));have HU:=Hd (And.intro u3 u6);have hi3:i≤1023:=by omega
 have VN:=Hd hfl;have D9:f<256:=by omega
 have Fe:=Hd (And.intro hnp (And.intro hnn hne));clear hnp hnn hne;clear R G hl hi hk hcl hf hfl hb hlv hw hval hat hlt hlen he u3 u6
 go_enter Tryz.func191,Tryz.ntmps191
 have hi0:¬((i:Int)<0):=by omega
 go_wp2_with fail
 refine HM.out.mono ?_
 rintro e w1 ⟨rfl,rfl⟩
 go_wp2_with fail
 refine iW.out.mono ?_
 rintro e w2 ⟨rfl,T2⟩;have HT2:=Hd T2;have S2:=HR.out.aj T2;have HB2:=Hd (fun W (T:Touch Nothing w2 W)=>(S2.aj T).pW HL.out);have HS2:=Hd S2;have HG2:=Hd (HG.out.aj T2);clear T2 S2 iW HM
 go_wp2_with fail
 have T3:=(Touch.refl Nothing w2).alloc (.cells #[.int .i64 p.kind,.int .i64 p.order,.int .i64 p.cls,.int .i64 p.live,.int .i64 p.next,.int .i64 p.prev,.int .i64 (f:Int),.int .u64 p.b0,.int .u64 p.b1,.int .u64 p.b2,.int .u64 p.b3] 128);have B3:=aC.new w2 #[.int .i64 p.kind,.int .i64 p.order,.int .i64 p.cls,.int .i64 p.live,.int .i64 p.next,.int .i64 p.prev,.int .i64 (f:Int),.int .u64 p.b0,.int .u64 p.b1,.int .u64 p.b2,.int .u64 p.b3] 128;refine (HB2.out _ T3).mono ?_
 rintro e w4 ⟨rfl,k4,rfl⟩
 replace T3:=T3.drewN k4
 replace B3:=B3.drewN k4
 have jo:∀ k,k∈s::pb::K.fp→k<w2.heap.size:=HS2.out.lt
 have o7:¬some w2.heap.size=K.M.gv.ownBlock:=by
  intro e;have:=jo w2.heap.size (by simp [ay.fp,aT.fp,←e]);omega
 have AP:=Hd o7;clear jo o7;generalize (w2.alloc (.cells #[.int .i64 p.kind,.int .i64 p.order,.int .i64 p.cls,.int .i64 p.live,.int .i64 p.next,.int .i64 p.prev,.int .i64 (f:Int),.int .u64 p.b0,.int .u64 p.b1,.int .u64 p.b2,.int .u64 p.b3] 128)).drewN k4=w4 at *;have hx:w2.heap.size<w4.heap.size:=B3.lt;generalize hX:w2.heap.size=X at *;have b6:w4.cell? ⟨X,6,none⟩=some (.int .i64 (f:Int)):=B3.cell 6;have cw:w4.cell? ⟨1,c,none⟩=some (.int .u64 (aB c:Nat)):=(HG2.out.aj T3).widths c hc;have HT3:=Hd T3;have S4:=HS2.out.aj T3;have yG:=Hd S4;have jg:=Hd (fun k=>((S4.drewN k).po.gM));have pG:=Hd (fun k=>(S4.drewN k).po.bu.sp.uy (β.σ.base+4096*i+f*aB c) kg.out);have d0:w4.cell? ⟨s,0,none⟩=some (.pointer (some ⟨pb,0,none⟩)):=S4.pool;have hw0:¬(aB c:Int)=0:=by omega
 obtain ⟨d,hd⟩:∃ d,d=f*aB c:=⟨_,rfl⟩;have hdi:(f:Int)*(aB c:Int)=(d:Int):=by rw [hd];simp
 rw [←hd] at hin;have HD:=Hd hd;clear T3 B3 S4 hX hd c0;generalize hwd:aB c=wd at *;generalize yN:β.σ.base=B at *
 go_wp2_with fail
 go_quiet (fail)
 go_wp2_with fail
 refine (jg.out _).mono ?_
 rintro e w5 ⟨rfl,rfl⟩
 go_wp2_with fail
 have hWd:=pG.out nq;rw [HD.out.symm] at hWd;have CQ:=HW.out;rw [show β.addr i=B+4096*i by rw [←yN];rfl,HD.out.symm] at CQ;rw [CQ,show ((B+4096*i+d:Nat):Int)=(B:Int)+4096*(i:Int)+(d:Int) by omega] at hWd;have Ag:=Hd hWd;clear hWd CQ;refine Ag.out.mono ?_
 rintro e w5 ⟨rfl,T5⟩;have tT:=((Touch.refl Nothing w4).drewN nq).trans T5;have f6:w5.cell? ⟨X,6,none⟩=some (.int .i64 (f:Int)):=(tT.cell (p:=⟨X,6,none⟩) hx (fun h=>h)).trans b6;have fw:w5.cell? ⟨1,c,none⟩=some (.int .u64 wd):=(tT.cell (p:=⟨1,c,none⟩) (World.block_lt_of_cell? _ _ cw) (fun h=>h)).trans cw;have hx5:X<w5.heap.size:=Nat.lt_of_lt_of_le hx tT.size;have gG:=Hd ((HT2.out.trans HT3.out).trans tT);have S5:=yG.out.aj tT;have pJ:=Hd (S5.po.bu.mp.yZ HI.out HK.out f true (by rw [tQ.out];exact VN.out) (by rw [pE.out];rfl) rQ.out);have rG:=Hd S5;clear T5 tT S5 b6 cw hx pG jg Ag d0
 go_wp2_with fail
 refine pJ.out.mono ?_
 rintro e w6 ⟨rfl,r6,t6⟩;have R6:=rG.out.fq r6 t6 rfl (List.length_set ..);have rJ:(β.μ.aA i (p.own f true)).pages[i]? = some (p.own f true):=Mp.bQ _ HI.out;have hsm:=jh p f true;have qK:=Hd (R6.1.po.bu.mp.qH rJ (hsm.1.trans HK.out) (-1) (by omega) (by rw [hsm.2.2.1,tQ.out];have:=HU.out.2;omega));have jY:=Hd (gG.out.none_.trans R6.2);have qL:=Hd R6.1;clear r6 t6 R6 rJ hsm f6 fw
 go_wp2_with fail
 refine qK.out.mono ?_
 rintro e w7 ⟨rfl,r7,t7⟩;have R7:=qL.out.fq r7 t7 rfl (List.length_set ..);have e7:(β.μ.aA i (p.own f true)).aA i { p.own f true with first:=(-1) }=β.μ.aA i (p.take f (-1)):=by rw [Mp.iG];rfl
 have CR:aM w7 s pb K { β with μ:=β.μ.aA i (p.take f (-1)) } ps:=by rw [←e7];exact R7.1
 have tH:=Hd CR;have nT:=Hd (jY.out.trans R7.2);clear r7 t7 R7 e7 CR;have hsm:=jh p f true;have HUn:=Hd (tH.out.Iw i c (p:=p.take f (-1)) (Mp.bQ _ HI.out) (hsm.1.trans HK.out) hc (by show lW _ i (p.own f true).prev;rw [hsm.2.2.2.2.1];exact Fe.out.1.set) (by show lW _ i (p.own f true).next;rw [hsm.2.2.2.1];exact Fe.out.2.1.set) (by show (p.own f true).prev = -1∨(p.own f true).prev≠(p.own f true).next;rw [hsm.2.2.2.1,hsm.2.2.2.2.1];exact Fe.out.2.2));clear hsm
 go_wp2_with fail
 refine HUn.out.mono ?_
 rintro e w8 ⟨rfl,S8,T8⟩;have HS8:=Hd S8;have HT8:=Hd T8;clear S8 T8
 go_wp2_with fail
 go_ret3
 refine ⟨?_,K,HS8.out,ay.Next.refl _ _,(nT.out.mono (fun k _ h=>List.mem_cons_of_mem _ h)).trans HT8.out⟩
 show Ending.returned (.tuple #[.int .u64 ((B:Int)+4096*(i:Int)+(d:Int)),.bool false,.int .i64 0])=_
 have hA:β.addr i+f*wd=B+4096*i+d:=by rw [←HD.out,←yN];rfl
 rw [hA,show ((B+4096*i+d:Nat):Int)=(B:Int)+4096*(i:Int)+(d:Int) by omega]
theorem aM.MF {w:World} {s pb:Nat} {K:ay} {β β1:Bu} {ps:List Int} (R:aM w s pb K β ps) (G:bU w) (iK:∀ k∈s::pb::K.fp,9≤k) (c i:Nat) (g deny:Bool) (hc:c<8) (he:ps.getD c 0 = -1)
  (MG:Calls Tryz.prog 193 #[.pointer (some ⟨pb,0,none⟩),.int .i64 0,.bool deny] w (Needed w pb K β1 (.tuple #[.int .u64 (β1.addr i:Nat),.bool g,.int .i64 0])))
  {p:Pg} (hp:β1.μ.pages[i]? = some p) (hl1:β1.μ.pages.length=β1.σ.n*2^β1.μ.order) :
  Calls Tryz.prog 191 #[.pointer (some ⟨s,0,none⟩),.int .i64 c,.bool deny] w
   (Taken w s pb K (β1.eT i c) (ps.set c i) (.tuple #[.int .u64 (β1.addr i:Nat),.bool g,.int .i64 0])):=by
 have c0:=R.pool;have c1:=R.part c hc;rw [he] at c1;have HN:=Hd MG;have HR:=Hd R;have HG:=Hd G;have mG:=Hd iK;have HE:=Hd he;have HP:=Hd hp;have nS:=Hd hl1;clear R G iK he hp hl1 MG
 go_enter Tryz.func191,Tryz.ntmps191
 go_wp2_with fail
 refine HN.out.mono ?_
 rintro e w1 ⟨rfl,K1,P1,N1,T1⟩;have S1:=HR.out.next T1 N1 P1.bu
 have uN:∀ k∈s::pb::K1.fp,9≤k:=by
  intro k hk;simp only [List.mem_cons] at hk;rcases hk with rfl | rfl | hk
  ·exact mG.out _ (by simp)
  ·exact mG.out _ (by simp)
  ·rcases N1.fresh k hk with h | h
   ·exact mG.out _ (by simp [h])
   ·have:=HG.out.size;omega
 have hfp:∀ k,k<9→¬k∈K.fp:=fun k hk h=>by have:=mG.out k (by simp [h]);omega
 have G1:=HG.out.touch T1 hfp;have HB:=S1.RD G1 uN i c HP.out hc HE.out nS.out;have Vs:=Hd HB;have LP:=Hd G1;have qJ:=Hd N1;have HT1:=Hd T1;have Af:=Hd uN;clear S1 P1 N1 T1 uN hfp G1 HB c1
 go_wp2_with fail
 refine Vs.out.mono ?_
 rintro e w2 ⟨rfl,S2,T2⟩;have HS2:=Hd S2;have HT2:=Hd T2;have d0:=S2.pool;have Vt:=Hd (S2.po.jQ);clear S2 T2 c0
 go_wp2_with fail
 refine Vt.out.mono ?_
 rintro e w3 ⟨rfl,rfl⟩;have iW:=Hd (HS2.out.po.bu.mp.at_ (jW HP.out))
 go_wp2_with fail
 refine iW.out.mono ?_
 rintro e w3 ⟨rfl,T3⟩;have HT3:=Hd T3;have S3:=HS2.out.aj T3
 have hl2:(β1.born i c).μ.pages.length=(β1.born i c).σ.n*2^(β1.born i c).μ.order:=by
  obtain ⟨b1,b2,b3,_⟩:=uL β1 i c;rw [b1,b2,b3];exact nS.out
 have HB3:=Hd (fun W (T:Touch Nothing w3 W)=>(S3.aj T).pW hl2);have jS:=Hd S3;clear T3 S3 hl2;have LQ:(β1.born i c).σ.base=β1.σ.base:=(uL β1 i c).2.2.2;have hlt1:i<(β1.born i c).μ.pages.length:=(List.getElem?_eq_some_iff.1 (jW HP.out)).1;have hlen1:=HS2.out.po.bu.mp.ok.len;have htop:(β1.born i c).σ.base+4096*i+4096≤18446744073709551615:=HS2.out.po.bu.ok.dZ HS2.out.po.bu.sp.ok hlt1;have EG:β1.addr i=(β1.born i c).σ.base+4096*i:=by rw [LQ];rfl
 have LU:=Hd EG;have hi:i≤1023:=by omega
 obtain ⟨u1,u2,u3,u4,u5,u6⟩:=dK hc
 have LV:(β1.born i c).σ.word (β1.addr i)=β1.addr i+aB c:=by
  have:=pX (σ:=β1.σ) (at_:=β1.addr i) (wd:=aB c) (n:=4096/aB c) (by omega) (by rw [u3,EG];omega) (4096/aB c) 0 (Nat.le_refl _) (by omega);rw [Nat.zero_mul,Nat.add_zero] at this
  show (fK β1.σ (β1.addr i) (aB c) (4096/aB c) (4096/aB c)).word (β1.addr i)=_
  rw [this];unfold mD;rw [if_neg (by omega)];omega
 have Vu:=Hd LV;have HU:=Hd (And.intro u3 u6);have kg:=Hd (HS2.out.po.bu.ok.has (i:=i) (off:=0) (n:=8) hlt1 (by omega) (by omega))
 have Vv:=Hd ((LP.out.touch HT2.out (fun k hk h=>by
  rcases List.mem_cons.1 h with e | h
  ·have:=Af.out s (by simp);omega
  ·have:=Af.out k (by simp [h]);omega)).aj HT3.out)
 clear LQ hlt1 hlen1 EG LV u3 u6;unfold Pg.val
 go_wp2_with fail
 refine (HB3.out _ ((Touch.refl Nothing w3).alloc _)).mono ?_
 rintro e w4 ⟨rfl,k4,rfl⟩;have T4:Touch Nothing w3 ((w3.alloc (.cells #[.int .i64 (aF c).kind,.int .i64 (aF c).order,.int .i64 (aF c).cls,.int .i64 (aF c).live,.int .i64 (aF c).next,.int .i64 (aF c).prev,.int .i64 (aF c).first,.int .u64 (aF c).b0,.int .u64 (aF c).b1,.int .u64 (aF c).b2,.int .u64 (aF c).b3] 128)).drewN k4):=((Touch.refl Nothing w3).alloc _).drewN k4;have B4:=(aC.new w3 #[.int .i64 (aF c).kind,.int .i64 (aF c).order,.int .i64 (aF c).cls,.int .i64 (aF c).live,.int .i64 (aF c).next,.int .i64 (aF c).prev,.int .i64 (aF c).first,.int .u64 (aF c).b0,.int .u64 (aF c).b1,.int .u64 (aF c).b2,.int .u64 (aF c).b3] 128).drewN k4;generalize (w3.alloc (.cells #[.int .i64 (aF c).kind,.int .i64 (aF c).order,.int .i64 (aF c).cls,.int .i64 (aF c).live,.int .i64 (aF c).next,.int .i64 (aF c).prev,.int .i64 (aF c).first,.int .u64 (aF c).b0,.int .u64 (aF c).b1,.int .u64 (aF c).b2,.int .u64 (aF c).b3] 128)).drewN k4=w4 at *;have b6:w4.cell? ⟨w3.heap.size,6,none⟩=some (.int .i64 0):=B4.cell 6;have cw:w4.cell? ⟨1,c,none⟩=some (.int .u64 (aB c:Nat)):=(Vv.out.aj T4).widths c hc;have eu:=Hd T4;have jX:=Hd B4;have jg:=Hd (fun k=>(((jS.out.aj T4).drewN k).po.gM));have hw0:¬(aB c:Int)=0:=by omega
 have pG:=Hd (fun k=>((jS.out.aj T4).drewN k).po.bu.sp.uy ((β1.born i c).σ.base+4096*i) kg.out);have hdd:(aB c:Int)/(aB c:Int)=1:=Int.ediv_self (by omega);have d0':w4.cell? ⟨s,0,none⟩=some (.pointer (some ⟨pb,0,none⟩)):=(jS.out.aj T4).pool;clear T4 B4 d0;generalize aB c=wd at *;generalize (β1.born i c).σ.base=B at *
 go_wp2_with fail
 go_quiet (fail)
 go_wp2_with fail
 refine (jg.out _).mono ?_
 rintro e w5 ⟨rfl,rfl⟩
 go_wp2_with fail
 have LW:(β1.born i c).σ.word (B+4096*i)=B+4096*i+wd:=by
  have:=Vu.out;rw [LU.out] at this;exact this
 have HW:=pG.out nq;rw [LW,show ((B+4096*i:Nat):Int)=(B:Int)+4096*(i:Int) by omega,show ((B+4096*i+wd:Nat):Int)=(B:Int)+4096*(i:Int)+(wd:Int) by omega] at HW;have Ag:=Hd HW;have LX:((B:Int)+4096*(i:Int)+(wd:Int) != 0)=true:=by rw [bne_iff_ne];omega
 clear HW LW;refine Ag.out.mono ?_
 rintro e w5 ⟨rfl,T5⟩;have pI:w3.heap.size<w4.heap.size:=jX.out.lt;have Ah:=((Touch.refl Nothing w4).drewN nq).trans T5;have f6:w5.cell? ⟨w3.heap.size,6,none⟩=some (.int .i64 0):=(Ah.cell (p:=⟨w3.heap.size,6,none⟩) pI (fun h=>h)).trans b6;have fw:w5.cell? ⟨1,c,none⟩=some (.int .u64 wd):=(Ah.cell (p:=⟨1,c,none⟩) (World.block_lt_of_cell? _ _ cw) (fun h=>h)).trans cw;have gG:=Hd (eu.out.trans Ah);have pJ:=Hd ((jS.out.aj gG.out).po.bu.mp.yZ (jW HP.out) rfl 0 true (by rw [show (aF c).cls=(c:Int) from rfl,←HU.out.2];omega) (by rw [Ae];rfl) (by show (0:Int)≤0+1∧(0:Int)+1≤256;decide))
 have hq1:((B:Int)+4096*(i:Int)+(wd:Int)-((B:Int)+4096*(i:Int)))/(wd:Int)=1:=by
  rw [show (B:Int)+4096*(i:Int)+(wd:Int)-((B:Int)+4096*(i:Int))=(wd:Int) by omega];exact hdd
 clear T5 Ah b6 cw d0' hdd
 go_wp2_with fail
 refine pJ.out.mono ?_
 rintro e w6 ⟨rfl,r6,t6⟩;have R6:=(jS.out.aj gG.out).po.bu.fq r6 t6 rfl (List.length_set ..);have S6:=(jS.out.aj gG.out).next R6.2 (ay.Next.refl _ _) R6.1;have rJ:((β1.born i c).μ.aA i ((aF c).own 0 true)).pages[i]? = some ((aF c).own 0 true):=Mp.bQ _ (jW HP.out);have qK:=Hd (S6.po.bu.mp.qH rJ rfl 1 (by omega) (by rw [show ((aF c).own 0 true).cls=(c:Int) from rfl,←HU.out.2];omega));have jY:=Hd R6.2;have qL:=Hd S6;clear r6 t6 R6 S6 rJ hq1 f6 fw LX
 go_wp2_with fail
 refine qK.out.mono ?_
 rintro e w7 ⟨rfl,r7,t7⟩;have R7:=qL.out.po.bu.fq r7 t7 rfl (List.length_set ..);have S7:=qL.out.next R7.2 (ay.Next.refl _ _) R7.1;have nT:=Hd R7.2;have tH:=Hd S7;clear r7 t7 R7 S7
 go_wp2_with fail
 go_ret3
 refine ⟨?_,K1,?_,qJ.out,?_⟩
 ·rw [LU.out]
  show Ending.returned _=_
  congr 3
 ·have e:(β1.eT i c).μ=((β1.born i c).μ.aA i ((aF c).own 0 true)).aA i { (aF c).own 0 true with first:=1 }:=by rw [Mp.iG];rfl
  have e2:β1.eT i c=⟨(β1.born i c).σ,((β1.born i c).μ.aA i ((aF c).own 0 true)).aA i { (aF c).own 0 true with first:=1 },(β1.born i c).heads⟩:=by rw [←e];rfl
  rw [e2];exact tH.out
 ·have T:=HT1.out.mono (T:=(·∈s::K.fp)) (fun b _ hb=>List.mem_cons_of_mem _ hb);have TT:=(((HT2.out.trans HT3.out.none_).trans gG.out.none_).trans (jY.out.mono (T:=(·∈s::K1.fp)) (fun b _ hb=>List.mem_cons_of_mem _ hb))).trans (nT.out.mono (T:=(·∈s::K1.fp)) (fun b _ hb=>List.mem_cons_of_mem _ hb));refine T.trans' TT (fun b hb hm=>?_);rcases List.mem_cons.1 hm with e | hm
  ·simp [e]
  ·rcases qJ.out.fresh b hm with h | h
   ·simp [h]
   ·omega
theorem aM.rH {w:World} {s pb:Nat} {K:ay} {β:Bu} {ps:List Int} (R:aM w s pb K β ps) (c:Nat) (deny:Bool) (hc:c<8) (he:ps.getD c 0 = -1)
  (MG:Calls Tryz.prog 193 #[.pointer (some ⟨pb,0,none⟩),.int .i64 0,.bool deny] w fun e w'=>e=.returned (.tuple #[.int .u64 0,.bool false,.int .i64 2])∧Touch Nothing w w') :
  Calls Tryz.prog 191 #[.pointer (some ⟨s,0,none⟩),.int .i64 c,.bool deny] w (Taken w s pb K β ps (.tuple #[.int .u64 0,.bool false,.int .i64 2])):=by
 have c0:=R.pool;have c1:=R.part c hc;rw [he] at c1;have HN:=Hd MG;have HR:=Hd R;clear R he MG
 go_enter Tryz.func191,Tryz.ntmps191
 go_wp2_with fail
 refine HN.out.mono ?_
 rintro e w1 ⟨rfl,T1⟩;have HT1:=Hd T1;clear T1 c0 c1
 go_wp2_with fail
 go_ret3
 exact ⟨rfl,K,HR.out.aj HT1.out,ay.Next.refl _ _,HT1.out.none_⟩
end Go.Proofs.YtnjcmcnjgdjbiaaGreatDoor
namespace Go.Proofs.YtnjcmcnjgdjbiaaGreatDoor
structure Kept (β β':Bu) (O:Nat→Prop):Prop where
 base:β'.σ.base=β.σ.base
 order:β'.μ.order=β.μ.order
 limit:β'.σ.limit=β.σ.limit
 size:β'.σ.size=β.σ.size
 so:β'.σ.order=β.σ.order
 len:β.μ.pages.length≤β'.μ.pages.length
 page:∀ x,x<β.μ.pages.length→¬O x→β'.μ.pages[x]? = β.μ.pages[x]?
 byte:∀ x off,x<β.μ.pages.length→¬O x→off<4096→β'.σ.mem (β.σ.base+4096*x+off)=β.σ.mem (β.σ.base+4096*x+off)
 slab:∀ (x:Nat) (p:Pg),β'.μ.pages[x]? = some p→p.kind=4→β.μ.pages[x]? = some p
theorem Keeps.kept {β β':Bu} {O:Nat→Prop} (h:Keeps β β' O):Kept β β' O :=
 ⟨h.base,h.order,h.limit,h.size,h.so,Nat.le_of_eq h.len.symm,fun x _ hx=>h.page x hx,fun x off _ hx ho=>h.byte x off hx ho,h.slab⟩
theorem Kept.trans {β β' β'':Bu} {O O':Nat→Prop} (h:Kept β β' O) (k:Kept β' β'' O') (hO:∀ x,x<β.μ.pages.length→O' x→O x):Kept β β'' O :=
 ⟨k.base.trans h.base,k.order.trans h.order,k.limit.trans h.limit,k.size.trans h.size,k.so.trans h.so,Nat.le_trans h.len k.len,
  fun x hl hx=>(k.page x (Nat.lt_of_lt_of_le hl h.len) (fun e=>hx (hO x hl e))).trans (h.page x hl hx),
  fun x off hl hx ho=>by
   have:=k.byte x off (Nat.lt_of_lt_of_le hl h.len) (fun e=>hx (hO x hl e)) ho;rw [h.base] at this;exact this.trans (h.byte x off hl hx ho),
  fun x p hp hk=>h.slab x p (k.slab x p hp hk) hk⟩
theorem fA.kept {β β':Bu} {ps:List Int} {C L:Nat→List Nat} {O:Nat→Prop} (S:fA β ps C L) (K:Kept β β' O) (hO:∀ i p,β.μ.pages[i]? = some p→p.kind=4→¬O i):fA β' ps C L:=by
 have hlt:∀ {i:Nat} {p:Pg},β.μ.pages[i]? = some p→i<β.μ.pages.length:=fun h=>(List.getElem?_eq_some_iff.1 h).1
 have hpg:∀ (i:Nat) (p:Pg),p.kind=4→(β'.μ.pages[i]? = some p↔β.μ.pages[i]? = some p):=by
  intro i p h4;constructor
  ·exact fun h=>K.slab i p h h4
  ·intro h;rw [K.page i (hlt h) (hO i p h h4)];exact h
 refine ⟨S.len,fun i p hp h4=>?_,fun c hc=>?_,S.nodup,fun c hc i=>?_⟩
 ·have hp0:=(hpg i p h4).1 hp;have:=S.pages i p hp0 h4;unfold Bu.addr at this ⊢;rw [K.base];exact this.qd (fun off ho=>K.byte i off (hlt hp0) (hO i p hp0 h4) ho)
 ·refine PL.congr (fun i hi=>?_) (S.lists c hc);obtain ⟨p,hp,h4,_⟩:=(S.mem c hc i).1 hi;have hp':=(hpg i p h4).2 hp;rw [eY hp,eY hp',fH hp,fH hp'];exact ⟨rfl,rfl⟩
 ·rw [S.mem c hc i];constructor
  ·rintro ⟨p,hp,h4,h⟩;exact ⟨p,(hpg i p h4).2 hp,h4,h⟩
  ·rintro ⟨p,hp,h4,h⟩;exact ⟨p,(hpg i p h4).1 hp,h4,h⟩
structure mK (β:Bu):Prop where
 full:β.μ.pages.length=β.σ.n*2^β.μ.order
 size:β.σ.size=4096*2^β.μ.order
 le:β.σ.n≤β.σ.limit
 pages:β.σ.limit*2^β.μ.order≤1024
 top:β.σ.base+4096*(β.σ.limit*2^β.μ.order)≤9223372036854775808
 so:β.σ.order=β.μ.order
 al:β.σ.base%(4096*2^β.μ.order)=0
structure HS (β:Bu) (ps:List Int) (F C L:Nat→List Nat):Prop where
 inv:BInv β F aH
 slab:fA β ps C L
 nums:mK β
theorem least {P:Nat→Prop}:∀ n,(∃ j,j<n∧P j)→∃ j,j<n∧P j∧∀ k,k<j→¬P k
 | 0,⟨j,h,_⟩=>by omega
 | n+1,⟨j,h,hp⟩=>by
  by_cases hc:∃ j,j<n∧P j
  ·obtain ⟨i,h1,h2,h3⟩:=least n hc;exact ⟨i,by omega,h2,h3⟩
  ·have:j=n:=Classical.byContradiction (fun e=>hc ⟨j,by omega,hp⟩);subst this;exact ⟨j,h,hp,fun k hk hpk=>hc ⟨k,hk,hpk⟩⟩
theorem mK.room {β:Bu} (N:mK β) (h:β.σ.n<β.σ.limit):β.μ.pages.length+2^β.μ.order≤1024∧β.σ.base+4096*(β.μ.pages.length+2^β.μ.order)≤9223372036854775808:=by
 have h1:(β.σ.n+1)*2^β.μ.order≤β.σ.limit*2^β.μ.order:=Nat.mul_le_mul_right _ h;rw [Nat.succ_mul,←N.full] at h1;have:=N.pages;have:=N.top;omega
structure Needs (β β1:Bu) (F F1:Nat→List Nat) (i o:Nat):Prop where
 inv:BInv β1 F1 aH
 nums:mK β1
 kept:Kept β β1 (bE β.μ.order F aH)
 blk:bf β1.μ.pages i o 2
 open_:∀ y,y<β1.μ.pages.length→(bE β.μ.order F1 aH y↔(bE β.μ.order F aH y∨β.μ.pages.length≤y)∧¬Inb i o y)
 new:∀ y,Inb i o y→bE β.μ.order F aH y∨β.μ.pages.length≤y
 grew:(β1.σ.n=β.σ.n∧∃ k,o≤k∧k≤β.μ.order∧F k≠[])∨(β1.σ.n=β.σ.n+1∧β.σ.n<β.σ.limit∧∀ k,o≤k→k≤β.μ.order→F k = [])
theorem Keeps.nums {β β':Bu} {O:Nat→Prop} (K:Keeps β β' O) (N:mK β):mK β':=by
 refine ⟨?_,?_,?_,?_,?_,?_,?_⟩
 ·rw [K.len,K.n,K.order];exact N.full
 ·rw [K.size,K.order];exact N.size
 ·rw [K.n,K.limit];exact N.le
 ·rw [K.limit,K.order];exact N.pages
 ·rw [K.base,K.limit,K.order];exact N.top
 ·rw [K.so,K.order];exact N.so
 ·rw [K.base,K.order];exact N.al
theorem JI (β:Bu):β.fed.σ.base=β.σ.base∧β.fed.σ.n=β.σ.n+1∧β.fed.σ.limit=β.σ.limit∧β.fed.σ.size=β.σ.size∧β.fed.σ.order=β.σ.order∧β.fed.μ.order=β.μ.order∧β.fed.μ.pages.length=β.μ.pages.length+2^β.μ.order:=by
 have hs:=oD β.σ.grow (β.heads.getD β.μ.order 0) (Bu.addr { β with σ:=β.σ.grow,μ:=β.μ.grow } β.μ.pages.length);refine ⟨hs.1,hs.2.2.2.2,hs.2.1,hs.2.2.2.1,hs.2.2.1,?_,?_⟩
 ·unfold Bu.fed;rw [mI];exact (mJ _ _ _ _).1.trans (Mp.iH β.μ)
 ·unfold Bu.fed;rw [mI,iT];exact Mp.mF β.μ
theorem Pz {β:Bu} {x:Nat} {p:Pg} (hp:β.fed.μ.pages[x]? = some p) (h4:p.kind=4):β.μ.pages[x]? = some p:=by
 unfold Bu.fed at hp;rw [mI] at hp;have h1:=uX (.inl rfl) (by rw [Mp.mF];exact Nat.le_refl _) hp h4
 have h2:β.μ.more.paired.pages[x]? = some p:=by
  refine uX (.inr rfl) ?_ h1 h4;rw [(Mp.gu _).1];simp [Mp.more]
 rw [(Mp.gu _).1] at h2;simp only [Mp.more] at h2;by_cases hx:x<β.μ.pages.length
 ·rwa [List.getElem?_append_left hx] at h2
 ·rw [List.getElem?_append_right (by omega),List.getElem?_replicate] at h2;split at h2
  ·have e:=Option.some.inj h2;rw [←e] at h4;simp [eH] at h4
  ·simp at h2
theorem HS.need {β:Bu} {ps:List Int} {F C L:Nat→List Nat} (I:HS β ps F C L) (o:Nat) (deny:Bool) (ho:o≤β.μ.order) :
  (∃ i β1 F1 g,Needs β β1 F F1 i o∧(deny=true→β1.σ.n=β.σ.n)∧∀ (w:World) (pb:Nat) (K:ay),bS w pb K β→Calls Tryz.prog 193 #[.pointer (some ⟨pb,0,none⟩),.int .i64 o,.bool deny] w (Needed w pb K β1 (.tuple #[.int .u64 (β1.addr i:Nat),.bool g,.int .i64 0]))) ∨
  ((∀ k,o≤k→k≤β.μ.order→F k = [])∧(deny=true∨β.σ.n=β.σ.limit) ∧
   ∀ (w:World) (pb:Nat) (K:ay),bS w pb K β→Calls Tryz.prog 193 #[.pointer (some ⟨pb,0,none⟩),.int .i64 o,.bool deny] w fun e w'=>e=.returned (.tuple #[.int .u64 0,.bool false,.int .i64 2])∧Touch Nothing w w'):=by
 have hz:(∀ k,o≤k→k≤β.μ.order→F k = [])→∀ k,o≤k→k≤β.μ.order→β.heads.getD k 0=0:=by
  intro h k h1 h2;rcases I.inv.head h2 with ⟨e,_⟩ | ⟨y,t,e,_⟩
  ·exact e
  ·rw [h k h1 h2] at e;simp at e
 have wH:∀ {β:Bu},(∃ (w:World) (K:ay),aJ w K β)→β.Has:=fun ⟨w,K,R⟩=>R.ok.has'
 have aax:β.Has:=by
  intro x off n hx hn hf;have hs:=I.nums.size;have hfu:=I.nums.full;have p0:=fF β.μ.order;have e:β.σ.base+4096*x+off-β.σ.base=4096*x+off:=by omega
  have hq:(4096*x+off)/β.σ.size=x/2^β.μ.order:=by
   rw [hs,←Nat.div_div_eq_div_mul,show (4096*x+off)/4096=x by omega]
  have hr:(4096*x+off)%β.σ.size=4096*(x%2^β.μ.order)+off:=by
   have h1:=Nat.div_add_mod (4096*x+off) β.σ.size;rw [hq,hs] at h1;have h2:=Nat.div_add_mod x (2^β.μ.order);rw [hs];have h3:4096*2^β.μ.order*(x/2^β.μ.order)=4096*(2^β.μ.order*(x/2^β.μ.order)):=Nat.mul_assoc _ _ _;omega
  refine ⟨hn,by omega,?_,?_⟩
  ·rw [e,hq,Nat.div_lt_iff_lt_mul p0,←hfu];exact hx
  ·rw [e,hr,hs];have:=Nat.mod_lt x p0;omega
 by_cases hc:∃ j,o≤j∧j≤β.μ.order∧F j≠[]
 ·left
  obtain ⟨j,_,⟨h1,h2,h3⟩,hmin⟩:=least (P:=fun j=>o≤j∧j≤β.μ.order∧F j≠[]) (β.μ.order+1) (by
   obtain ⟨j,h1,h2,h3⟩:=hc;exact ⟨j,by omega,h1,h2,h3⟩)
  have hnone:∀ k,o≤k→k<j→F k = []:=fun k hk hkj=>Classical.byContradiction (fun e=>hmin k hkj ⟨hk,by omega,e⟩)
  obtain ⟨i,t,hF⟩:=List.exists_cons_of_ne_nil h3;obtain ⟨T,I1,K1,B1,U1,N1⟩:=I.inv.took aax h1 h2 hnone hF;refine ⟨i,β.took i j o (nx β.σ β.σ.base i),_,false,⟨I1,K1.nums I.nums,K1.kept,B1,?_,fun y hy=>.inl (N1 y hy),.inl ⟨K1.n,hc⟩⟩,fun _=>K1.n,?_⟩
  ·intro y hy;rw [K1.len] at hy;rw [U1 y];constructor
   ·rintro ⟨h,h'⟩;exact ⟨.inl h,h'⟩
   ·rintro ⟨h | h,h'⟩
    ·exact ⟨h,h'⟩
    ·omega
  ·intro w pb K R;have:=R.OM i j o (nx β.σ β.σ.base i) deny T;rwa [show (β.took i j o (nx β.σ β.σ.base i)).addr i=β.addr i by unfold Bu.addr;rw [K1.base]]
 ·have hno:∀ k,o≤k→k≤β.μ.order→F k = []:=fun k h1 h2=>Classical.byContradiction (fun e=>hc ⟨k,h1,h2,e⟩)
  have hz':=hz hno;by_cases hd:deny=true∨β.σ.n=β.σ.limit
  ·right;exact ⟨hno,hd,fun w pb K R=>R.TL o deny ho hz' hd⟩
  ·left
   have hd':deny=false∧β.σ.n<β.σ.limit:=by
    have:=I.nums.le;cases deny
    ·exact ⟨rfl,by simp at hd;omega⟩
    ·simp at hd
   obtain ⟨rfl,hn⟩:=hd';obtain ⟨r1,r2⟩:=I.nums.room hn;obtain ⟨I1,P1,M1,U1⟩:=I.inv.fed I.nums.full I.nums.size (by omega);obtain ⟨f1,f2,f3,f4,f5,f6,f7⟩:=JI β
   have N1:mK β.fed:=by
    refine ⟨?_,?_,?_,?_,?_,?_,?_⟩
    ·rw [f7,f2,f6,Nat.succ_mul,←I.nums.full]
    ·rw [f4,f6];exact I.nums.size
    ·rw [f2,f3];omega
    ·rw [f3,f6];exact I.nums.pages
    ·rw [f1,f3,f6];exact I.nums.top
    ·rw [f5,f6];exact I.nums.so
    ·rw [f1,f6];exact I.nums.al
   have K0:Kept β β.fed (bE β.μ.order F aH):=⟨f1,f6,f3,f4,f5,by rw [f7];exact Nat.le_add_right _ _,P1,M1,fun x p hp h4=>Pz hp h4⟩
   have aay:β.fed.Has:=by
    intro x off n hx hn' hf;rw [f7] at hx;have hs:=I.nums.size;have hfu:=I.nums.full;have p0:=fF β.μ.order;have e:β.σ.base+4096*x+off-β.σ.base=4096*x+off:=by omega
    have hq:(4096*x+off)/β.σ.size=x/2^β.μ.order:=by
     rw [hs,←Nat.div_div_eq_div_mul,show (4096*x+off)/4096=x by omega]
    have hr:(4096*x+off)%β.σ.size=4096*(x%2^β.μ.order)+off:=by
     have h1:=Nat.div_add_mod (4096*x+off) β.σ.size;rw [hq,hs] at h1;have h2:=Nat.div_add_mod x (2^β.μ.order);rw [hs];have h3:4096*2^β.μ.order*(x/2^β.μ.order)=4096*(2^β.μ.order*(x/2^β.μ.order)):=Nat.mul_assoc _ _ _;omega
    rw [f1];refine ⟨hn',by rw [f1];omega,?_,?_⟩
    ·rw [f1,f4,f2,e,hq,Nat.div_lt_iff_lt_mul p0,Nat.succ_mul,←hfu];exact hx
    ·rw [f1,f4,e,hr,hs];have:=Nat.mod_lt x p0;omega
   have hFo:F β.μ.order = []:=hno _ ho (Nat.le_refl _);rw [hFo] at I1 U1;have hF1:upd F β.μ.order [β.μ.pages.length] β.μ.order = [β.μ.pages.length]:=fG _ _ _;obtain ⟨T,I2,K2,B2,U2,N2⟩:=I1.took aay (i:=β.μ.pages.length) (j:=β.μ.order) (o:=o) (t:=[]) ho (by rw [f6];exact Nat.le_refl _) (fun k h1 h2=>by rw [upd_ne _ _ (by omega)];exact hno k h1 (by omega)) hF1;rw [f6] at K2 U2 N2;refine ⟨β.μ.pages.length,β.fed.took β.μ.pages.length β.μ.order o (nx β.fed.σ β.fed.σ.base β.μ.pages.length),_,true,⟨I2,K2.nums N1,K0.trans K2.kept (fun x hx h=>?_),B2,fun y hy=>?_,fun y hy=>.inr hy.1,.inr ⟨K2.n.trans f2,hn,hno⟩⟩,fun h=>by simp at h,?_⟩
   ·rcases (U1 x).1 h with h | h
    ·exact h
    ·have:=h.1;omega
   ·rw [K2.len,f7] at hy;rw [U2 y,U1 y];constructor
    ·rintro ⟨h | h,h'⟩
     ·exact ⟨.inl h,h'⟩
     ·exact ⟨.inr h.1,h'⟩
    ·rintro ⟨h | h,h'⟩
     ·exact ⟨.inl h,h'⟩
     ·exact ⟨.inr ⟨h,hy⟩,h'⟩
   ·intro w pb K R;have:=R.ED o (nx β.fed.σ β.fed.σ.base β.μ.pages.length) β.μ.pages.length β.μ.order ho hz' hn I.nums.full r1 T;rwa [show (β.fed.took β.μ.pages.length β.μ.order o (nx β.fed.σ β.fed.σ.base β.μ.pages.length)).addr β.μ.pages.length=β.fed.addr β.μ.pages.length by unfold Bu.addr;rw [K2.base]]
def Cell (β:Bu) (i c x:Nat):Prop:=∃ p,β.μ.pages[i]? = some p∧p.kind=4∧p.cls=(c:Int)∧x<aR c∧p.bit x=true
def Live (β:Bu) (P S:Nat):Prop :=
 (∃ a k,k≤β.μ.order∧bf β.μ.pages a k 2∧P=β.addr a∧S=4096*2^k)∨∃ i c x,c<8∧Cell β i c x∧P=β.addr i+x*aB c∧S=aB c
structure More (β β':Bu) (p r:Nat):Prop where
 base:β'.σ.base=β.σ.base
 order:β'.μ.order=β.μ.order
 limit:β'.σ.limit=β.σ.limit
 live:∀ P S,Live β' P S↔Live β P S∨(P=p∧S=r)
 new:¬Live β p r
 byte:∀ P S,Live β P S→∀ q,P≤q→q<P+S→β'.σ.mem q=β.σ.mem q
theorem dO {c x:Nat} (hc:c<8) (hx:x<aR c):x*aB c+aB c≤4096:=by
 have:=jB c (by omega) hx;simpa using this
theorem cO {c:Nat} (hc:c<8):16≤aB c∧aB c≤2048:=by
 obtain ⟨u1,u2,_⟩:=dK hc;exact ⟨u1,u2⟩
theorem zk {c c':Nat} (h:aB c=aB c'):c=c':=by
 unfold aB at h;exact (Nat.pow_right_inj (by omega)).1 (Nat.eq_of_mul_eq_mul_left (by omega) h)
theorem Live.pages {β:Bu} {P S:Nat} (h:Live β P S) {q:Nat} (h1:P≤q) (h2:q<P+S) :
  ∃ x off p,q=β.σ.base+4096*x+off∧off<4096∧β.μ.pages[x]? = some p∧(p.kind=2∨p.kind=3∨p.kind=4):=by
 rcases h with ⟨a,k,hk,hb,rfl,rfl⟩ | ⟨i,c,x,hc,⟨p,hp,h4,hcl,hx,hbit⟩,rfl,rfl⟩
 ·unfold Bu.addr at h1 h2
  have hin:Inb a k (a+(q-(β.σ.base+4096*a))/4096):=by
   refine ⟨by omega,?_⟩;have:(q-(β.σ.base+4096*a))/4096<2^k:=by rw [Nat.div_lt_iff_lt_mul (by omega)];omega
   omega
  refine ⟨a+(q-(β.σ.base+4096*a))/4096,(q-(β.σ.base+4096*a))%4096,_,by omega,by omega,hb.page hin,?_⟩;simp only [bK,aD];split <;> simp
 ·have:=dO hc hx;unfold Bu.addr at h1 h2;exact ⟨i,q-(β.σ.base+4096*i),p,by omega,by omega,hp,.inr (.inr h4)⟩
theorem BInv.dX {β:Bu} {F:Nat→List Nat} (I:BInv β F aH) {x:Nat} {p:Pg} (hp:β.μ.pages[x]? = some p) (h:p.kind=2∨p.kind=3∨p.kind=4):¬bE β.μ.order F aH x:=by
 intro e;have:=(I.AO hp).1 e;omega
theorem Kept.bytes {β β':Bu} {F:Nat→List Nat} (I:BInv β F aH) (K:Kept β β' (bE β.μ.order F aH)) {P S:Nat} (h:Live β P S) {q:Nat} (h1:P≤q) (h2:q<P+S):β'.σ.mem q=β.σ.mem q:=by
 obtain ⟨x,off,p,rfl,ho,hp,hk⟩:=h.pages h1 h2;exact K.byte x off (List.getElem?_eq_some_iff.1 hp).1 (I.dX hp hk) ho
theorem bf.dX {β:Bu} {F:Nat→List Nat} (I:BInv β F aH) {a k x:Nat} (hb:bf β.μ.pages a k 2) (hx:Inb a k x):¬bE β.μ.order F aH x:=by
 refine I.dX (hb.page hx) ?_
 simp only [bK,aD];split <;> simp
theorem bf.kept {β β':Bu} {F:Nat→List Nat} (I:BInv β F aH) (K:Kept β β' (bE β.μ.order F aH)) {a k:Nat} (hb:bf β.μ.pages a k 2):bf β'.μ.pages a k 2:=by
 refine hb.far (fun x hx=>K.page x ?_ (hb.dX I hx));have:=hb.le;have:=hx.2;omega
theorem Needs.more {β β1:Bu} {F F1:Nat→List Nat} {i o:Nat} (I:BInv β F aH) (N:Needs β β1 F F1 i o) (ho:o≤β.μ.order):More β β1 (β.addr i) (4096*2^o):=by
 have ha:∀ j,β1.addr j=β.addr j:=fun j=>by unfold Bu.addr;rw [N.kept.base]
 have kJ:=N.kept.order;have p0:=fF o;have acB:∀ x,Inb i o x→x<β1.μ.pages.length:=fun x hx=>by have:=N.blk.le;have:=hx.2;omega
 have hnb:∀ a k,bf β.μ.pages a k 2→∀ x,Inb a k x→¬Inb i o x:=by
  intro a k hb x hx hi;rcases N.new x hi with h | h
  ·exact hb.dX I hx h
  ·have:=hb.le;have:=hx.2;omega
 have hbig:∀ a k,bf β1.μ.pages a k 2→bf β.μ.pages a k 2∨(a=i∧k=o):=by
  intro a k hb;by_cases hc:∃ x,Inb a k x∧Inb i o x
  ·obtain ⟨x,h1,h2⟩:=hc;have:=hb.same N.blk h1 h2;exact .inr ⟨this.1,this.2.1⟩
  ·left;have hno:∀ x,Inb a k x→x<β1.μ.pages.length:=fun x hx=>by have:=hb.le;have:=hx.2;omega
   have hop:∀ x,Inb a k x→¬(bE β.μ.order F aH x∨β.μ.pages.length≤x):=by
    intro x hx h;have:=(N.open_ x (hno x hx)).2 ⟨h,fun e=>hc ⟨x,hx,e⟩⟩;rw [←kJ] at this;exact hb.dX N.inv hx this
   refine hb.far (fun x hx=>?_);have h:=hop x hx;exact (N.kept.page x (by have:=fun e=>h (.inr e);omega) (fun e=>h (.inl e))).symm
 have hcell:∀ j c x,Cell β1 j c x↔Cell β j c x:=by
  intro j c x;constructor
  ·rintro ⟨p,hp,h4,h⟩;exact ⟨p,N.kept.slab j p hp h4,h4,h⟩
  ·rintro ⟨p,hp,h4,h⟩;exact ⟨p,(N.kept.page j (List.getElem?_eq_some_iff.1 hp).1 (I.dX hp (.inr (.inr h4)))).trans hp,h4,h⟩
 refine ⟨N.kept.base,kJ,N.kept.limit,fun P S=>?_,?_,fun P S h q h1 h2=>N.kept.bytes I h h1 h2⟩
 ·constructor
  ·rintro (⟨a,k,hk,hb,rfl,rfl⟩ | ⟨j,c,x,hc,h,rfl,rfl⟩)
   ·rcases hbig a k hb with h | ⟨rfl,rfl⟩
    ·exact .inl (.inl ⟨a,k,by omega,h,ha a,rfl⟩)
    ·exact .inr ⟨ha a,rfl⟩
   ·exact .inl (.inr ⟨j,c,x,hc,(hcell j c x).1 h,by rw [ha],rfl⟩)
  ·rintro ((⟨a,k,hk,hb,rfl,rfl⟩ | ⟨j,c,x,hc,h,rfl,rfl⟩) | ⟨rfl,rfl⟩)
   ·exact .inl ⟨a,k,by omega,hb.kept I N.kept,(ha a).symm,rfl⟩
   ·exact .inr ⟨j,c,x,hc,(hcell j c x).2 h,by rw [ha],rfl⟩
   ·exact .inl ⟨i,o,by omega,N.blk,(ha i).symm,rfl⟩
 ·rintro (⟨a,k,hk,hb,e,e2⟩ | ⟨j,c,x,hc,⟨p,hp,h4,hcl,hx,hbit⟩,e,e2⟩)
  ·unfold Bu.addr at e;have:a=i:=by omega
   subst this;exact hnb a k hb a (aS _ _) (aS _ _)
  ·have:=cO hc;have:=dO hc hx;omega
theorem CS {β β':Bu} {i c f:Nat} {p p':Pg} (hc:c<8) (hp:β.μ.pages[i]? = some p) (hk:p.kind=4) (hcl:p.cls=c) (hf:f<aR c) (hb:p.bit f=false)
  (hp':β'.μ.pages[i]? = some p') (hk':p'.kind=4) (hcl':p'.cls=c) (hbit:∀ x,x<256→p'.bit x=(p.bit x != decide (x=f)))
  (ho:β'.μ.order=β.μ.order) (hσ:β'.σ=β.σ)
  (hpg:∀ j,j≠i→(∀ q,β.μ.pages[j]? = some q→∃ q',β'.μ.pages[j]? = some q'∧(q.kind=4∧bX q' q∨q.kind≠4∧q'=q))∧(∀ q',β'.μ.pages[j]? = some q'→∃ q,β.μ.pages[j]? = some q)) :
  More β β' (β.addr i+f*aB c) (aB c):=by
 have ha:∀ j,β'.addr j=β.addr j:=fun j=>by unfold Bu.addr;rw [hσ]
 have hle:aR c≤256:=(fu c (by omega)).2.2.2.2
 have hblk:∀ a k,bf β'.μ.pages a k 2↔bf β.μ.pages a k 2:=by
  have key:∀ {q:Pg} {k j:Nat},q=bK 2 k j→q.kind≠4:=by
   rintro q k j rfl;simp only [bK,aD];split <;> decide
  intro a k;constructor
  ·intro h;refine h.far (fun x hx=>?_);have hx':=h.page hx
   have hxi:x≠i:=by
    rintro rfl;exact key (Option.some.inj (hp'.symm.trans hx')) hk'
   obtain ⟨q,hq⟩:=(hpg x hxi).2 _ hx';obtain ⟨q',hq',hs⟩:=(hpg x hxi).1 q hq;have e:=Option.some.inj (hq'.symm.trans hx');rcases hs with ⟨h4,hs⟩ | ⟨h4,hs⟩
   ·exact (key e (hs.kind.1.trans h4)).elim
   ·rw [hq,hq',hs]
  ·intro h;refine h.far (fun x hx=>?_);have hx':=h.page hx
   have hxi:x≠i:=by
    rintro rfl;exact key (Option.some.inj (hp.symm.trans hx')) hk
   obtain ⟨q',hq',hs⟩:=(hpg x hxi).1 _ hx';rcases hs with ⟨h4,hs⟩ | ⟨h4,hs⟩
   ·exact (key rfl h4).elim
   ·rw [hq',hs,hx']
 have hcell:∀ j d x,Cell β' j d x↔Cell β j d x∨(j=i∧d=c∧x=f):=by
  intro j d x;by_cases e:j=i
  ·subst e;constructor
   ·rintro ⟨q,hq,h4,hd,hx,hbx⟩;obtain rfl:p'=q:=Option.some.inj (hp'.symm.trans hq);have:d=c:=by omega
    subst this;rw [hbit x (by omega)] at hbx;by_cases ex:x=f
    ·exact .inr ⟨rfl,rfl,ex⟩
    ·rw [decide_eq_false ex] at hbx;exact .inl ⟨p,hp,hk,hcl,hx,by simpa using hbx⟩
   ·rintro (⟨q,hq,h4,hd,hx,hbx⟩ | ⟨_,rfl,rfl⟩)
    ·obtain rfl:p=q:=Option.some.inj (hp.symm.trans hq);have:d=c:=by omega
     subst this;refine ⟨p',hp',hk',hcl',hx,?_⟩;rw [hbit x (by omega),hbx,decide_eq_false (by rintro rfl;rw [hb] at hbx;simp at hbx)];rfl
    ·refine ⟨p',hp',hk',hcl',hf,?_⟩;rw [hbit x (by omega),hb];simp
  ·constructor
   ·rintro ⟨q',hq',h4,hd,hx,hbx⟩;obtain ⟨q,hq⟩:=(hpg j e).2 q' hq';obtain ⟨q'',PD,hs⟩:=(hpg j e).1 q hq;obtain rfl:q'=q'':=Option.some.inj (hq'.symm.trans PD);rcases hs with ⟨h4',hs⟩ | ⟨h4',hs⟩
    ·refine .inl ⟨q,hq,h4',hs.kind.2.symm.trans hd,hx,?_⟩;unfold bX at hs;rw [hs] at hbx;exact hbx
    ·rw [hs] at h4;exact (h4' h4).elim
   ·rintro (⟨q,hq,h4,hd,hx,hbx⟩ | ⟨h,_⟩)
    ·obtain ⟨q',hq',hs⟩:=(hpg j e).1 q hq;rcases hs with ⟨_,hs⟩ | ⟨h4',_⟩
     ·refine ⟨q',hq',hs.kind.1.trans h4,hs.kind.2.trans hd,hx,?_⟩;unfold bX at hs;rw [hs];exact hbx
     ·exact (h4' h4).elim
    ·exact (e h).elim
 refine ⟨by rw [hσ],ho,by rw [hσ],fun P S=>?_,?_,fun _ _ _ _ _ _=>by rw [hσ]⟩
 ·constructor
  ·rintro (⟨a,k,hk',hb',rfl,rfl⟩ | ⟨j,d,x,hd,h,rfl,rfl⟩)
   ·exact .inl (.inl ⟨a,k,by omega,(hblk a k).1 hb',ha a,rfl⟩)
   ·rcases (hcell j d x).1 h with h | ⟨rfl,rfl,rfl⟩
    ·exact .inl (.inr ⟨j,d,x,hd,h,by rw [ha],rfl⟩)
    ·exact .inr ⟨by rw [ha],rfl⟩
  ·rintro ((⟨a,k,hk',hb',rfl,rfl⟩ | ⟨j,d,x,hd,h,rfl,rfl⟩) | ⟨rfl,rfl⟩)
   ·exact .inl ⟨a,k,by omega,(hblk a k).2 hb',(ha a).symm,rfl⟩
   ·exact .inr ⟨j,d,x,hd,(hcell j d x).2 (.inl h),by rw [ha],rfl⟩
   ·exact .inr ⟨i,c,f,hc,(hcell i c f).2 (.inr ⟨rfl,rfl,rfl⟩),by rw [ha],rfl⟩
 ·have w1:=cO hc;have w2:=dO hc hf;rintro (⟨a,k,hk',hb',e,e2⟩ | ⟨j,d,x,hd,⟨q,hq,h4,hdl,hx,hbx⟩,e,e2⟩)
  ·have:=fF k;omega
  ·have:=zk e2;subst this;have w3:=dO hd hx;unfold Bu.addr at e;have:j=i:=by omega
   subst this;obtain rfl:p=q:=Option.some.inj (hp.symm.trans hq);have:x*aB c=f*aB c:=by omega
   have:x=f:=Nat.eq_of_mul_eq_mul_right (by omega) this;subst this;rw [hb] at hbx;simp at hbx
end Go.Proofs.YtnjcmcnjgdjbiaaGreatDoor
