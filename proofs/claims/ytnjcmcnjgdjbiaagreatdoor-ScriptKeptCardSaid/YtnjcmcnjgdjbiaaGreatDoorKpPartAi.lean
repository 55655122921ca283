/- Conditions: as each theorem states. -/
import Derived.Test.YtnjcmcnjgdjbiaaGreatDoorKpPartAh
import Derived.ScopeJumps
set_option maxRecDepth 100000
set_option maxHeartbeats 4000000
namespace Go.Proofs.YtnjcmcnjgdjbiaaGreatDoor
theorem dH (k j:Nat):(bK 2 k j).kind=2∨(bK 2 k j).kind=3:=by
 simp only [bK,aD];split <;> simp
theorem Live.meet {β:Bu} {P S P' S' q:Nat} (h:Live β P S) (h':Live β P' S') (h1:P≤q) (h2:q<P+S) (h3:P'≤q) (h4:q<P'+S'):P=P'∧S=S':=by
 have key:∀ {a k i c x P S P' S':Nat},bf β.μ.pages a k 2→P=β.addr a→S=4096*2^k→c<8→Cell β i c x→P'=β.addr i+x*aB c→S'=aB c→P≤q→q<P+S→P'≤q→q<P'+S'→False:=by
  rintro a k i c x P S P' S' hb rfl rfl hc ⟨p,hp,yO,hcl,hx,hbit⟩ rfl rfl h1 h2 h3 h4;have:=dO hc hx;unfold Bu.addr at h1 h2 h3 h4;have hin:Inb a k i:=⟨by omega,by omega⟩;have e:=Option.some.inj (hp.symm.trans (hb.page hin));have:=dH k (i-a);rw [←e] at this;omega
 rcases h with ⟨a,k,hk,hb,e1,e2⟩ | ⟨i,c,x,hc,hx,e1,e2⟩
 ·rcases h' with ⟨a',k',hk',hb',e3,e4⟩ | ⟨i',c',x',hc',hx',e3,e4⟩
  ·subst e1 e2 e3 e4;unfold Bu.addr at *;have i1:Inb a k ((q-β.σ.base)/4096):=⟨by omega,by omega⟩;have i2:Inb a' k' ((q-β.σ.base)/4096):=⟨by omega,by omega⟩;obtain ⟨rfl,rfl,_⟩:=hb.same hb' i1 i2;exact ⟨rfl,rfl⟩
  ·exact (key hb e1 e2 hc' hx' e3 e4 h1 h2 h3 h4).elim
 ·rcases h' with ⟨a',k',hk',hb',e3,e4⟩ | ⟨i',c',x',hc',hx',e3,e4⟩
  ·exact (key hb' e3 e4 hc hx e1 e2 h3 h4 h1 h2).elim
  ·subst e1 e2 e3 e4;obtain ⟨p,hp,yO,hcl,hxl,hbit⟩:=hx;obtain ⟨p',hp',acQ,hcl',aaz,acC⟩:=hx';have l1:=dO hc hxl;have l2:=dO hc' aaz;unfold Bu.addr at *;have:i=i':=by omega
   subst this;obtain rfl:p=p':=Option.some.inj (hp.symm.trans hp');have:c=c':=by omega
   subst this;have h5:x*aB c<x'*aB c+aB c:=by omega
   have h6:x'*aB c<x*aB c+aB c:=by omega
   rw [←Nat.succ_mul] at h5 h6;have h7:=Nat.lt_of_mul_lt_mul_right h5;have h8:=Nat.lt_of_mul_lt_mul_right h6;have:x=x':=by omega
   subst this;exact ⟨rfl,rfl⟩
structure Gone (β β':Bu) (p:Nat):Prop where
 base:β'.σ.base=β.σ.base
 order:β'.μ.order=β.μ.order
 limit:β'.σ.limit=β.σ.limit
 n:β'.σ.n=β.σ.n
 live:∀ P S,Live β' P S↔Live β P S∧P≠p
 byte:∀ P S,Live β P S→P≠p→∀ q,P≤q→q<P+S→β'.σ.mem q=β.σ.mem q
theorem Keeps.gone {β β':Bu} {F G:Nat→List Nat} {a k:Nat} (I:BInv β F aH) (hk:k≤β.μ.order) (hB:bf β.μ.pages a k 2) (I':BInv β' G aH) (K:Keeps β β' (bE β.μ.order F (Inb a k)))
  (U:∀ y,bE β.μ.order G aH y↔bE β.μ.order F (Inb a k) y):Gone β β' (β.addr a):=by
 have ha:∀ j,β'.addr j=β.addr j:=fun j=>by unfold Bu.addr;rw [K.base]
 have hb0:=hB.page (aS a k)
 have hup:∀ {x:Nat} {p:Pg},β.μ.pages[x]? = some p→p.kind=2∨p.kind=3∨p.kind=4→¬Inb a k x→¬bE β.μ.order F (Inb a k) x:=by
  rintro x p hp hkd hx (h | h)
  ·exact hx h
  ·exact I.dX hp hkd (.inr h)
 have PE:∀ {x:Nat} {p:Pg},β'.μ.pages[x]? = some p→p.kind=2∨p.kind=3∨p.kind=4→β'.μ.pages[x]? = β.μ.pages[x]? ∧ ¬Inb a k x:=by
  intro x p hp hkd;have h1:=I'.dX hp hkd;rw [K.order] at h1;have h2:¬bE β.μ.order F (Inb a k) x:=fun h=>h1 ((U x).2 h)
  exact ⟨K.page x h2,fun h=>h2 (.inl h)⟩
 have hbig:∀ b m,bf β'.μ.pages b m 2↔bf β.μ.pages b m 2∧b≠a:=by
  intro b m;constructor
  ·intro h;have hx:∀ x,Inb b m x→β'.μ.pages[x]? = β.μ.pages[x]? ∧ ¬Inb a k x:=fun x hx=>PE (h.page hx) (by have:=dH m (x-b);omega)
   refine ⟨h.far (fun x hxb=>(hx x hxb).1.symm),?_⟩;rintro rfl;exact (hx b (aS b m)).2 (aS b k)
  ·rintro ⟨h,hne⟩;refine h.far (fun x hx=>K.page x (hup (h.page hx) (by have:=dH m (x-b);omega) ?_));intro hx';exact hne (h.same hB hx hx').1
 have hkd:∀ {i:Nat} {p:Pg},β.μ.pages[i]? = some p→p.kind=4→¬Inb a k i:=by
  intro i p hp h4 hi;have e:=Option.some.inj (hp.symm.trans (hB.page hi));have:=dH k (i-a);rw [←e] at this;omega
 have hcell:∀ i c x,Cell β' i c x↔Cell β i c x:=by
  intro i c x;constructor
  ·rintro ⟨p,hp,h4,h⟩;exact ⟨p,K.slab i p hp h4,h4,h⟩
  ·rintro ⟨p,hp,h4,h⟩;exact ⟨p,(K.page i (hup hp (.inr (.inr h4)) (hkd hp h4))).trans hp,h4,h⟩
 refine ⟨K.base,K.order,K.limit,K.n,fun P S=>?_,fun P S h hne q h1 h2=>?_⟩
 ·constructor
  ·rintro (⟨b,m,hm,hb,rfl,rfl⟩ | ⟨i,c,x,hc,hx,rfl,rfl⟩)
   ·obtain ⟨h1,h2⟩:=(hbig b m).1 hb;refine ⟨.inl ⟨b,m,by rw [←K.order];exact hm,h1,ha b,rfl⟩,?_⟩;rw [ha];unfold Bu.addr;omega
   ·have hx':=(hcell i c x).1 hx;refine ⟨.inr ⟨i,c,x,hc,hx',by rw [ha],rfl⟩,?_⟩;obtain ⟨p,hp,h4,hcl,hxl,_⟩:=hx';rw [ha];intro e;have:=dO hc hxl;have:=(cO hc).1;unfold Bu.addr at e;have:i=a:=by omega
    subst this;exact hkd hp h4 (aS i k)
  ·rintro ⟨⟨b,m,hm,hb,rfl,rfl⟩ | ⟨i,c,x,hc,hx,rfl,rfl⟩,hne⟩
   ·exact .inl ⟨b,m,by rw [K.order];exact hm,(hbig b m).2 ⟨hb,by rintro rfl;exact hne rfl⟩,(ha b).symm,rfl⟩
   ·exact .inr ⟨i,c,x,hc,(hcell i c x).2 hx,by rw [ha],rfl⟩
 ·obtain ⟨x,off,p,rfl,ho,hp,PG⟩:=h.pages h1 h2;refine K.byte x off (hup hp PG (fun hx=>?_)) ho;have hL:Live β (β.addr a) (4096*2^k):=.inl ⟨a,k,hk,hB,rfl,rfl⟩;have:=hx.1;have:=hx.2;exact hne (h.meet hL h1 h2 (by unfold Bu.addr;omega) (by unfold Bu.addr;omega)).1
theorem HS.Iy {β:Bu} {ps:List Int} {F C L:Nat→List Nat} (I:HS β ps F C L) {a k:Nat} (hk:k≤β.μ.order) (hB:bf β.μ.pages a k 2) :
  HS (β.given F a k) ps (Bu.kN (β.μ.order-k) β F a k).2 C L∧Gone β (β.given F a k) (β.addr a):=by
 have I1:=I.inv.mH hB;obtain ⟨I2,K2,U2⟩:=I1.given (a:=a) (k:=k) (fun y=>⟨fun h=>h.resolve_left id,.inr⟩) hk hB.al;have hH:(fun y=>aH y∨Inb a k y)=Inb a k:=funext fun y=>propext ⟨fun h=>h.resolve_left id,.inr⟩
 rw [hH] at K2 U2;refine ⟨⟨I2,I.slab.keeps K2 ?_,K2.nums I.nums⟩,K2.gone I.inv hk hB I2 U2⟩;rintro i p hp h4 (h | h)
 ·have e:=Option.some.inj (hp.symm.trans (hB.page h));have:=dH k (i-a);rw [←e] at this;omega
 ·exact I.inv.dX hp (.inr (.inr h4)) (.inr h)
theorem Fg {σ:Sp} {at_ wd:Nat}:∀ (m a:Nat),(∀ j,a≤j→j<a+m→σ.word (at_+j*wd)=if j+1=a+m then 0 else at_+(j+1)*wd)→CL σ at_ wd (List.range' a m)
 | 0,_,_=>trivial
 | m+1,a,H=>by
  rw [List.range'_succ];refine ⟨?_,Fg m (a+1) (fun j h1 h2=>by rw [H j (by omega) (by omega),show a+(m+1)=a+1+m by omega])⟩;rw [H a (Nat.le_refl _) (by omega)];cases m with
  | zero=>rw [if_pos rfl];rfl
  | succ m =>
   rw [if_neg (by omega),List.range'_succ];rfl
theorem sM (c:Nat) (x:Nat):(aF c).bit x=false:=by
 unfold Pg.bit
 have:(aF c).word (x/64)=0:=by
  unfold Pg.word;split <;> rfl
 rw [this];exact Nat.zero_testBit _
theorem CU (σ:Sp) (at_ wd n:Nat) (a:Nat):∀ k,(∀ j,j<k→a<at_+j*wd∨at_+j*wd+8≤a)→(fK σ at_ wd n k).mem a=σ.mem a
 | 0,_=>rfl
 | k+1,H=>by
  unfold fK;rw [put_mem _ _ _ _ (H k (by omega))];exact CU σ at_ wd n a k (fun j hj=>H j (by omega))
theorem PI (σ:Sp) (b i c x off:Nat) (hc:c<8) (hx:x≠i) (ho:off<4096):(fK σ (b+4096*i) (aB c) (4096/aB c) (4096/aB c)).mem (b+4096*x+off)=σ.mem (b+4096*x+off):=by
 refine CU _ _ _ _ _ _ (fun j hj=>?_);obtain ⟨u1,u2,u3,u4,u5,u6⟩:=dK hc;have:(j+1)*aB c≤4096/aB c*aB c:=Nat.mul_le_mul_right _ hj;rw [u3,Nat.succ_mul] at this;omega
def gX (c:Nat):Pg:=(aF c).take 0 1
theorem cu (β:Bu) (i c:Nat):β.eT i c=⟨fK β.σ (β.addr i) (aB c) (4096/aB c) (4096/aB c),β.μ.aA i (gX c),β.heads⟩:=by
 unfold Bu.eT Bu.born aM.BD gX;simp only [Mp.iG]
theorem MH (σ:Sp) (b i c:Nat) (hc:c<8) (h64:b+4096*i+4096<18446744073709551616) :
  dN (fK σ (b+4096*i) (aB c) (4096/aB c) (4096/aB c)) (b+4096*i) (gX c) (List.range' 1 (aR c-1)):=by
 obtain ⟨u1,u2,u3,u4,u5,u6⟩:=dK hc;have hcls:(gX c).cls=(c:Int):=rfl
 have hbit:∀ x,x<256→(gX c).bit x=decide (x=0):=by
  intro x hx;have h:(gX c).bit x=((aF c).bit x != decide (x=0)):=mY (aF c) 0 x true (by omega) hx;rw [h,sM];cases decide (x=0) <;> rfl
 rw [u6] at u3 u4 u5 ⊢;refine ⟨rfl,⟨by rw [hcls];omega,by rw [hcls];omega⟩,List.nodup_range' ..,fun x=>?_,fun x h1 h2=>?_,?_,?_,?_,?_⟩
 ·rw [hcls,List.mem_range'_1];constructor
  ·intro h;refine ⟨by omega,?_⟩;rw [hbit x (by omega),decide_eq_false (by omega)]
  ·rintro ⟨h1,h2⟩;rw [hbit x (by omega)] at h2;have:=of_decide_eq_false h2;omega
 ·rw [hcls] at h1;rw [hbit x h2,decide_eq_false (by omega)]
 ·rw [hcls,List.length_range']
  show (0:Int)+1=_
  omega
 ·show (0:Int)<0+1
  decide
 ·obtain ⟨m,hm⟩:∃ m,aR c-1=m+1:=⟨aR c-2,by omega⟩;rw [hm,List.range'_succ];rfl
 ·rw [hcls,Int.toNat_natCast];refine Fg _ _ (fun j h1 h2=>?_);rw [pX (by omega) (by rw [u3];omega) (aR c) j (Nat.le_refl _) (by omega)];unfold mD;by_cases e:j+1=aR c
  ·rw [if_pos e,if_pos (by omega)]
  ·rw [if_neg e,if_neg (by omega)]
theorem HS.eT {β β1:Bu} {ps:List Int} {F F1 C L:Nat→List Nat} (I:HS β ps F C L) {i c:Nat} (hc:c<8) (he:ps.getD c 0 = -1) (N:Needs β β1 F F1 i 0) :
  HS (β1.eT i c) (ps.set c i) F1 (upd C i (List.range' 1 (aR c-1))) (upd L c (i::L c))∧More β (β1.eT i c) (β1.addr i) (aB c)∧(β1.eT i c).σ.n=β1.σ.n:=by
 obtain ⟨u1,u2,u3,u4,u5,u6⟩:=dK hc;have hpi:=N.blk.page (aS i 0);have hil:=(List.getElem?_eq_some_iff.1 hpi).1;have htop:=N.inv.top;have S1:fA β1 ps C L:=I.slab.kept N.kept (fun j p hp h4=>I.inv.dX hp (.inr (.inr h4)));have h2i:∀ y,Inb i 0 y↔y=i:=fun y=>by unfold Inb;omega
 have hni:∀ q,β1.μ.pages[i]? = some q→q.kind=2:=by
  intro q hq;rw [←Option.some.inj (hpi.symm.trans hq)];simp [bK,aD]
 obtain ⟨Iz,RV,bs3,bs4,bs5⟩:=uK β1.σ (β1.addr i) (aB c) (4096/aB c) (4096/aB c)
 -- the buddy
 have I1:=N.inv.mH N.blk;have iK:∀ x off,x≠i→off<4096→(fK β1.σ (β1.addr i) (aB c) (4096/aB c) (4096/aB c)).mem (β1.σ.base+4096*x+off)=β1.σ.mem (β1.σ.base+4096*x+off):=fun x off hx ho=>PI β1.σ β1.σ.base i c x off hc hx ho
 have I2:=I1.EW Iz (fun k hk x hx off ho=>iK x off (by
  rintro rfl;exact I1.apart k hk x hx x (.inr (aS _ _)) (aS _ _)) (by omega))
 have I3:=I2.slab (i:=i) (p:=gX c) (.inr (aS _ _)) rfl rfl
 have hH:(fun y=>(aH y∨Inb i 0 y)∧y≠i)=aH:=funext fun y=>propext ⟨fun h=>by
  rcases h.1 with h' | h'
  ·exact h'
  ·exact h.2 ((h2i y).1 h'),fun h=>h.elim⟩
 rw [hH] at I3
 have hLc:L c = []:=by
  have:=(S1.lists c hc).head;rw [he] at this;cases hL:L c with
  | nil=>rfl
  | cons y t=>rw [hL] at this;simp only [qQ] at this;omega
 have hnot:∀ d,d<8→i∉L d:=by
  intro d hd hm;obtain ⟨q,hq,h4,_⟩:=S1.jH hd hm;have:=hni q hq;omega
 have hset:(β1.μ.aA i (gX c)).pages[i]? = some (gX c):=List.getElem?_set_self hil;have hne:∀ x,x≠i→(β1.μ.aA i (gX c)).pages[x]? = β1.μ.pages[x]? := fun x h=>List.getElem?_set_ne (fun e=>h e.symm)
 have hu:List.range' 1 (aR c-1)≠[]:=by
  rw [u6] at u4;intro e;have:=congrArg List.length e;rw [List.length_range'] at this;simp at this;omega
 have S2:fA (β1.eT i c) (ps.set c i) (upd C i (List.range' 1 (aR c-1))) (upd L c (i::L c)):=by
  rw [cu];refine S1.hang (p':=gX c) hc hnot Iz (fun j q0 hj _ _ off ho=>iK j off hj ho) (fun x hx=>?_) hset rfl rfl ⟨?_,rfl⟩ hu (MH _ _ _ _ hc (by omega))
  ·show (β1.μ.aA i (gX c)).pages[x]? = _
   rw [hne x hx];have:∀ q:Pg,({ q with prev:=if (x:Int)=ps.getD c 0 then (i:Int) else q.prev }:Pg)=q:=fun q=>by rw [if_neg (by rw [he];omega)]
   simp only [this];simp
  ·rw [he];rfl
 have ho':(β1.eT i c).μ.order=β1.μ.order:=by rw [cu];rfl
 have hl':(β1.eT i c).μ.pages.length=β1.μ.pages.length:=by rw [cu];exact List.length_set ..
 have hn':(β1.eT i c).σ.n=β1.σ.n:=by rw [cu];exact bs5
 refine ⟨⟨?_,S2,?_⟩,?_,hn'⟩
 ·rw [cu];exact I3
 ·have M:=N.nums;refine ⟨?_,?_,?_,?_,?_,?_,?_⟩
  ·rw [hl',hn',ho'];exact M.full
  ·rw [ho',cu];show (fK _ _ _ _ _).size=_;rw [bs4];exact M.size
  ·rw [hn',cu];show _≤(fK _ _ _ _ _).limit;rw [RV];exact M.le
  ·rw [ho',cu];show (fK _ _ _ _ _).limit*_≤_;rw [RV];exact M.pages
  ·rw [ho',cu];show (fK _ _ _ _ _).base+4096*((fK _ _ _ _ _).limit*_)≤_;rw [Iz,RV];exact M.top
  ·rw [ho',cu];show (fK _ _ _ _ _).order=_;rw [bs3];exact M.so
  ·rw [ho',cu];show (fK _ _ _ _ _).base%_=_;rw [Iz];exact M.al
 ·-- the live blocks
  have M1:=N.more I.inv (Nat.zero_le _);have ha1:∀ j,β1.addr j=β.addr j:=fun j=>by unfold Bu.addr;rw [N.kept.base]
  have ha2:∀ j,(β1.eT i c).addr j=β1.addr j:=fun j=>by unfold Bu.addr;rw [cu];rw [Iz]
  have wR:(β1.eT i c).μ.pages=(β1.μ.aA i (gX c)).pages:=by rw [cu]
  have aaA:∀ {a k:Nat},bf β.μ.pages a k 2→¬Inb a k i:=by
   intro a k hb hx;rcases N.new i (aS _ _) with h | h
   ·exact hb.dX I.inv hx h
   ·have:=hb.le;have:=hx.2;omega
  have hc4:∀ {j:Nat} {q:Pg},β.μ.pages[j]? = some q→q.kind=4→j≠i:=by
   rintro j q hq h4 rfl;have h1:=N.kept.page j (List.getElem?_eq_some_iff.1 hq).1 (I.inv.dX hq (.inr (.inr h4)));have:=hni q (h1.trans hq);omega
  refine ⟨by rw [cu];exact Iz.trans N.kept.base,ho'.trans N.kept.order,by rw [cu];exact RV.trans N.kept.limit,fun P S=>?_,?_,fun P S h q h1 h2=>?_⟩
  ·constructor
   ·rintro (⟨a,k,hk,hb,rfl,rfl⟩ | ⟨j,d,x,hd,⟨q,hq,h4,hdl,hx,hbx⟩,rfl,rfl⟩)
    ·rw [wR] at hb
     have hia:¬Inb a k i:=by
      intro hx;have e:=Option.some.inj (hset.symm.trans (hb.page hx));have:(gX c).kind=4:=rfl;rw [e] at this;simp only [bK,aD] at this;split at this <;> omega
     have hb1:bf β1.μ.pages a k 2:=hb.far (fun x hx=>(hne x (by rintro rfl;exact hia hx)).symm);rcases (M1.live _ _).1 (.inl ⟨a,k,by rw [←ho'];exact hk,hb1,rfl,rfl⟩) with h | ⟨h1,h2⟩
     ·left;rw [ha2];exact h
     ·have:a=i:=by unfold Bu.addr at h1;have:=N.kept.base;omega
      subst this;exact (hia (aS _ _)).elim
    ·rw [wR] at hq;by_cases e:j=i
     ·subst e;obtain rfl:gX c=q:=Option.some.inj (hset.symm.trans hq)
      have hdc:d=c:=by
       have:((c:Nat):Int)=d:=hdl;omega
      subst hdc
      have hb0:(gX d).bit x=decide (x=0):=by
       have hle:aR d≤256:=by omega
       have h:(gX d).bit x=((aF d).bit x != decide (x=0)):=mY (aF d) 0 x true (by omega) (by omega);rw [h,sM];cases decide (x=0) <;> rfl
      rw [hb0] at hbx;have:x=0:=of_decide_eq_true hbx;subst this;right;rw [ha2];exact ⟨by omega,rfl⟩
     ·rw [hne j e] at hq;have hq0:=N.kept.slab j q hq h4;left;right;exact ⟨j,d,x,hd,⟨q,hq0,h4,hdl,hx,hbx⟩,by rw [ha2,ha1],rfl⟩
   ·rintro ((⟨a,k,hk,hb,rfl,rfl⟩ | ⟨j,d,x,hd,⟨q,hq,h4,hdl,hx,hbx⟩,rfl,rfl⟩) | ⟨rfl,rfl⟩)
    ·have hia:=aaA hb;refine .inl ⟨a,k,by rw [ho',N.kept.order];exact hk,?_,by rw [ha2,ha1],rfl⟩;rw [wR];exact (hb.kept I.inv N.kept).far (fun x hx=>hne x (by rintro rfl;exact hia hx))
    ·have hji:=hc4 hq h4;refine .inr ⟨j,d,x,hd,⟨q,?_,h4,hdl,hx,hbx⟩,by rw [ha2,ha1],rfl⟩;rw [wR,hne j hji];exact (N.kept.page j (List.getElem?_eq_some_iff.1 hq).1 (I.inv.dX hq (.inr (.inr h4)))).trans hq
    ·refine .inr ⟨i,c,0,hc,⟨gX c,by rw [wR];exact hset,rfl,rfl,by omega,?_⟩,by rw [ha2];omega,rfl⟩;have h:(gX c).bit 0=((aF c).bit 0 != decide (0=0)):=mY (aF c) 0 0 true (by omega) (by omega);rw [h,sM];rfl
  ·rintro (⟨a,k,hk,hb,e,e2⟩ | ⟨j,d,x,hd,⟨q,hq,h4,hdl,hx,hbx⟩,e,e2⟩)
   ·have:=fF k;have:=cO hc;omega
   ·have:=dO hd hx;have:=cO hd;rw [ha1] at e;unfold Bu.addr at e;have:j=i:=by omega
    exact hc4 hq h4 this
  ·obtain ⟨x,off,q',rfl,ho,hp,hk⟩:=h.pages h1 h2;rw [←N.kept.bytes I.inv h h1 h2,cu,←N.kept.base];refine iK x off ?_ ho;rintro rfl;rcases N.new x (aS _ _) with h' | h'
   ·exact I.inv.dX hp hk h'
   ·have:=(List.getElem?_eq_some_iff.1 hp).1;omega
end Go.Proofs.YtnjcmcnjgdjbiaaGreatDoor
namespace Go.Proofs.YtnjcmcnjgdjbiaaGreatDoor
open Go.RowKit
theorem take_same (p:Pg) (f:Nat) (n:Int):(p.take f n).kind=p.kind∧(p.take f n).order=p.order∧(p.take f n).cls=p.cls∧(p.take f n).next=p.next∧(p.take f n).prev=p.prev:=by
 obtain ⟨s1,s2,s3,s4,s5,s6⟩:=jh p f true;exact ⟨s1,s2,s3,s4,s5⟩
theorem mK.AQ {β:Bu} {μ':Mp} (N:mK β) (ho:μ'.order=β.μ.order) (hl:μ'.pages.length=β.μ.pages.length):mK { β with μ:=μ' }:=by
 refine ⟨?_,?_,N.le,?_,?_,?_,?_⟩
 ·show μ'.pages.length=β.σ.n*2^μ'.order;rw [ho,hl];exact N.full
 ·show _=4096*2^μ'.order;rw [ho];exact N.size
 ·show _*2^μ'.order≤_;rw [ho];exact N.pages
 ·show _+4096*(_*2^μ'.order)≤_;rw [ho];exact N.top
 ·show _=μ'.order;rw [ho];exact N.so
 ·show _%(4096*2^μ'.order)=_;rw [ho];exact N.al
theorem BInv.Ea {β:Bu} {F:Nat→List Nat} (I:BInv β F aH) {μ':Mp} (ho:μ'.order=β.μ.order) (hp:μ'.pairs=β.μ.pairs) (hl:μ'.pages.length=β.μ.pages.length)
  (hpg:∀ (x:Nat) (q:Pg),β.μ.pages[x]? = some q→∃ q':Pg,μ'.pages[x]? = some q'∧(q.kind=4∧q'.kind=4∧q'.order=0∨q.kind≠4∧q'=q)):BInv { β with μ:=μ' } F aH:=by
 -- all slab pages in hand, then put back
 have hsl:∀ x,(∃ q,β.μ.pages[x]? = some q∧q.kind=4)→x<β.μ.pages.length:=fun x ⟨q,hq,_⟩=>(List.getElem?_eq_some_iff.1 hq).1
 have hkd:∀ {kd:Int} {k j:Nat},(bK kd k j).kind=4→kd=4∨kd=3:=by
  intro kd k j h;simp only [bK,aD] at h;split at h <;> omega
 have I1:BInv β F (fun x=>∃ q,β.μ.pages[x]? = some q∧q.kind=4):=by
  refine I.open_ (fun x h=>h.elim) hsl (fun k hk i hi x ⟨q,hq,h4⟩ hx=>?_) (fun a k hk hb _ y ⟨q,hq,h4⟩ hy=>?_)
  ·have e:=Option.some.inj (hq.symm.trans ((I.free k hk i hi).page hx));rw [e] at h4;have:=hkd h4;omega
  ·have e:=Option.some.inj (hq.symm.trans (hb.page hy));rw [e] at h4;have:=hkd h4;omega
 refine I1.pages ho hp hl (fun x h=>h.elim) (fun x hx=>?_) (fun x ⟨q,hq,h4⟩ _=>?_)
 ·cases h:β.μ.pages[x]? with
  | none=>rw [List.getElem?_eq_none_iff] at h ⊢;omega
  | some q =>
   obtain ⟨q',hq',hs⟩:=hpg x q h;rcases hs with ⟨h4,_⟩ | ⟨_,e⟩
   ·exact (hx ⟨q,h,h4⟩).elim
   ·rw [hq',e]
 ·obtain ⟨q',hq',hs⟩:=hpg x q hq;rcases hs with ⟨_,h4',h0⟩ | ⟨h4',_⟩
  ·exact .inr ⟨q',hq',h4',h0⟩
  ·exact (h4' h4).elim
structure PK (β:Bu) (ps:List Int) (F L:Nat→List Nat) (c:Nat) (β':Bu) (p:Nat):Prop where
 more:More β β' p (aB c)
 at_:∃ i x,i<β'.μ.pages.length∧x<aR c∧p=β.addr i+x*aB c
 grew:(β'.σ.n=β.σ.n∧(L c≠[]∨∃ k,k≤β.μ.order∧F k≠[]))∨(β'.σ.n=β.σ.n+1∧β.σ.n<β.σ.limit∧L c = []∧∀ k,k≤β.μ.order→F k = [])
theorem HS.PN {β:Bu} {ps:List Int} {F C L:Nat→List Nat} (I:HS β ps F C L) (c:Nat) (deny:Bool) (hc:c<8) :
  (∃ β' ps' F' C' L' p g,HS β' ps' F' C' L'∧PK β ps F L c β' p∧(deny=true→β'.σ.n=β.σ.n) ∧
   ∀ (w:World) (s pb:Nat) (K:ay),aM w s pb K β ps→bU w→(∀ k∈s::pb::K.fp,9≤k)→Calls Tryz.prog 191 #[.pointer (some ⟨s,0,none⟩),.int .i64 c,.bool deny] w (Taken w s pb K β' ps' (.tuple #[.int .u64 (p:Nat),.bool g,.int .i64 0]))) ∨
  (L c = []∧(∀ k,k≤β.μ.order→F k = [])∧(deny=true∨β.σ.n=β.σ.limit) ∧
   ∀ (w:World) (s pb:Nat) (K:ay),aM w s pb K β ps→Calls Tryz.prog 191 #[.pointer (some ⟨s,0,none⟩),.int .i64 c,.bool deny] w (Taken w s pb K β ps (.tuple #[.int .u64 0,.bool false,.int .i64 2]))):=by
 have hh:=(I.slab.lists c hc).head;cases hL:L c with
 | nil =>
  rw [hL] at hh;have he:ps.getD c 0 = -1:=hh;rcases I.need 0 deny (Nat.zero_le _) with ⟨i,β1,F1,g,N,hdn,HC⟩ | ⟨hno,hd,HC⟩
  ·left;obtain ⟨H,M,hn⟩:=I.eT hc he N;have hpi:=N.blk.page (aS i 0);refine ⟨β1.eT i c,_,_,_,_,β1.addr i,g,H,⟨M,⟨i,0,?_,by have:=dK hc;omega,?_⟩,?_⟩,fun h=>hn.trans (hdn h),?_⟩
   ·rw [cu]
    show i<(β1.μ.pages.set _ _).length
    rw [List.length_set];exact (List.getElem?_eq_some_iff.1 hpi).1
   ·unfold Bu.addr;rw [N.kept.base];omega
   ·rw [hn];rcases N.grew with ⟨h1,k,_,h2,h3⟩ | ⟨h1,h2,h3⟩
    ·exact .inl ⟨h1,.inr ⟨k,h2,h3⟩⟩
    ·exact .inr ⟨h1,h2,hL,fun k hk=>h3 k (Nat.zero_le _) hk⟩
   ·intro w s pb K R G far;exact R.MF G far c i g deny hc he (HC w pb K R.po) hpi N.nums.full
  ·right;exact ⟨rfl,fun k hk=>hno k (Nat.zero_le _) hk,hd,fun w s pb K R=>R.rH c deny hc he (HC w pb K R.po)⟩
 | cons i t =>
  left;rw [hL] at hh;have he:ps.getD c 0=(i:Int):=hh;have him:i∈L c:=by rw [hL];simp
  obtain ⟨p,hp,h4,hcl,hne⟩:=I.slab.jH hc him;have hcn:p.cls.toNat=c:=by rw [hcl];rfl
  have hlt:=(List.getElem?_eq_some_iff.1 hp).1;have D:=I.slab.pages i p hp h4;have hle:=(fu p.cls D.cls).2.2.2.2;obtain ⟨f,u,hC⟩:=List.exists_cons_of_ne_nil hne;rw [hC] at D;have hfm:=(D.mem f).1 (by simp);rw [hcl] at hfm;have D9:=(D.lt (f:=f) (by simp)).2
  have hlv:0≤p.live+1∧p.live+1≤256:=by
   have h1:=D.live;have h2:=D.some_;simp only [List.length_cons] at h1;omega
  have hch:=D.chain;rw [hcn] at hch;have D':=D.take;obtain ⟨q1,q2,q3,q4,q5⟩:=take_same p f (qQ u);have hbit:∀ x,x<256→(p.take f (qQ u)).bit x=(p.bit x != decide (x=f)):=fun x hx=>mY p f x true D9 hx
  have hset:(β.μ.aA i (p.take f (qQ u))).pages[i]? = some (p.take f (qQ u)):=List.getElem?_set_self hlt;have Fh:∀ x,x≠i→(β.μ.aA i (p.take f (qQ u))).pages[x]? = β.μ.pages[x]? := fun x h=>List.getElem?_set_ne (fun e=>h e.symm)
  have RX:(β.σ.n=β.σ.n∧(i::t≠[]∨∃ k,k≤β.μ.order∧F k≠[]))∨(β.σ.n=β.σ.n+1∧β.σ.n<β.σ.limit∧i::t = []∧∀ k,k≤β.μ.order→F k = []):=.inl ⟨rfl,.inl (by simp)⟩;cases u with
  | nil =>
   -- the page is full from now on
   obtain ⟨CV,CW,RY⟩:=I.slab.nb hc him hp;have hU:=vo (β.μ.aA i (p.take f (-1))) i (p.take f (-1))
   have hpi:(p.take f (-1)).prev≠i∧(p.take f (-1)).next≠i:=by
    rw [(take_same p f (-1)).2.2.2.2,(take_same p f (-1)).2.2.2.1];constructor
    ·rcases CV with h | ⟨j,q,e,hji,_⟩ <;> omega
    ·rcases CW with h | ⟨j,q,e,hji,_⟩ <;> omega
   have VO:=fun x=>hU x hpi.1 hpi.2
   obtain ⟨CY,VP,VQ⟩:=oG (β.μ.aA i (p.take f (-1))) i (p.take f (-1));have hlen:((β.μ.aA i (p.take f (-1))).bH i (p.take f (-1))).pages.length=β.μ.pages.length:=VQ.trans (List.length_set ..);have R8:=VO i;rw [show (β.μ.aA i (p.take f (-1))).pages[i]? = some (p.take f (-1)) from hset] at R8
   have VR:∀ x,x≠i→∀ q,β.μ.pages[x]? = some q→∃ q',((β.μ.aA i (p.take f (-1))).bH i (p.take f (-1))).pages[x]? = some q'∧(q.kind=4∧bX q' q∨q.kind≠4∧q'=q):=by
    intro x hx q hq;rw [VO x,show (β.μ.aA i (p.take f (-1))).pages[x]? = β.μ.pages[x]? from Fh x hx,hq];refine ⟨_,rfl,?_⟩;by_cases hk:q.kind=4
    ·exact .inl ⟨hk,lM q _ _⟩
    ·refine .inr ⟨hk,?_⟩
     have n1:¬((x:Int)=(p.take f (-1)).prev):=by
      rw [(take_same p f (-1)).2.2.2.2];intro e;rcases CV with h | ⟨j,q2,e2,_,hq2,hk2,_⟩
      ·omega
      ·have:j=x:=by omega
       subst this;obtain rfl:q=q2:=Option.some.inj (hq.symm.trans hq2);exact hk hk2
     have n2:¬((x:Int)=(p.take f (-1)).next):=by
      rw [(take_same p f (-1)).2.2.2.1];intro e;rcases CW with h | ⟨j,q2,e2,_,hq2,hk2,_⟩
      ·omega
      ·have:j=x:=by omega
       subst this;obtain rfl:q=q2:=Option.some.inj (hq.symm.trans hq2);exact hk hk2
     simp only [if_neg hx,if_neg n1,if_neg n2]
   have S':=I.slab.Mw (β':={ β with μ:=(β.μ.aA i (p.take f (-1))).bH i (p.take f (-1)) }) (p':=p.take f (-1)) hc him hp ⟨(take_same p f (-1)).2.2.2.1,(take_same p f (-1)).2.2.2.2⟩ rfl (fun _ _ _ _ _ _ _=>rfl) (fun x _=>rfl) (fun q hq h4q=>by
    have hq:((β.μ.aA i (p.take f (-1))).bH i (p.take f (-1))).pages[i]? = some q:=hq;rw [R8] at hq;have e:=Option.some.inj hq;rw [←e];exact ((lM (p.take f (-1)) _ _).cells D').1)
   refine ⟨{ β with μ:=(β.μ.aA i (p.take f (-1))).bH i (p.take f (-1)) },ji ps c (p.take f (-1)),F,_,_,β.addr i+f*aB c,false,⟨?_,S',I.nums.AQ CY hlen⟩,⟨?_,⟨i,f,by show i<((β.μ.aA i (p.take f (-1))).bH i (p.take f (-1))).pages.length;rw [hlen];exact hlt,hfm.1,rfl⟩,by rw [hL];exact RX⟩,fun _=>rfl,?_⟩
   ·refine I.inv.Ea CY VP hlen (fun x q hq=>?_);by_cases hx:x=i
    ·subst hx;obtain rfl:p=q:=Option.some.inj (hp.symm.trans hq);exact ⟨_,R8,.inl ⟨h4,(take_same p f (-1)).1.trans h4,(take_same p f (-1)).2.1.trans D.order⟩⟩
    ·obtain ⟨q',hq',hs⟩:=VR x hx q hq;refine ⟨q',hq',?_⟩;rcases hs with ⟨hk,hs⟩ | ⟨hk,hs⟩
     ·left;refine ⟨hk,hs.kind.1.trans hk,?_⟩;have:=(I.slab.pages x q hq hk).order;unfold bX at hs;rw [hs];exact this
     ·exact .inr ⟨hk,hs⟩
   ·refine CS (p':=_) hc hp h4 hcl hfm.1 hfm.2 R8 ((take_same p f (-1)).1.trans h4) ((take_same p f (-1)).2.2.1.trans hcl) hbit CY rfl (fun j hj=>⟨fun q hq=>VR j hj q hq,fun q' hq'=>?_⟩);have hq':((β.μ.aA i (p.take f (-1))).bH i (p.take f (-1))).pages[j]? = some q':=hq';cases h:β.μ.pages[j]? with
    | none =>
     rw [VO j,show (β.μ.aA i (p.take f (-1))).pages[j]? = β.μ.pages[j]? from Fh j hj,h] at hq';simp at hq'
    | some q=>exact ⟨q,rfl⟩
   ·intro w s pb K R G far;exact R.ME G c i f deny hc he I.nums.full hp h4 hcl (by rw [D.first];rfl) hfm.1 hfm.2 hlv hch.1 CV CW RY
  | cons f2 u =>
   have hf2:=(D.lt (f:=f2) (by simp)).1;rw [hcl] at hf2;have S':=I.slab.cell (σ':=β.σ) (p':=p.take f (qQ (f2::u))) (u:=f2::u) hp h4 rfl (q1.trans h4) q3 ⟨q4,q5⟩ (by rw [hC];simp) D' (fun _ _ _ _=>rfl);have hlen:(β.μ.aA i (p.take f (qQ (f2::u)))).pages.length=β.μ.pages.length:=List.length_set ..;refine ⟨{ β with μ:=β.μ.aA i (p.take f (f2:Int)) },ps,F,_,L,β.addr i+f*aB c,false,⟨?_,S',I.nums.AQ rfl hlen⟩,⟨?_,⟨i,f,by show i<(β.μ.pages.set _ _).length;rw [List.length_set];exact hlt,hfm.1,rfl⟩,by rw [hL];exact RX⟩,fun _=>rfl,?_⟩
   ·refine I.inv.Ea rfl rfl hlen (fun x q hq=>?_);by_cases hx:x=i
    ·subst hx;obtain rfl:p=q:=Option.some.inj (hp.symm.trans hq);exact ⟨_,hset,.inl ⟨h4,q1.trans h4,q2.trans D.order⟩⟩
    ·refine ⟨q,(Fh x hx).trans hq,?_⟩;by_cases hk:q.kind=4
     ·exact .inl ⟨hk,hk,(I.slab.pages x q hq hk).order⟩
     ·exact .inr ⟨hk,rfl⟩
   ·refine CS (p':=p.take f (qQ (f2::u))) hc hp h4 hcl hfm.1 hfm.2 hset (q1.trans h4) (q3.trans hcl) hbit rfl rfl (fun j hj=>⟨fun q hq=>⟨q,(Fh j hj).trans hq,?_⟩,fun q' hq'=>⟨q',(Fh j hj).symm.trans hq'⟩⟩);by_cases hk:q.kind=4
    ·exact .inl ⟨hk,bX.refl _⟩
    ·exact .inr ⟨hk,rfl⟩
   ·intro w s pb K R G far;exact R.Py G c i f f2 deny hc he I.nums.full hp h4 hcl (by rw [D.first];rfl) hfm.1 hfm.2 hlv hf2 hch.1
theorem JJ (s pb mb base p i c wd d n off cell q r x:Nat) (b:Bool) (pg:Pg) (w:World)
  (c0:w.cell? ⟨s,0,none⟩=some (.pointer (some ⟨pb,0,none⟩))) (ls:s<w.heap.size) (cw:w.cell? ⟨1,c,none⟩=some (.int .u64 wd)) (h1:¬(p<base))
  (hM:∀ W,Touch Nothing w W→Calls Tryz.prog 63 #[.pointer (some ⟨pb,0,none⟩)] W fun e w'=>e=.returned (.pointer (some ⟨mb,0,none⟩))∧W=w')
  (hB:∀ W,Touch Nothing w W→Calls Tryz.prog 243 #[.pointer (some ⟨s,0,none⟩)] W fun e w'=>e=.returned (.int .u64 base)∧∃ k,w'=W.drewN k)
  (hP:∀ W,Touch Nothing w W→Calls Tryz.prog 64 #[.pointer (some ⟨mb,0,none⟩)] W fun e w'=>e=.returned (.int .i64 n)∧W=w')
  (hA:∀ W,Touch Nothing w W→Calls Tryz.prog 65 #[.pointer (some ⟨mb,0,none⟩),.int .i64 i] W fun e w'=>e=.returned (.tuple #[pg.val,.bool true])∧Touch Nothing W w')
  (hk:pg.kind=4) (hc:pg.cls=c) (hc8:(c:Int)<8) (aaj:¬(wd:Int)=0) (_hwd:(wd:Int)≤2048)
  (e1:(p:Int)-base=(d:Nat)) (Aj:(d:Int)/4096=i) (hi:i<n) (hn:n≤1024) (hp:p≤18446744073709551615)
  (e2:(d:Int)%4096=off) (_ho:(off:Int)≤4095) (e3:(off:Int)%wd=0) (e4:(off:Int)/wd=cell) (hcell:(cell:Int)<256)
  (r1:(cell:Int)/64=q) (r1':(cell:Int).tdiv 64=q) (r2:(cell:Int)%64=r) (r3:(cell:Int).tmod 64=r) (hq:(q:Int)<4) (_hr:(r:Int)<64) (hx:pg.word q=x) (hbt:(bits .and .u64 ((x:Int)/2^r) 1 == 1)=b) :
  Calls Tryz.prog 251 #[.pointer (some ⟨s,0,none⟩),.int .u64 p] w fun e w'=>e=.returned (.tuple #[.int .i64 i,.int .i64 cell,pg.val,.bool b])∧Touch Nothing w w':=by
 have T0:=Hd (show Touch Nothing w (w.alloc (.cells #[.int .i64 0,.int .i64 0,.int .i64 0,.int .i64 0,.int .i64 0,.int .i64 0,.int .i64 0,.int .u64 0,.int .u64 0,.int .u64 0,.int .u64 0] 128)) from (Touch.refl _ _).alloc _);have HM:=Hd hM;have HB:=Hd hB;have HP:=Hd hP;have HA:=Hd hA;have YO:=Hd cw;clear hM hB hP hA cw
 go_enter Tryz.func251,Tryz.ntmps251
 go_wp2_with fail
 refine (HM.out _ T0.out).mono ?_
 rintro e w1 ⟨rfl,rfl⟩
 go_wp2_with fail
 refine (HB.out _ T0.out).mono ?_
 rintro e w1 ⟨rfl,k1,rfl⟩
 go_wp2_with fail
 have T1:Touch Nothing w ((w.alloc (.cells #[.int .i64 0,.int .i64 0,.int .i64 0,.int .i64 0,.int .i64 0,.int .i64 0,.int .i64 0,.int .u64 0,.int .u64 0,.int .u64 0,.int .u64 0] 128)).drewN k1):=T0.out.drewN k1;have B1:=(aC.new w #[.int .i64 0,.int .i64 0,.int .i64 0,.int .i64 0,.int .i64 0,.int .i64 0,.int .i64 0,.int .u64 0,.int .u64 0,.int .u64 0,.int .u64 0] 128).drewN k1;generalize (w.alloc (.cells #[.int .i64 0,.int .i64 0,.int .i64 0,.int .i64 0,.int .i64 0,.int .i64 0,.int .i64 0,.int .u64 0,.int .u64 0,.int .u64 0,.int .u64 0] 128)).drewN k1=w1 at *;refine (HP.out _ T1).mono ?_
 rintro e w2 ⟨rfl,rfl⟩;have hX:w.heap.size<w1.heap.size:=B1.lt;have hsx:s≠w.heap.size:=by omega
 have HX:=Hd (show ∀ k,k<w.heap.size→¬k=w.heap.size from fun k h e=>by omega);generalize Fj:w.heap.size=X at *;have HT1:=Hd T1;have HB1:=Hd B1;clear T1 B1;have hin:¬((n:Int)≤i):=by omega
 go_wp2_with fail
 refine (HA.out _ HT1.out).mono ?_
 rintro e w2 ⟨rfl,T2⟩;have B2:=HB1.out.touch T2 (fun h=>h);have f0:=B2.free 0;have z0:=B2.cell 0;have f1:=B2.free 1;have z1:=B2.cell 1;have f2:=B2.free 2;have z2:=B2.cell 2;have f3:=B2.free 3;have z3:=B2.cell 3;have f4:=B2.free 4;have z4:=B2.cell 4;have f5:=B2.free 5;have z5:=B2.cell 5;have f6:=B2.free 6;have z6:=B2.cell 6;have f7:=B2.free 7;have z7:=B2.cell 7;have f8:=B2.free 8;have z8:=B2.cell 8;have f9:=B2.free 9;have z9:=B2.cell 9;have f10:=B2.free 10;have YP:=B2.cell 10;simp at z0 z1 z2 z3 z4 z5 z6 z7 z8 z9 YP;have hX2:X<w2.heap.size:=B2.lt;have HB2:=Hd B2;have HT2:=Hd (HT1.out.trans T2);clear B2 T2 hX;unfold Pg.val;rw [hk,hc]
 go_upto_region 6 with fail
 have HB3:=Hd (((((((((((HB2.out.set 0 (.int .i64 4)).set 1 (.int .i64 pg.order)).set 2 (.int .i64 c)).set 3 (.int .i64 pg.live)).set 4 (.int .i64 pg.next)).set 5 (.int .i64 pg.prev)).set 6 (.int .i64 pg.first)).set 7 (.int .u64 pg.b0)).set 8 (.int .u64 pg.b1)).set 9 (.int .u64 pg.b2)).set 10 (.int .u64 pg.b3));have HT3:=Hd (((((((((((Touch.cellAt (w2) X 0 (.int .i64 4)).trans (Touch.cellAt (w2.setCell ⟨X,0,none⟩ (.int .i64 4)) X 1 (.int .i64 pg.order))).trans (Touch.cellAt ((w2.setCell ⟨X,0,none⟩ (.int .i64 4)).setCell ⟨X,1,none⟩ (.int .i64 pg.order)) X 2 (.int .i64 c))).trans (Touch.cellAt (((w2.setCell ⟨X,0,none⟩ (.int .i64 4)).setCell ⟨X,1,none⟩ (.int .i64 pg.order)).setCell ⟨X,2,none⟩ (.int .i64 c)) X 3 (.int .i64 pg.live))).trans (Touch.cellAt ((((w2.setCell ⟨X,0,none⟩ (.int .i64 4)).setCell ⟨X,1,none⟩ (.int .i64 pg.order)).setCell ⟨X,2,none⟩ (.int .i64 c)).setCell ⟨X,3,none⟩ (.int .i64 pg.live)) X 4 (.int .i64 pg.next))).trans (Touch.cellAt (((((w2.setCell ⟨X,0,none⟩ (.int .i64 4)).setCell ⟨X,1,none⟩ (.int .i64 pg.order)).setCell ⟨X,2,none⟩ (.int .i64 c)).setCell ⟨X,3,none⟩ (.int .i64 pg.live)).setCell ⟨X,4,none⟩ (.int .i64 pg.next)) X 5 (.int .i64 pg.prev))).trans (Touch.cellAt ((((((w2.setCell ⟨X,0,none⟩ (.int .i64 4)).setCell ⟨X,1,none⟩ (.int .i64 pg.order)).setCell ⟨X,2,none⟩ (.int .i64 c)).setCell ⟨X,3,none⟩ (.int .i64 pg.live)).setCell ⟨X,4,none⟩ (.int .i64 pg.next)).setCell ⟨X,5,none⟩ (.int .i64 pg.prev)) X 6 (.int .i64 pg.first))).trans (Touch.cellAt (((((((w2.setCell ⟨X,0,none⟩ (.int .i64 4)).setCell ⟨X,1,none⟩ (.int .i64 pg.order)).setCell ⟨X,2,none⟩ (.int .i64 c)).setCell ⟨X,3,none⟩ (.int .i64 pg.live)).setCell ⟨X,4,none⟩ (.int .i64 pg.next)).setCell ⟨X,5,none⟩ (.int .i64 pg.prev)).setCell ⟨X,6,none⟩ (.int .i64 pg.first)) X 7 (.int .u64 pg.b0))).trans (Touch.cellAt ((((((((w2.setCell ⟨X,0,none⟩ (.int .i64 4)).setCell ⟨X,1,none⟩ (.int .i64 pg.order)).setCell ⟨X,2,none⟩ (.int .i64 c)).setCell ⟨X,3,none⟩ (.int .i64 pg.live)).setCell ⟨X,4,none⟩ (.int .i64 pg.next)).setCell ⟨X,5,none⟩ (.int .i64 pg.prev)).setCell ⟨X,6,none⟩ (.int .i64 pg.first)).setCell ⟨X,7,none⟩ (.int .u64 pg.b0)) X 8 (.int .u64 pg.b1))).trans (Touch.cellAt (((((((((w2.setCell ⟨X,0,none⟩ (.int .i64 4)).setCell ⟨X,1,none⟩ (.int .i64 pg.order)).setCell ⟨X,2,none⟩ (.int .i64 c)).setCell ⟨X,3,none⟩ (.int .i64 pg.live)).setCell ⟨X,4,none⟩ (.int .i64 pg.next)).setCell ⟨X,5,none⟩ (.int .i64 pg.prev)).setCell ⟨X,6,none⟩ (.int .i64 pg.first)).setCell ⟨X,7,none⟩ (.int .u64 pg.b0)).setCell ⟨X,8,none⟩ (.int .u64 pg.b1)) X 9 (.int .u64 pg.b2))).trans (Touch.cellAt ((((((((((w2.setCell ⟨X,0,none⟩ (.int .i64 4)).setCell ⟨X,1,none⟩ (.int .i64 pg.order)).setCell ⟨X,2,none⟩ (.int .i64 c)).setCell ⟨X,3,none⟩ (.int .i64 pg.live)).setCell ⟨X,4,none⟩ (.int .i64 pg.next)).setCell ⟨X,5,none⟩ (.int .i64 pg.prev)).setCell ⟨X,6,none⟩ (.int .i64 pg.first)).setCell ⟨X,7,none⟩ (.int .u64 pg.b0)).setCell ⟨X,8,none⟩ (.int .u64 pg.b1)).setCell ⟨X,9,none⟩ (.int .u64 pg.b2)) X 10 (.int .u64 pg.b3)));generalize (((((((((((w2.setCell ⟨X,0,none⟩ (.int .i64 4)).setCell ⟨X,1,none⟩ (.int .i64 pg.order)).setCell ⟨X,2,none⟩ (.int .i64 c)).setCell ⟨X,3,none⟩ (.int .i64 pg.live)).setCell ⟨X,4,none⟩ (.int .i64 pg.next)).setCell ⟨X,5,none⟩ (.int .i64 pg.prev)).setCell ⟨X,6,none⟩ (.int .i64 pg.first)).setCell ⟨X,7,none⟩ (.int .u64 pg.b0)).setCell ⟨X,8,none⟩ (.int .u64 pg.b1)).setCell ⟨X,9,none⟩ (.int .u64 pg.b2)).setCell ⟨X,10,none⟩ (.int .u64 pg.b3))=w3 at *;have b0:=HB3.out.cell 0;have g0:=HB3.out.free 0;have b1:=HB3.out.cell 1;have g1:=HB3.out.free 1;have b2:=HB3.out.cell 2;have g2:=HB3.out.free 2;have b3:=HB3.out.cell 3;have g3:=HB3.out.free 3;have b4:=HB3.out.cell 4;have g4:=HB3.out.free 4;have b5:=HB3.out.cell 5;have g5:=HB3.out.free 5;have b6:=HB3.out.cell 6;have g6:=HB3.out.free 6;have b7:=HB3.out.cell 7;have g7:=HB3.out.free 7;have b8:=HB3.out.cell 8;have g8:=HB3.out.free 8;have b9:=HB3.out.cell 9;have g9:=HB3.out.free 9;have b10:=HB3.out.cell 10;have g10:=HB3.out.free 10;simp at b0 b1 b2 b3 b4 b5 b6 b7 b8 b9 b10
 have cw:w3.cell? ⟨1,c,none⟩=some (.int .u64 wd):=by
  have h1:1<X:=by rw [←Fj];exact World.block_lt_of_cell? _ _ YO.out
  refine (HT3.out.cell (p:=⟨1,c,none⟩) (Nat.lt_trans h1 hX2) (fun e=>by simp at e;omega)).trans ?_
  exact (HT2.out.cell (p:=⟨1,c,none⟩) (by rw [Fj];exact h1) (fun h=>h)).trans YO.out
 have hxc:w3.cell? ⟨X,7+q,none⟩=some (.int .u64 x):=by
  rw [HB3.out.cell];have:=pg.mU q (by omega);rw [hx] at this;simpa [Pg.cells,hk,hc] using this
 clear f0 z0 f1 z1 f2 z2 f3 z3 f4 z4 f5 z5 f6 z6 f7 z7 f8 z8 f9 z9 f10 YP c0
 go_upto_region 10 with fail
 go_region
 all_goals
  have jX:=Hd (((((((((((HB3.out.set 0 (.int .i64 4)).set 1 (.int .i64 pg.order)).set 2 (.int .i64 c)).set 3 (.int .i64 pg.live)).set 4 (.int .i64 pg.next)).set 5 (.int .i64 pg.prev)).set 6 (.int .i64 pg.first)).set 7 (.int .u64 pg.b0)).set 8 (.int .u64 pg.b1)).set 9 (.int .u64 pg.b2)).set 10 (.int .u64 pg.b3));have eu:=Hd (((((((((((Touch.cellAt (w3) X 0 (.int .i64 4)).trans (Touch.cellAt (w3.setCell ⟨X,0,none⟩ (.int .i64 4)) X 1 (.int .i64 pg.order))).trans (Touch.cellAt ((w3.setCell ⟨X,0,none⟩ (.int .i64 4)).setCell ⟨X,1,none⟩ (.int .i64 pg.order)) X 2 (.int .i64 c))).trans (Touch.cellAt (((w3.setCell ⟨X,0,none⟩ (.int .i64 4)).setCell ⟨X,1,none⟩ (.int .i64 pg.order)).setCell ⟨X,2,none⟩ (.int .i64 c)) X 3 (.int .i64 pg.live))).trans (Touch.cellAt ((((w3.setCell ⟨X,0,none⟩ (.int .i64 4)).setCell ⟨X,1,none⟩ (.int .i64 pg.order)).setCell ⟨X,2,none⟩ (.int .i64 c)).setCell ⟨X,3,none⟩ (.int .i64 pg.live)) X 4 (.int .i64 pg.next))).trans (Touch.cellAt (((((w3.setCell ⟨X,0,none⟩ (.int .i64 4)).setCell ⟨X,1,none⟩ (.int .i64 pg.order)).setCell ⟨X,2,none⟩ (.int .i64 c)).setCell ⟨X,3,none⟩ (.int .i64 pg.live)).setCell ⟨X,4,none⟩ (.int .i64 pg.next)) X 5 (.int .i64 pg.prev))).trans (Touch.cellAt ((((((w3.setCell ⟨X,0,none⟩ (.int .i64 4)).setCell ⟨X,1,none⟩ (.int .i64 pg.order)).setCell ⟨X,2,none⟩ (.int .i64 c)).setCell ⟨X,3,none⟩ (.int .i64 pg.live)).setCell ⟨X,4,none⟩ (.int .i64 pg.next)).setCell ⟨X,5,none⟩ (.int .i64 pg.prev)) X 6 (.int .i64 pg.first))).trans (Touch.cellAt (((((((w3.setCell ⟨X,0,none⟩ (.int .i64 4)).setCell ⟨X,1,none⟩ (.int .i64 pg.order)).setCell ⟨X,2,none⟩ (.int .i64 c)).setCell ⟨X,3,none⟩ (.int .i64 pg.live)).setCell ⟨X,4,none⟩ (.int .i64 pg.next)).setCell ⟨X,5,none⟩ (.int .i64 pg.prev)).setCell ⟨X,6,none⟩ (.int .i64 pg.first)) X 7 (.int .u64 pg.b0))).trans (Touch.cellAt ((((((((w3.setCell ⟨X,0,none⟩ (.int .i64 4)).setCell ⟨X,1,none⟩ (.int .i64 pg.order)).setCell ⟨X,2,none⟩ (.int .i64 c)).setCell ⟨X,3,none⟩ (.int .i64 pg.live)).setCell ⟨X,4,none⟩ (.int .i64 pg.next)).setCell ⟨X,5,none⟩ (.int .i64 pg.prev)).setCell ⟨X,6,none⟩ (.int .i64 pg.first)).setCell ⟨X,7,none⟩ (.int .u64 pg.b0)) X 8 (.int .u64 pg.b1))).trans (Touch.cellAt (((((((((w3.setCell ⟨X,0,none⟩ (.int .i64 4)).setCell ⟨X,1,none⟩ (.int .i64 pg.order)).setCell ⟨X,2,none⟩ (.int .i64 c)).setCell ⟨X,3,none⟩ (.int .i64 pg.live)).setCell ⟨X,4,none⟩ (.int .i64 pg.next)).setCell ⟨X,5,none⟩ (.int .i64 pg.prev)).setCell ⟨X,6,none⟩ (.int .i64 pg.first)).setCell ⟨X,7,none⟩ (.int .u64 pg.b0)).setCell ⟨X,8,none⟩ (.int .u64 pg.b1)) X 9 (.int .u64 pg.b2))).trans (Touch.cellAt ((((((((((w3.setCell ⟨X,0,none⟩ (.int .i64 4)).setCell ⟨X,1,none⟩ (.int .i64 pg.order)).setCell ⟨X,2,none⟩ (.int .i64 c)).setCell ⟨X,3,none⟩ (.int .i64 pg.live)).setCell ⟨X,4,none⟩ (.int .i64 pg.next)).setCell ⟨X,5,none⟩ (.int .i64 pg.prev)).setCell ⟨X,6,none⟩ (.int .i64 pg.first)).setCell ⟨X,7,none⟩ (.int .u64 pg.b0)).setCell ⟨X,8,none⟩ (.int .u64 pg.b1)).setCell ⟨X,9,none⟩ (.int .u64 pg.b2)) X 10 (.int .u64 pg.b3)));generalize (((((((((((w3.setCell ⟨X,0,none⟩ (.int .i64 4)).setCell ⟨X,1,none⟩ (.int .i64 pg.order)).setCell ⟨X,2,none⟩ (.int .i64 c)).setCell ⟨X,3,none⟩ (.int .i64 pg.live)).setCell ⟨X,4,none⟩ (.int .i64 pg.next)).setCell ⟨X,5,none⟩ (.int .i64 pg.prev)).setCell ⟨X,6,none⟩ (.int .i64 pg.first)).setCell ⟨X,7,none⟩ (.int .u64 pg.b0)).setCell ⟨X,8,none⟩ (.int .u64 pg.b1)).setCell ⟨X,9,none⟩ (.int .u64 pg.b2)).setCell ⟨X,10,none⟩ (.int .u64 pg.b3))=w4 at *
  go_wp2_with fail
  have d0:=jX.out.drew.cell 0;have d1:=jX.out.drew.cell 1;have d2:=jX.out.drew.cell 2;have d3:=jX.out.drew.cell 3;have d4:=jX.out.drew.cell 4;have d5:=jX.out.drew.cell 5;have d6:=jX.out.drew.cell 6;have d7:=jX.out.drew.cell 7;have d8:=jX.out.drew.cell 8;have d9:=jX.out.drew.cell 9;have zQ:=jX.out.drew.cell 10;simp at d0 d1 d2 d3 d4 d5 d6 d7 d8 d9 zQ;have hv:pg.val=.agg #[.int .i64 4,.int .i64 pg.order,.int .i64 c,.int .i64 pg.live,.int .i64 pg.next,.int .i64 pg.prev,.int .i64 pg.first,.int .u64 pg.b0,.int .u64 pg.b1,.int .u64 pg.b2,.int .u64 pg.b3]:=by unfold Pg.val;rw [hk,hc]
  rw [hv];exact bodyPost_ret (v:=.tuple #[.int .i64 i,.int .i64 cell,.agg #[.int .i64 4,.int .i64 pg.order,.int .i64 c,.int .i64 pg.live,.int .i64 pg.next,.int .i64 pg.prev,.int .i64 pg.first,.int .u64 pg.b0,.int .u64 pg.b1,.int .u64 pg.b2,.int .u64 pg.b3],.bool b]) (by simp [results,Tryz.results251,go_sem,d0,d1,d2,d3,d4,d5,d6,d7,d8,d9,zQ]) rfl ⟨rfl,(HT2.out.trans' HT3.out (fun i hi e=>by rw [Fj] at hi;omega)).trans' eu.out.drew (fun i hi e=>by rw [Fj] at hi;omega)⟩
theorem aM.JK {w:World} {s pb:Nat} {K:ay} {β:Bu} {ps:List Int} (R:aM w s pb K β ps) (G:bU w) (i c x:Nat) {pg:Pg} (hi:β.μ.pages[i]? = some pg) (hk:pg.kind=4) (hcl:pg.cls=c) (hc:c<8) (hx:x<aR c) (hl:β.μ.pages.length=β.σ.n*2^β.μ.order) :
  Calls Tryz.prog 251 #[.pointer (some ⟨s,0,none⟩),.int .u64 (β.addr i+x*aB c:Nat)] w fun e w'=>e=.returned (.tuple #[.int .i64 i,.int .i64 x,pg.val,.bool (pg.bit x)])∧Touch Nothing w w':=by
 have hlt:=(List.getElem?_eq_some_iff.1 hi).1;have hlen:=R.po.bu.mp.ok.len;have htop:β.σ.base+4096*i+4096≤18446744073709551615:=R.po.bu.ok.dZ R.po.bu.sp.ok hlt;obtain ⟨u1,u2,u3,u4,u5,u6⟩:=dK hc
 have hin:x*aB c+aB c≤4096:=by
  have:=jB c (by omega) hx;simpa using this
 have po:=R.po.bu.mp.ok.page pg (List.mem_of_getElem? hi);have hx256:x<256:=by omega
 have hq:x/64<4:=by omega
 have Vh:x*aB c%aB c=0:=Nat.mul_mod_left _ _;have hdv:x*aB c/aB c=x:=Nat.mul_div_cancel _ (by omega);unfold Bu.addr
 refine JJ s pb K.M.mb β.σ.base _ i c (aB c) (4096*i+x*aB c) β.μ.pages.length (x*aB c) x (x/64) (x%64) (pg.word (x/64)) (pg.bit x) pg w R.pool (R.lt s (by simp)) (G.widths c hc) (by omega)
  (fun W T=>(R.aj T).po.jQ) (fun W T=>(R.aj T).pW hl) (fun W T=>(R.aj T).po.bu.mp.sU) (fun W T=>(R.aj T).po.bu.mp.at_ hi) hk hcl (by omega) (by omega) (by omega)
  ?_ ?_ hlt (by omega) (by omega) ?_ (by omega) ?_ ?_ (by omega) (by omega) ?_ (by omega) ?_ (by omega) (by omega) rfl ?_
 ·generalize x*aB c=y at *;omega
 ·generalize x*aB c=y at *;omega
 ·generalize x*aB c=y at *;omega
 ·exact_mod_cast Vh
 ·exact_mod_cast hdv
 ·rw [Int.ofNat_tdiv];rfl
 ·rw [Int.ofNat_tmod];rfl
 ·exact uG _ _ (po.word_lt _ hq)
theorem aM.VT {w:World} {s pb:Nat} {K:ay} {β:Bu} {ps:List Int} (R:aM w s pb K β ps) (i c j:Nat) {p q:Pg} (hi:β.μ.pages[i]? = some p) (hk:p.kind=4) (hc:c<8) (he:ps.getD c 0=j)
  (hji:j≠i) (hj:β.μ.pages[j]? = some q) (hqk:q.kind=4) (MC:q.next<β.μ.pages.length) :
  Calls Tryz.prog 252 #[.pointer (some ⟨s,0,none⟩),.int .i64 i,.int .i64 c] w fun e w'=>e=.returned (.tuple #[])∧aM w' s pb K { β with μ:=β.μ.jm i j } (ps.set c i)∧Touch (·∈s::K.fp) w w':=by
 have VU:(β.μ.aA i { p with next:=(j:Int),prev:=-1 }).pages[j]? = some q:=(List.getElem?_set_ne (fun e=>hji e.symm)).trans hj
 have hU:β.μ.jm i j=(β.μ.aA i { p with next:=(j:Int),prev:=-1 }).aA j { q with next:=q.next,prev:=(i:Int) }:=by
  unfold Mp.jm;have h2:¬((j:Int)<0):=by omega
  simp only [if_neg h2,Int.toNat_natCast];rw [gV (j:=i) (q:=p) _ hi,gV (j:=j) (q:=q) _ VU]
 rw [hU];have c0:=R.pool;have c1:=R.part c hc;rw [he] at c1;have HM:=Hd (fun k=>((R.drewN k).po.jQ).mono (fun e w' (h:e=_∧w.drewN k=w')=>(⟨h.1,h.2.symm⟩:e=_∧w'=w.drewN k)));have hlt:=(List.getElem?_eq_some_iff.1 hi).1;have hlj:=(List.getElem?_eq_some_iff.1 hj).1;have hlen:=R.po.bu.mp.ok.len;have hq1:-1≤q.next:=(R.po.bu.mp.ok.page q (List.mem_of_getElem? hj)).next.1;have yI:=Hd (fun k=>(R.drewN k).po.bu.mp.kS hi hk (j:Int) (-1) (by omega) (by omega) (by omega) (by omega));have HR:=Hd R;have HJ:=Hd VU;have Mx:=Hd hqk;have YQ:=Hd (And.intro hq1 MC);clear R hi hk he hU hj VU hqk MC hq1
 go_enter Tryz.func252,Tryz.ntmps252
 go_wp2_with fail
 go_quiet (first | (go_at_call 63;refine Calls.quiet_of_same (HM.out _)))
 go_wp2_with fail
 refine (yI.out _).mono ?_
 rintro e w1 ⟨rfl,r1,t1⟩;have R1:=(HR.out.drewN nq).po.bu.fq r1 t1 rfl (List.length_set ..);have S1:=(HR.out.drewN nq).next R1.2 (ay.Next.refl _ _) R1.1;have iW:=Hd (S1.po.bu.mp.at_ HJ.out);have hS:=Hd S1;have hT:=Hd (((Touch.refl _ w).drewN nq).trans R1.2);clear r1 t1 R1 c0 c1 S1 yI HM
 go_wp2_with fail
 refine iW.out.mono ?_
 rintro e w2 ⟨rfl,T2⟩;have HS2:=Hd (hS.out.aj T2);have HT2:=Hd T2;clear T2 iW;unfold Pg.val
 go_wp2_with fail
 have T3:=(Touch.refl Nothing w2).alloc (.cells #[.int .i64 q.kind,.int .i64 q.order,.int .i64 q.cls,.int .i64 q.live,.int .i64 q.next,.int .i64 q.prev,.int .i64 q.first,.int .u64 q.b0,.int .u64 q.b1,.int .u64 q.b2,.int .u64 q.b3] 128);have B3:=aC.new w2 #[.int .i64 q.kind,.int .i64 q.order,.int .i64 q.cls,.int .i64 q.live,.int .i64 q.next,.int .i64 q.prev,.int .i64 q.first,.int .u64 q.b0,.int .u64 q.b1,.int .u64 q.b2,.int .u64 q.b3] 128;have b4:=B3.cell 4;generalize w2.alloc (.cells #[.int .i64 q.kind,.int .i64 q.order,.int .i64 q.cls,.int .i64 q.live,.int .i64 q.next,.int .i64 q.prev,.int .i64 q.first,.int .u64 q.b0,.int .u64 q.b1,.int .u64 q.b2,.int .u64 q.b3] 128)=w3 at *;simp at b4;have S3:=HS2.out.aj T3;have oP:=Hd (S3.po.bu.mp.kS HJ.out Mx.out q.next (i:Int) YQ.out.1 (by rw [show (β.μ.aA i { p with next:=(j:Int),prev:=-1 }).pages.length=β.μ.pages.length from List.length_set ..];exact YQ.out.2) (by omega) (by rw [show (β.μ.aA i { p with next:=(j:Int),prev:=-1 }).pages.length=β.μ.pages.length from List.length_set ..];omega));have jS:=Hd S3;have HT3:=Hd ((hT.out.trans (HT2.out.none_)).trans T3.none_);clear S3 T3 B3
 go_wp2_with fail
 refine oP.out.mono ?_
 rintro e w4 ⟨rfl,r4,t4⟩;have R4:=jS.out.fq r4 t4 rfl (List.length_set ..);have d1:=R4.1.part c hc;have f1:=R4.1.blk.free (1+c);have LH:=Hd (R4.1.xP c i);have Cr:=Hd (HT3.out.trans R4.2);clear r4 t4 R4 b4
 go_wp2_with fail
 go_end0
 refine ⟨rfl,LH.out,?_⟩;exact (Cr.out.mono (fun k _ h=>List.mem_cons_of_mem _ h)).trans ((Touch.cellAt w4 s (1+c) _).mono (fun k _ h=>by simp [h]))
theorem Fp:∀ a,a<1024→∀ k,k<8→2^k∣a→bits .xor .i64 (a:Nat) ((2^k:Nat):Int)=(dM a k:Nat):=by decide +kernel
theorem AR:∀ a,a<1024→∀ k,k<8→2^k∣a→bits .andNot .i64 (a:Nat) ((2^k:Nat):Int)=(low a k:Nat):=by decide +kernel
theorem BInv.PO {β:Bu} {F:Nat→List Nat} {H:Nat→Prop} (I:BInv β F H) {a k:Nat} (hk:k<β.μ.order) (al:2^k∣a) (hn:a∉F k):β.μ.bit k a=decide (dM a k∈F k):=by
 unfold Mp.bit;rw [I.pair k hk];rcases wN al with ⟨e,_⟩ | ⟨e,_⟩
 ·generalize a/2^(k+1)=q at *;subst e;rw [BL,decide_eq_false hn];simp
 ·generalize a/2^(k+1)=q at *;subst e;rw [xX,decide_eq_false hn];simp
theorem aJ.CZ {w:World} {K:ay} {β:Bu} {F:Nat→List Nat} {H:Nat→Prop} (R:aJ w K β) (I:BInv β F H) {a k:Nat} (hk:k≤β.μ.order) (al:2^k∣a) (ha:a<β.μ.pages.length) (hn:a∉F k) :
  Calls Tryz.prog 239 #[.pointer (some ⟨K.bb,0,none⟩),.int .i64 a,.int .i64 k] w (Turned w K (β.turned a k) (.bool (!(decide (k<β.μ.order∧dM a k∈F k))))):=by
 by_cases h:k<β.μ.order
 ·have:=R.Jy (List.getElem?_eq_getElem ha) h (I.xY h ha);rw [I.PO h al hn] at this
  have e:β.turned a k = { β with μ:=β.μ.flip k a }:=by
   unfold Bu.turned;rw [if_neg (by omega)]
  rw [e];simpa [h] using this
 ·obtain rfl:k=β.μ.order:=by omega
  rw [uY];refine (R.y8 a).mono ?_
  rintro e w' ⟨rfl,rfl⟩;refine ⟨by simp,R,Touch.refl _ _⟩
theorem aJ.BN {w:World} {K:ay} {β fV:Bu} {F:Nat→List Nat} {H:Nat→Prop} (R:aJ w K fV) (hσ:fV.σ=β.σ) (hh:fV.heads=β.heads) (I:BInv β F H) {k x lb:Nat} (hl:fV.μ.pages.length=β.μ.pages.length) (hk:k≤β.μ.order) (hx:x∈F k) (hlb:K.eO[k]? = some lb) (hhd:fV.heads[k]? = some (fV.heads.getD k 0)) :
  Calls Tryz.prog 255 #[.pointer (some ⟨lb,0,none⟩),.int .u64 (fV.addr x:Nat)] w (Turned w K (fV.bZ k x) (.int .i64 0)):=by
 have hlk:=I.links hk hx;rw [←hσ,←hh] at hlk;have h64:∀ i,fV.σ.word i<18446744073709551616:=fun i=>R.sp.ok.word_lt i
 have wH:∀ y,y<fV.μ.pages.length→fV.σ.has (fV.σ.base+4096*y) 16:=by
  intro y hy;have:=R.ok.has (i:=y) (off:=0) (n:=16) hy (by omega) (by omega);rw [Nat.add_zero] at this;exact this
 have hlt:∀ y∈F k,y<β.μ.pages.length:=fun y hy=>(I.lt hk hy).2
 have hb:=I.base;rw [←hσ] at hb;have S:=(R.ls hlb hhd).Cv (p:=fV.addr x) (next:=nx fV.σ fV.σ.base x) (prev:=pv fV.σ fV.σ.base x) (wH x (by rw [hl];exact hlt x hx)) rfl rfl ?_ (h64 _) (h64 _)
 ·refine S.mono ?_
  rintro e w1 ⟨rfl,S1⟩;refine ⟨rfl,?_,?_⟩
  ·have:=R.listed hlb S1 ?_ ?_
   ·exact this
   ·obtain ⟨f1,f2,f3,f4,f5⟩:=tO fV.σ (nx fV.σ fV.σ.base x) (pv fV.σ fV.σ.base x);exact ⟨f1,f3,f5,f4,f2⟩
   ·split
    ·exact h64 _
    ·exact R.ok.head _ (List.mem_of_getElem? hhd)
  ·refine S1.touch.mono (fun b _ hb=>?_);rcases hb with hb | hb
   ·simp [ay.fp,bM.fp,hb]
   ·simp [ay.fp,ay.own,hb,List.mem_of_getElem? hlb]
 ·refine ⟨hlk.2.2,fun ne=>?_,fun ne=>?_⟩
  ·rcases hlk.2.1 with h | ⟨y,hy,_,e,e2⟩
   ·exact (ne h).elim
   ·rw [e];exact ⟨wH y (by rw [hl];exact hlt y hy),e2⟩
  ·rcases hlk.1 with h | ⟨y,hy,_,e,e2⟩
   ·exact (ne h).elim
   ·rw [e];exact ⟨wH y (by rw [hl];exact hlt y hy),e2⟩
theorem Fq (l:Nat) (J:Act→World→Prop) (Q:Exit→Act→World→Prop) (a:Act) (w:World):Exit.jump l J Q .ret a w=Q .ret a w:=rfl
structure qh (w:World) (K:ay) (jT:Bu) (F0:Nat→List Nat) (a0 k0:Nat) (β:Bu) (F:Nat→List Nat) (a k:Nat) (wr:World):Prop where
 rep:aJ wr K β
 inv:BInv β F (Inb a k)
 le:k≤β.μ.order
 al:2^k∣a
 same:Bu.kN (β.μ.order-k) β F a k=Bu.kN (jT.μ.order-k0) jT F0 a0 k0
 ord:β.μ.order=jT.μ.order
 touch:Touch (·∈K.fp) w wr
theorem qh.facts {w wr:World} {K:ay} {jT β:Bu} {F0 F:Nat→List Nat} {a0 k0 a k:Nat} (R:qh w K jT F0 a0 k0 β F a k wr):a<β.μ.pages.length∧a+2^k≤β.μ.pages.length∧a∉F k :=
 ⟨R.inv.hole a (aS _ _),AB (fun y hy=>R.inv.hole y hy),fun h=>R.inv.apart k R.le a h a (aS _ _) (aS _ _)⟩
theorem qh.last {w wr w1 w2:World} {K:ay} {jT β:Bu} {F0 F:Nat→List Nat} {a0 k0 a k:Nat} (R:qh w K jT F0 a0 k0 β F a k wr) (hm:¬(k<β.μ.order∧dM a k∈F k)) (T1:Touch (·∈K.fp) wr w1) (R2:aJ w2 K ((β.turned a k).enter a k)) (T2:Touch (·∈K.fp) w1 w2) :
  aJ w2 K (jT.given F0 a0 k0)∧Touch (·∈K.fp) w w2:=by
 refine ⟨?_,(R.touch.trans T1).trans T2⟩
 have e:(β.turned a k).enter a k=(β.enter a k).turned a k:=by
  have ho:(β.enter a k).μ.order=β.μ.order:=by rw [mI];exact (mJ _ _ _ _).1
  unfold Bu.turned;by_cases h:k=β.μ.order
  ·rw [if_pos h,if_pos (h.trans ho.symm)]
  ·rw [if_neg h,if_neg (fun e=>h (e.trans ho))];unfold Bu.enter Mp.flip Mp.run Mp.runK;rfl
 unfold Bu.given;rw [←R.same];rw [e] at R2;have hle:=R.le;obtain ⟨f,hf⟩:∃ f,f=β.μ.order-k:=⟨_,rfl⟩;rw [←hf];cases f with
 | zero=>exact R2
 | succ f =>
  unfold Bu.kN;rw [if_neg (fun h=>hm ⟨by omega,h⟩)];exact R2
theorem qh.up {w wr w1 w2:World} {K:ay} {jT β:Bu} {F0 F:Nat→List Nat} {a0 k0 a k:Nat} (R:qh w K jT F0 a0 k0 β F a k wr) (hm:k<β.μ.order∧dM a k∈F k) (T1:Touch (·∈K.fp) wr w1) (R2:aJ w2 K ((β.turned a k).bZ k (dM a k))) (T2:Touch (·∈K.fp) w1 w2) :
  qh w K jT F0 a0 k0 ((β.bZ k (dM a k)).turned (dM a k) k) (upd F k ((F k).erase (dM a k))) (low a k) (k+1) w2:=by
 obtain ⟨I1,K1,U1⟩:=R.inv.up hm.1 R.al hm.2;have ho:=K1.order;have hj:=zh R.al
 have e:(β.turned a k).bZ k (dM a k)=(β.bZ k (dM a k)).turned (dM a k) k:=by
  unfold Bu.turned;rw [if_neg (by omega),if_neg (by rw [jG];omega)];unfold Bu.bZ Mp.flip;rw [hj.2.2.2.1]
 rw [e] at R2;refine ⟨R2,I1,by omega,hj.2.1,?_,ho.trans R.ord,(R.touch.trans T1).trans T2⟩;rw [←R.same,ho];obtain ⟨f,hf⟩:∃ f,f+1=β.μ.order-k:=⟨β.μ.order-k-1,by omega⟩;rw [←hf,show β.μ.order-(k+1)=f by omega]
 conv=>rhs;unfold Bu.kN
 rw [if_pos hm.2]
theorem aJ.Eb {w:World} {K:ay} {β:Bu} {F:Nat→List Nat} (R:aJ w K β) (I:BInv β F aH) {a k:Nat} (hk:k≤β.μ.order) (hB:bf β.μ.pages a k 2) :
  Calls Tryz.prog 253 #[.pointer (some ⟨K.bb,0,none⟩),.int .u64 (β.addr a:Nat),.int .i64 k] w (Turned w K (β.given F a k) (.int .i64 0)):=by
 have I0:=I.mH hB;have hH:(fun y=>aH y∨Inb a k y)=Inb a k:=funext fun y=>propext ⟨fun h=>h.resolve_left id,.inr⟩
 rw [hH] at I0;have p0:=fF k;have hp:=hB.at_ 0 p0;rw [Nat.add_zero] at hp;have HL:=Hd (R.xO a k hp (by simp [bK,aD]) rfl);have VW:=Hd (show ∀ w1,Touch Nothing w w1→qh w K β F a k β F a k w1 from fun w1 T=>⟨R.aj T,I0,hk,hB.al,rfl,rfl,T.none_⟩);clear R I I0 hk hB hH p0 hp
 go_enter Tryz.func253,Tryz.ntmps253
 go_wp2_with fail
 refine wp_scope_jumps 0 (fun a' wr=>∃ (β1:Bu) (F1:Nat→List Nat) (a1 k1:Nat) (u1 u2 u3 u4 u5 u6 u8 YR YS YT YU YV YW u16 YX YZ Y0 u20 u21 u22 u23 u24 u25 u26 u27 u28 u29 u30 u31 u32 u33 u34 u35 u36 u37 u38 Y1 u40 Y2 u42 Y3 u44 u45 u46 Y4 u48 u49 Y5 u51 Y6:Value),a' = { tmps:=#[.pointer (some ⟨K.bb,0,none⟩),u1,u2,u3,u4,u5,u6,.int .i64 (a1:Nat),u8,.int .i64 (k1:Nat),YR,YS,YT,YU,YV,YW,u16,YX,YZ,Y0,u20,u21,u22,u23,u24,u25,u26,u27,u28,u29,u30,u31,u32,u33,u34,u35,u36,u37,u38,Y1,u40,Y2,u42,Y3,u44,u45,u46,Y4,u48,u49,Y5,u51,Y6],defers:=[] }∧qh w K β F a k β1 F1 a1 k1 wr) (fun a' _=>β.μ.order-(intOf (a'.tmps.getD 9 undef)).toNat) rfl ?first ?pass
 case first =>
  go_wp2_with fail
  refine HL.out.mono ?_
  rintro e wr ⟨rfl,T1⟩;have HU:=Hd (VW.out _ T1);clear T1 VW HL
  go_wp2_with fail
  go_step3
  have hf:=HU.out.facts;have hle:=HU.out.le;have hT:=HU.out.rep.CZ HU.out.inv HU.out.le HU.out.al hf.1 hf.2.2;by_cases hm:k<β.μ.order∧dM a k∈F k
  ·rw [decide_eq_true hm] at hT;have Aa:=Hd hT;have HM:=Hd hm;clear hT hm hf hle
   go_wp2_with fail
   refine Aa.out.mono ?_
   rintro e w2 ⟨rfl,r2,t2⟩;have kJ:=HU.out.rep.mp.ok.order;have MI:k<8:=by have:=HM.out.1;omega
   have hlen:=HU.out.rep.mp.ok.len;have hf:=HU.out.facts;obtain ⟨ts,th,tp,bP,tl⟩:=kI β a k;have hlt:=HM.out.1;obtain ⟨g,cap,lb,hv,hc,hlb,hcell,hhd⟩:=r2.wE (k:=k) (by rw [bP];omega);obtain ⟨-,-,-,-,-,c5⟩:=r2.cells;rw [hv] at c5;rw [th] at c5 hc hhd;have hml:=(HU.out.inv.lt (Nat.le_of_lt hlt) HM.out.2).2;have Fu:=fD (o:=k) (by omega);have hpc:((2:Int)^k)=((2^k:Nat):Int):=by simp
   have hwi:IntKind.i64.wrap (2^k)=((2^k:Nat):Int):=by rw [hpc];exact IntWalk.i64_in _ (by omega)
   have hx:=Fp a (by omega) k MI HU.out.al;have hn:=AR a (by omega) k MI HU.out.al;rw [←hwi] at hx;rw [←lF (o:=k) (by omega)] at hn;have HX:=Hd hx;have HN:=Hd hn;have hadd:(β.turned a k).addr (dM a k)+4096≤18446744073709551615:=r2.ok.dZ r2.sp.ok (by rw [tp];exact hml);have HA:=Hd (fun W (T:Touch Nothing w2 W)=>(r2.aj T).qI (dM a k) (by omega));have MJ:=Hd (fun W (T:Touch Nothing w2 W)=>aJ.BN (r2.aj T) ts th HU.out.inv (by rw [tp]) HU.out.le HM.out.2 hlb (by rw [th];exact hhd));have hkl:(k:Int)<(β.heads.length:Int):=by have:=HU.out.inv.heads;omega
   have Rx:=World.block_lt_of_cell? _ _ hcell;have HT2:=Hd t2;have aaB:min k 64=k:=by omega
   clear r2 t2 ts th tp bP tl hv hc hlb hhd hml hlen hf hlt hadd kJ hx hn hwi hpc Fu
   go_wp2_with fail
   refine wp_region_still_tail 13 (by kernel_rfl) (by kernel_rfl) ?_
   simp only [List.take_succ_cons,List.take_zero,List.drop_succ_cons,List.drop_zero,World.drew_eq]
   repeat still_step
   rw [HX.out]
   still_call ((HA.out _ ((Touch.refl Nothing w2).drew)).mono fun _ _ h=>⟨h.1,h.2.symm⟩)
   refine wpStill_nil ?_
   go_wp2_with fail
   refine (MJ.out _ ((Touch.refl Nothing w2).drew)).mono ?_
   rintro e w3 ⟨rfl,r3,t3⟩;have HR3:=Hd r3;have HT3:=Hd t3;clear r3 t3
   go_wp2_with fail
   go_step3
   rw [HN.out];have VX:=HU.out.up HM.out HT2.out.drew HR3.out HT3.out;refine ⟨rfl,_,_,_,_,_,_,_,_,_,_,_,_,_,_,_,_,_,_,_,_,_,_,_,_,_,_,_,_,_,_,_,_,_,_,_,_,_,_,_,_,_,_,_,_,_,_,_,_,_,_,_,_,_,_,rfl,VX⟩
  ·rw [decide_eq_false hm] at hT;have Aa:=Hd hT;have HM:=Hd hm;clear hT hm hf hle
   go_wp2_with fail
   refine Aa.out.mono ?_
   rintro e w2 ⟨rfl,r2,t2⟩;obtain ⟨ts,th,tp,bP,tl⟩:=kI β a k;have hhd:=HU.out.inv.hd HU.out.rep.ok.has' HU.out.le;have HE:=Hd (r2.zY a k (by rw [bP];exact HU.out.le) (qO HU.out.al) (by rw [tp];exact HU.out.facts.2.1) (by rw [ts,th];exact hhd));have HT2:=Hd t2;clear r2 t2 ts th tp bP tl hhd
   go_wp2_with fail
   refine HE.out.mono ?_
   rintro e w3 ⟨rfl,r3,t3⟩;have HR3:=Hd r3;have HT3:=Hd t3;clear r3 t3
   go_wp2_with fail
   rw [Fq]
   go_ret
   have hL:=HU.out.last HM.out HT2.out HR3.out HT3.out;exact ⟨rfl,hL.1,hL.2⟩
 case pass =>
  rintro a' wr ⟨β1,F1,a1,k1,u1,u2,u3,u4,u5,u6,u8,YR,YS,YT,YU,YV,YW,u16,YX,YZ,Y0,u20,u21,u22,u23,u24,u25,u26,u27,u28,u29,u30,u31,u32,u33,u34,u35,u36,u37,u38,Y1,u40,Y2,u42,Y3,u44,u45,u46,Y4,u48,u49,Y5,u51,Y6,rfl,hU⟩;have HU:=Hd hU;clear hU VW HL;have hf:=HU.out.facts;have hle:=HU.out.le;have hT:=HU.out.rep.CZ HU.out.inv HU.out.le HU.out.al hf.1 hf.2.2;by_cases hm:k1<β1.μ.order∧dM a1 k1∈F1 k1
  ·rw [decide_eq_true hm] at hT;have Aa:=Hd hT;have HM:=Hd hm;clear hT hm hf hle
   go_wp2_with fail
   refine Aa.out.mono ?_
   rintro e w2 ⟨rfl,r2,t2⟩;have kJ:=HU.out.rep.mp.ok.order;have MI:k1<8:=by have:=HM.out.1;omega
   have hlen:=HU.out.rep.mp.ok.len;have hf:=HU.out.facts;obtain ⟨ts,th,tp,bP,tl⟩:=kI β1 a1 k1;have hlt:=HM.out.1;obtain ⟨g,cap,lb,hv,hc,hlb,hcell,hhd⟩:=r2.wE (k:=k1) (by rw [bP];omega);obtain ⟨-,-,-,-,-,c5⟩:=r2.cells;rw [hv] at c5;rw [th] at c5 hc hhd;have hml:=(HU.out.inv.lt (Nat.le_of_lt hlt) HM.out.2).2;have Fu:=fD (o:=k1) (by omega);have hpc:((2:Int)^k1)=((2^k1:Nat):Int):=by simp
   have hwi:IntKind.i64.wrap (2^k1)=((2^k1:Nat):Int):=by rw [hpc];exact IntWalk.i64_in _ (by omega)
   have hx:=Fp a1 (by omega) k1 MI HU.out.al;have hn:=AR a1 (by omega) k1 MI HU.out.al;rw [←hwi] at hx;rw [←lF (o:=k1) (by omega)] at hn;have HX:=Hd hx;have HN:=Hd hn;have hadd:(β1.turned a1 k1).addr (dM a1 k1)+4096≤18446744073709551615:=r2.ok.dZ r2.sp.ok (by rw [tp];exact hml);have HA:=Hd (fun W (T:Touch Nothing w2 W)=>(r2.aj T).qI (dM a1 k1) (by omega));have MJ:=Hd (fun W (T:Touch Nothing w2 W)=>aJ.BN (r2.aj T) ts th HU.out.inv (by rw [tp]) HU.out.le HM.out.2 hlb (by rw [th];exact hhd));have hkl:(k1:Int)<(β1.heads.length:Int):=by have:=HU.out.inv.heads;omega
   have Rx:=World.block_lt_of_cell? _ _ hcell;have HT2:=Hd t2;have aaB:min k1 64=k1:=by omega
   clear r2 t2 ts th tp bP tl hv hc hlb hhd hml hlen hf hlt hadd kJ hx hn hwi hpc Fu
   go_wp2_with fail
   refine wp_region_still_tail 13 (by kernel_rfl) (by kernel_rfl) ?_
   simp only [List.take_succ_cons,List.take_zero,List.drop_succ_cons,List.drop_zero,World.drew_eq]
   repeat still_step
   rw [HX.out]
   still_call ((HA.out _ ((Touch.refl Nothing w2).drew)).mono fun _ _ h=>⟨h.1,h.2.symm⟩)
   refine wpStill_nil ?_
   go_wp2_with fail
   refine (MJ.out _ ((Touch.refl Nothing w2).drew)).mono ?_
   rintro e w3 ⟨rfl,r3,t3⟩;have HR3:=Hd r3;have HT3:=Hd t3;clear r3 t3
   go_wp2_with fail
   go_step3
   rw [HN.out];have VX:=HU.out.up HM.out HT2.out.drew HR3.out HT3.out;have ho:=HU.out.ord;have hlt:=HM.out.1;refine ⟨rfl,⟨_,_,_,_,_,_,_,_,_,_,_,_,_,_,_,_,_,_,_,_,_,_,_,_,_,_,_,_,_,_,_,_,_,_,_,_,_,_,_,_,_,_,_,_,_,_,_,_,_,_,_,_,_,_,rfl,VX⟩,?_⟩
   show β.μ.order-((k1:Int)+1).toNat<β.μ.order-((k1:Int)).toNat
   omega
  ·rw [decide_eq_false hm] at hT;have Aa:=Hd hT;have HM:=Hd hm;clear hT hm hf hle
   go_wp2_with fail
   refine Aa.out.mono ?_
   rintro e w2 ⟨rfl,r2,t2⟩;obtain ⟨ts,th,tp,bP,tl⟩:=kI β1 a1 k1;have hhd:=HU.out.inv.hd HU.out.rep.ok.has' HU.out.le;have HE:=Hd (r2.zY a1 k1 (by rw [bP];exact HU.out.le) (qO HU.out.al) (by rw [tp];exact HU.out.facts.2.1) (by rw [ts,th];exact hhd));have HT2:=Hd t2;clear r2 t2 ts th tp bP tl hhd
   go_wp2_with fail
   refine HE.out.mono ?_
   rintro e w3 ⟨rfl,r3,t3⟩;have HR3:=Hd r3;have HT3:=Hd t3;clear r3 t3
   go_wp2_with fail
   rw [Fq]
   go_ret
   have hL:=HU.out.last HM.out HT2.out HR3.out HT3.out;exact ⟨rfl,hL.1,hL.2⟩
theorem bS.Eb {w:World} {pb:Nat} {K:ay} {β:Bu} {F:Nat→List Nat} (R:bS w pb K β) (I:BInv β F aH) {a k:Nat} (hk:k≤β.μ.order) (hB:bf β.μ.pages a k 2) :
  Calls Tryz.prog 197 #[.pointer (some ⟨pb,0,none⟩),.int .u64 (β.addr a:Nat),.int .i64 k] w (Needed w pb K (β.given F a k) (.int .i64 0)):=by
 obtain ⟨-,-,c2⟩:=R.cells;have HG:=Hd (R.bu.Eb I hk hB);have HR:=Hd R;clear R I hB hk
 go_enter Tryz.func197,Tryz.ntmps197
 go_wp2_with fail
 refine HG.out.mono ?_
 rintro e w1 ⟨rfl,R1,T1⟩;have HR1:=Hd R1;have HT1:=Hd T1;clear R1 T1
 go_wp2_with fail
 go_ret
 exact ⟨rfl,K,HR.out.next HT1.out (ay.Next.refl _ _) HR1.out,ay.Next.refl _ _,HT1.out⟩
def tV (μ:Mp) (i:Nat) (h:Int):Prop:=h = -1∨∃ (j:Nat) (q:Pg),h=j∧j≠i∧μ.pages[j]? = some q∧q.kind=4∧q.next<μ.pages.length
theorem tV.page {μ:Mp} {i:Nat} {h:Int} (H:tV μ i h) {p:Pg} (hi:μ.pages[i]? = some p):(μ.jm i h).pages[i]? = some { p with next:=h,prev:=-1 }:=by
 have hne:h≠i:=by
  rcases H with e | ⟨j,q,e,hj,_⟩ <;> omega
 rw [CP _ _ _ _ hne,hi];simp
theorem aM.VY {w:World} {s pb:Nat} {K:ay} {β:Bu} {ps:List Int} (R:aM w s pb K β ps) (i c:Nat) {p:Pg} (hi:β.μ.pages[i]? = some p) (hk:p.kind=4) (hc:c<8) (H:tV β.μ i (ps.getD c 0)) :
  Calls Tryz.prog 252 #[.pointer (some ⟨s,0,none⟩),.int .i64 i,.int .i64 c] w fun e w'=>e=.returned (.tuple #[])∧aM w' s pb K { β with μ:=β.μ.jm i (ps.getD c 0) } (ps.set c i)∧Touch (·∈s::K.fp) w w':=by
 rcases H with he | ⟨j,q,he,hji,hj,hqk,MC⟩
 ·have:=R.RB i c hi hk hc he
  have e:β.μ.jm i (ps.getD c 0)=aM.BD β.μ i p:=by
   unfold Mp.jm aM.BD;rw [he];simp only [show (-1:Int)<0 by decide,if_true];rw [gV (j:=i) (q:=p) _ hi]
  rw [e];exact this
 ·have:=R.VT i c j hi hk hc he hji hj hqk MC;rw [he];exact this
theorem aM.MK {w:World} {s pb:Nat} {K:ay} {β:Bu} {ps:List Int} (R:aM w s pb K β ps) (G:bU w) (iK:∀ k∈s::pb::K.fp,9≤k) (c i x f:Nat) {p:Pg} (hc:c<8) (hl:β.μ.pages.length=β.σ.n*2^β.μ.order)
  (hi:β.μ.pages[i]? = some p) (hk:p.kind=4) (hcl:p.cls=c) (hx:x<aR c) (hb:p.bit x=true) (hf:p.first=(f:Int)) (hfl:f<aR c) (hlv:1<p.live∧p.live≤256) :
  Calls Tryz.prog 196 #[.pointer (some ⟨s,0,none⟩),.int .u64 (β.addr i+x*aB c:Nat)] w
   (Taken w s pb K { β with σ:=β.σ.put (β.addr i+x*aB c) (bL (β.addr i+f*aB c)),μ:=β.μ.aA i (p.give x) } ps (.int .i64 0)):=by
 have c0:=R.pool;have ls:=R.lt s (by simp);have hlt:=(List.getElem?_eq_some_iff.1 hi).1;have hlen:=R.po.bu.mp.ok.len;have htop:β.σ.base+4096*i+4096≤18446744073709551615:=R.po.bu.ok.dZ R.po.bu.sp.ok hlt;obtain ⟨u1,u2,u3,u4,u5,u6⟩:=dK hc
 have hin:x*aB c+aB c≤4096:=by
  have:=jB c (by omega) hx;simpa using this
 have hval:p.val=.agg #[.int .i64 p.kind,.int .i64 p.order,.int .i64 (c:Int),.int .i64 p.live,.int .i64 p.next,.int .i64 p.prev,.int .i64 (f:Int),.int .u64 p.b0,.int .u64 p.b1,.int .u64 p.b2,.int .u64 p.b3]:=by
  unfold Pg.val;rw [hcl,hf]
 have rR:=R.JK G i c x hi hk hcl hc hx hl;rw [hval,hb] at rR;have wS:=Hd rR;have HR:=Hd R;have HG:=Hd G;have mG:=Hd iK;have HI:=Hd hi;have HK:=Hd hk;have tQ:=Hd hcl;have pE:=Hd hb;have HL:=Hd hl;have rQ:=Hd hlv;have HX:=Hd hx;have HC:=Hd hc;have kg:Hid (β.σ.has (β.σ.base+4096*i+x*aB c) 8):=Hd (R.po.bu.ok.has (i:=i) (off:=x*aB c) (n:=8) hlt (by omega) (by omega));have hi3:i≤1023:=by omega
 have hx256:x<256:=by omega
 have hsm:=Hd (jh p x false)
 have hin2:f*aB c+aB c≤4096:=by
  have:=jB c (by omega) hfl;simpa using this
 have D9:f<256:=by omega
 have hlv1:(p.live == 1)=false:=by rw [beq_eq_false_iff_ne];omega
 obtain ⟨d,hd⟩:∃ d,d=f*aB c:=⟨_,rfl⟩;have hdi:(f:Int)*(aB c:Int)=(d:Int):=by rw [hd];simp
 rw [←hd] at hin2 ⊢;clear hfl hf hd;obtain ⟨P,hP⟩:∃ P,P=β.addr i+x*aB c:=⟨_,rfl⟩;rw [←hP] at wS ⊢;have HP:=Hd hP;have VZ:P≤18446744073709551615:=by unfold Bu.addr at hP;omega
 clear R G iK hl hi hk hcl hx hb hlv hval rR hlt hlen hP hin u3 u4 u5 u6
 go_enter Tryz.func196,Tryz.ntmps196
 go_wp2_with fail
 refine wS.out.mono ?_
 rintro e w1 ⟨rfl,T1⟩;have d0:w1.cell? ⟨s,0,none⟩=some (.pointer (some ⟨pb,0,none⟩)):=(HR.out.aj T1).pool;have Y7:s<w1.heap.size:=Nat.lt_of_lt_of_le ls T1.size;have HT1:=Hd T1;clear T1 c0 wS
 go_wp2_with fail
 have T2:=HT1.out.alloc (.cells #[.int .i64 p.kind,.int .i64 p.order,.int .i64 (c:Int),.int .i64 p.live,.int .i64 p.next,.int .i64 p.prev,.int .i64 (f:Int),.int .u64 p.b0,.int .u64 p.b1,.int .u64 p.b2,.int .u64 p.b3] 128);have B2:=aC.new w1 #[.int .i64 p.kind,.int .i64 p.order,.int .i64 (c:Int),.int .i64 p.live,.int .i64 p.next,.int .i64 p.prev,.int .i64 (f:Int),.int .u64 p.b0,.int .u64 p.b1,.int .u64 p.b2,.int .u64 p.b3] 128;refine ((HR.out.aj T2).po.jQ).mono ?_
 rintro e w2 ⟨rfl,rfl⟩;generalize w1.alloc (.cells #[.int .i64 p.kind,.int .i64 p.order,.int .i64 (c:Int),.int .i64 p.live,.int .i64 p.next,.int .i64 p.prev,.int .i64 (f:Int),.int .u64 p.b0,.int .u64 p.b1,.int .u64 p.b2,.int .u64 p.b3] 128)=w2 at *;have hx2:w1.heap.size<w2.heap.size:=B2.lt;have jo:∀ k,k∈s::pb::K.fp→k<w1.heap.size:=(HR.out.aj HT1.out).lt
 have C8:w1.heap.size∉s::K.fp:=fun h=>by
  have:=jo w1.heap.size (by rcases List.mem_cons.1 h with h | h <;> simp [h]);omega
 have C9:w.heap.size≤w1.heap.size:=HT1.out.size;have IB:=Hd C8;have Y8:=Hd C9;clear jo C8 C9;generalize Fj:w1.heap.size=X at *;have S2:=HR.out.aj T2;have pJ:=Hd (S2.po.bu.mp.yZ HI.out HK.out x false (by rw [tQ.out];exact HX.out) (by rw [pE.out];rfl) (by have:=rQ.out;show 0≤p.live-1∧p.live-1≤256;omega));have HT2:=Hd T2;have HB2:=Hd B2;have HS2:=Hd S2;clear T2 B2 S2 d0
 go_wp2_with fail
 refine pJ.out.mono ?_
 rintro e w3 ⟨rfl,r3,t3⟩;have R3:=HS2.out.fq r3 t3 rfl (List.length_set ..);have HB3:=Hd (R3.1.pW ((List.length_set ..).trans HL.out));have jS:=Hd R3.1;have HT3:=Hd R3.2;clear r3 t3 R3 pJ
 go_wp2_with fail
 refine HB3.out.mono ?_
 rintro e w4 ⟨rfl,k4,rfl⟩;have T4:Touch (·∈s::K.fp) w2 (w3.drewN k4):=(HT3.out.mono (fun k _ h=>List.mem_cons_of_mem _ h)).drewN k4;have S4:=jS.out.drewN k4;generalize w3.drewN k4=w4 at *;have B4:=HB2.out.touch T4 IB.out;have b2:w4.cell? ⟨X,2,none⟩=some (.int .i64 (c:Int)):=B4.cell 2;have b3:w4.cell? ⟨X,3,none⟩=some (.int .i64 p.live):=B4.cell 3;have b6:w4.cell? ⟨X,6,none⟩=some (.int .i64 (f:Int)):=B4.cell 6;have eu:=Hd (HT2.out.none_.trans T4);have yG:=Hd S4;have yO:(β.μ.aA i (p.own x false)).pages[i]? = some (p.own x false):=Mp.bQ _ HI.out;have yH:=Hd yO;have d0:w4.cell? ⟨s,0,none⟩=some (.pointer (some ⟨pb,0,none⟩)):=S4.pool;have hfp:∀ k,k<9→¬k∈s::K.fp:=fun k hk h=>by have:=mG.out k (by rcases List.mem_cons.1 h with h | h <;> simp [h]);omega
 have cw:w4.cell? ⟨1,c,none⟩=some (.int .u64 (aB c:Nat)):=(HG.out.touch eu.out hfp).widths c HC.out;have hbase:(β.σ.base:Int)+4096*(i:Int)+4096≤18446744073709551615:=by omega
 have jg:=Hd (fun k=>((S4.drewN k).po.gM));have Sb:=Hd (fun k=>(S4.drewN k).po.bu.sp.qF P (β.σ.base+4096*i+d) (by rw [HP.out];exact kg.out) (by omega));have ev:((β.σ.base+4096*i+d:Nat):Int)=(β.σ.base:Int)+4096*(i:Int)+(d:Int):=by omega
 rw [ev] at Sb;have hw0:(aB c:Int)≤2048:=by omega
 clear T4 S4 B4 yO hfp ev;generalize aB c=wd at *;generalize yN:β.σ.base=B at *;have hc7:(c:Int)<8:=by have:=HC.out;omega
 have HBs:=Hd yN;clear yN;have HD:=Hd (And.intro hdi (And.intro hin2 (And.intro hw0 hbase)));clear hdi hin2 hw0 hbase;have hf0:¬((f:Int)<0):=by omega
 have hf1:(0:Int)≤(f:Int):=by omega
 go_wp2_with fail
 have hdi:=HD.out.1;have hin2:=HD.out.2.1;have hw0:=HD.out.2.2.1;have hbase:=HD.out.2.2.2
 go_quiet (fail)
 go_wp2_with fail
 refine (jg.out _).mono ?_
 rintro e w5 ⟨rfl,rfl⟩
 go_wp2_with fail
 refine (Sb.out _).mono ?_
 rintro e w6 ⟨rfl,r6,t6⟩;have R6:=(yG.out.drewN nq).po.bu.bytes r6 t6 (Sp.kV ..);have S6:=(yG.out.drewN nq).next R6.2 (ay.Next.refl _ _) R6.1;have qK:=Hd (S6.po.bu.mp.qH yH.out (hsm.out.1.trans HK.out) (x:Int) (by omega) (by rw [hsm.out.2.2.1,tQ.out];have:=HX.out;omega));have qL:=Hd S6;have jY:=Hd ((eu.out.drewN nq).trans (R6.2.mono (fun k _ h=>List.mem_cons_of_mem s h)));clear r6 t6 R6 S6 b2 b3 b6 cw d0
 go_wp2_with fail
 refine qK.out.mono ?_
 rintro e w7 ⟨rfl,r7,t7⟩;have R7:=qL.out.fq r7 t7 rfl (List.length_set ..);have e7:(β.μ.aA i (p.own x false)).aA i { p.own x false with first:=(x:Int) }=β.μ.aA i (p.give x):=by rw [Mp.iG];rfl
 have CR:aM w7 s pb K { β with σ:=β.σ.put P (bL (B+4096*i+d)),μ:=β.μ.aA i (p.give x) } ps:=by rw [←e7];exact R7.1
 have tH:=Hd CR;have nT:=Hd (jY.out.trans (R7.2.mono (fun k _ h=>List.mem_cons_of_mem s h)));clear r7 t7 R7 e7 CR
 go_wp2_with fail
 go_ret
 have ea:β.addr i+d=B+4096*i+d:=by rw [←HBs.out];rfl
 rw [ea];exact ⟨rfl,K,tH.out,ay.Next.refl _ _,nT.out⟩
theorem aM.PS {w:World} {s pb:Nat} {K:ay} {β:Bu} {ps:List Int} (R:aM w s pb K β ps) (G:bU w) (iK:∀ k∈s::pb::K.fp,9≤k) (c i x:Nat) {p:Pg} (hc:c<8) (hl:β.μ.pages.length=β.σ.n*2^β.μ.order)
  (hi:β.μ.pages[i]? = some p) (hk:p.kind=4) (hcl:p.cls=c) (hx:x<aR c) (hb:p.bit x=true) (hf:p.first = -1) (hlv:1<p.live∧p.live≤256) (hg:tV (β.μ.aA i (p.own x false)) i (ps.getD c 0)) :
  Calls Tryz.prog 196 #[.pointer (some ⟨s,0,none⟩),.int .u64 (β.addr i+x*aB c:Nat)] w
   (Taken w s pb K { β with σ:=β.σ.put (β.addr i+x*aB c) (bL 0),μ:=((β.μ.aA i (p.own x false)).jm i (ps.getD c 0)).aA i { p.own x false with next:=ps.getD c 0,prev:=-1,first:=(x:Int) } } (ps.set c i) (.int .i64 0)):=by
 have c0:=R.pool;have ls:=R.lt s (by simp);have hlt:=(List.getElem?_eq_some_iff.1 hi).1;have hlen:=R.po.bu.mp.ok.len;have htop:β.σ.base+4096*i+4096≤18446744073709551615:=R.po.bu.ok.dZ R.po.bu.sp.ok hlt;obtain ⟨u1,u2,u3,u4,u5,u6⟩:=dK hc
 have hin:x*aB c+aB c≤4096:=by
  have:=jB c (by omega) hx;simpa using this
 have hval:p.val=.agg #[.int .i64 p.kind,.int .i64 p.order,.int .i64 (c:Int),.int .i64 p.live,.int .i64 p.next,.int .i64 p.prev,.int .i64 (-1),.int .u64 p.b0,.int .u64 p.b1,.int .u64 p.b2,.int .u64 p.b3]:=by
  unfold Pg.val;rw [hcl,hf]
 have rR:=R.JK G i c x hi hk hcl hc hx hl;rw [hval,hb] at rR;have wS:=Hd rR;have HR:=Hd R;have HG:=Hd G;have mG:=Hd iK;have HI:=Hd hi;have HK:=Hd hk;have tQ:=Hd hcl;have pE:=Hd hb;have HL:=Hd hl;have rQ:=Hd hlv;have HX:=Hd hx;have HC:=Hd hc;have kg:Hid (β.σ.has (β.σ.base+4096*i+x*aB c) 8):=Hd (R.po.bu.ok.has (i:=i) (off:=x*aB c) (n:=8) hlt (by omega) (by omega));have hi3:i≤1023:=by omega
 have hx256:x<256:=by omega
 have hsm:=Hd (jh p x false);have hlv1:(p.live == 1)=false:=by rw [beq_eq_false_iff_ne];omega
 have Y9:=Hd hg;clear hf hg;obtain ⟨P,hP⟩:∃ P,P=β.addr i+x*aB c:=⟨_,rfl⟩;rw [←hP] at wS ⊢;have HP:=Hd hP;have VZ:P≤18446744073709551615:=by unfold Bu.addr at hP;omega
 clear R G iK hl hi hk hcl hx hb hlv hval rR hlt hlen hP hin u3 u4 u5 u6
 go_enter Tryz.func196,Tryz.ntmps196
 go_wp2_with fail
 refine wS.out.mono ?_
 rintro e w1 ⟨rfl,T1⟩;have d0:w1.cell? ⟨s,0,none⟩=some (.pointer (some ⟨pb,0,none⟩)):=(HR.out.aj T1).pool;have Y7:s<w1.heap.size:=Nat.lt_of_lt_of_le ls T1.size;have HT1:=Hd T1;clear T1 c0 wS
 go_wp2_with fail
 have T2:=HT1.out.alloc (.cells #[.int .i64 p.kind,.int .i64 p.order,.int .i64 (c:Int),.int .i64 p.live,.int .i64 p.next,.int .i64 p.prev,.int .i64 (-1),.int .u64 p.b0,.int .u64 p.b1,.int .u64 p.b2,.int .u64 p.b3] 128);have B2:=aC.new w1 #[.int .i64 p.kind,.int .i64 p.order,.int .i64 (c:Int),.int .i64 p.live,.int .i64 p.next,.int .i64 p.prev,.int .i64 (-1),.int .u64 p.b0,.int .u64 p.b1,.int .u64 p.b2,.int .u64 p.b3] 128;refine ((HR.out.aj T2).po.jQ).mono ?_
 rintro e w2 ⟨rfl,rfl⟩;generalize w1.alloc (.cells #[.int .i64 p.kind,.int .i64 p.order,.int .i64 (c:Int),.int .i64 p.live,.int .i64 p.next,.int .i64 p.prev,.int .i64 (-1),.int .u64 p.b0,.int .u64 p.b1,.int .u64 p.b2,.int .u64 p.b3] 128)=w2 at *;have hx2:w1.heap.size<w2.heap.size:=B2.lt;have jo:∀ k,k∈s::pb::K.fp→k<w1.heap.size:=(HR.out.aj HT1.out).lt
 have C8:w1.heap.size∉s::K.fp:=fun h=>by
  have:=jo w1.heap.size (by rcases List.mem_cons.1 h with h | h <;> simp [h]);omega
 have C9:w.heap.size≤w1.heap.size:=HT1.out.size;have IB:=Hd C8;have Y8:=Hd C9;clear jo C8 C9;generalize Fj:w1.heap.size=X at *;have S2:=HR.out.aj T2;have pJ:=Hd (S2.po.bu.mp.yZ HI.out HK.out x false (by rw [tQ.out];exact HX.out) (by rw [pE.out];rfl) (by have:=rQ.out;show 0≤p.live-1∧p.live-1≤256;omega));have HT2:=Hd T2;have HB2:=Hd B2;have HS2:=Hd S2;clear T2 B2 S2 d0
 go_wp2_with fail
 refine pJ.out.mono ?_
 rintro e w3 ⟨rfl,r3,t3⟩;have R3:=HS2.out.fq r3 t3 rfl (List.length_set ..);have HB3:=Hd (R3.1.pW ((List.length_set ..).trans HL.out));have jS:=Hd R3.1;have HT3:=Hd R3.2;clear r3 t3 R3 pJ
 go_wp2_with fail
 refine HB3.out.mono ?_
 rintro e w4 ⟨rfl,k4,rfl⟩;have T4:Touch (·∈s::K.fp) w2 (w3.drewN k4):=(HT3.out.mono (fun k _ h=>List.mem_cons_of_mem _ h)).drewN k4;have S4:=jS.out.drewN k4;generalize w3.drewN k4=w4 at *;have B4:=HB2.out.touch T4 IB.out;have b2:w4.cell? ⟨X,2,none⟩=some (.int .i64 (c:Int)):=B4.cell 2;have b3:w4.cell? ⟨X,3,none⟩=some (.int .i64 p.live):=B4.cell 3;have b6:w4.cell? ⟨X,6,none⟩=some (.int .i64 (-1)):=B4.cell 6;have eu:=Hd (HT2.out.none_.trans T4);have yG:=Hd S4;have yO:(β.μ.aA i (p.own x false)).pages[i]? = some (p.own x false):=Mp.bQ _ HI.out;have yH:=Hd yO;have d0:w4.cell? ⟨s,0,none⟩=some (.pointer (some ⟨pb,0,none⟩)):=S4.pool;have V3:=Hd (S4.VY i c yH.out (hsm.out.1.trans HK.out) HC.out Y9.out);clear T4 S4 yO;have jX:=Hd B4;clear B4;generalize aB c=wd at *
 go_wp2_with fail
 refine V3.out.mono ?_
 rintro e w5 ⟨rfl,S5,T5⟩;have B5:=jX.out.touch T5 IB.out;have b6':w5.cell? ⟨X,6,none⟩=some (.int .i64 (-1)):=B5.cell 6;have d0':w5.cell? ⟨s,0,none⟩=some (.pointer (some ⟨pb,0,none⟩)):=S5.pool;have jg:=Hd S5.po.gM;have Sb:=Hd (S5.po.bu.sp.qF P 0 (by rw [HP.out];exact kg.out) (by omega));have rG:=Hd S5;have gG:=Hd (eu.out.trans T5);clear S5 T5 B5 b2 b3 b6 d0
 go_wp2_with fail
 refine jg.out.mono ?_
 rintro e w6 ⟨rfl,rfl⟩
 go_wp2_with fail
 refine Sb.out.mono ?_
 rintro e w6 ⟨rfl,r6,t6⟩;have R6:=rG.out.po.bu.bytes r6 t6 (Sp.kV ..);have S6:=rG.out.next R6.2 (ay.Next.refl _ _) R6.1;have rJ:=(Y9.out.page yH.out);have qK:=Hd (S6.po.bu.mp.qH rJ (hsm.out.1.trans HK.out) (x:Int) (by omega) (by show (x:Int)<aR (p.own x false).cls;rw [hsm.out.2.2.1,tQ.out];have:=HX.out;omega));have qL:=Hd S6;have jY:=Hd (gG.out.trans (R6.2.mono (fun k _ h=>List.mem_cons_of_mem s h)));clear r6 t6 R6 S6 b6' d0' rJ
 go_wp2_with fail
 refine qK.out.mono ?_
 rintro e w7 ⟨rfl,r7,t7⟩;have R7:=qL.out.fq r7 t7 rfl (List.length_set ..);have tH:=Hd R7.1;have nT:=Hd (jY.out.trans (R7.2.mono (fun k _ h=>List.mem_cons_of_mem s h)));clear r7 t7 R7
 go_wp2_with fail
 go_ret
 exact ⟨rfl,K,tH.out,ay.Next.refl _ _,nT.out⟩
theorem aM.ML {w:World} {s pb:Nat} {K:ay} {β:Bu} {ps:List Int} {F:Nat→List Nat} (R:aM w s pb K β ps) (G:bU w) (iK:∀ k∈s::pb::K.fp,9≤k) (c i x:Nat) {p:Pg} (hc:c<8) (hl:β.μ.pages.length=β.σ.n*2^β.μ.order)
  (hi:β.μ.pages[i]? = some p) (hk:p.kind=4) (hcl:p.cls=c) (hx:x<aR c) (hb:p.bit x=true) (hlv:p.live=1) (hnp:lW (β.μ.aA i (p.own x false)) i p.prev) (hnn:lW (β.μ.aA i (p.own x false)) i p.next) (hne:p.prev = -1∨p.prev≠p.next)
  (I:BInv { β with μ:=((β.μ.aA i (p.own x false)).bH i (p.own x false)).run i 0 2 } F aH) (hB:bf (((β.μ.aA i (p.own x false)).bH i (p.own x false)).run i 0 2).pages i 0 2) :
  Calls Tryz.prog 196 #[.pointer (some ⟨s,0,none⟩),.int .u64 (β.addr i+x*aB c:Nat)] w
   (Taken w s pb K (Bu.given { β with μ:=((β.μ.aA i (p.own x false)).bH i (p.own x false)).run i 0 2 } F i 0) (ji ps c (p.own x false)) (.int .i64 0)):=by
 have c0:=R.pool;have ls:=R.lt s (by simp);have hlt:=(List.getElem?_eq_some_iff.1 hi).1;have hlen:=R.po.bu.mp.ok.len;have htop:β.σ.base+4096*i+4096≤18446744073709551615:=R.po.bu.ok.dZ R.po.bu.sp.ok hlt;obtain ⟨u1,u2,u3,u4,u5,u6⟩:=dK hc
 have hin:x*aB c+aB c≤4096:=by
  have:=jB c (by omega) hx;simpa using this
 have hval:p.val=.agg #[.int .i64 p.kind,.int .i64 p.order,.int .i64 (c:Int),.int .i64 1,.int .i64 p.next,.int .i64 p.prev,.int .i64 p.first,.int .u64 p.b0,.int .u64 p.b1,.int .u64 p.b2,.int .u64 p.b3]:=by
  unfold Pg.val;rw [hcl,hlv]
 have rR:=R.JK G i c x hi hk hcl hc hx hl;rw [hval,hb] at rR;have wS:=Hd rR;have HR:=Hd R;have HG:=Hd G;have mG:=Hd iK;have HI:=Hd hi;have HK:=Hd hk;have tQ:=Hd hcl;have pE:=Hd hb;have HL:=Hd hl;have rQ:=Hd hlv;have HX:=Hd hx;have HC:=Hd hc;have kg:Hid (β.σ.has (β.σ.base+4096*i+x*aB c) 8):=Hd (R.po.bu.ok.has (i:=i) (off:=x*aB c) (n:=8) hlt (by omega) (by omega));have hi3:i≤1023:=by omega
 have hx256:x<256:=by omega
 have hsm:=Hd (jh p x false);have Fe:=Hd (And.intro hnp (And.intro hnn hne));have aaC:=Hd I;have Da:=Hd hB;clear hnp hnn hne I hB;obtain ⟨P,hP⟩:∃ P,P=β.addr i+x*aB c:=⟨_,rfl⟩;rw [←hP] at wS ⊢;have HP:=Hd hP;have VZ:P≤18446744073709551615:=by unfold Bu.addr at hP;omega
 clear R G iK hl hi hk hcl hx hb hlv hval rR hlt hlen hP hin u3 u4 u5 u6
 go_enter Tryz.func196,Tryz.ntmps196
 go_wp2_with fail
 refine wS.out.mono ?_
 rintro e w1 ⟨rfl,T1⟩;have d0:w1.cell? ⟨s,0,none⟩=some (.pointer (some ⟨pb,0,none⟩)):=(HR.out.aj T1).pool;have Y7:s<w1.heap.size:=Nat.lt_of_lt_of_le ls T1.size;have HT1:=Hd T1;clear T1 c0 wS
 go_wp2_with fail
 have T2:=HT1.out.alloc (.cells #[.int .i64 p.kind,.int .i64 p.order,.int .i64 (c:Int),.int .i64 1,.int .i64 p.next,.int .i64 p.prev,.int .i64 p.first,.int .u64 p.b0,.int .u64 p.b1,.int .u64 p.b2,.int .u64 p.b3] 128);have B2:=aC.new w1 #[.int .i64 p.kind,.int .i64 p.order,.int .i64 (c:Int),.int .i64 1,.int .i64 p.next,.int .i64 p.prev,.int .i64 p.first,.int .u64 p.b0,.int .u64 p.b1,.int .u64 p.b2,.int .u64 p.b3] 128;refine ((HR.out.aj T2).po.jQ).mono ?_
 rintro e w2 ⟨rfl,rfl⟩;generalize w1.alloc (.cells #[.int .i64 p.kind,.int .i64 p.order,.int .i64 (c:Int),.int .i64 1,.int .i64 p.next,.int .i64 p.prev,.int .i64 p.first,.int .u64 p.b0,.int .u64 p.b1,.int .u64 p.b2,.int .u64 p.b3] 128)=w2 at *;have hx2:w1.heap.size<w2.heap.size:=B2.lt;have jo:∀ k,k∈s::pb::K.fp→k<w1.heap.size:=(HR.out.aj HT1.out).lt
 have C8:w1.heap.size∉s::K.fp:=fun h=>by
  have:=jo w1.heap.size (by rcases List.mem_cons.1 h with h | h <;> simp [h]);omega
 have C9:w.heap.size≤w1.heap.size:=HT1.out.size;have IB:=Hd C8;have Y8:=Hd C9;clear jo C8 C9;generalize Fj:w1.heap.size=X at *;have S2:=HR.out.aj T2;have pJ:=Hd (S2.po.bu.mp.yZ HI.out HK.out x false (by rw [tQ.out];exact HX.out) (by rw [pE.out];rfl) (by have:=rQ.out;show 0≤p.live-1∧p.live-1≤256;omega));have HT2:=Hd T2;have HB2:=Hd B2;have HS2:=Hd S2;clear T2 B2 S2 d0
 go_wp2_with fail
 refine pJ.out.mono ?_
 rintro e w3 ⟨rfl,r3,t3⟩;have R3:=HS2.out.fq r3 t3 rfl (List.length_set ..);have HB3:=Hd (R3.1.pW ((List.length_set ..).trans HL.out));have jS:=Hd R3.1;have HT3:=Hd R3.2;clear r3 t3 R3 pJ
 go_wp2_with fail
 refine HB3.out.mono ?_
 rintro e w4 ⟨rfl,k4,rfl⟩;have T4:Touch (·∈s::K.fp) w2 (w3.drewN k4):=(HT3.out.mono (fun k _ h=>List.mem_cons_of_mem _ h)).drewN k4;have S4:=jS.out.drewN k4;generalize w3.drewN k4=w4 at *;have B4:=HB2.out.touch T4 IB.out;have b2:w4.cell? ⟨X,2,none⟩=some (.int .i64 (c:Int)):=B4.cell 2;have b3:w4.cell? ⟨X,3,none⟩=some (.int .i64 1):=B4.cell 3;have b6:w4.cell? ⟨X,6,none⟩=some (.int .i64 p.first):=B4.cell 6;have eu:=Hd (HT2.out.none_.trans T4);have yG:=Hd S4;have yO:(β.μ.aA i (p.own x false)).pages[i]? = some (p.own x false):=Mp.bQ _ HI.out;have yH:=Hd yO;have d0:w4.cell? ⟨s,0,none⟩=some (.pointer (some ⟨pb,0,none⟩)):=S4.pool;have V3:=Hd (S4.Iw i c yH.out (hsm.out.1.trans HK.out) HC.out (by rw [hsm.out.2.2.2.2.1];exact Fe.out.1) (by rw [hsm.out.2.2.2.1];exact Fe.out.2.1) (by rw [hsm.out.2.2.2.2.1,hsm.out.2.2.2.1];exact Fe.out.2.2));have hbase:(β.σ.base:Int)+4096*(i:Int)+4096≤18446744073709551615:=by omega
 have hpl:((β.μ.aA i (p.own x false)).bH i (p.own x false)).pages.length=β.μ.pages.length:=(oG _ _ _).2.2.trans (List.length_set ..);have hil:i<β.μ.pages.length:=(List.getElem?_eq_some_iff.1 HI.out).1;have rT:=Hd (And.intro hpl hil);clear T4 S4 yO B4 hpl hil;generalize aB c=wd at *
 go_wp2_with fail
 refine V3.out.mono ?_
 rintro e w5 ⟨rfl,S5,T5⟩;have HRn:=Hd (S5.po.bu.mp.D8 i 0 (Nat.zero_le _) (by simp) (by rw [rT.out.1];have:=rT.out.2;simp;omega));have rG:=Hd S5;have gG:=Hd (eu.out.trans T5);clear S5 T5 b2 b3 b6 d0
 go_wp2_with fail
 refine HRn.out.mono ?_
 rintro e w6 ⟨rfl,r6,t6⟩;have R6:=rG.out.fq r6 t6 (mJ _ _ _ _).1 (iT _ _ _ _);have d0':w6.cell? ⟨s,0,none⟩=some (.pointer (some ⟨pb,0,none⟩)):=R6.1.pool;have V4:=R6.1.po.Eb aaC.out (a:=i) (k:=0) (Nat.zero_le _) Da.out
 have ea:((Bu.addr { β with μ:=((β.μ.aA i (p.own x false)).bH i (p.own x false)).run i 0 2 } i:Nat):Int)=(β.σ.base:Int)+4096*(i:Int):=by
  show ((β.σ.base+4096*i:Nat):Int)=_
  omega
 rw [ea] at V4;have IC:=Hd V4;have qL:=Hd R6.1;have jY:=Hd (gG.out.trans (R6.2.mono (fun k _ h=>List.mem_cons_of_mem s h)));clear r6 t6 R6 V4 ea
 go_wp2_with fail
 refine IC.out.mono ?_
 rintro e w7 ⟨rfl,K7,P7,N7,T7⟩;have tH:=Hd (qL.out.next T7 N7 P7.bu);have HN7:=Hd ((ay.Next.refl w K).trans N7 jY.out.size);have nT:=Hd (jY.out.trans (T7.mono (fun k _ h=>List.mem_cons_of_mem s h)));clear P7 N7 T7
 go_wp2_with fail
 go_ret
 exact ⟨rfl,K7,tH.out,HN7.out,nT.out⟩
theorem Db (p:Pg) (x:Nat):(p.give x).kind=p.kind∧(p.give x).order=p.order∧(p.give x).cls=p.cls∧(p.give x).next=p.next∧(p.give x).prev=p.prev:=by
 obtain ⟨s1,s2,s3,s4,s5,s6⟩:=jh p x false;exact ⟨s1,s2,s3,s4,s5⟩
def Beside (β β':Bu) (i:Nat):Prop :=
 ∀ j,j≠i→(∀ q,β.μ.pages[j]? = some q→∃ q',β'.μ.pages[j]? = some q'∧(q.kind=4∧bX q' q∨q.kind≠4∧q'=q))∧(∀ q',β'.μ.pages[j]? = some q'→∃ q,β.μ.pages[j]? = some q)
theorem Beside.blk {β β':Bu} {i a k:Nat} (hpg:Beside β β' i) (hi:∀ q,β.μ.pages[i]? = some q→q.kind=4) (hne:¬Inb a k i):bf β'.μ.pages a k 2↔bf β.μ.pages a k 2:=by
 constructor
 ·intro h;refine h.far (fun x hx=>?_);have hx':=h.page hx;have hxi:x≠i:=by rintro rfl;exact hne hx
  obtain ⟨q,hq⟩:=(hpg x hxi).2 _ hx';obtain ⟨q',hq',hs⟩:=(hpg x hxi).1 q hq;have e:=Option.some.inj (hq'.symm.trans hx');rcases hs with ⟨h4,hs⟩ | ⟨h4,hs⟩
  ·have:=dH k (x-a);rw [←e] at this;have:=hs.kind.1;omega
  ·rw [hq,hq',hs]
 ·intro h;refine h.far (fun x hx=>?_);have hx':=h.page hx;have hxi:x≠i:=by rintro rfl;exact hne hx
  obtain ⟨q',hq',hs⟩:=(hpg x hxi).1 _ hx';rcases hs with ⟨h4,hs⟩ | ⟨h4,hs⟩
  ·have:=dH k (x-a);omega
  ·rw [hq',hs,hx']
theorem Beside.cell {β β':Bu} {i j d y:Nat} (hpg:Beside β β' i) (hj:j≠i):Cell β' j d y↔Cell β j d y:=by
 constructor
 ·rintro ⟨q',hq',h4,hd,hx,hbx⟩;obtain ⟨q,hq⟩:=(hpg j hj).2 q' hq';obtain ⟨q'',PD,hs⟩:=(hpg j hj).1 q hq;obtain rfl:q'=q'':=Option.some.inj (hq'.symm.trans PD);rcases hs with ⟨h4',hs⟩ | ⟨h4',hs⟩
  ·refine ⟨q,hq,h4',hs.kind.2.symm.trans hd,hx,?_⟩;unfold bX at hs;rw [hs] at hbx;exact hbx
  ·rw [hs] at h4;exact (h4' h4).elim
 ·rintro ⟨q,hq,h4,hd,hx,hbx⟩;obtain ⟨q',hq',hs⟩:=(hpg j hj).1 q hq;rcases hs with ⟨_,hs⟩ | ⟨h4',_⟩
  ·refine ⟨q',hq',hs.kind.1.trans h4,hs.kind.2.trans hd,hx,?_⟩;unfold bX at hs;rw [hs];exact hbx
  ·exact (h4' h4).elim
theorem Dc {β β':Bu} {i c f:Nat} {p p':Pg} (hc:c<8) (hp:β.μ.pages[i]? = some p) (hk:p.kind=4) (hcl:p.cls=c) (hf:f<aR c) (hb:p.bit f=true)
  (hp':β'.μ.pages[i]? = some p') (hk':p'.kind=4) (hcl':p'.cls=c) (hbit:∀ x,x<256→p'.bit x=(p.bit x != decide (x=f)))
  (ho:β'.μ.order=β.μ.order) (hbs:β'.σ.base=β.σ.base) (hlm:β'.σ.limit=β.σ.limit) (hn:β'.σ.n=β.σ.n)
  (hby:∀ q,q<β.addr i+f*aB c∨β.addr i+f*aB c+8≤q→β'.σ.mem q=β.σ.mem q) (hpg:Beside β β' i) :
  Gone β β' (β.addr i+f*aB c):=by
 have ha:∀ j,β'.addr j=β.addr j:=fun j=>by unfold Bu.addr;rw [hbs]
 have hle:aR c≤256:=(fu c (by omega)).2.2.2.2;have hwd:=cO hc
 have hni:∀ {γ:Bu} {a k:Nat} {q:Pg},γ.μ.pages[i]? = some q→q.kind=4→bf γ.μ.pages a k 2→¬Inb a k i:=by
  intro γ a k q hq h4 hb hx;have e:=Option.some.inj (hq.symm.trans (hb.page hx));have:=dH k (i-a);rw [←e] at this;omega
 have hq4:∀ q,β.μ.pages[i]? = some q→q.kind=4:=fun q hq=>by rw [←Option.some.inj (hp.symm.trans hq)];exact hk
 have hL:Live β (β.addr i+f*aB c) (aB c):=.inr ⟨i,c,f,hc,⟨p,hp,hk,hcl,hf,hb⟩,rfl,rfl⟩
 have hcell:∀ j d x,Cell β' j d x↔Cell β j d x∧¬(j=i∧x=f):=by
  intro j d x;by_cases e:j=i
  ·subst e;constructor
   ·rintro ⟨q,hq,h4,hd,hx,hbx⟩;obtain rfl:p'=q:=Option.some.inj (hp'.symm.trans hq);have:d=c:=by omega
    subst this;rw [hbit x (by omega)] at hbx;by_cases ex:x=f
    ·subst ex;rw [hb] at hbx;simp at hbx
    ·rw [decide_eq_false ex] at hbx;exact ⟨⟨p,hp,hk,hcl,hx,by simpa using hbx⟩,fun h=>ex h.2⟩
   ·rintro ⟨⟨q,hq,h4,hd,hx,hbx⟩,hne⟩;obtain rfl:p=q:=Option.some.inj (hp.symm.trans hq);have:d=c:=by omega
    subst this;refine ⟨p',hp',hk',hcl',hx,?_⟩;rw [hbit x (by omega),hbx,decide_eq_false (fun h=>hne ⟨rfl,h⟩)];rfl
  ·rw [hpg.cell e];exact ⟨fun h=>⟨h,fun h'=>e h'.1⟩,fun h=>h.1⟩
 refine ⟨hbs,ho,hlm,hn,fun P S=>?_,fun P S h hne q h1 h2=>hby q (Classical.byContradiction fun hq=>hne (h.meet hL h1 h2 (by omega) (by omega)).1)⟩;constructor
 ·rintro (⟨a,k,hk1,hb1,rfl,rfl⟩ | ⟨j,d,x,hd,hx,rfl,rfl⟩)
  ·have hb2:=(hpg.blk hq4 (hni hp' hk' hb1)).1 hb1;refine ⟨.inl ⟨a,k,by omega,hb2,ha a,rfl⟩,?_⟩;rw [ha];intro e;have:=dO hc hf;unfold Bu.addr at e;have:a=i:=by omega
   subst this;exact hni hp hk hb2 (aS _ _)
  ·obtain ⟨h1,h2⟩:=(hcell j d x).1 hx;refine ⟨.inr ⟨j,d,x,hd,h1,by rw [ha],rfl⟩,?_⟩;rw [ha];intro e;have hL':Live β (β.addr j+x*aB d) (aB d):=.inr ⟨j,d,x,hd,h1,rfl,rfl⟩;have hw:=cO hd;have hm:=hL'.meet hL (q:=β.addr j+x*aB d) (by omega) (by omega) (by omega) (by omega);have:=zk hm.2;subst this;obtain ⟨q,hq,h4,hdl,hxl,_⟩:=h1;have l1:=dO hd hxl;have l2:=dO hd hf;unfold Bu.addr at e;have:j=i:=by omega
   subst this;have:x*aB d=f*aB d:=by omega
   exact h2 ⟨rfl,Nat.eq_of_mul_eq_mul_right (by omega) this⟩
 ·rintro ⟨⟨a,k,hk1,hb1,rfl,rfl⟩ | ⟨j,d,x,hd,hx,rfl,rfl⟩,hne⟩
  ·exact .inl ⟨a,k,by omega,(hpg.blk hq4 (hni hp hk hb1)).2 hb1,(ha a).symm,rfl⟩
  ·refine .inr ⟨j,d,x,hd,(hcell j d x).2 ⟨hx,?_⟩,by rw [ha],rfl⟩;rintro ⟨rfl,rfl⟩;obtain ⟨q,hq,h4,hdl,hxl,_⟩:=hx;obtain rfl:p=q:=Option.some.inj (hp.symm.trans hq);have:d=c:=by omega
   subst this;exact hne rfl
theorem mK.both {β:Bu} {μ':Mp} (N:mK β) (p v:Nat) (ho:μ'.order=β.μ.order) (hl:μ'.pages.length=β.μ.pages.length):mK { β with σ:=β.σ.aQ p v,μ:=μ' }:=by
 have M:=N.AQ ho hl;exact ⟨M.full,M.size,M.le,M.pages,M.top,M.so,M.al⟩
theorem BInv.turn {β:Bu} {F:Nat→List Nat} (I:BInv β F aH) {μ':Mp} {i d v:Nat} {p:Pg} (hp:β.μ.pages[i]? = some p) (h4:p.kind=4) (hd:d+8≤4096) (ho:μ'.order=β.μ.order) (hpr:μ'.pairs=β.μ.pairs) (hl:μ'.pages.length=β.μ.pages.length)
  (hpg:∀ (x:Nat) (q:Pg),β.μ.pages[x]? = some q→∃ q':Pg,μ'.pages[x]? = some q'∧(q.kind=4∧q'.kind=4∧q'.order=0∨q.kind≠4∧q'=q)) :
  BInv { β with σ:=β.σ.aQ (β.addr i+d) v,μ:=μ' } F aH:=by
 have I1:=I.Ea ho hpr hl hpg;refine I1.EW (σ':=β.σ.aQ (β.addr i+d) v) rfl (fun k hk j hj off hof=>?_);have hk':k≤β.μ.order:=by rw [←ho];exact hk
 have hb:=(I.free k hk' j hj).page (aS j k)
 have hji:j≠i:=by
  rintro rfl;have e:=Option.some.inj (hp.symm.trans hb);rw [e] at h4;simp [bK,aD] at h4
 refine gD _ _ _ _ ?_
 show β.σ.base+4096*j+off<_∨_≤β.σ.base+4096*j+off
 unfold Bu.addr;omega
theorem vQ (σ:Sp) (b i j d v off:Nat) (hd:d+8≤4096) (hji:j≠i) (ho:off<4096):(σ.aQ (b+4096*i+d) v).mem (b+4096*j+off)=σ.mem (b+4096*j+off):=by
 refine gD _ _ _ _ ?_
 omega
theorem HS.XY {β:Bu} {ps:List Int} {F C L:Nat→List Nat} (I:HS β ps F C L) {i c x f:Nat} {u:List Nat} {p:Pg} (hc:c<8) (hp:β.μ.pages[i]? = some p) (h4:p.kind=4) (hcl:p.cls=c) (hx:x<aR c) (hb:p.bit x=true) (h1:1<p.live) (hC:C i=f::u) :
  HS { β with σ:=β.σ.aQ (β.addr i+x*aB c) (β.addr i+f*aB c),μ:=β.μ.aA i (p.give x) } ps F (upd C i (x::f::u)) L ∧
  Gone β { β with σ:=β.σ.aQ (β.addr i+x*aB c) (β.addr i+f*aB c),μ:=β.μ.aA i (p.give x) } (β.addr i+x*aB c):=by
 have hcn:p.cls.toNat=c:=by rw [hcl];rfl
 have hlt:=(List.getElem?_eq_some_iff.1 hp).1;have htop:=I.inv.top;have D:=I.slab.pages i p hp h4;rw [hC] at D;have w1:=cO hc;have l1:=dO hc hx;have D':=D.give (x:=x) (by rw [hcl];exact hx) hb h1 (by unfold Bu.addr;omega) (β.σ.aQ (β.addr i+x*aB c) (β.addr i+f*aB c)) (by rw [hcn];rfl);obtain ⟨g1,g2,g3,g4,g5⟩:=Db p x;have hset:(β.μ.aA i (p.give x)).pages[i]? = some (p.give x):=List.getElem?_set_self hlt;have hne:∀ y,y≠i→(β.μ.aA i (p.give x)).pages[y]? = β.μ.pages[y]? := fun y h=>List.getElem?_set_ne (fun e=>h e.symm)
 have hB:Beside β { β with σ:=β.σ.aQ (β.addr i+x*aB c) (β.addr i+f*aB c),μ:=β.μ.aA i (p.give x) } i:=by
  refine fun j hj=>⟨fun q hq=>⟨q,(hne j hj).trans hq,?_⟩,fun q hq=>⟨q,(hne j hj).symm.trans hq⟩⟩
  by_cases e:q.kind=4
  ·exact .inl ⟨e,bX.refl q⟩
  ·exact .inr ⟨e,rfl⟩
 have hx256:x<256:=by have:=(fu c (by omega)).2.2.2.2;omega
 refine ⟨⟨I.inv.turn hp h4 (by omega) rfl rfl (List.length_set ..) (fun y q hq=>?_),I.slab.cell hp h4 rfl (g1.trans h4) g3 ⟨g4,g5⟩ (by rw [hC];simp) D' (fun j hj off ho=>vQ _ _ _ _ _ _ _ (by omega) hj ho),I.nums.both _ _ rfl (List.length_set ..)⟩,?_⟩
 ·by_cases e:y=i
  ·subst e;obtain rfl:p=q:=Option.some.inj (hp.symm.trans hq);exact ⟨_,hset,.inl ⟨h4,g1.trans h4,g2.trans D.order⟩⟩
  ·refine ⟨q,(hne y e).trans hq,?_⟩;by_cases e4:q.kind=4
   ·exact .inl ⟨e4,e4,(I.slab.pages y q hq e4).order⟩
   ·exact .inr ⟨e4,rfl⟩
 ·exact Dc hc hp h4 hcl hx hb hset (g1.trans h4) (g3.trans hcl) (fun y hy=>mY p x y false hx256 hy) rfl rfl rfl rfl (fun q hq=>gD _ _ _ _ hq) hB
theorem fA.V5 {β:Bu} {ps:List Int} {C L:Nat→List Nat} (S:fA β ps C L) {i c:Nat} {p':Pg} (hc:c<8) (hi:i∉L c):tV (β.μ.aA i p') i (ps.getD c 0):=by
 have D:=S.lists c hc;have hh:=D.head;cases hL:L c with
 | nil=>rw [hL] at hh;exact .inl hh
 | cons j t =>
  rw [hL] at hh D hi;have hji:j≠i:=fun e=>hi (by simp [e])
  obtain ⟨q,hq,h4,_,_⟩:=S.jH hc (i:=j) (by rw [hL];simp);refine .inr ⟨j,q,hh,hji,(List.getElem?_set_ne (fun e=>hji e.symm)).trans hq,h4,?_⟩;have hn:=PL.lZ (a:=[]) D;rw [eY hq] at hn;rw [hn,show (β.μ.aA i p').pages.length=β.μ.pages.length from List.length_set ..];cases t with
  | nil=>show (-1:Int)<_;omega
  | cons y t =>
   obtain ⟨q',hq',_⟩:=S.jH hc (i:=y) (by rw [hL];simp);have:=(List.getElem?_eq_some_iff.1 hq').1
   show (y:Int)<_
   omega
def Mp.oH (μ:Mp) (i x:Nat) (p:Pg) (h:Int):Mp:=((μ.aA i (p.own x false)).jm i h).aA i { p.own x false with next:=h,prev:=-1,first:=(x:Int) }
theorem HS.XZ {β:Bu} {ps:List Int} {F C L:Nat→List Nat} (I:HS β ps F C L) {i c x:Nat} {p:Pg} (hc:c<8) (hp:β.μ.pages[i]? = some p) (h4:p.kind=4) (hcl:p.cls=c) (hx:x<aR c) (hb:p.bit x=true) (h1:1<p.live) (hC:C i = []) :
  tV (β.μ.aA i (p.own x false)) i (ps.getD c 0) ∧
  HS { β with σ:=β.σ.aQ (β.addr i+x*aB c) 0,μ:=β.μ.oH i x p (ps.getD c 0) } (ps.set c i) F (upd C i [x]) (upd L c (i::L c)) ∧
  Gone β { β with σ:=β.σ.aQ (β.addr i+x*aB c) 0,μ:=β.μ.oH i x p (ps.getD c 0) } (β.addr i+x*aB c):=by
 have hcn:p.cls.toNat=c:=by rw [hcl];rfl
 have hlt:=(List.getElem?_eq_some_iff.1 hp).1;have htop:=I.inv.top;have D:=I.slab.pages i p hp h4;rw [hC] at D;have w1:=cO hc;have l1:=dO hc hx
 have hnot:∀ d,d<8→i∉L d:=by
  intro d hd hm;obtain ⟨_,_,_,_,hne⟩:=I.slab.jH hd hm;exact hne hC
 have HO:=I.slab.V5 (p':=p.own x false) hc (hnot c hc);have D':=D.give (x:=x) (by rw [hcl];exact hx) hb h1 (by unfold Bu.addr;omega) (β.σ.aQ (β.addr i+x*aB c) 0) (by rw [hcn];rfl);obtain ⟨g1,g2,g3,g4,g5⟩:=Db p x
 have hhi:ps.getD c 0≠(i:Int):=by
  rcases HO with e | ⟨j,q,e,hj,_⟩ <;> omega
 have hG:=CP (β.μ.aA i (p.own x false)) i (ps.getD c 0);obtain ⟨hs1,hs2,hs3⟩:=JH (β.μ.aA i (p.own x false)) i (ps.getD c 0);have hlen:((β.μ.aA i (p.own x false)).jm i (ps.getD c 0)).pages.length=β.μ.pages.length:=hs3.trans (List.length_set ..);obtain ⟨p',Fv⟩:∃ p',p'=({ p.own x false with next:=ps.getD c 0,prev:=-1,first:=(x:Int) }:Pg):=⟨_,rfl⟩;have hsb:bX p' (p.give x):=by rw [Fv];rfl
 have hset:(β.μ.oH i x p (ps.getD c 0)).pages[i]? = some p':=by
  unfold Mp.oH;rw [Fv];exact List.getElem?_set_self (by rw [hlen];exact hlt)
 have hne:∀ y,y≠i→(β.μ.oH i x p (ps.getD c 0)).pages[y]? = (β.μ.pages[y]?).map (fun q=>{ q with prev:=if (y:Int)=ps.getD c 0 then (i:Int) else q.prev }):=by
  intro y hy;unfold Mp.oH
  rw [show (((β.μ.aA i (p.own x false)).jm i (ps.getD c 0)).aA i _).pages[y]? = ((β.μ.aA i (p.own x false)).jm i (ps.getD c 0)).pages[y]? from List.getElem?_set_ne (fun e=>hy e.symm),hG y hhi,
   show (β.μ.aA i (p.own x false)).pages[y]? = β.μ.pages[y]? from List.getElem?_set_ne (fun e=>hy e.symm)]
  simp only [if_neg hy]
 have hlb:(β.μ.oH i x p (ps.getD c 0)).pages.length=β.μ.pages.length:=(List.length_set ..).trans hlen
 -- a page beside i that is no slab page is not the head
 have iK:∀ (y:Nat) (q:Pg),y≠i→β.μ.pages[y]? = some q→q.kind≠4→(y:Int)≠ps.getD c 0:=by
  intro y q hy hq hq4 e;rcases HO with e' | ⟨j,q',e',hj,hq',h4',_⟩
  ·omega
  ·have:y=j:=by omega
   subst this;rw [show (β.μ.aA i (p.own x false)).pages[y]? = β.μ.pages[y]? from List.getElem?_set_ne (fun e=>hy e.symm)] at hq';rw [Option.some.inj (hq.symm.trans hq')] at hq4;exact hq4 h4'
 have hone:∀ (y:Nat) (q:Pg),y≠i→β.μ.pages[y]? = some q→∃ q',(β.μ.oH i x p (ps.getD c 0)).pages[y]? = some q'∧(q.kind=4∧bX q' q∨q.kind≠4∧q'=q):=by
  intro y q hy hq;rw [hne y hy,hq];refine ⟨_,rfl,?_⟩;by_cases e4:q.kind=4
  ·exact .inl ⟨e4,lM q _ _⟩
  ·refine .inr ⟨e4,?_⟩
   show ({ q with prev:=if (y:Int)=ps.getD c 0 then (i:Int) else q.prev }:Pg)=q
   rw [if_neg (iK y q hy hq e4)]
 have hB:Beside β { β with σ:=β.σ.aQ (β.addr i+x*aB c) 0,μ:=β.μ.oH i x p (ps.getD c 0) } i:=by
  refine fun j hj=>⟨fun q hq=>hone j q hj hq,fun q hq=>?_⟩
  have hq:(β.μ.oH i x p (ps.getD c 0)).pages[j]? = some q:=hq;rw [hne j hj] at hq;cases h:β.μ.pages[j]? with
  | none=>rw [h] at hq;simp at hq
  | some q0=>exact ⟨q0,rfl⟩
 have hx256:x<256:=by have:=(fu c (by omega)).2.2.2.2;omega
 have hk':p'.kind=4:=hsb.kind.1.trans (g1.trans h4);have hc':p'.cls=c:=hsb.kind.2.trans (g3.trans hcl);refine ⟨HO,⟨I.inv.turn hp h4 (by omega) hs1 hs2 hlb (fun y q hq=>?_),?_,I.nums.both _ _ hs1 hlb⟩,?_⟩
 ·by_cases e:y=i
  ·subst e;obtain rfl:p=q:=Option.some.inj (hp.symm.trans hq);refine ⟨p',hset,.inl ⟨h4,hk',?_⟩⟩;rw [Fv];exact g2.trans D.order
  ·obtain ⟨q',hq',hs⟩:=hone y q e hq;refine ⟨q',hq',?_⟩;rcases hs with ⟨e4,hs⟩ | h
   ·refine .inl ⟨e4,hs.kind.1.trans e4,?_⟩;have h0:=(I.slab.pages y q hq e4).order;unfold bX at hs;rw [hs];exact h0
   ·exact .inr h
 ·refine I.slab.hang (p':=p') hc hnot rfl (fun j q0 hj _ _ off ho=>vQ _ _ _ _ _ _ _ (by omega) hj ho) (fun y hy=>hne y hy) hset hk' hc' (by rw [Fv];exact ⟨rfl,rfl⟩) (by simp) ?_
  exact (hsb.cells D').1
 ·refine Dc hc hp h4 hcl hx hb hset hk' hc' (fun y hy=>?_) hs1 rfl rfl rfl (fun q hq=>gD _ _ _ _ hq) hB;rw [Fv];exact mY p x y false hx256 hy
theorem zl:∀ (n:Nat) {l:List Nat},l.Nodup→(∀ a∈l,a<n)→l.length≤n
 | 0,l,_,hl=>by
  cases l with
  | nil=>simp
  | cons a t=>have:=hl a (by simp);omega
 | n+1,l,h,hl=>by
  by_cases hn:n∈l
  ·have h1:=zl n (l:=l.erase n) (h.erase n) (fun a ha=>by
    have h2:=(h.mem_erase_iff).1 ha;have:=hl a h2.2;have:=h2.1;omega)
   rw [List.length_erase_of_mem hn] at h1;omega
  ·have h1:=zl n h (fun a ha=>by
    have:=hl a ha;have:a≠n:=by rintro rfl;exact hn ha
    omega)
   omega
theorem JL {l:List Nat} {n x y:Nat} (h:l.Nodup) (hl:∀ a∈l,a<n) (hx:x∉l) (hy:y∉l) (hxn:x<n) (hyn:y<n) (hxy:x≠y):l.length+2≤n:=by
 have h1:(x::y::l).Nodup:=by
  refine List.nodup_cons.2 ⟨?_,List.nodup_cons.2 ⟨hy,h⟩⟩;simp only [List.mem_cons,not_or];exact ⟨hxy,hx⟩
 have:=zl n h1 (fun a ha=>by
  simp only [List.mem_cons] at ha;rcases ha with rfl | rfl | ha
  ·exact hxn
  ·exact hyn
  ·exact hl a ha)
 simpa using this
def Mp.freed (μ:Mp) (i x:Nat) (p:Pg):Mp:=((μ.aA i (p.own x false)).bH i (p.own x false)).run i 0 2
theorem HS.X0 {β:Bu} {ps:List Int} {F C L:Nat→List Nat} (I:HS β ps F C L) {i c x:Nat} {p:Pg} (hc:c<8) (hp:β.μ.pages[i]? = some p) (h4:p.kind=4) (hcl:p.cls=c) (hx:x<aR c) (hb:p.bit x=true) (h1:p.live=1) :
  i∈L c∧HS { β with μ:=β.μ.freed i x p } (ji ps c (p.own x false)) F (upd C i []) (upd L c ((L c).erase i))∧bf (β.μ.freed i x p).pages i 0 2 ∧
  (∀ P S,Live { β with μ:=β.μ.freed i x p } P S∧P≠β.addr i↔Live β P S∧P≠β.addr i+x*aB c):=by
 have hlt:=(List.getElem?_eq_some_iff.1 hp).1;have D:=I.slab.pages i p hp h4;have hcn:aR p.cls=aR c:=by rw [hcl]
 have w1:=cO hc;have l1:=dO hc hx;have hle:=fu c (by omega)
 have hxn:x∉C i:=fun h=>by
  have:=((D.mem x).1 h).2;rw [hb] at this;simp at this
 have aaD:C i≠[]:=by
  intro e;have:=D.live;rw [e,hcn,h1] at this;simp at this;omega
 have him:i∈L c:=(I.slab.mem c hc i).2 ⟨p,hp,h4,hcl,aaD⟩
 -- no other cell lives there
 have X3:∀ y,y<aR c→p.bit y=true→y=x:=by
  intro y hy hby;refine Classical.byContradiction (fun hyx=>?_)
  have hyn:y∉C i:=fun h=>by
   have:=((D.mem y).1 h).2;rw [hby] at this;simp at this
  have:=JL D.nodup (fun a ha=>((D.mem a).1 ha).1) hyn hxn (by rw [hcn];exact hy) (by rw [hcn];exact hx) hyx;have:=D.live;omega
 obtain ⟨o1,o2,o3,o4,o5,o6⟩:=jh p x false;obtain ⟨CV,CW,RY⟩:=I.slab.nb hc him hp
 have hpi:(p.own x false).prev≠i∧(p.own x false).next≠i:=by
  rw [o5,o4];constructor
  ·rcases CV with h | ⟨j,q,e,hji,_⟩ <;> omega
  ·rcases CW with h | ⟨j,q,e,hji,_⟩ <;> omega
 have hU:=fun y=>vo (β.μ.aA i (p.own x false)) i (p.own x false) y hpi.1 hpi.2
 obtain ⟨CY,VP,VQ⟩:=oG (β.μ.aA i (p.own x false)) i (p.own x false);have hlen:((β.μ.aA i (p.own x false)).bH i (p.own x false)).pages.length=β.μ.pages.length:=VQ.trans (List.length_set ..);have hset:(β.μ.aA i (p.own x false)).pages[i]? = some (p.own x false):=List.getElem?_set_self hlt;have hne:∀ y,y≠i→(β.μ.aA i (p.own x false)).pages[y]? = β.μ.pages[y]? := fun y h=>List.getElem?_set_ne (fun e=>h e.symm)
 -- neighbours are slab pages
 have hnb:∀ {n:Int},lW β.μ i n→∀ (y:Nat) (q:Pg),β.μ.pages[y]? = some q→q.kind≠4→(y:Int)≠n:=by
  rintro n (h | ⟨j,q',e,_,hq',hk',_⟩) y q hq hk
  ·omega
  ·intro e';have:y=j:=by omega
   subst this;rw [Option.some.inj (hq.symm.trans hq')] at hk;exact hk hk'
 have hone:∀ (y:Nat) (q:Pg),y≠i→β.μ.pages[y]? = some q→∃ q',((β.μ.aA i (p.own x false)).bH i (p.own x false)).pages[y]? = some q'∧(q.kind=4∧bX q' q∨q.kind≠4∧q'=q):=by
  intro y q hy hq;rw [hU y,hne y hy,hq];refine ⟨_,rfl,?_⟩;by_cases e4:q.kind=4
  ·exact .inl ⟨e4,lM q _ _⟩
  ·refine .inr ⟨e4,?_⟩
   show ({ q with next:=if y=i then -1 else if (y:Int)=(p.own x false).prev then (p.own x false).next else q.next,prev:=if y=i then -1 else if (y:Int)=(p.own x false).next then (p.own x false).prev else q.prev }:Pg)=q
   rw [if_neg hy,if_neg hy,if_neg (by rw [o5];exact hnb CV y q hq e4),if_neg (by rw [o4];exact hnb CW y q hq e4)]
 have hi1:∃ q',((β.μ.aA i (p.own x false)).bH i (p.own x false)).pages[i]? = some q'∧q'.kind=4∧q'.order=0:=by
  rw [hU i,hset];exact ⟨_,rfl,o1.trans h4,o2.trans D.order⟩
 obtain ⟨qi,hqi,hqk,hqo⟩:=hi1
 have I1:BInv { β with μ:=(β.μ.aA i (p.own x false)).bH i (p.own x false) } F aH:=I.inv.Ea CY VP hlen (fun y q hq=>by
  by_cases e:y=i
  ·subst e;obtain rfl:p=q:=Option.some.inj (hp.symm.trans hq);exact ⟨qi,hqi,.inl ⟨h4,hqk,hqo⟩⟩
  ·obtain ⟨q',hq',hs⟩:=hone y q e hq;refine ⟨q',hq',?_⟩;rcases hs with ⟨e4,hs⟩ | h
   ·refine .inl ⟨e4,hs.kind.1.trans e4,?_⟩;have h0:=(I.slab.pages y q hq e4).order;unfold bX at hs;rw [hs];exact h0
   ·exact .inr h)
 have I2:=I1.Pn (i:=i) hqi hqk;obtain ⟨I3,K3,B3⟩:=I2.live (a:=i) (k:=0) (Nat.zero_le _) (Nat.one_dvd _) (fun y hy=>.inr (by unfold Inb at hy;omega))
 have hH:(fun y=>(aH y∨y=i)∧¬Inb i 0 y)=aH:=funext fun y=>propext ⟨fun h=>by
  rcases h.1 with h' | h'
  ·exact h'
  ·exact (h.2 (by rw [h'];exact aS _ _)).elim,fun h=>h.elim⟩
 rw [hH] at I3;obtain ⟨V6,rs2⟩:=mJ ((β.μ.aA i (p.own x false)).bH i (p.own x false)) i 0 2;have hlf:(β.μ.freed i x p).pages.length=β.μ.pages.length:=(iT _ _ _ _).trans hlen;have hf:∀ y,y≠i→(β.μ.freed i x p).pages[y]? = ((β.μ.aA i (p.own x false)).bH i (p.own x false)).pages[y]? := fun y hy=>nZ (fun h=>hy (by unfold Inb at h;omega))
 have hfi:∀ q,(β.μ.freed i x p).pages[i]? = some q→q.kind=2:=by
  intro q hq;have e:=Option.some.inj (hq.symm.trans (B3.page (aS i 0)));rw [e];simp [bK,aD]
 have Sd:Beside β { β with μ:=β.μ.freed i x p } i:=by
  refine fun j hj=>⟨fun q hq=>?_,fun q hq=>?_⟩
  ·obtain ⟨q',hq',hs⟩:=hone j q hj hq;exact ⟨q',(hf j hj).trans hq',hs⟩
  ·have hq:(β.μ.freed i x p).pages[j]? = some q:=hq;rw [hf j hj,hU j,hne j hj] at hq;cases h:β.μ.pages[j]? with
   | none=>rw [h] at hq;simp at hq
   | some q0=>exact ⟨q0,rfl⟩
 have S3:fA { β with μ:=β.μ.freed i x p } (ji ps c (p.own x false)) (upd C i []) (upd L c ((L c).erase i)) :=
  I.slab.Mw (p':=p.own x false) hc him hp ⟨o4,o5⟩ rfl (fun j q0 _ _ _ off _=>rfl) (fun y hy=>hf y hy) (fun q hq hq4=>by have:=hfi q hq;omega)
 refine ⟨him,⟨I3,S3,I.nums.AQ (V6.trans CY) hlf⟩,B3,fun P S=>?_⟩;have hq4:∀ q,β.μ.pages[i]? = some q→q.kind=4:=fun q hq=>by rw [←Option.some.inj (hp.symm.trans hq)];exact h4
 have JG:∀ {a k:Nat},bf β.μ.pages a k 2→¬Inb a k i:=by
  intro a k hb' hx';have e:=Option.some.inj (hp.symm.trans (hb'.page hx'));have:=dH k (i-a);rw [←e] at this;omega
 constructor
 ·rintro ⟨⟨a,k,hk1,hb1,rfl,rfl⟩ | ⟨j,d,y,hd,hy,rfl,rfl⟩,Fw⟩
  ·have hai:¬Inb a k i:=by
    intro h;have:=hb1.same B3 h (aS i 0);rw [this.1] at Fw;exact Fw rfl
   have hb2:=(Sd.blk hq4 hai).1 hb1;refine ⟨.inl ⟨a,k,by have:k≤(β.μ.freed i x p).order:=hk1;rwa [show (β.μ.freed i x p).order=β.μ.order from V6.trans CY] at this,hb2,rfl,rfl⟩,?_⟩
   show β.σ.base+4096*a≠_
   intro e;unfold Bu.addr at e;have:a=i:=by omega
   subst this;exact hai (aS _ _)
  ·have hji:j≠i:=by
    rintro rfl;obtain ⟨q,hq,hq4,_⟩:=hy;have:=hfi q hq;omega
   have hy':=(Sd.cell hji).1 hy;refine ⟨.inr ⟨j,d,y,hd,hy',rfl,rfl⟩,?_⟩
   show β.σ.base+4096*j+y*aB d≠_
   obtain ⟨q,hq,hq4,MN,hyl,_⟩:=hy';have:=dO hd hyl;have:=cO hd;unfold Bu.addr;omega
 ·rintro ⟨⟨a,k,hk1,hb1,rfl,rfl⟩ | ⟨j,d,y,hd,hy,rfl,rfl⟩,Fw⟩
  ·have hai:=JG hb1;refine ⟨.inl ⟨a,k,?_,(Sd.blk hq4 hai).2 hb1,rfl,rfl⟩,?_⟩
   ·show k≤(β.μ.freed i x p).order
    rw [show (β.μ.freed i x p).order=β.μ.order from V6.trans CY];exact hk1
   ·unfold Bu.addr;intro e;have:a=i:=by omega
    subst this;exact hai (aS _ _)
  ·by_cases hji:j=i
   ·subst hji;obtain ⟨q,hq,hq4,MN,hyl,hyb⟩:=hy;obtain rfl:p=q:=Option.some.inj (hp.symm.trans hq);have:d=c:=by omega
    subst this;rw [X3 y hyl hyb] at Fw;exact (Fw rfl).elim
   ·refine ⟨.inr ⟨j,d,y,hd,(Sd.cell hji).2 hy,rfl,rfl⟩,?_⟩;obtain ⟨q,hq,hq4,MN,hyl,_⟩:=hy;have:=dO hd hyl;have:=cO hd;unfold Bu.addr;omega
theorem HS.PU {β:Bu} {ps:List Int} {F C L:Nat→List Nat} (I:HS β ps F C L) {i c x:Nat} (hc:c<8) (hx:Cell β i c x) :
  ∃ β' ps' F' C' L',HS β' ps' F' C' L'∧Gone β β' (β.addr i+x*aB c) ∧
   ∀ (w:World) (s pb:Nat) (K:ay),aM w s pb K β ps→bU w→(∀ k∈s::pb::K.fp,9≤k)→Calls Tryz.prog 196 #[.pointer (some ⟨s,0,none⟩),.int .u64 (β.addr i+x*aB c:Nat)] w (Taken w s pb K β' ps' (.int .i64 0)):=by
 obtain ⟨p,hp,h4,hcl,hxl,hb⟩:=hx;have D:=I.slab.pages i p hp h4
 have hlv:p.live≤256:=by
  have h1:=D.live;have:=(fu p.cls D.cls).2.2.2.2;omega
 by_cases h1:p.live=1
 ·obtain ⟨him,H2,B2,hL⟩:=I.X0 hc hp h4 hcl hxl hb h1;obtain ⟨CV,CW,RY⟩:=I.slab.nb hc him hp
  have hnb:∀ {n:Int},lW β.μ i n→lW (β.μ.aA i (p.own x false)) i n:=by
   rintro n (h | ⟨j,q,e,hji,hq,hk,a1,a2⟩)
   ·exact .inl h
   ·refine .inr ⟨j,q,e,hji,(List.getElem?_set_ne (fun e=>hji e.symm)).trans hq,hk,?_,?_⟩
    ·rw [show (β.μ.aA i (p.own x false)).pages.length=β.μ.pages.length from List.length_set ..];exact a1
    ·rw [show (β.μ.aA i (p.own x false)).pages.length=β.μ.pages.length from List.length_set ..];exact a2
  obtain ⟨H3,G3⟩:=H2.Iy (a:=i) (k:=0) (Nat.zero_le _) B2;refine ⟨_,_,_,_,_,H3,⟨G3.base,?_,G3.limit,G3.n,fun P S=>(G3.live P S).trans (hL P S),?_⟩,fun w s pb K R G far=>R.ML G far c i x hc I.nums.full hp h4 hcl hxl hb h1 (hnb CV) (hnb CW) RY H2.inv B2⟩
  ·rw [G3.order];exact (mJ _ _ _ _).1.trans (oG _ _ _).1
  ·intro P S h hne q hq1 hq2;have h':=(hL P S).2 ⟨h,hne⟩;exact G3.byte P S h'.1 h'.2 q hq1 hq2
 ·have hlv1:1<p.live:=by have:=D.some_;omega
  cases hC:C i with
  | nil =>
   obtain ⟨HO,H,G0⟩:=I.XZ hc hp h4 hcl hxl hb hlv1 hC;have hf:p.first = -1:=by have:=D.first;rw [hC] at this;exact this
   exact ⟨_,_,_,_,_,H,G0,fun w s pb K R G far=>R.PS G far c i x hc I.nums.full hp h4 hcl hxl hb hf ⟨hlv1,hlv⟩ HO⟩
  | cons f u =>
   obtain ⟨H,G0⟩:=I.XY hc hp h4 hcl hxl hb hlv1 hC;have hf:p.first=(f:Int):=by have:=D.first;rw [hC] at this;exact this
   have hfl:=((D.mem f).1 (by rw [hC];simp)).1;rw [hcl] at hfl;exact ⟨_,_,_,_,_,H,G0,fun w s pb K R G far=>R.MK G far c i x f hc I.nums.full hp h4 hcl hxl hb hf hfl ⟨hlv1,hlv⟩⟩
end Go.Proofs.YtnjcmcnjgdjbiaaGreatDoor
namespace Go.Proofs.YtnjcmcnjgdjbiaaGreatDoor
open Go.RowKit Go.MuLone
def MO (β:Bu) (p:Nat):Prop:=∀ P S,Live β P S→p<P∨P+S≤p
theorem HS.X4 {β:Bu} {ps:List Int} {F C L:Nat→List Nat} (I:HS β ps F C L):β.σ.base+β.σ.size*β.σ.n=β.σ.base+4096*β.μ.pages.length:=by
 rw [I.nums.size,I.nums.full,Nat.mul_assoc,Nat.mul_comm (2^β.μ.order)]
theorem cell_of {A wd off x:Nat} (hA:wd∣A) (hA4:A%4096=0) (hw:0<wd) (hx:x=off/wd) (_ho:off<4096) (hin:x*wd+wd≤4096):(A+off)/wd*wd=A+x*wd∧(A+off)/wd*wd%4096/wd=x:=by
 obtain ⟨M,rfl⟩:=hA;have h1:(wd*M+off)/wd=M+off/wd:=Nat.mul_add_div hw M off;rw [h1,←hx,Nat.add_mul,Nat.mul_comm M wd];refine ⟨rfl,?_⟩;have h2:(wd*M+x*wd)%4096=x*wd:=by omega
 rw [h2];exact Nat.mul_div_cancel _ hw
theorem HS.Ub {β:Bu} {ps:List Int} {F C L:Nat→List Nat} (I:HS β ps F C L):β.σ.base%4096=0:=by
 have h:=I.nums.al;have:(4096*2^β.μ.order)∣β.σ.base:=Nat.dvd_of_mod_eq_zero h;exact Nat.mod_eq_zero_of_dvd (Nat.dvd_trans (Nat.dvd_mul_right _ _) this)
theorem HS.block {β:Bu} {ps:List Int} {F C L:Nat→List Nat} (I:HS β ps F C L) (p:Nat) (hp:p<18446744073709551616) :
  (∃ P S,Live β P S∧P≤p∧p<P+S∧∀ (m:Int) (w:World) (hb s pb:Nat) (K:ay),ak m w hb s pb K β ps→Calls Tryz.prog 110 #[.pointer (some ⟨hb,0,none⟩),.int .u64 p] w (Blocked w P S true)) ∨
  (MO β p∧∃ P S:Nat,∀ (m:Int) (w:World) (hb s pb:Nat) (K:ay),ak m w hb s pb K β ps→Calls Tryz.prog 110 #[.pointer (some ⟨hb,0,none⟩),.int .u64 p] w (Blocked w P S false)):=by
 have hno:∀ {Q:Prop},(∀ (x off:Nat) (q:Pg),p=β.σ.base+4096*x+off→off<4096→β.μ.pages[x]? = some q→(q.kind=2∨q.kind=3∨q.kind=4)→False)→Q→MO β p∧Q:=by
  intro Q h hQ;refine ⟨fun P S hL=>Classical.byContradiction (fun hc=>?_),hQ⟩;obtain ⟨x,off,q,e,ho,hq,hk⟩:=hL.pages (q:=p) (by omega) (by omega);exact h x off q e ho hq hk
 have hend:=I.X4;by_cases h1:p<β.σ.base
 ·exact .inr (hno (fun x off q e _ _ _=>by omega) ⟨0,0,fun m w hb s pb K R=>R.O6 p h1⟩)
 by_cases h2:β.σ.base+4096*β.μ.pages.length≤p
 ·refine .inr (hno (fun x off q e ho hq _=>?_) ⟨0,0,fun m w hb s pb K R=>R.Pk p (by omega) (by omega)⟩);have:=(List.getElem?_eq_some_iff.1 hq).1;omega
 obtain ⟨i,hi⟩:∃ i,i=(p-β.σ.base)/4096:=⟨_,rfl⟩;obtain ⟨off,hoff⟩:∃ off,off=(p-β.σ.base)%4096:=⟨_,rfl⟩;have hpe:p=β.σ.base+4096*i+off:=by omega
 have Za:off<4096:=by omega
 have hil:i<β.μ.pages.length:=by omega
 obtain ⟨pg,hpg⟩:∃ pg,β.μ.pages[i]? = some pg:=⟨_,List.getElem?_eq_getElem hil⟩;by_cases h4:pg.kind=4
 ·have D:=I.slab.pages i pg hpg h4;obtain ⟨c,hcc⟩:∃ c:Nat,pg.cls=c:=⟨pg.cls.toNat,by have:=D.cls;omega⟩;have hc:c<8:=by have:=D.cls;omega
  obtain ⟨u1,u2,u3,u4,u5,u6⟩:=dK hc
  have hx:off/aB c<aR c:=by
   rw [←u6];refine (Nat.div_lt_iff_lt_mul (by omega)).2 ?_
   rw [u3];exact Za
  have hin:=dO hc hx;have hd4:aB c∣4096:=⟨4096/aB c,by rw [Nat.mul_comm];exact u3.symm⟩;have hb4:=I.Ub;have Ms:aB c∣β.σ.base+4096*i:=Nat.dvd_trans hd4 (Nat.dvd_of_mod_eq_zero (by omega));obtain ⟨e1,e2⟩:=cell_of Ms (by omega) (by omega) rfl Za hin;rw [←hpe] at e1 e2;have Zb:tL β p i c pg:=⟨hpg,h4,hcc,by omega,hi.symm⟩;have hdiv:=Nat.div_add_mod off (aB c);have hmod:=Nat.mod_lt off (show 0<aB c by omega);rw [Nat.mul_comm] at hdiv;have hcell:cellAt p c=off/aB c:=e2;cases hbit:pg.bit (off/aB c) with
  | true =>
   left;refine ⟨β.addr i+off/aB c*aB c,aB c,.inr ⟨i,c,_,hc,⟨pg,hpg,h4,hcc,hx,hbit⟩,rfl,rfl⟩,?_,?_,fun m w hb s pb K R=>?_⟩
   ·unfold Bu.addr;omega
   ·unfold Bu.addr;omega
   ·have:=R.uQ p i c Zb;rw [e1,hcell,hbit] at this;exact this
  | false =>
   right;refine ⟨fun P S hL=>Classical.byContradiction (fun hc'=>?_),p/aB c*aB c,aB c,fun m w hb s pb K R=>?_⟩
   ·rcases hL with ⟨a,k,hk,hb,rfl,rfl⟩ | ⟨j,d,y,hd,⟨q,hq,hq4,MN,hyl,hyb⟩,rfl,rfl⟩
    ·unfold Bu.addr at hc';have hin':Inb a k i:=⟨by omega,by omega⟩;have e:=Option.some.inj (hpg.symm.trans (hb.page hin'));have:=dH k (i-a);rw [←e] at this;omega
    ·have:=dO hd hyl;unfold Bu.addr at hc';have:j=i:=by omega
     subst this;obtain rfl:pg=q:=Option.some.inj (hpg.symm.trans hq);have:d=c:=by omega
     subst this;have h5:off/aB d*aB d<y*aB d+aB d:=by omega
     have h6:y*aB d<off/aB d*aB d+aB d:=by omega
     rw [←Nat.succ_mul] at h5 h6;have h7:=Nat.lt_of_mul_lt_mul_right h5;have h8:=Nat.lt_of_mul_lt_mul_right h6;have:y=off/aB d:=by omega
     rw [this,hbit] at hyb;simp at hyb
   ·have:=R.uQ p i c Zb;rw [hcell,hbit] at this;exact this
 by_cases h23:pg.kind=2∨pg.kind=3
 ·left;obtain ⟨a,k,hk,hb,hin,hko,ha,_⟩:=I.inv.isLive hpg h23;refine ⟨β.addr a,4096*2^k,.inl ⟨a,k,hk,hb,rfl,rfl⟩,?_,?_,fun m w hb' s pb K R=>?_⟩
  ·have:=hin.1;unfold Bu.addr;omega
  ·have:=hin.2;unfold Bu.addr;omega
  ·have:=R.Mh p i k hpg h23 hko (by omega) (by omega) hi.symm hp;rw [←ha] at this;exact this
 ·refine .inr (hno (fun x off' q e ho hq hk=>?_) ⟨0,0,fun m w hb s pb K R=>R.JD p i hpg ⟨fun h=>h23 (.inl h),fun h=>h23 (.inr h),h4⟩ (by omega) (by omega) hi.symm hp⟩);have:x=i:=by omega
  subst this;obtain rfl:pg=q:=Option.some.inj (hpg.symm.trans hq);rcases hk with h | h | h
  ·exact h23 (.inl h)
  ·exact h23 (.inr h)
  ·exact h4 h
def Started (w:World) (P size:Nat) (er:Int) (e:Ending) (w':World):Prop :=
 e=.returned (.tuple #[.agg #[.int .u64 P,.int .u64 size],.int .i64 er])∧Touch Nothing w w'
theorem MP {w:World} (hb p P size:Nat) (hne:((P:Int) == (p:Int))=false)
  (HB:∀ W,Touch Nothing w W→Calls Tryz.prog 110 #[.pointer (some ⟨hb,0,none⟩),.int .u64 p] W (Blocked W P size true)) :
  Calls Tryz.prog 99 #[.pointer (some ⟨hb,0,none⟩),.int .u64 p] w (Started w 0 0 1):=by
 have T0:=Hd (show Touch Nothing w (w.alloc (.cells #[.int .u64 0,.int .u64 0] 71)) from (Touch.refl _ _).alloc _);have B0:=Hd (aC.new w #[.int .u64 0,.int .u64 0] 71);have H:=Hd (HB _ T0.out);have hne':¬((P:Int)=(p:Int)):=by simpa using hne
 clear HB
 go_enter Tryz.func99,Tryz.ntmps99
 go_wp2_with fail
 refine H.out.mono ?_
 rintro e w1 ⟨rfl,T1⟩;have B1:=B0.out.touch T1 (fun h=>h);have c0:=B1.cell 0;have c1:=B1.cell 1;have f0:=B1.free 0;have f1:=B1.free 1;have YH:w.heap.size<w1.heap.size:=B1.lt;have HT:=Hd (T0.out.trans T1);have HB3:=Hd (((B1.set 0 (.int .u64 0)).set 1 (.int .u64 0)).alloc (.cells #[.int .u64 P,.int .u64 size] 71));simp at c0 c1;clear B1 T1
 go_wp2_with fail
 have d0:=HB3.out.cell 0;have d1:=HB3.out.cell 1;simp at d0 d1;have T5:Touch (· = w.heap.size) w1 (((w1.setCell ⟨w.heap.size,0,none⟩ (.int .u64 0)).setCell ⟨w.heap.size,1,none⟩ (.int .u64 0)).alloc (.cells #[.int .u64 P,.int .u64 size] 71)):=((Touch.cellAt w1 w.heap.size 0 (.int .u64 0)).trans (Touch.cellAt _ w.heap.size 1 (.int .u64 0))).alloc _;exact bodyPost_ret (v:=.tuple #[.agg #[.int .u64 0,.int .u64 0],.int .i64 1]) (by simp [results,Tryz.results99,go_sem,d0,d1]) rfl ⟨rfl,HT.out.trans' T5 (fun i hi e=>by omega)⟩
theorem MQ {w:World} (hb p size:Nat)
  (HB:∀ W,Touch Nothing w W→Calls Tryz.prog 110 #[.pointer (some ⟨hb,0,none⟩),.int .u64 p] W (Blocked W p size true)) :
  Calls Tryz.prog 99 #[.pointer (some ⟨hb,0,none⟩),.int .u64 p] w (Started w p size 0):=by
 have T0:=Hd (show Touch Nothing w (w.alloc (.cells #[.int .u64 0,.int .u64 0] 71)) from (Touch.refl _ _).alloc _);have B0:=Hd (aC.new w #[.int .u64 0,.int .u64 0] 71);have H:=Hd (HB _ T0.out);clear HB
 go_enter Tryz.func99,Tryz.ntmps99
 go_wp2_with fail
 refine H.out.mono ?_
 rintro e w1 ⟨rfl,T1⟩;have B1:=B0.out.touch T1 (fun h=>h);have c0:=B1.cell 0;have c1:=B1.cell 1;have f0:=B1.free 0;have f1:=B1.free 1;have YH:w.heap.size<w1.heap.size:=B1.lt;have HT:=Hd (T0.out.trans T1);have HB3:=Hd (((B1.set 0 (.int .u64 p)).set 1 (.int .u64 size)).alloc (.cells #[.int .u64 p,.int .u64 size] 71));simp at c0 c1;clear B1 T1
 go_wp2_with fail
 have d0:=HB3.out.cell 0;have d1:=HB3.out.cell 1;simp at d0 d1;have T5:Touch (· = w.heap.size) w1 (((w1.setCell ⟨w.heap.size,0,none⟩ (.int .u64 p)).setCell ⟨w.heap.size,1,none⟩ (.int .u64 size)).alloc (.cells #[.int .u64 p,.int .u64 size] 71)):=((Touch.cellAt w1 w.heap.size 0 (.int .u64 p)).trans (Touch.cellAt _ w.heap.size 1 (.int .u64 size))).alloc _;exact bodyPost_ret (v:=.tuple #[.agg #[.int .u64 p,.int .u64 size],.int .i64 0]) (by simp [results,Tryz.results99,go_sem,d0,d1]) rfl ⟨rfl,HT.out.trans' T5 (fun i hi e=>by omega)⟩
theorem HS.start {β:Bu} {ps:List Int} {F C L:Nat→List Nat} (I:HS β ps F C L) (p:Nat) (hp:p<18446744073709551616) :
  (∃ S,Live β p S∧∀ (m:Int) (w:World) (hb s pb:Nat) (K:ay),ak m w hb s pb K β ps→Calls Tryz.prog 99 #[.pointer (some ⟨hb,0,none⟩),.int .u64 p] w (Started w p S 0)) ∨
  ((∀ S,¬Live β p S)∧∀ (m:Int) (w:World) (hb s pb:Nat) (K:ay),ak m w hb s pb K β ps→Calls Tryz.prog 99 #[.pointer (some ⟨hb,0,none⟩),.int .u64 p] w (Started w 0 0 1)):=by
 have hpos:∀ {P S},Live β P S→0<S:=by
  rintro P S (⟨a,k,_,_,_,rfl⟩ | ⟨i,c,x,hc,_,_,rfl⟩)
  ·have:=fF k;omega
  ·have:=cO hc;omega
 rcases I.block p hp with ⟨P,S,hL,h1,h2,H⟩ | ⟨hno,P,S,H⟩
 ·by_cases e:P=p
  ·subst e;exact .inl ⟨S,hL,fun m w hb s pb K R=>MQ hb P S (fun W T=>H m W hb s pb K (R.aj T))⟩
  ·refine .inr ⟨fun S' hL'=>?_,fun m w hb s pb K R=>MP hb p P S (by rw [beq_eq_false_iff_ne];omega) (fun W T=>H m W hb s pb K (R.aj T))⟩;have:=hpos hL';exact e (hL.meet hL' h1 h2 (Nat.le_refl _) (by omega)).1
 ·refine .inr ⟨fun S' hL'=>?_,fun m w hb s pb K R=>O7 hb p P S (fun W T=>H m W hb s pb K (R.aj T))⟩;have:=hpos hL';have:=hno p S' hL';omega
def AU (w:World) (Q:World→World→Prop) (e:Ending) (w':World):Prop:=e=.returned (.tuple #[])∧∃ W,Touch Nothing w W∧Q W w'
theorem JM {w:World} (hb s P r:Nat) (Q:World→World→Prop) (c6:w.cell? ⟨hb,6,none⟩=some (.pointer (some ⟨s,0,none⟩))) (pK:hb<w.heap.size) (hr:(r:Int)<4096)
  (HT:∀ W,Touch Nothing w W→Calls Tryz.prog 196 #[.pointer (some ⟨s,0,none⟩),.int .u64 P] W fun e w'=>e=.returned (.int .i64 0)∧Q W w') :
  Calls Tryz.prog 141 #[.pointer (some ⟨hb,0,none⟩),.agg #[.int .u64 P,.int .u64 r]] w (AU w Q):=by
 have T0:=Hd (fun k=>((Touch.refl Nothing w).alloc (.cells #[.int .u64 P,.int .u64 r] 71)).drewN k);have tK:=Hd (fun k=>HT _ (T0.out k));have hcf:∀ (us:Array Value) (W:World),(callFunc 196 us).run Tryz.prog W=.ok (.enter 196 us) W:=fun us W=>by simp [go_sem]
 have kF:=Hd hcf;clear hcf HT
 go_enter Tryz.func141,Tryz.ntmps141
 go_wp2_with fail
 go_region_law (refine eU _ (by rfl) 196 #[.tmp 10,.tmp 12] #[87,33] (by rfl) #[.pointer (some ⟨s,0,none⟩),.int .u64 P] (by rfl) (tK.out 1) (kF.out _ _) ?_;rintro e w1 ⟨rfl,hQ⟩;refine ⟨_,rfl,?_⟩;have HQ:=Hd hQ;clear hQ)
 all_goals
  go_wp2_with fail
  go_end0
  exact ⟨rfl,_,T0.out 1,HQ.out⟩
theorem PV {w:World} (hb pb P r o:Nat) (Q:World→World→Prop) (c5:w.cell? ⟨hb,5,none⟩=some (.pointer (some ⟨pb,0,none⟩))) (pK:hb<w.heap.size) (hr:(4096:Int)≤r) (hr2:r≤1048576) (hc:(Lib.bitLen (r/4096):Int)-1=o)
  (HT:∀ W,Touch Nothing w W→Calls Tryz.prog 197 #[.pointer (some ⟨pb,0,none⟩),.int .u64 P,.int .i64 o] W fun e w'=>e=.returned (.int .i64 0)∧Q W w') :
  Calls Tryz.prog 141 #[.pointer (some ⟨hb,0,none⟩),.agg #[.int .u64 P,.int .u64 r]] w (AU w Q):=by
 have T0:=Hd (fun k=>((Touch.refl Nothing w).alloc (.cells #[.int .u64 P,.int .u64 r] 71)).drewN k);have tK:=Hd (fun k=>HT _ (T0.out k));have HC:=Hd (fun W=>Ai r W (by omega));rw [hc] at HC;have hcf:∀ (us:Array Value) (W:World),(callFunc 197 us).run Tryz.prog W=.ok (.enter 197 us) W:=fun us W=>by simp [go_sem]
 have nI:∀ (us:Array Value) (W:World),(callFunc 138 us).run Tryz.prog W=.ok (.enter 138 us) W:=fun us W=>by simp [go_sem]
 have kF:=Hd hcf;have wI:=Hd nI;clear hcf nI HT hc
 go_enter Tryz.func141,Tryz.ntmps141
 go_wp2_with fail
 go_region_law (first | (refine eU _ (by rfl) 138 #[.tmp 21] #[33] (by rfl) #[.int .u64 r] (by rfl) (HC.out _) (wI.out _ _) ?_;rintro e w1 ⟨rfl,rfl⟩;refine ⟨_,rfl,?_⟩) | (refine eU _ (by rfl) 197 #[.tmp 17,.tmp 19,.tmp 22] #[84,33,3] (by rfl) #[.pointer (some ⟨pb,0,none⟩),.int .u64 P,.int .i64 o] (by rfl) (tK.out 1) (kF.out _ _) ?_;rintro e w1 ⟨rfl,hQ⟩;refine ⟨_,rfl,?_⟩;have HQ:=Hd hQ;clear hQ))
 all_goals
  go_wp2_with fail
  go_end0
  exact ⟨rfl,_,T0.out 1,HQ.out⟩
end Go.Proofs.YtnjcmcnjgdjbiaaGreatDoor
