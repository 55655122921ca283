/- Conditions: as each theorem states. -/
import Derived.Test.YtnjcmcnjgdjbiaaGreatDoorKpPartAf
import Derived.Deep.DeepCutAuto
import Derived.Laws.IdiomStrings
import Derived.Laws.BytesArg
set_option maxRecDepth 100000
set_option maxHeartbeats 8000000
namespace Go.Proofs.YtnjcmcnjgdjbiaaGreatDoor
open Go.RowKit
def au.cells (c:au):List Value:=[.int .i64 c.op,.int .i64 c.ref,.int .u64 c.p,.int .u64 c.a,.int .u64 c.b,.bool c.deny,.slice c.dp c.dn c.dc]
def bR (l:List UInt8):List Value:=l.map fun x=>.int .u8 x.toNat
structure bn (w:World) (B:Nat) (c:au) (x:Txt.Cd):Prop where
 op:c.op=x.op
 ref:c.ref=x.ref
 p:c.p=x.p
 a:c.a=x.a
 b:c.b=x.b
 deny:c.deny=x.deny
 own:w.ownsRow B 5 1 (.slice c.dp c.dn c.dc) x.data.length (bR x.data)
theorem aZ {w w':World} {B e size n:Nat} {v:Value} {xs:List Value} {S:Nat→Prop} (h:w.ownsRow B e size v n xs) (k:Touch S w w') (hs:∀ g,B≤g→v.ownBlock=some g→¬S g):w'.ownsRow B e size v n xs:=by
 refine ⟨h.1,?_⟩;rcases h.2 with hn | ⟨g,cap,cur,rfl,hb,hgg,rest⟩
 ·exact .inl hn
 ·refine .inr ⟨g,cap,cur,rfl,hb,?_,rest⟩;rw [k.block g (Array.getElem?_eq_some_iff.1 hgg).1 (hs g hb rfl)];exact hgg
theorem bn.touch {w w':World} {B:Nat} {c:au} {x:Txt.Cd} {S:Nat→Prop} (h:bn w B c x) (k:Touch S w w') (hs:∀ i,B≤i→i<w.heap.size→¬S i):bn w' B c x :=
 ⟨h.op,h.ref,h.p,h.a,h.b,h.deny,aZ h.own k (fun g hg he=>hs g hg (World.ownsRow.lt h.own g he).2)⟩
structure FS (w:World) (cb g F:Nat) (fw:Value) (f:Txt.Form) (r:Option (Txt.Cd × List (List UInt8))) (wr:World) (ok:Bool) (c:au) (ws:List (List UInt8)) (p:Option Addr) (nc:Nat):Prop where
 blk:aC wr cb 43 c.cells
 form:aC wr F 148 [fw,.bool f.address,.int .i64 f.numbers,.bool f.data,.bool f.refused]
 words:aC wr (F+1) 79 [.slice p ws.length nc]
 iR:aC wr (F+1+1) 4 [.bool ok]
 strs:Strs wr g ws p nc
 law:r=none∧ok=false∨∃ x,r=some (x,ws)∧ok=true∧bn wr (F+1+1+1) c x
 small:∀ x∈ws,x.length≤1048576
 touch:Touch (· = cb) w wr
 lt:cb<w.heap.size∧g<w.heap.size∧cb≠g∧F=w.heap.size∧9≤cb
def RG (w:World) (cb g F:Nat) (fw:Value) (f:Txt.Form) (r:Option (Txt.Cd × List (List UInt8))) (wr:World):Prop :=
 ∃ ok c ws p nc,FS w cb g F fw f r wr ok c ws p nc
def RH (fw:ByteArray) (f:Txt.Form):Value:=.agg #[.string fw,.bool f.address,.int .i64 f.numbers,.bool f.data,.bool f.refused]
theorem FS.start {w:World} {cb g:Nat} {fw:ByteArray} {f:Txt.Form} {x:Txt.Cd} {c:au} {ws:List (List UInt8)} {p:Option Addr} {nc:Nat} (hcb:aC w cb 43 c.cells) (hc:bn w (w.heap.size+1+1+1) c x)
  (hs:Strs w g ws p nc) (hg:g<w.heap.size) (hne:cb≠g) (h9:9≤cb) (hsm:∀ x∈ws,x.length≤1048576) :
  FS w cb g w.heap.size (.string fw) f (some (x,ws)) (((w.alloc (.cells #[.string fw,.bool f.address,.int .i64 f.numbers,.bool f.data,.bool f.refused] 148)).alloc (.cells #[.slice p ws.length nc] 79)).alloc (.cells #[.bool true] 4)) true c ws p nc:=by
 have T1:Touch Nothing w (w.alloc (.cells #[.string fw,.bool f.address,.int .i64 f.numbers,.bool f.data,.bool f.refused] 148)):=(Touch.refl _ _).alloc _;have B1:=aC.new w #[.string fw,.bool f.address,.int .i64 f.numbers,.bool f.data,.bool f.refused] 148;have hz1:(w.alloc (.cells #[.string fw,.bool f.address,.int .i64 f.numbers,.bool f.data,.bool f.refused] 148)).heap.size=w.heap.size+1:=by simp
 generalize w.alloc (.cells #[.string fw,.bool f.address,.int .i64 f.numbers,.bool f.data,.bool f.refused] 148)=w1 at *;have T2:Touch Nothing w1 (w1.alloc (.cells #[.slice p ws.length nc] 79)):=(Touch.refl _ _).alloc _;have B2:=aC.new w1 #[.slice p ws.length nc] 79;have hz2:(w1.alloc (.cells #[.slice p ws.length nc] 79)).heap.size=w.heap.size+2:=by simp [hz1]
 generalize w1.alloc (.cells #[.slice p ws.length nc] 79)=w2 at *;have T3:Touch Nothing w2 (w2.alloc (.cells #[.bool true] 4)):=(Touch.refl _ _).alloc _;have B3:=aC.new w2 #[.bool true] 4;rw [hz1] at B2;rw [hz2] at B3;have T:=(T1.trans T2).trans T3
 exact ⟨hcb.touch T (fun h=>h),(B1.touch T2 (fun h=>h)).touch T3 (fun h=>h),B2.touch T3 (fun h=>h),B3,hs.touch T (fun h=>h),
  .inr ⟨x,rfl,rfl,⟨hc.op,hc.ref,hc.p,hc.a,hc.b,hc.deny,aZ hc.own T (fun _ _ _ h=>h)⟩⟩,hsm,T.none_,⟨hcb.lt,hg,hne,rfl,h9⟩⟩
def FB (cb F:Nat) (k:Nat):Prop:=k=cb∨k=F+1∨k=F+1+1
theorem FS.after {w w1 w':World} {cb g F:Nat} {fw:Value} {f:Txt.Form} {r r':Option (Txt.Cd × List (List UInt8))} {ok ok':Bool} {c c':au} {ws ws':List (List UInt8)} {p p':Option Addr} {nc lT:Nat}
  (S:FS w cb g F fw f r w1 ok c ws p nc) (T:Touch (FB cb F) w1 w') (hb:aC w' cb 43 c'.cells) (hw:aC w' (F+1) 79 [.slice p' ws'.length lT]) (ho:aC w' (F+1+1) 4 [.bool ok'])
  (hst:Strs w' g ws' p' lT) (hl:r'=none∧ok'=false∨∃ x,r'=some (x,ws')∧ok'=true∧bn w' (F+1+1+1) c' x) (hsm:∀ x∈ws',x.length≤1048576):FS w cb g F fw f r' w' ok' c' ws' p' lT:=by
 have h:=S.lt;refine ⟨hb,S.form.touch T (fun h=>?_),hw,ho,hst,hl,hsm,S.touch.trans' T (fun i hi h=>?_),S.lt⟩
 ·rcases h with h | h | h <;> omega
 ·rcases h with h | h | h
  ·exact h
  ·omega
  ·omega
structure nK (w1 w2:World) (cb g F:Nat) (c:au) (ok:Bool) (ws:List (List UInt8)) (p:Option Addr) (nc:Nat):Prop where
 touch:Touch (FB cb F) w1 w2
 blk:aC w2 cb 43 c.cells
 words:aC w2 (F+1) 79 [.slice p ws.length nc]
 iR:aC w2 (F+1+1) 4 [.bool ok]
 strs:Strs w2 g ws p nc
theorem FS.pop {w w1:World} {cb g F:Nat} {fw:Value} {f:Txt.Form} {r:Option (Txt.Cd × List (List UInt8))} {ok:Bool} {c:au} {s:List UInt8} {t:List (List UInt8)} {p p':Option Addr} {nc lT:Nat}
  (S:FS w cb g F fw f r w1 ok c (s::t) p nc) (hst:Strs w1 g t p' lT):nK w1 (w1.setCell ⟨F+1,0,none⟩ (.slice p' t.length lT)) cb g F c ok t p' lT:=by
 have h:=S.lt;have T:=Touch.cellAt w1 (F+1) 0 (.slice p' t.length lT);exact ⟨T.mono (fun _ _ e=>.inr (.inl e)),S.blk.touch T (by omega),S.words.set 0 _,S.iR.touch T (by omega),hst.touch T (by omega)⟩
theorem FS.Pb {w w1:World} {cb g F:Nat} {fw:Value} {f:Txt.Form} {r:Option (Txt.Cd × List (List UInt8))} {ok:Bool} {c:au} {p:Option Addr} {nc:Nat}
  (S:FS w cb g F fw f r w1 ok c [] p nc):nK w1 (w1.setCell ⟨F+1+1,0,none⟩ (.bool false)) cb g F c false [] p nc:=by
 have h:=S.lt;have T:=Touch.cellAt w1 (F+1+1) 0 (.bool false);exact ⟨T.mono (fun _ _ e=>.inr (.inr e)),S.blk.touch T (by omega),S.words.touch T (by omega),S.iR.set 0 _,.nil _ _ _ _⟩
theorem nK.read {w1 w2 w3:World} {cb g F:Nat} {c:au} {ok:Bool} {ws:List (List UInt8)} {p:Option Addr} {nc:Nat} (S:nK w1 w2 cb g F c ok ws p nc) (T:Touch Nothing w2 w3):nK w1 w3 cb g F c ok ws p nc :=
 ⟨S.touch.trans T.none_,S.blk.touch T (fun h=>h),S.words.touch T (fun h=>h),S.iR.touch T (fun h=>h),S.strs.touch T (fun h=>h)⟩
theorem nK.turn {w1 w2:World} {cb g F:Nat} {c c':au} {ok:Bool} {ws:List (List UInt8)} {p:Option Addr} {nc:Nat} (S:nK w1 w2 cb g F c ok ws p nc) (h:cb≠F+1∧cb≠F+1+1∧cb≠g) (i:Nat) (v:Value)
  (hc:(c.cells).set i v=c'.cells):nK w1 (w2.setCell ⟨cb,i,none⟩ v) cb g F c' ok ws p nc:=by
 have T:=Touch.cellAt w2 cb i v;refine ⟨S.touch.trans (T.mono (fun _ _ e=>.inl e)),?_,S.words.touch T (fun e=>by omega),S.iR.touch T (fun e=>by omega),S.strs.touch T (fun e=>by omega)⟩;have:=S.blk.set i v;rwa [hc] at this
theorem nK.judge {w1 w2:World} {cb g F:Nat} {c:au} {ok:Bool} {ws:List (List UInt8)} {p:Option Addr} {nc:Nat} (S:nK w1 w2 cb g F c ok ws p nc) (h:cb≠F+1∧cb≠F+1+1∧g<F) (ok':Bool):nK w1 (w2.setCell ⟨F+1+1,0,none⟩ (.bool ok')) cb g F c ok' ws p nc:=by
 have T:=Touch.cellAt w2 (F+1+1) 0 (.bool ok');exact ⟨S.touch.trans (T.mono (fun _ _ e=>.inr (.inr e))),S.blk.touch T (by omega),S.words.touch T (by omega),S.iR.set 0 _,S.strs.touch T (by omega)⟩
theorem FS.popped {w w1 w':World} {cb g F:Nat} {fw:Value} {f:Txt.Form} {r r':Option (Txt.Cd × List (List UInt8))} {ok ok':Bool} {c c':au} {ws ws':List (List UInt8)} {p p':Option Addr} {nc lT:Nat}
  (S:FS w cb g F fw f r w1 ok c ws p nc) (P:nK w1 w' cb g F c' ok' ws' p' lT) (hl:r'=none∧ok'=false∨∃ x,r'=some (x,ws')∧ok'=true∧bn w' (F+1+1+1) c' x) (hsm:∀ x∈ws',x.length≤1048576):FS w cb g F fw f r' w' ok' c' ws' p' lT :=
 S.after P.touch P.blk P.words P.iR P.strs hl hsm
def au.uS (c:au) (k v:Nat):au:=if k=0 then { c with a:=v } else { c with b:=v }
def BF (x:Txt.Cd) (k v:Nat):Txt.Cd:=if k=0 then { x with a:=v } else { x with b:=v }
theorem au.uT (c:au) (k v:Nat) (hk:k<2):(c.cells).set (3+k) (.int .u64 v)=(c.uS k v).cells:=by
 match k,hk with
 | 0,_=>rfl
 | 1,_=>rfl
def bW (k:Nat) (r:Option (Txt.Cd × List (List UInt8))):Option (Txt.Cd × List (List UInt8)) :=
 match r with
 | none=>none
 | some (_,[])=>none
 | some (x,s::t)=>(Txt.aV s).map fun v=>(BF x k v,t)
def rN (r:Option (Txt.Cd × List (List UInt8))):Nat→Option (Txt.Cd × List (List UInt8))
 | 0=>r
 | k+1=>bW k (rN r k)
theorem TS (x:Txt.Cd) (ws:List (List UInt8)) (n:Nat) (hn:n≤2):rN (some (x,ws)) n=Txt.iB x n ws:=by
 match n,hn with
 | 0,_=>simp [rN,Txt.iB]
 | 1,_ =>
  cases ws with
  | nil=>simp [rN,bW,Txt.iB]
  | cons s t=>cases h:Txt.aV s <;> simp [rN,bW,Txt.iB,h,BF]
 | 2,_ =>
  cases ws with
  | nil=>simp [rN,bW,Txt.iB]
  | cons s t =>
   cases h:Txt.aV s with
   | none=>simp [rN,bW,Txt.iB,h]
   | some v =>
    cases t with
    | nil=>simp [rN,bW,Txt.iB,h]
    | cons s' t=>cases h':Txt.aV s' <;> simp [rN,bW,Txt.iB,h,h',BF]
theorem TU (n:Nat):rN none n=none:=by
 induction n with
 | zero=>rfl
 | succ n ih=>simp [rN,ih,bW]
theorem bn.uS {w:World} {B:Nat} {c:au} {x:Txt.Cd} (h:bn w B c x) (k v:Nat):bn w B (c.uS k v) (BF x k v):=by
 unfold au.uS BF;split
 ·exact ⟨h.op,h.ref,h.p,rfl,h.b,h.deny,h.own⟩
 ·exact ⟨h.op,h.ref,h.p,h.a,rfl,h.deny,h.own⟩
theorem FS.read {w w1 w2:World} {cb g F:Nat} {fw:Value} {f:Txt.Form} {r:Option (Txt.Cd × List (List UInt8))} {ok:Bool} {c:au} {ws:List (List UInt8)} {p:Option Addr} {nc:Nat}
  (S:FS w cb g F fw f r w1 ok c ws p nc) (T:Touch Nothing w1 w2):FS w cb g F fw f r w2 ok c ws p nc:=by
 refine S.after T.none_ (S.blk.touch T (fun h=>h)) (S.words.touch T (fun h=>h)) (S.iR.touch T (fun h=>h)) (S.strs.touch T (fun h=>h)) ?_ S.small;rcases S.law with h | ⟨x,h1,h2,h3⟩
 ·exact .inl h
 ·exact .inr ⟨x,h1,h2,h3.touch T (fun _ _ _ h=>h)⟩
theorem FS.ko {w w1 w2:World} {cb g F:Nat} {fw:Value} {f:Txt.Form} {r:Option (Txt.Cd × List (List UInt8))} {ok:Bool} {c:au} {ws:List (List UInt8)} {p:Option Addr} {nc:Nat}
  (S:FS w cb g F fw f r w1 ok c ws p nc) (G:bU w) (P:Touch (FB cb F) w1 w2):bU w2:=by
 have hlt:=S.lt;exact G.touch (S.touch.trans' (T:=FB cb F) P (fun i hi h=>by rcases h with h | h | h <;> omega)) (fun k hk e=>by omega)
theorem Pf {r:Option (Txt.Cd × List (List UInt8))} {ok:Bool} {P:Txt.Cd→Prop} {k:Nat} (h:r=none∧ok=false∨∃ x,r=some (x,[])∧ok=true∧P x):bW k r=none:=by
 rcases h with ⟨rfl,_⟩ | ⟨x,rfl,_⟩ <;> rfl
theorem Md {w w':World} {B:Nat} {c:au} {r:Option (Txt.Cd × List (List UInt8))} {k q:Nat} {s:List UInt8} {t:List (List UInt8)} {b:Bool} (h:r=none∧true=false∨∃ x,r=some (x,s::t)∧true=true∧bn w B c x)
  (hb:b=(Txt.aV s).isSome) (hv:∀ u,Txt.aV s=some u→q=u) (ht:∀ x,bn w B c x→bn w' B c x):bW k r=none∧b=false∨∃ x,bW k r=some (x,t)∧b=true∧bn w' B (c.uS k q) x:=by
 rcases h with ⟨_,h⟩ | ⟨x,rfl,_,hc⟩
 ·cases h
 ·cases hn:Txt.aV s with
  | none=>rw [hn] at hb;exact .inl ⟨by simp [bW,hn],hb⟩
  | some u =>
   rw [hn] at hb;exact .inr ⟨BF x k u,by simp [bW,hn],hb,by rw [←hv u hn];exact (ht x hc).uS k q⟩
theorem nK.ptr {w1 w2:World} {cb g F:Nat} {c:au} {ok:Bool} {ws:List (List UInt8)} {p:Option Addr} {nc:Nat} (S:nK w1 w2 cb g F c ok ws p nc) (k:Nat) (hk:k<2):∃ z:Nat,w2.cell? ⟨cb,3+k,none⟩=some (.int .u64 z):=by
 match k,hk with
 | 0,_=>exact ⟨c.a,S.blk.cell 3⟩
 | 1,_=>exact ⟨c.b,S.blk.cell 4⟩
def kW (r:Option (Txt.Cd × List (List UInt8))):Option (Txt.Cd × List (List UInt8)) :=
 match r with
 | none=>none
 | some (_,[])=>none
 | some (x,s::t)=>(Txt.cZ s).map fun d=>({ x with data:=d },t)
theorem Ph {r:Option (Txt.Cd × List (List UInt8))} {ok:Bool} {P:Txt.Cd→Prop} (h:r=none∧ok=false∨∃ x,r=some (x,[])∧ok=true∧P x):kW r=none:=by
 rcases h with ⟨rfl,_⟩ | ⟨x,rfl,_⟩ <;> rfl
theorem Me {w w':World} {B:Nat} {c:au} {r:Option (Txt.Cd × List (List UInt8))} {s:List UInt8} {t:List (List UInt8)} {b:Bool} {dp:Option Addr} {dn dc:Nat} (h:r=none∧true=false∨∃ x,r=some (x,s::t)∧true=true∧bn w B c x)
  (hb:b=(Txt.cZ s).isSome) (hv:∀ u,Txt.cZ s=some u→w'.ownsRow B 5 1 (.slice dp dn dc) u.length (bR u)):kW r=none∧b=false∨∃ x,kW r=some (x,t)∧b=true∧bn w' B { c with dp:=dp,dn:=dn,dc:=dc } x:=by
 rcases h with ⟨_,h⟩ | ⟨x,rfl,_,hc⟩
 ·cases h
 ·cases hn:Txt.cZ s with
  | none=>rw [hn] at hb;exact .inl ⟨by simp [kW,hn],hb⟩
  | some u =>
   rw [hn] at hb;exact .inr ⟨{ x with data:=u },by simp [kW,hn],hb,⟨hc.op,hc.ref,hc.p,hc.a,hc.b,hc.deny,hv u hn⟩⟩
theorem fM {w:World} {B B' e size n:Nat} {v:Value} {xs:List Value} (h:w.ownsRow B e size v n xs) (hb:B'≤B):w.ownsRow B' e size v n xs:=by
 refine ⟨h.1,?_⟩;rcases h.2 with hn | ⟨g,cap,cur,rfl,hb',hgg,rest⟩
 ·exact .inl hn
 ·exact .inr ⟨g,cap,cur,rfl,Nat.le_trans hb hb',hgg,rest⟩
def fin (r:Option (Txt.Cd × List (List UInt8))):Option Txt.Cd:=match r with | some (x,[])=>some x | _=>none
theorem Aq (x:Txt.Cd) (f:Txt.Form) (ws:List (List UInt8)) (hf:f.numbers≤2):fin (if f.data then kW (rN (Txt.fT x f ws) f.numbers) else rN (Txt.fT x f ws) f.numbers)=Txt.aU x f ws:=by
 unfold Txt.aU;cases ha:Txt.fT x f ws with
 | none=>simp [TU,kW,fin]
 | some u =>
  obtain ⟨x1,wK⟩:=u;rw [TS _ _ _ hf];cases hn:Txt.iB x1 f.numbers wK with
  | none=>simp [kW,fin,hn]
  | some u =>
   obtain ⟨x2,wL⟩:=u;simp only [hn];unfold Txt.sF;cases hd:f.data with
   | false=>cases wL <;> simp [fin]
   | true =>
    cases wL with
    | nil=>simp [kW,fin]
    | cons s t=>cases hw:Txt.cZ s <;> cases t <;> simp [kW,fin,hw]
def BG (w:World) (cb:Nat) (x:Txt.Cd) (f:Txt.Form) (ws:List (List UInt8)) (e:Ending) (w':World):Prop :=
 e=.returned (.bool (Txt.aU x f ws).isSome)∧(∃ c',aC w' cb 43 c'.cells∧∀ x',Txt.aU x f ws=some x'→bn w' (w.heap.size+1+1+1) c' x')∧Touch (· = cb) w w'
theorem FS.done {w w1:World} {cb g F:Nat} {fw:Value} {fa:Bool} {fn:Nat} {fd fr:Bool} {r r0:Option (Txt.Cd × List (List UInt8))} {ok:Bool} {c:au} {ws EM:List (List UInt8)} {p:Option Addr} {nc:Nat} {x:Txt.Cd}
  (S:FS w cb g F fw ⟨fa,fn,fd,fr⟩ r w1 ok c ws p nc) (h0:Txt.fT x ⟨fa,fn,fd,fr⟩ EM=r0) (hN:fin (if fd then kW (rN r0 fn) else rN r0 fn)=none) (hn:fn≤2) (b:Bool) (hb:b=false) :
  BG w cb x ⟨fa,fn,fd,fr⟩ EM (.returned (.bool b)) (w1.setCell ⟨w.heap.size+1+1,0,none⟩ (.bool b)):=by
 have he:=Aq x ⟨fa,fn,fd,fr⟩ EM hn;simp only [h0,hN] at he;have hl:=S.lt;have T:=Touch.cellAt w1 (w.heap.size+1+1) 0 (.bool b);exact ⟨by rw [←he,hb];rfl,⟨c,S.blk.touch T (by omega),fun x' hx=>by rw [←he] at hx;cases hx⟩,S.touch.trans' T (fun i hi h=>by omega)⟩
theorem FS.done' {w w1:World} {cb g F:Nat} {fw:Value} {fa:Bool} {fn:Nat} {fd fr:Bool} {r r0:Option (Txt.Cd × List (List UInt8))} {ok:Bool} {c:au} {ws EM:List (List UInt8)} {p:Option Addr} {nc:Nat} {x x':Txt.Cd}
  (S:FS w cb g F fw ⟨fa,fn,fd,fr⟩ r w1 ok c ws p nc) (h0:Txt.fT x ⟨fa,fn,fd,fr⟩ EM=r0) (hN:fin (if fd then kW (rN r0 fn) else rN r0 fn)=some x') (hn:fn≤2) (hc:bn w1 (w.heap.size+1+1+1) c x') (b:Bool) (hb:b=true) :
  BG w cb x ⟨fa,fn,fd,fr⟩ EM (.returned (.bool b)) (w1.setCell ⟨w.heap.size+1+1,0,none⟩ (.bool b)):=by
 have he:=Aq x ⟨fa,fn,fd,fr⟩ EM hn;simp only [h0,hN] at he;have hl:=S.lt;have T:=Touch.cellAt w1 (w.heap.size+1+1) 0 (.bool b);exact ⟨by rw [←he,hb];rfl,⟨c,S.blk.touch T (by omega),fun y hy=>by rw [←he] at hy;cases hy;exact hc.touch T (fun i h1 _ h=>by omega)⟩,S.touch.trans' T (fun i hi h=>by omega)⟩
theorem TV (w:World) (cb g:Nat) (fw:ByteArray) (f:Txt.Form) (x:Txt.Cd) (c:au) (ws:List (List UInt8)) (p:Option Addr) (nc:Nat) (hf:f.numbers≤2) (hcb:aC w cb 43 c.cells) (hc:bn w (w.heap.size+1+1+1) c x)
  (hs:Strs w g ws p nc) (hg:g<w.heap.size) (hne:cb≠g) (h9:9≤cb) (hsm:∀ x∈ws,x.length≤1048576) (G:bU w) :
  Calls Tryz.prog 77 #[.pointer (some ⟨cb,0,none⟩),RH fw f,.slice p ws.length nc] w (BG w cb x f ws):=by
 have S0:=Hd (FS.start (fw:=fw) (f:=f) hcb hc hs hg hne h9 hsm);clear hcb hc hs hg hne h9 hsm;obtain ⟨fa,fn,fd,fr⟩:=f;unfold RH at *
 go_enter Tryz.func77,Tryz.ntmps77
 go_upto_if 17 with fail
 generalize ((w.alloc (.cells #[.string fw,.bool fa,.int .i64 fn,.bool fd,.bool fr] 148)).alloc (.cells #[.slice p ws.length nc] 79)).alloc (.cells #[.bool true] 4)=w3 at *
 go_cut [] (fun wc=>RG w cb g w.heap.size (.string fw) ⟨fa,fn,fd,fr⟩ (Txt.fT x ⟨fa,fn,fd,fr⟩ ws) wc)
 case first =>
  cases fa with
  | false =>
   go_wp2_with fail
   go_meet
   exact ⟨_,_,_,_,_,S0.out⟩
  | true =>
   cases ws with
   | nil =>
    have hw0:=S0.out.words.cell 0;have ho0:=S0.out.iR.cell 0;have hof:=S0.out.iR.free 0;have hlt:=S0.out.lt;have HP:=Hd S0.out.Pb;have Mf:=Hd (G.touch (S0.out.touch.trans' (T:=FB cb w.heap.size) HP.out.touch (fun i hi h=>by rcases h with h | h | h <;> omega)) (fun k hk e=>by omega));have HL:=Hd hlt;clear hlt
    go_wp2_with fail
    refine (nY _ _ _ _ _ _ hw0 ho0 hof).mono ?_
    rintro e w4 ⟨rfl,h4⟩;rw [←h4] at HP Mf;clear h4 hw0 ho0 hof
    go_wp2_with fail
    refine (Ld ⟨#[]⟩ w4 (by decide) Mf.out).mono ?_
    rintro e w5 ⟨rr,q,rfl,-,T5⟩;have eX:=Hd (HP.out.read T5);clear T5;have y1:w5.cell? ⟨cb,1,none⟩=_:=eX.out.blk.cell 1;have g1:=eX.out.blk.free 1;have y2:w5.cell? ⟨cb,2,none⟩=_:=eX.out.blk.cell 2;have g2:=eX.out.blk.free 2;have y3:w5.cell? ⟨w.heap.size+1+1,0,none⟩=_:=eX.out.iR.cell 0;have g3:=eX.out.iR.free 0;have hpl:(Txt.bA (⟨#[]⟩:ByteArray).data.toList).isSome=false:=rfl;rw [hpl];simp [au.cells] at y1 y2 y3;have hn1:cb≠w.heap.size+1+1:=by have:=HL.out;omega
    go_wp2_with fail
    go_meet
    exact ⟨false,{ c with ref:=rr,p:=q },[],p,nc,S0.out.popped (((eX.out.turn (c':={ c with ref:=rr }) (by have:=HL.out;omega) 1 _ rfl).turn (c':={ c with ref:=rr,p:=q }) (by have:=HL.out;omega) 2 _ rfl).judge (by have:=HL.out;omega) false) (.inl ⟨rfl,rfl⟩) (by simp)⟩
   | cons s t =>
    have hlt:=S0.out.lt;have hw0:w3.cell? ⟨w.heap.size+1,0,none⟩=some (.slice p (t.length+1) nc):=S0.out.words.cell 0;have hw1:=S0.out.words.free 0;have EN:=Hd (Ot (w.heap.size+1) (w.heap.size+1+1) g nc p s t w3 hw0 hw1 S0.out.strs);have VA:=Hd (fun (w4:World) (P:Touch (FB cb w.heap.size) w3 w4)=>G.touch (S0.out.touch.trans' (T:=FB cb w.heap.size) P (fun i hi h=>by rcases h with h | h | h <;> omega)) (fun k hk e=>by omega));have HL:=Hd hlt;have hss:s.length≤1048576:=S0.out.small s (by simp);have hsm:=S0.out.small;have Ar:=Hd (show ∀ x∈t,x.length≤1048576 from fun x hx=>hsm x (by simp [hx]));clear hlt hw0 hw1 hsm
    go_wp2_with fail
    refine EN.out.mono ?_
    rintro e w4 ⟨rfl,p',lT,hst,h4⟩;have HP:=Hd (S0.out.pop hst);rw [←h4] at HP;clear h4 hst
    go_wp2_with fail
    refine (Ld ⟨s.toArray⟩ w4 (by rw [aX];exact hss) (VA.out _ HP.out.touch)).mono ?_
    rintro e w5 ⟨rr,q,rfl,hval,T5⟩;have HV:=Hd hval;have eX:=Hd (HP.out.read T5);have gG:=Hd T5;clear T5 hval;have y1:w5.cell? ⟨cb,1,none⟩=_:=eX.out.blk.cell 1;have g1:=eX.out.blk.free 1;have y2:w5.cell? ⟨cb,2,none⟩=_:=eX.out.blk.cell 2;have g2:=eX.out.blk.free 2;have y3:w5.cell? ⟨w.heap.size+1+1,0,none⟩=_:=eX.out.iR.cell 0;have g3:=eX.out.iR.free 0;simp [au.cells] at y1 y2 y3;have hn1:cb≠w.heap.size+1+1:=by have:=HL.out;omega
    obtain ⟨b,hb⟩:∃ b,b=(Txt.bA s).isSome:=⟨_,rfl⟩;rw [show (Txt.bA (⟨s.toArray⟩:ByteArray).data.toList).isSome=b from hb.symm];have HB:=Hd hb;clear hb
    go_wp2_with fail
    go_meet
    refine ⟨b,{ c with ref:=rr,p:=q },t,p',lT,S0.out.popped (((eX.out.turn (c':={ c with ref:=rr }) (by have:=HL.out;omega) 1 _ rfl).turn (c':={ c with ref:=rr,p:=q }) (by have:=HL.out;omega) 2 _ rfl).judge (by have:=HL.out;omega) b) ?_ Ar.out⟩;have hb:=HB.out;cases hq:Txt.bA s with
    | none =>
     rw [hq] at hb;exact .inl ⟨by simp [Txt.fT,hq],hb⟩
    | some u =>
     rw [hq] at hb;obtain ⟨h1,h2⟩:=HV.out u hq;refine .inr ⟨{ x with ref:=u.1,p:=u.2 },by simp [Txt.fT,hq],hb,?_⟩;rcases S0.out.law with ⟨h,_⟩ | ⟨x',hx,-,hci⟩
     ·cases h
     ·cases hx;have hlt:=HL.out;have EO:=hci.touch (((eX.out.turn (c':={ c with ref:=rr }) (by omega) 1 _ rfl).turn (c':={ c with ref:=rr,p:=q }) (by omega) 2 _ rfl).judge (by omega) b).touch (fun i hi1 hi2 h=>(by rcases h with h | h | h <;> omega));exact ⟨EO.op,by simp [h1],by simp [h2],EO.a,EO.b,EO.deny,EO.own⟩
 case rest =>
  have HC:=Hd hcut;clear hcut S0;have hn2:wc.cell? ⟨w.heap.size,2,none⟩=some (.int .i64 fn):=by obtain ⟨ok,c,ws,p,nc,S⟩:=HC.out;exact S.form.cell 2
  have pI:w.heap.size<wc.heap.size:=by obtain ⟨ok,c,ws,p,nc,S⟩:=HC.out;exact S.form.lt
  have aao:w.heap.size+1+1<wc.heap.size:=by obtain ⟨ok,c,ws,p,nc,S⟩:=HC.out;exact S.iR.lt
  have hfn:fn≤2:=hf;have hfn':(fn:Int)≤2:=by omega
  have acO:(0:Int)≤(fn:Int):=by omega
  obtain ⟨PB,YI⟩:∃ PB,wc.heap.size=PB:=⟨_,rfl⟩;have RI:=Hd YI;clear YI
  rename World=>w4
  go_upto_region 7 with fail
  go_cut [44,45,46] (fun a b k wx=>a=.slice (some ⟨PB,0,none⟩) fn 2∧b=.int .i64 fn∧k=.int .i64 0∧aC wx PB 212 [.pointer (some ⟨cb,3,none⟩),.pointer (some ⟨cb,4,none⟩)]∧Touch Nothing w4 wx)
  case first =>
   go_region
   go_wp2_with fail
   go_meet
   have B:=aC.new w4 #[.pointer (some ⟨cb,3,none⟩),.pointer (some ⟨cb,4,none⟩)] 212;rw [RI.out] at B;exact ⟨by rw [RI.out],rfl,rfl,B,((Touch.refl _ w4).alloc _).drew⟩
  case rest =>
   obtain ⟨h1,h2,h3,hB,hT⟩:=hcut;subst h1 h2 h3;have HB:=Hd hB
   have HF:=Hd (show RG w cb g w.heap.size (.string fw) ⟨fa,fn,fd,fr⟩ (Txt.fT x ⟨fa,fn,fd,fr⟩ ws) wc from by
    obtain ⟨ok,c,ws,p,nc,S⟩:=HC.out;exact ⟨ok,c,ws,p,nc,S.read hT⟩)
   have hPl:w.heap.size+1+1<PB:=by have:=RI.out;omega
   clear hB hT HC hn2 pI aao RI;generalize VB:Txt.fT x ⟨fa,fn,fd,fr⟩ ws=r0 at *;have bG:=Hd VB;clear VB
   go_wp2_with fail
   go_loopw [46] (fun i wr=>∃ k:Nat,k≤fn∧i=.int .i64 k∧RG w cb g w.heap.size (.string fw) ⟨fa,fn,fd,fr⟩ (rN r0 k) wr∧aC wr PB 212 [.pointer (some ⟨cb,3,none⟩),.pointer (some ⟨cb,4,none⟩)]) (fun i _=>fn-(intOf i).toNat)
   case atStart=>exact ⟨0,Nat.zero_le _,rfl,HF.out,HB.out⟩
   case round =>
    obtain ⟨k,hk,rfl,hF,hB⟩:=hrel;clear HF HB;have HB:=Hd hB;have HF:=Hd hF;clear hF hB;by_cases hlt:k<fn
    ·obtain ⟨ok,c',ws',p',lT,hS⟩:=HF.out;have hk2:k<2:=by omega
     have hpt:wr.cell? ⟨PB,k,none⟩=some (.pointer (some ⟨cb,3+k,none⟩)):=by
      match k,hk2 with
      | 0,_=>exact HB.out.cell 0
      | 1,_=>exact HB.out.cell 1
     have HS:=Hd hS;have HL:=Hd hS.lt;clear hS;cases ws' with
     | nil =>
      have hw0:=HS.out.words.cell 0;have ho0:=HS.out.iR.cell 0;have hof:=HS.out.iR.free 0;have HP:=Hd HS.out.Pb;have Mf:=Hd (HS.out.ko G HP.out.touch)
      go_wp2_with fail
      refine (nY _ _ _ _ _ _ hw0 ho0 hof).mono ?_
      rintro e w4 ⟨rfl,h4⟩;rw [←h4] at HP Mf;clear h4 hw0 ho0 hof
      go_wp2_with fail
      refine (gK ⟨#[]⟩ w4 (by decide) Mf.out).mono ?_
      rintro e w5 ⟨q,rfl,-,T5⟩;have eX:=Hd (HP.out.read T5);clear T5;obtain ⟨z,hz⟩:=eX.out.ptr k hk2;have g1:=eX.out.blk.free (3+k);have y3:w5.cell? ⟨w.heap.size+1+1,0,none⟩=some (.bool false):=eX.out.iR.cell 0;have g3:=eX.out.iR.free 0;have hn1:cb≠w.heap.size+1+1:=by have:=HL.out;omega
      go_wp2_with fail
      go_roundw
      case rel=>exact ⟨k+1,by omega,by go_num,⟨false,c'.uS k q,[],p',lT,HS.out.popped ((eX.out.turn (by have:=HL.out;omega) (3+k) _ (au.uT c' k q hk2)).judge (by have:=HL.out;omega) false) (.inl ⟨Pf HS.out.law,rfl⟩) (by simp)⟩,(HB.out.touch (((eX.out.turn (by have:=HL.out;omega) (3+k) _ (au.uT c' k q hk2)).judge (by have:=HL.out;omega) false).touch) (fun h=>by have:=HL.out;rcases h with h | h | h <;> omega))⟩
      case measure=>simp [intOf];omega
     | cons s t =>
      have hw0:wr.cell? ⟨w.heap.size+1,0,none⟩=some (.slice p' (t.length+1) lT):=HS.out.words.cell 0;have hw1:=HS.out.words.free 0;have EN:=Hd (Ot (w.heap.size+1) (w.heap.size+1+1) g lT p' s t wr hw0 hw1 HS.out.strs);have VA:=Hd (fun (w4:World) (P:Touch (FB cb w.heap.size) wr w4)=>HS.out.ko G P);have hss:s.length≤1048576:=HS.out.small s (by simp);have hsm:=HS.out.small;have Ar:=Hd (show ∀ x∈t,x.length≤1048576 from fun x hx=>hsm x (by simp [hx]));clear hw0 hw1 hsm
      go_wp2_with fail
      refine EN.out.mono ?_
      rintro e w4 ⟨rfl,p2,CK,hst,h4⟩;have HP:=Hd (HS.out.pop hst);rw [←h4] at HP;clear h4 hst
      go_wp2_with fail
      refine (gK ⟨s.toArray⟩ w4 (by rw [aX];exact hss) (VA.out _ HP.out.touch)).mono ?_
      rintro e w5 ⟨q,rfl,hval,T5⟩;have HV:=Hd hval;have eX:=Hd (HP.out.read T5);clear T5 hval;obtain ⟨z,hz⟩:∃ z:Nat,w5.cell? ⟨cb,3+k,none⟩=some (.int .u64 z):=eX.out.ptr k hk2;have g1:=eX.out.blk.free (3+k);have y3:w5.cell? ⟨w.heap.size+1+1,0,none⟩=some (.bool ok):=eX.out.iR.cell 0;have g3:=eX.out.iR.free 0;have hn1:cb≠w.heap.size+1+1:=by have:=HL.out;omega
      obtain ⟨b,hb⟩:∃ b,b=(Txt.aV s).isSome:=⟨_,rfl⟩;rw [show (Txt.aV (⟨s.toArray⟩:ByteArray).data.toList).isSome=b from hb.symm];have VD:=Hd hb;clear hb;have Au:=Hd (fun (v:Bool)=>(eX.out.turn (by have:=HL.out;omega) (3+k) _ (au.uT c' k q hk2)).judge (by have:=HL.out;omega) v);have YJ:=Hd (fun (v:Bool)=>HB.out.touch (Au.out v).touch (fun h=>by have:=HL.out;rcases h with h | h | h <;> omega));cases ok with
      | false =>
       have hr0:rN r0 k=none:=by
        rcases HS.out.law with h | ⟨x',_,h,_⟩
        ·exact h.1
        ·cases h
       go_wp2_with fail
       go_roundw
       case rel=>exact ⟨k+1,by omega,by go_num,⟨false,c'.uS k q,t,p2,CK,HS.out.popped (Au.out false) (.inl ⟨by rw [rN,hr0];rfl,rfl⟩) Ar.out⟩,YJ.out false⟩
       case measure=>simp [intOf];omega
      | true =>
       go_wp2_with fail
       go_roundw
       case rel=>exact ⟨k+1,by omega,by go_num,⟨b,c'.uS k q,t,p2,CK,HS.out.popped (Au.out b) (Md HS.out.law VD.out (fun u hu=>HV.out u hu) (fun x hx=>hx.touch (Au.out b).touch (fun i hi1 hi2 h=>by have:=HL.out;rcases h with h | h | h <;> omega))) Ar.out⟩,YJ.out b⟩
       case measure=>simp [intOf];omega
    ·obtain rfl:k=fn:=by omega
     obtain ⟨ok,c',ws',p',lT,hS⟩:=HF.out;have hld:wr.cell? ⟨w.heap.size,3,none⟩=some (.bool fd):=hS.form.cell 3;have HS:=Hd hS;have HL:=Hd hS.lt;clear hS
     go_upto_if 65 with fail
     go_cut [] (fun wx=>RG w cb g w.heap.size (.string fw) ⟨fa,k,fd,fr⟩ (if fd then kW (rN r0 k) else rN r0 k) wx)
     case first =>
      cases fd with
      | false =>
       go_wp2_with fail
       go_meet
       exact ⟨ok,c',ws',p',lT,HS.out⟩
      | true =>
       cases ws' with
       | nil =>
        have hw0:=HS.out.words.cell 0;have ho0:=HS.out.iR.cell 0;have hof:=HS.out.iR.free 0;have HP:=Hd HS.out.Pb
        go_wp2_with fail
        refine (nY _ _ _ _ _ _ hw0 ho0 hof).mono ?_
        rintro e w4 ⟨rfl,h4⟩;rw [←h4] at HP;clear h4 hw0 ho0 hof
        go_wp2_with fail
        refine (Ro ⟨#[]⟩ w4 (by decide)).mono ?_
        rintro e w5 ⟨dp,dn,dc,rfl,-,T5⟩;have eX:=Hd (HP.out.read T5);clear T5;have z6:w5.cell? ⟨cb,6,none⟩=some (.slice c'.dp c'.dn c'.dc):=eX.out.blk.cell 6;have g1:=eX.out.blk.free 6;have y3:w5.cell? ⟨w.heap.size+1+1,0,none⟩=some (.bool false):=eX.out.iR.cell 0;have g3:=eX.out.iR.free 0;have hn1:cb≠w.heap.size+1+1:=by have:=HL.out;omega
        go_wp2_with fail
        go_meet
        exact ⟨false,{ c' with dp:=dp,dn:=dn,dc:=dc },[],p',lT,HS.out.popped ((eX.out.turn (c':={ c' with dp:=dp,dn:=dn,dc:=dc }) (by have:=HL.out;omega) 6 _ rfl).judge (by have:=HL.out;omega) false) (.inl ⟨Ph HS.out.law,rfl⟩) (by simp)⟩
       | cons s t =>
        have hw0:wr.cell? ⟨w.heap.size+1,0,none⟩=some (.slice p' (t.length+1) lT):=HS.out.words.cell 0;have hw1:=HS.out.words.free 0;have EN:=Hd (Ot (w.heap.size+1) (w.heap.size+1+1) g lT p' s t wr hw0 hw1 HS.out.strs);have hss:s.length≤1048576:=HS.out.small s (by simp);have hsm:=HS.out.small;have Ar:=Hd (show ∀ x∈t,x.length≤1048576 from fun x hx=>hsm x (by simp [hx]));clear hw0 hw1 hsm
        go_wp2_with fail
        refine EN.out.mono ?_
        rintro e w4 ⟨rfl,p2,CK,hst,h4⟩;have HP:=Hd (HS.out.pop hst);rw [←h4] at HP;clear h4 hst
        go_wp2_with fail
        refine (Ro ⟨s.toArray⟩ w4 (by rw [aX];exact hss)).mono ?_
        rintro e w5 ⟨dp,dn,dc,rfl,hval,T5⟩;have HV:=Hd hval;have eX:=Hd (HP.out.read T5);clear T5 hval;have z6:w5.cell? ⟨cb,6,none⟩=some (.slice c'.dp c'.dn c'.dc):=eX.out.blk.cell 6;have g1:=eX.out.blk.free 6;have y3:w5.cell? ⟨w.heap.size+1+1,0,none⟩=some (.bool ok):=eX.out.iR.cell 0;have g3:=eX.out.iR.free 0;have hn1:cb≠w.heap.size+1+1:=by have:=HL.out;omega
        obtain ⟨b,hb⟩:∃ b,b=(Txt.cZ s).isSome:=⟨_,rfl⟩;rw [show (Txt.cZ (⟨s.toArray⟩:ByteArray).data.toList).isSome=b from hb.symm];have VD:=Hd hb;clear hb;have Au:=Hd (fun (v:Bool)=>(eX.out.turn (c':={ c' with dp:=dp,dn:=dn,dc:=dc }) (by have:=HL.out;omega) 6 _ rfl).judge (by have:=HL.out;omega) v);have aap:=Hd (fun (v:Bool)=>(((Touch.cellAt w5 cb 6 (.slice dp dn dc)).mono (T:=fun i=>i=cb∨i=w.heap.size+1+1) (fun _ _ h=>.inl h)).trans ((Touch.cellAt (w5.setCell ⟨cb,6,none⟩ (.slice dp dn dc)) (w.heap.size+1+1) 0 (.bool v)).mono (T:=fun i=>i=cb∨i=w.heap.size+1+1) (fun _ _ h=>.inr h))));cases ok with
        | false =>
         have hr0:rN r0 k=none:=by
          rcases HS.out.law with h | ⟨x',_,h,_⟩
          ·exact h.1
          ·cases h
         go_wp2_with fail
         go_meet
         exact ⟨false,{ c' with dp:=dp,dn:=dn,dc:=dc },t,p2,CK,HS.out.popped (Au.out false) (.inl ⟨by rw [hr0];rfl,rfl⟩) Ar.out⟩
        | true =>
         go_wp2_with fail
         go_meet
         refine ⟨b,{ c' with dp:=dp,dn:=dn,dc:=dc },t,p2,CK,HS.out.popped (Au.out b) (Me HS.out.law VD.out (fun u hu=>aZ (fM (HV.out u hu) HP.out.iR.lt) (aap.out b) (fun i hi1 _ h=>by have:=HL.out;have:=HP.out.iR.lt;rcases h with h | h <;> omega))) Ar.out⟩
     case rest =>
      obtain ⟨YK,c2,wL,p2,CK,hS2⟩:=hcut;have HS2:=Hd hS2;have y3:wc.cell? ⟨w.heap.size+1+1,0,none⟩=some (.bool YK):=hS2.iR.cell 0;have g3:=hS2.iR.free 0;have y4:wc.cell? ⟨w.heap.size+1,0,none⟩=some (.slice p2 wL.length CK):=hS2.words.cell 0;clear hS2;cases YK with
      | false =>
       have HN:=Hd (show fin (if fd then kW (rN r0 k) else rN r0 k)=none by
        rcases HS2.out.law with ⟨h,_⟩ | ⟨_,_,h,_⟩
        ·rw [h];rfl
        ·cases h)
       have HE:=Hd (HS2.out.iR.set 0 (.bool false))
       go_wp2_with fail
       have y5:=HE.out.cell 0;simp at y5;exact bodyPost_ret (v:=.bool false) (by simp [results,Tryz.results77,go_sem,y5]) rfl (HS2.out.done bG.out HN.out hfn false rfl)
      | true =>
       cases wL with
       | nil =>
        obtain ⟨x',hx',hci⟩:∃ x',(if fd then kW (rN r0 k) else rN r0 k)=some (x',[])∧bn wc (w.heap.size+1+1+1) c2 x':=by
         rcases HS2.out.law with ⟨_,h⟩ | ⟨x',h,_,hc⟩
         ·cases h
         ·exact ⟨x',h,hc⟩
        have HN:=Hd (show fin (if fd then kW (rN r0 k) else rN r0 k)=some x' by rw [hx'];rfl);have rM:=Hd hci;clear hx' hci;have HE:=Hd (HS2.out.iR.set 0 (.bool true))
        go_wp2_with fail
        have y5:=HE.out.cell 0;simp at y5;exact bodyPost_ret (v:=.bool true) (by simp [results,Tryz.results77,go_sem,y5]) rfl (HS2.out.done' bG.out HN.out hfn rM.out true rfl)
       | cons s2 t2 =>
        have HN:=Hd (show fin (if fd then kW (rN r0 k) else rN r0 k)=none by
         rcases HS2.out.law with ⟨_,h⟩ | ⟨_,h,_,_⟩
         ·cases h
         ·rw [h];rfl)
        have HE:=Hd (HS2.out.iR.set 0 (.bool false));have y4':wc.cell? ⟨w.heap.size+1,0,none⟩=some (.slice p2 (t2.length+1) CK):=y4;have hzz:(((t2.length:Int)+1) == 0)=false:=by rw [beq_eq_false_iff_ne];omega
        clear y4
        go_wp2_with fail
        have y5:=HE.out.cell 0;simp at y5;exact bodyPost_ret (v:=.bool false) (by simp [results,Tryz.results77,go_sem,y5]) rfl (HS2.out.done bG.out HN.out hfn false rfl)
structure EP (w:World) (dp:Option Addr) (dn:Nat) (dat:List UInt8):Prop where
 len:dn=dat.length
 none_:dp=none→dat = []
 data:∀ a,dp=some a→∀ (j:Nat) x,dat[j]? = some x→w.cell? (a.add j)=some (.int .u8 x.toNat)
structure RJ (w:World) (g off i:Nat) (c:au) (dat:List UInt8):Prop where
 cell:∀ (j:Nat) v,c.cells[j]? = some v→w.cell? ⟨g,off+i*7+j,none⟩=some v
 bytes:EP w c.dp c.dn dat
structure JC (w:World) (p:Option Addr) (n:Nat) (cs:List au) (ds:List (List UInt8)):Prop where
 len:n=cs.length
 len2:n=ds.length
 each:0<n→∃ g off,p=some ⟨g,off,none⟩∧∀ (i:Nat) c d,cs[i]? = some c→ds[i]? = some d→RJ w g off i c d
theorem EP.touch {w w':World} {dp:Option Addr} {dn:Nat} {dat:List UInt8} (h:EP w dp dn dat) (T:Touch Nothing w w'):EP w' dp dn dat :=
 ⟨h.len,h.none_,fun a ha j x hx=>by
  have h1:=h.data a ha j x hx;have hlt:=World.block_lt_of_cell? w _ h1;exact (T.cell (p:=a.add j) hlt (fun h=>h)).trans h1⟩
theorem RJ.touch {w w':World} {g off i:Nat} {c:au} {dat:List UInt8} (h:RJ w g off i c dat) (T:Touch Nothing w w'):RJ w' g off i c dat :=
 ⟨fun j v hj=>by
  have h1:=h.cell j v hj;have hlt:=World.block_lt_of_cell? w _ h1;exact (T.cell (p:=⟨g,off+i*7+j,none⟩) hlt (fun h=>h)).trans h1,h.bytes.touch T⟩
theorem EP.conv {w:World} {dp:Option Addr} {dn:Nat} {dat:List UInt8} (h:EP w dp dn dat) (dc:Nat):(convert 34 9 (.slice dp dn dc)).run Tryz.prog w=.ok (.string ⟨dat.toArray⟩) w:=by
 cases dp with
 | none =>
  have:=h.none_ rfl;subst this;exact run_convert_bytes_nil w 34 5 Tryz.underlying34 Tryz.underlying5 dn dc 9 Tryz.underlying9
 | some a =>
  rw [h.len];exact run_convert_bytes_back w 34 9 5 a dc dat Tryz.underlying34 Tryz.underlying5 Tryz.underlying9 (fun j hj=>h.data a rfl j _ (List.getElem?_eq_getElem hj))
def pY (c d:au):Prop:=c.op=d.op∧c.ref=d.ref∧c.p=d.p∧c.a=d.a∧c.b=d.b∧c.deny=d.deny
theorem XV (w:World) (pa pb:Option Addr) (n ca cb:Nat) (cs ds:List au) (Pj:List (List UInt8)) (hn:n≤281474976710656) (h1:JC w pa n cs Pj) (h2:JC w pb n ds Pj) (hl:∀ (i:Nat) c d,cs[i]? = some c→ds[i]? = some d→pY c d) :
  Calls Tryz.prog 17 #[.slice pa n ca,.slice pb n cb] w fun e w'=>e=.returned (.bool true)∧Touch Nothing w w':=by
 have H1:=Hd h1;have H2:=Hd h2;have jF:=Hd hl;clear h1 h2 hl
 go_enter Tryz.func17,Tryz.ntmps17
 go_wp2_with fail
 go_loopw [5] (fun a wr=>∃ k:Nat,k≤n∧a=.int .i64 k∧Touch Nothing w wr) (fun a _=>n-(intOf a).toNat)
 case atStart=>exact ⟨0,by omega,rfl,Touch.refl _ _⟩
 case round =>
  obtain ⟨k,hk,rfl,T⟩:=hrel;have HT:=Hd T;clear T;by_cases hlt:k<n
  ·obtain ⟨ga,oa,hpa,ea⟩:=H1.out.each (by omega);obtain ⟨gb,ob,hpb,eb⟩:=H2.out.each (by omega);subst hpa hpb;obtain ⟨c,hc⟩:∃ c,cs[k]? = some c:=⟨_,List.getElem?_eq_getElem (by have:=H1.out.len;omega)⟩;obtain ⟨d,hd⟩:∃ d,ds[k]? = some d:=⟨_,List.getElem?_eq_getElem (by have:=H2.out.len;omega)⟩;obtain ⟨dat,hdat⟩:∃ x,Pj[k]? = some x:=⟨_,List.getElem?_eq_getElem (by have:=H1.out.len2;omega)⟩;have HA:=Hd ((ea k c dat hc hdat).touch HT.out);have HB:=Hd ((eb k d dat hd hdat).touch HT.out);obtain ⟨l1,l2,l3,l4,l5,l6⟩:=jF.out k c d hc hd;obtain ⟨op,ref,p,a,b,deny,dp,dn,dc⟩:=c;obtain ⟨op',ref',p',a',b',acA,YL,RL,Mg⟩:=d;simp only at l1 l2 l3 l4 l5 l6;subst l1 l2 l3 l4 l5 l6;clear ea eb hc hd hdat;have a0:wr.cell? ⟨ga,oa+k*7,none⟩=some (.int .i64 op):=HA.out.cell 0 _ rfl;have a1:wr.cell? ⟨ga,oa+k*7+1,none⟩=some (.int .i64 ref):=HA.out.cell 1 _ rfl;have a2:wr.cell? ⟨ga,oa+k*7+2,none⟩=some (.int .u64 p):=HA.out.cell 2 _ rfl;have a3:wr.cell? ⟨ga,oa+k*7+3,none⟩=some (.int .u64 a):=HA.out.cell 3 _ rfl;have a4:wr.cell? ⟨ga,oa+k*7+4,none⟩=some (.int .u64 b):=HA.out.cell 4 _ rfl;have a5:wr.cell? ⟨ga,oa+k*7+5,none⟩=some (.bool deny):=HA.out.cell 5 _ rfl;have a6:wr.cell? ⟨ga,oa+k*7+6,none⟩=some (.slice dp dn dc):=HA.out.cell 6 _ rfl;have b0:wr.cell? ⟨gb,ob+k*7,none⟩=some (.int .i64 op):=HB.out.cell 0 _ rfl;have b1:wr.cell? ⟨gb,ob+k*7+1,none⟩=some (.int .i64 ref):=HB.out.cell 1 _ rfl;have b2:wr.cell? ⟨gb,ob+k*7+2,none⟩=some (.int .u64 p):=HB.out.cell 2 _ rfl;have b3:wr.cell? ⟨gb,ob+k*7+3,none⟩=some (.int .u64 a):=HB.out.cell 3 _ rfl;have b4:wr.cell? ⟨gb,ob+k*7+4,none⟩=some (.int .u64 b):=HB.out.cell 4 _ rfl;have b5:wr.cell? ⟨gb,ob+k*7+5,none⟩=some (.bool deny):=HB.out.cell 5 _ rfl;have b6:wr.cell? ⟨gb,ob+k*7+6,none⟩=some (.slice YL RL Mg):=HB.out.cell 6 _ rfl;have hga:ga<wr.heap.size:=World.block_lt_of_cell? wr _ a0;have hgb:gb<wr.heap.size:=World.block_lt_of_cell? wr _ b0
   go_upto_region 8 with fail
   have HT2:=Hd (show Touch Nothing wr ((wr.alloc (.cells #[.int .i64 op,.int .i64 ref,.int .u64 p,.int .u64 a,.int .u64 b,.bool deny,.slice dp dn dc] 43)).alloc (.cells #[.int .i64 op,.int .i64 ref,.int .u64 p,.int .u64 a,.int .u64 b,.bool deny,.slice YL RL Mg] 43)) from ((Touch.refl _ wr).alloc _).alloc _);have v1:=(HA.out.bytes.touch HT2.out).conv dc;have v2:=(HB.out.bytes.touch HT2.out).conv Mg
   go_wp2_with fail
   exact ⟨⟨k+1,by omega,by go_num,HT.out.trans HT2.out⟩,by simp [intOf];omega⟩
  ·obtain rfl:k=n:=by omega
   go_wp2_with fail
   go_ret
   exact ⟨rfl,HT.out⟩
end Go.Proofs.YtnjcmcnjgdjbiaaGreatDoor
namespace Go.Proofs.YtnjcmcnjgdjbiaaGreatDoor
open Go.RowKit Go.MuLone
theorem BH (hb pb sb base p:Nat) (w:World)
  (c2:w.cell? ⟨hb,2,none⟩=some (.int .u64 base)) (c5:w.cell? ⟨hb,5,none⟩=some (.pointer (some ⟨pb,0,none⟩))) (pK:hb<w.heap.size) (E:Nat) (h1:¬(p<base)) (h2:E≤p)
  (hS:∀ W,Touch Nothing w W→Calls Tryz.prog 60 #[.pointer (some ⟨pb,0,none⟩)] W fun e w'=>e=.returned (.pointer (some ⟨sb,0,none⟩))∧W=w')
  (hE:∀ W,Touch Nothing w W→Calls Tryz.prog 61 #[.pointer (some ⟨sb,0,none⟩)] W fun e w'=>e=.returned (.int .u64 E)∧∃ k,w'=W.drewN k) :
  Calls Tryz.prog 110 #[.pointer (some ⟨hb,0,none⟩),.int .u64 p] w (Blocked w 0 0 false):=by
 have T0:=Hd (show Touch Nothing w (w.alloc (.cells #[.int .u64 0,.int .u64 0] 71)) from (Touch.refl _ _).alloc _);have HS:=Hd hS;have HE:=Hd hE;clear hS hE
 go_enter Tryz.func110,Tryz.ntmps110
 go_wp2_with fail
 refine (HS.out _ T0.out).mono ?_
 rintro e w1 ⟨rfl,rfl⟩
 go_wp2_with fail
 refine (HE.out _ T0.out).mono ?_
 rintro e w1 ⟨rfl,k1,rfl⟩;have B1:=(aC.new w #[.int .u64 0,.int .u64 0] 71).drewN k1;have T1:Touch Nothing w ((w.alloc (.cells #[.int .u64 0,.int .u64 0] 71)).drewN k1):=T0.out.drewN k1;generalize (w.alloc (.cells #[.int .u64 0,.int .u64 0] 71)).drewN k1=w1 at *;have f0:=B1.free 0;have f1:=B1.free 1;have z0:=B1.cell 0;have z1:=B1.cell 1;have b0:=((B1.set 0 (.int .u64 0)).set 1 (.int .u64 0)).cell 0;have b1:=((B1.set 0 (.int .u64 0)).set 1 (.int .u64 0)).cell 1;simp at z0 z1 b0 b1
 go_wp2_with fail
 have T5:Touch (· = w.heap.size) w1 ((w1.setCell ⟨w.heap.size,0,none⟩ (.int .u64 0)).setCell ⟨w.heap.size,1,none⟩ (.int .u64 0)):=(Touch.cellAt w1 w.heap.size 0 (.int .u64 0)).trans (Touch.cellAt _ w.heap.size 1 (.int .u64 0));exact bodyPost_ret (v:=.tuple #[.agg #[.int .u64 0,.int .u64 0],.bool false]) (by simp [results,Tryz.results110,go_sem,b0,b1]) rfl ⟨rfl,T1.trans' T5 (fun i hi e=>by omega)⟩
theorem ze (hb pb sb mb base p i d:Nat) (pg:Pg) (w:World)
  (c2:w.cell? ⟨hb,2,none⟩=some (.int .u64 base)) (c5:w.cell? ⟨hb,5,none⟩=some (.pointer (some ⟨pb,0,none⟩))) (pK:hb<w.heap.size) (E:Nat) (h1:¬(p<base)) (h2:p<E)
  (hS:∀ W,Touch Nothing w W→Calls Tryz.prog 60 #[.pointer (some ⟨pb,0,none⟩)] W fun e w'=>e=.returned (.pointer (some ⟨sb,0,none⟩))∧W=w')
  (hE:∀ W,Touch Nothing w W→Calls Tryz.prog 61 #[.pointer (some ⟨sb,0,none⟩)] W fun e w'=>e=.returned (.int .u64 E)∧∃ k,w'=W.drewN k)
  (hM:∀ W,Touch Nothing w W→Calls Tryz.prog 63 #[.pointer (some ⟨pb,0,none⟩)] W fun e w'=>e=.returned (.pointer (some ⟨mb,0,none⟩))∧W=w')
  (hA:∀ W,Touch Nothing w W→Calls Tryz.prog 65 #[.pointer (some ⟨mb,0,none⟩),.int .i64 i] W fun e w'=>e=.returned (.tuple #[pg.val,.bool true])∧Touch Nothing W w')
  (hk2:pg.kind≠2) (hk3:pg.kind≠3) (hk4:pg.kind≠4)
  (e1:(p:Int)-base=(d:Nat)) (Aj:(d:Int)/4096=i) (hi:i≤1023) (hp:p≤18446744073709551615) :
  Calls Tryz.prog 110 #[.pointer (some ⟨hb,0,none⟩),.int .u64 p] w (Blocked w 0 0 false):=by
 have T0:=Hd (show Touch Nothing w (w.alloc (.cells #[.int .u64 0,.int .u64 0] 71)) from (Touch.refl _ _).alloc _);have HS:=Hd hS;have HE:=Hd hE;have HM:=Hd hM;have HA:=Hd hA;clear hS hE hM hA
 go_enter Tryz.func110,Tryz.ntmps110
 go_wp2_with fail
 refine (HS.out _ T0.out).mono ?_
 rintro e w1 ⟨rfl,rfl⟩
 go_wp2_with fail
 refine (HE.out _ T0.out).mono ?_
 rintro e w1 ⟨rfl,k1,rfl⟩
 go_wp2_with fail
 have T1:Touch Nothing w ((w.alloc (.cells #[.int .u64 0,.int .u64 0] 71)).drewN k1):=T0.out.drewN k1;have B1:=(aC.new w #[.int .u64 0,.int .u64 0] 71).drewN k1;have d5:((w.alloc (.cells #[.int .u64 0,.int .u64 0] 71)).drewN k1).cell? ⟨hb,5,none⟩=some (.pointer (some ⟨pb,0,none⟩)):=(T1.cell (p:=⟨hb,5,none⟩) pK (fun h=>h)).trans c5;refine (HM.out _ T1).mono ?_
 rintro e w2 ⟨rfl,rfl⟩;have HT1:=Hd T1;have HB1:=Hd B1;clear T1 B1
 go_wp2_with fail
 refine (HA.out _ HT1.out).mono ?_
 rintro e w2 ⟨rfl,T2⟩;have B2:=HB1.out.touch T2 (fun h=>h);have f0:=B2.free 0;have f1:=B2.free 1;have b0:=B2.cell 0;have b1:=B2.cell 1;have lb:w.heap.size<w2.heap.size:=B2.lt;have HB2:=Hd B2;have HT2:=Hd (HT1.out.trans T2);simp at b0 b1;clear B2 T2 d5;unfold Pg.val;have B3:=((HB2.out.set 0 (.int .u64 0)).set 1 (.int .u64 0)).alloc (.cells #[.int .i64 pg.kind,.int .i64 pg.order,.int .i64 pg.cls,.int .i64 pg.live,.int .i64 pg.next,.int .i64 pg.prev,.int .i64 pg.first,.int .u64 pg.b0,.int .u64 pg.b1,.int .u64 pg.b2,.int .u64 pg.b3] 128);have b0':=B3.cell 0;have b1':=B3.cell 1;simp at b0' b1';clear B3
 go_wp2_with fail
 have T5:∀ w3:World,Touch (· = w.heap.size) w3 ((w3.setCell ⟨w.heap.size,0,none⟩ (.int .u64 0)).setCell ⟨w.heap.size,1,none⟩ (.int .u64 0)):=fun w3=>(Touch.cellAt w3 w.heap.size 0 (.int .u64 0)).trans (Touch.cellAt _ w.heap.size 1 (.int .u64 0))
 exact bodyPost_ret (v:=.tuple #[.agg #[.int .u64 0,.int .u64 0],.bool false]) (by simp [results,Tryz.results110,go_sem,b0',b1']) rfl ⟨rfl,(HT2.out.trans' (T5 _) (fun i hi e=>by omega)).alloc _⟩
theorem Av (hb pb sb mb base p i d o a P S y:Nat) (pg:Pg) (w:World)
  (c2:w.cell? ⟨hb,2,none⟩=some (.int .u64 base)) (c5:w.cell? ⟨hb,5,none⟩=some (.pointer (some ⟨pb,0,none⟩))) (pK:hb<w.heap.size) (E:Nat) (h1:¬(p<base)) (h2:p<E)
  (hS:∀ W,Touch Nothing w W→Calls Tryz.prog 60 #[.pointer (some ⟨pb,0,none⟩)] W fun e w'=>e=.returned (.pointer (some ⟨sb,0,none⟩))∧W=w')
  (hE:∀ W,Touch Nothing w W→Calls Tryz.prog 61 #[.pointer (some ⟨sb,0,none⟩)] W fun e w'=>e=.returned (.int .u64 E)∧∃ k,w'=W.drewN k)
  (hM:∀ W,Touch Nothing w W→Calls Tryz.prog 63 #[.pointer (some ⟨pb,0,none⟩)] W fun e w'=>e=.returned (.pointer (some ⟨mb,0,none⟩))∧W=w')
  (hA:∀ W,Touch Nothing w W→Calls Tryz.prog 65 #[.pointer (some ⟨mb,0,none⟩),.int .i64 i] W fun e w'=>e=.returned (.tuple #[pg.val,.bool true])∧Touch Nothing W w')
  (hH:∀ W,Touch Nothing w W→Calls Tryz.prog 168 #[.pointer (some ⟨mb,0,none⟩),.int .i64 i] W fun e w'=>e=.returned (.int .i64 a)∧Touch Nothing W w')
  (hk:pg.kind=2∨pg.kind=3) (ho:pg.order=o) (hmin:min o 64=o) (_ho0:(0:Int)≤o) (hS1:IntKind.u64.wrap (4096*2^o)=(S:Int))
  (e1:(p:Int)-base=(d:Nat)) (Aj:(d:Int)/4096=i) (hi:i≤1023) (_hp:p≤18446744073709551615)
  (ha:a≤1023) (ey:(a:Int)*4096=y) (hy:y≤4194304) (eP:(base:Int)+y=P) (hP:P≤18446744073709551615) :
  Calls Tryz.prog 110 #[.pointer (some ⟨hb,0,none⟩),.int .u64 p] w (Blocked w P S true):=by
 have T0:=Hd (show Touch Nothing w (w.alloc (.cells #[.int .u64 0,.int .u64 0] 71)) from (Touch.refl _ _).alloc _);have HS:=Hd hS;have HE:=Hd hE;have HM:=Hd hM;have HA:=Hd hA;have HH:=Hd hH;clear hS hE hM hA hH
 go_enter Tryz.func110,Tryz.ntmps110
 go_wp2_with fail
 refine (HS.out _ T0.out).mono ?_
 rintro e w1 ⟨rfl,rfl⟩
 go_wp2_with fail
 refine (HE.out _ T0.out).mono ?_
 rintro e w1 ⟨rfl,k1,rfl⟩
 go_wp2_with fail
 have T1:Touch Nothing w ((w.alloc (.cells #[.int .u64 0,.int .u64 0] 71)).drewN k1):=T0.out.drewN k1;have B1:=(aC.new w #[.int .u64 0,.int .u64 0] 71).drewN k1;have d5:((w.alloc (.cells #[.int .u64 0,.int .u64 0] 71)).drewN k1).cell? ⟨hb,5,none⟩=some (.pointer (some ⟨pb,0,none⟩)):=(T1.cell (p:=⟨hb,5,none⟩) pK (fun h=>h)).trans c5;refine (HM.out _ T1).mono ?_
 rintro e w2 ⟨rfl,rfl⟩;have HT1:=Hd T1;have HB1:=Hd B1;clear T1 B1
 go_wp2_with fail
 refine (HA.out _ HT1.out).mono ?_
 rintro e w2 ⟨rfl,T2⟩;have HB2:=Hd (HB1.out.touch T2 (fun h=>h));have HT2:=Hd (HT1.out.trans T2);have acP:hb<w2.heap.size:=Nat.lt_of_lt_of_le pK HT2.out.size;have d5':w2.cell? ⟨hb,5,none⟩=some (.pointer (some ⟨pb,0,none⟩)):=(HT2.out.cell (p:=⟨hb,5,none⟩) pK (fun h=>h)).trans c5;clear T2 d5;unfold Pg.val;rw [ho];rcases hk with hk | hk
 all_goals
  rw [hk]
  go_wp2_with fail
  have B3:=Hd (aC.new w2 #[.int .i64 pg.kind,.int .i64 o,.int .i64 pg.cls,.int .i64 pg.live,.int .i64 pg.next,.int .i64 pg.prev,.int .i64 pg.first,.int .u64 pg.b0,.int .u64 pg.b1,.int .u64 pg.b2,.int .u64 pg.b3] 128);have T3:=(Touch.refl Nothing w2).alloc (.cells #[.int .i64 pg.kind,.int .i64 o,.int .i64 pg.cls,.int .i64 pg.live,.int .i64 pg.next,.int .i64 pg.prev,.int .i64 pg.first,.int .u64 pg.b0,.int .u64 pg.b1,.int .u64 pg.b2,.int .u64 pg.b3] 128);rw [hk] at B3 T3;have HT3:=Hd (HT2.out.trans T3);have HB3:=Hd (HB2.out.touch T3 (fun h=>h));clear T3;generalize hW:w2.alloc (.cells #[.int .i64 _,.int .i64 o,.int .i64 pg.cls,.int .i64 pg.live,.int .i64 pg.next,.int .i64 pg.prev,.int .i64 pg.first,.int .u64 pg.b0,.int .u64 pg.b1,.int .u64 pg.b2,.int .u64 pg.b3] 128)=w3 at *;have d5:w3.cell? ⟨hb,5,none⟩=some (.pointer (some ⟨pb,0,none⟩)):=(HT3.out.cell (p:=⟨hb,5,none⟩) pK (fun h=>h)).trans c5;refine (HM.out _ HT3.out).mono ?_
  rintro e w4 ⟨rfl,rfl⟩
  go_wp2_with fail
  refine (HH.out _ HT3.out).mono ?_
  rintro e w4 ⟨rfl,T4⟩;have eu:=Hd (HT3.out.trans T4);have B4:=HB3.out.touch T4 (fun h=>h);have b0:=B4.cell 0;have b1:=B4.cell 1;have f0:=B4.free 0;have f1:=B4.free 1;have C4:=B3.out.touch T4 (fun h=>h);have g0:=C4.cell 1;have lw:=B4.lt;have jX:=Hd ((B4.set 0 (.int .u64 P)).set 1 (.int .u64 S));simp at b0 b1 g0;clear B4 C4 T4 d5;have d2:w4.cell? ⟨hb,2,none⟩=some (.int .u64 base):=(eu.out.cell (p:=⟨hb,2,none⟩) pK (fun h=>h)).trans c2
  go_wp2_with fail
  go_region
  all_goals
   go_wp2_with fail
   have d0:=jX.out.drew.cell 0;have d1:=jX.out.drew.cell 1;simp at d0 d1;have T5:Touch (· = w.heap.size) w4 ((w4.setCell ⟨w.heap.size,0,none⟩ (.int .u64 P)).setCell ⟨w.heap.size,1,none⟩ (.int .u64 S)).drew:=((Touch.cellAt w4 w.heap.size 0 (.int .u64 P)).trans (Touch.cellAt _ w.heap.size 1 (.int .u64 S))).drew;exact bodyPost_ret (v:=.tuple #[.agg #[.int .u64 P,.int .u64 S],.bool true]) (by simp [results,Tryz.results110,go_sem,d0,d1]) rfl ⟨rfl,eu.out.trans' T5 (fun i hi e=>by omega)⟩
theorem ak.Pk {m:Int} {w:World} {hb s pb:Nat} {K:ay} {β:Bu} {ps:List Int} (R:ak m w hb s pb K β ps) (p:Nat) (h1:β.σ.base≤p) (h2:β.σ.base+β.σ.size*β.σ.n≤p) :
  Calls Tryz.prog 110 #[.pointer (some ⟨hb,0,none⟩),.int .u64 p] w (Blocked w 0 0 false):=by
 obtain ⟨-,c2,-,c5,-,-⟩:=R.cells;exact BH hb pb K.L.sb β.σ.base p w c2 c5 R.blk.lt _ (by omega) h2 (fun W T=>(R.sl.po.aj T).gM) (fun W T=>(R.sl.po.aj T).bu.sp.end_)
theorem ak.JD {m:Int} {w:World} {hb s pb:Nat} {K:ay} {β:Bu} {ps:List Int} (R:ak m w hb s pb K β ps) (p i:Nat) {pg:Pg} (hi:β.μ.pages[i]? = some pg) (hk:pg.kind≠2∧pg.kind≠3∧pg.kind≠4)
  (h1:β.σ.base≤p) (h2:p<β.σ.base+β.σ.size*β.σ.n) (h3:(p-β.σ.base)/4096=i) (hp:p<18446744073709551616) :
  Calls Tryz.prog 110 #[.pointer (some ⟨hb,0,none⟩),.int .u64 p] w (Blocked w 0 0 false):=by
 obtain ⟨-,c2,-,c5,-,-⟩:=R.cells;have hlt:=(List.getElem?_eq_some_iff.1 hi).1;have hlen:=R.sl.po.bu.mp.ok.len
 exact ze hb pb K.L.sb K.M.mb β.σ.base p i (p-β.σ.base) pg w c2 c5 R.blk.lt _ (by omega) h2 (fun W T=>(R.sl.po.aj T).gM) (fun W T=>(R.sl.po.aj T).bu.sp.end_) (fun W T=>(R.sl.po.aj T).jQ)
  (fun W T=>(R.sl.po.aj T).bu.mp.at_ hi) hk.1 hk.2.1 hk.2.2 (by omega) (by omega) (by omega) (by omega)
theorem ak.Mh {m:Int} {w:World} {hb s pb:Nat} {K:ay} {β:Bu} {ps:List Int} (R:ak m w hb s pb K β ps) (p i o:Nat) {pg:Pg} (hi:β.μ.pages[i]? = some pg) (hk:pg.kind=2∨pg.kind=3) (ho:pg.order=o)
  (h1:β.σ.base≤p) (h2:p<β.σ.base+β.σ.size*β.σ.n) (h3:(p-β.σ.base)/4096=i) (hp:p<18446744073709551616) :
  Calls Tryz.prog 110 #[.pointer (some ⟨hb,0,none⟩),.int .u64 p] w (Blocked w (β.addr (i/2^o*2^o)) (4096*2^o) true):=by
 obtain ⟨-,c2,-,c5,-,-⟩:=R.cells;have hlt:=(List.getElem?_eq_some_iff.1 hi).1;have hlen:=R.sl.po.bu.mp.ok.len;have h8:=(R.sl.po.bu.mp.ok.page pg (List.mem_of_getElem? hi)).order;have qG:o≤8:=by omega
 have hle:i/2^o*2^o≤i:=Nat.div_mul_le_self _ _;have htop:=R.sl.po.bu.ok.dZ R.sl.po.bu.sp.ok hlt;unfold Bu.addr at htop ⊢
 refine Av hb pb K.L.sb K.M.mb β.σ.base p i (p-β.σ.base) o (i/2^o*2^o) _ _ (4096*(i/2^o*2^o)) pg w c2 c5 R.blk.lt _ (by omega) h2 (fun W T=>(R.sl.po.aj T).gM) (fun W T=>(R.sl.po.aj T).bu.sp.end_) (fun W T=>(R.sl.po.aj T).jQ)
  (fun W T=>(R.sl.po.aj T).bu.mp.at_ hi) (fun W T=>(R.sl.po.aj T).bu.mp.XF hi o ho) hk ho (by omega) (by omega) (oK qG) (by omega) (by omega) (by omega) (by omega) (by omega) ?_ ?_ ?_ ?_
 all_goals
  generalize i/2^o*2^o=y at *;omega
end Go.Proofs.YtnjcmcnjgdjbiaaGreatDoor
namespace Go.Proofs.YtnjcmcnjgdjbiaaGreatDoor
def nx (σ:Sp) (b i:Nat):Nat:=σ.word (b+4096*i)
def pv (σ:Sp) (b i:Nat):Nat:=σ.word (b+4096*i+8)
theorem uU (σ:Sp) (p v:Nat) (hv:v<18446744073709551616):(σ.aQ p v).word p=v:=Sp.Cz σ p v hv
theorem lY (σ:Sp) (p v q:Nat) (h:q+8≤p∨p+8≤q):(σ.aQ p v).word q=σ.word q:=Sp.EF σ p q _ h
theorem BI (σ:Sp) (b i j v:Nat) (hv:v<18446744073709551616):nx (σ.aQ (b+4096*i) v) b j=if j=i then v else nx σ b j:=by
 unfold nx;split
 ·next h=>subst h;exact uU _ _ _ hv
 ·next h=>exact lY _ _ _ _ (by omega)
theorem BJ (σ:Sp) (b i j v:Nat):pv (σ.aQ (b+4096*i) v) b j=pv σ b j:=by
 unfold pv;exact lY _ _ _ _ (by omega)
theorem xS (σ:Sp) (b i j v:Nat):nx (σ.aQ (b+4096*i+8) v) b j=nx σ b j:=by
 unfold nx;exact lY _ _ _ _ (by omega)
theorem xU (σ:Sp) (b i j v:Nat) (hv:v<18446744073709551616):pv (σ.aQ (b+4096*i+8) v) b j=if j=i then v else pv σ b j:=by
 unfold pv;split
 ·next h=>subst h;exact uU _ _ _ hv
 ·next h=>exact lY _ _ _ _ (by omega)
def DL (σ:Sp) (b:Nat):Nat→Nat→List Nat→Prop
 | _,h,[]=>h=0
 | pr,h,i::t=>h=b+4096*i∧pv σ b i=pr∧DL σ b (b+4096*i) (nx σ b i) t
theorem DL.congr {σ σ':Sp} {b:Nat}:∀ {l:List Nat} {pr h:Nat},(∀ i∈l,nx σ' b i=nx σ b i∧pv σ' b i=pv σ b i)→DL σ b pr h l→DL σ' b pr h l
 | [],_,_,_,D=>D
 | i::t,pr,h,H,D=>by
  obtain ⟨h1,h2⟩:=H i (by simp);refine ⟨D.1,h2.trans D.2.1,?_⟩;rw [h1];exact DL.congr (fun j hj=>H j (by simp [hj])) D.2.2
theorem DL.Aw {σ σ':Sp} {b pr pr' h:Nat}:∀ {l:List Nat},(∀ i∈l,nx σ' b i=nx σ b i)→(∀ i∈l.tail,pv σ' b i=pv σ b i)→(∀ i∈l.head?,pv σ' b i=pr')→DL σ b pr h l→DL σ' b pr' h l
 | [],_,_,_,D=>D
 | i::t,hn,hp,hh,D=>by
  refine ⟨D.1,hh i (by simp),?_⟩;rw [hn i (by simp)];exact DL.congr (fun j hj=>⟨hn j (by simp [hj]),hp j (by simpa using hj)⟩) D.2.2
theorem rO (σ:Sp) (b h i j:Nat) (h64:h<18446744073709551616) (hh:h=0∨∃ k,h=b+4096*k):nx (pushed σ h (b+4096*i)) b j=if j=i then h else nx σ b j:=by
 unfold pushed;split
 ·rw [xS,BI _ _ _ _ _ h64]
 ·rcases hh with e | ⟨k,e⟩
  ·contradiction
  ·rw [show (σ.aQ (b+4096*i) h |>.aQ (b+4096*i+8) 0).aQ (h+8) (b+4096*i)=(σ.aQ (b+4096*i) h |>.aQ (b+4096*i+8) 0).aQ (b+4096*k+8) (b+4096*i) by rw [e],xS,xS,BI _ _ _ _ _ h64]
theorem rP (σ:Sp) (b h i j:Nat) (hi:b+4096*i<18446744073709551616) (hh:h=0∨∃ k,k≠i∧h=b+4096*k):pv (pushed σ h (b+4096*i)) b j=if j=i then 0 else if h=b+4096*j∧h≠0 then b+4096*i else pv σ b j:=by
 unfold pushed;split
 ·next h0 =>
  rw [xU _ _ _ _ _ (by omega),BJ];simp [h0]
 ·next h0 =>
  rcases hh with e | ⟨k,hk,e⟩
  ·contradiction
  ·subst e;rw [xU _ _ _ _ _ hi,xU _ _ _ _ _ (by omega),BJ];by_cases e1:j=k
   ·subst e1;rw [if_pos rfl,if_neg hk,if_pos ⟨rfl,h0⟩]
   ·by_cases e2:j=i
    ·subst e2;simp [e1]
    ·have:¬(b+4096*k=b+4096*j):=by omega
     rw [if_neg e1,if_neg e2,if_neg e2,if_neg (fun h=>this h.1)]
theorem DL.Mi {σ:Sp} {b k:Nat} (b0:0<b):∀ {l:List Nat} {pr h:Nat},pr≠0→DL σ b pr h l→k∈l→pv σ b k≠0
 | [],_,_,_,_,hk=>by simp at hk
 | i::t,pr,h,hp,D,hk=>by
  rcases List.mem_cons.1 hk with rfl | hk
  ·rw [D.2.1];exact hp
  ·exact DL.Mi b0 (by omega) D.2.2 hk
theorem DL.push {σ:Sp} {b h i:Nat} {l:List Nat} (b0:0<b) (hi:i∉l) (top:∀ j∈i::l,b+4096*j<18446744073709551616) (D:DL σ b 0 h l):DL (pushed σ h (b+4096*i)) b 0 (b+4096*i) (i::l):=by
 have hh:h=0∨∃ k,k≠i∧h=b+4096*k∧k∈l:=by
  cases l with
  | nil=>exact .inl D
  | cons k t=>exact .inr ⟨k,fun e=>hi (by simp [e]),D.1,by simp⟩
 have Ez:h=0∨∃ k,h=b+4096*k:=hh.imp id (fun ⟨k,_,e,_⟩=>⟨k,e⟩);have Ik:h=0∨∃ k,k≠i∧h=b+4096*k:=hh.imp id (fun ⟨k,n,e,_⟩=>⟨k,n,e⟩)
 have h64:h<18446744073709551616:=by
  rcases hh with e | ⟨k,_,e,hk⟩
  ·omega
  ·rw [e];exact top k (by simp [hk])
 have Pm:=top i (by simp);refine ⟨rfl,?_,?_⟩
 ·rw [rP σ b h i i Pm Ik];simp
 ·rw [rO σ b h i i h64 Ez];simp only [if_true];cases l with
  | nil=>exact D
  | cons k t =>
   have hki:k≠i:=fun e=>hi (by simp [e])
   have hh0:=D.1;refine ⟨D.1,?_,?_⟩
   ·rw [rP σ b h i k Pm Ik];simp only [hki,if_false];rw [if_pos ⟨hh0,by omega⟩]
   ·rw [rO σ b h i k h64 Ez];simp only [hki,if_false];by_cases hkt:k∈t
    ·-- a list with a page twice has no end
     exact (DL.Mi b0 (by omega) D.2.2 hkt D.2.1).elim
    ·refine DL.congr (fun j hj=>?_) D.2.2;have hji:j≠i:=fun e=>hi (by simp [e▸hj])
     have hjk:j≠k:=fun e=>hkt (e▸hj)
     rw [rO σ b h i j h64 Ez,rP σ b h i j Pm Ik];have:¬(h=b+4096*j∧h≠0):=by omega
     simp [hji,this]
theorem j3 {α:Type} {l:List α} (h:l≠[]):∃ u,l.getLast? = some u:=by
 cases hl:l.getLast? with
 | none=>exact (h (List.getLast?_eq_none_iff.1 hl)).elim
 | some u=>exact ⟨u,rfl⟩
def hdP (b:Nat):List Nat→Nat
 | []=>0
 | y::_=>b+4096*y
def RN (b pr:Nat) (l:List Nat):Nat:=match l.getLast? with | none=>pr | some y=>b+4096*y
theorem kX {b pr y:Nat} {l:List Nat} (h:l.getLast? = some y):RN b pr l=b+4096*y:=by unfold RN;rw [h]
theorem DL.nL {σ:Sp} {b x:Nat} {t:List Nat}:∀ {a:List Nat} {pr h:Nat},DL σ b pr h (a++x::t)→pv σ b x=RN b pr a
 | [],_,_,D=>D.2.1
 | [y],_,_,D=>D.2.2.2.1
 | y::z::a,pr,h,D=>by
  have:=DL.nL (a:=z::a) D.2.2;obtain ⟨u,hu⟩:=j3 (l:=z::a) (by simp);rw [this,kX hu,kX ((List.getLast?_cons_cons).trans hu)]
theorem DL.ER {σ:Sp} {b x y:Nat} {t:List Nat}:∀ {a:List Nat} {pr h:Nat},DL σ b pr h (a++y::x::t)→nx σ b y=b+4096*x
 | [],_,_,D=>D.2.2.1
 | _::a,_,_,D=>DL.ER (a:=a) D.2.2
theorem DL.YM {σ:Sp} {b x:Nat}:∀ {a:List Nat} {pr h:Nat},DL σ b pr h (a++[x])→nx σ b x=0
 | [],_,_,D=>D.2.2
 | _::a,_,_,D=>DL.YM (a:=a) D.2.2
theorem DL.lZ {σ:Sp} {b x:Nat} {a t:List Nat} {pr h:Nat} (D:DL σ b pr h (a++x::t)):nx σ b x=hdP b t:=by
 cases t with
 | nil=>exact DL.YM D
 | cons y t=>exact DL.ER D
theorem uV (σ:Sp) (b next prev j:Nat) (n64:next<18446744073709551616) (hn:next=0∨∃ k,next=b+4096*k) (hp:prev=0∨∃ k,prev=b+4096*k) :
  nx (removed σ next prev) b j=if prev=b+4096*j∧prev≠0 then next else nx σ b j:=by
 have h1:nx (cK σ next prev) b j=if prev=b+4096*j∧prev≠0 then next else nx σ b j:=by
  unfold cK;split
  ·next h=>simp [h]
  ·next h =>
   obtain ⟨k,e⟩:=hp.resolve_left h;subst e;rw [BI _ _ _ _ _ n64];by_cases e:j=k
   ·subst e;rw [if_pos rfl,if_pos ⟨rfl,h⟩]
   ·have:¬(b+4096*k=b+4096*j):=by omega
    rw [if_neg e,if_neg (fun h=>this h.1)]
 unfold removed;split
 ·exact h1
 ·next h =>
  obtain ⟨k,e⟩:=hn.resolve_left h;rw [←h1];generalize cK σ next prev=τ;rw [e,xS]
theorem qb (σ:Sp) (b next prev j:Nat) (p64:prev<18446744073709551616) (hn:next=0∨∃ k,next=b+4096*k) (hp:prev=0∨∃ k,prev=b+4096*k) :
  pv (removed σ next prev) b j=if next=b+4096*j∧next≠0 then prev else pv σ b j:=by
 have h1:pv (cK σ next prev) b j=pv σ b j:=by
  unfold cK;split
  ·rfl
  ·next h =>
   obtain ⟨k,e⟩:=hp.resolve_left h;rw [e,BJ]
 unfold removed;split
 ·next h=>rw [h1];simp [h]
 ·next h =>
  obtain ⟨k,e⟩:=hn.resolve_left h;rw [←h1];generalize cK σ next prev=τ;rw [e,xU _ _ _ _ _ p64];rw [e] at h;by_cases e:j=k
  ·subst e;rw [if_pos rfl,if_pos ⟨rfl,h⟩]
  ·have:¬(b+4096*k=b+4096*j):=by omega
   rw [if_neg e,if_neg (fun h=>this h.1)]
theorem DL.remove {σ:Sp} {b x next prev:Nat} {t:List Nat} (b0:0<b) (hnx:next=nx σ b x) (hpv:prev=pv σ b x) (n64:next<18446744073709551616) (p64:prev<18446744073709551616) :
  ∀ {a:List Nat} {pr h:Nat},DL σ b pr h (a++x::t)→(a++x::t).Nodup→(pr=0∨∃ q,pr=b+4096*q∧q∉a++x::t)→DL (removed σ next prev) b pr (if a = [] then next else h) (a++t)
 | [],pr,h,D,N,hq=>by
  have hn:=D.lZ (a:=[]);have hp:prev=pr:=hpv.trans D.2.1;rw [←hnx] at hn
  have hn':next=0∨∃ k,next=b+4096*k:=by
   cases t with
   | nil=>exact .inl hn
   | cons y t=>exact .inr ⟨y,hn⟩
  have hp':prev=0∨∃ k,prev=b+4096*k:=by rw [hp];exact hq.imp id (fun ⟨q,e,_⟩=>⟨q,e⟩)
  have D2:=D.2.2;rw [←hnx] at D2;simp only [if_true,List.nil_append];simp only [List.nil_append,List.nodup_cons] at N;refine DL.Aw (fun i hi=>?_) (fun i hi=>?_) (fun i hi=>?_) D2
  ·rw [uV _ _ _ _ _ n64 hn' hp'];rw [if_neg];rintro ⟨e,ne⟩;rcases hq with e0 | ⟨q,eq,hq⟩
   ·exact ne (hp.trans e0)
   ·have:q=i:=by omega
    exact hq (by simp [this,hi])
  ·rw [qb _ _ _ _ _ p64 hn' hp'];rw [if_neg];rintro ⟨e,ne⟩;cases t with
   | nil=>simp at hi
   | cons y t =>
    have hn:next=b+4096*y:=hn;have:y=i:=by omega
    subst this;simp only [List.nodup_cons] at N;exact N.2.1 (by simpa using hi)
  ·rw [qb _ _ _ _ _ p64 hn' hp'];cases t with
   | nil=>simp at hi
   | cons y t =>
    obtain rfl:y=i:=by simpa using hi
    have hn:next=b+4096*y:=hn;rw [if_pos ⟨hn,by omega⟩,hp]
 | y::a,pr,h,D,N,hq=>by
  have hN:=N;simp only [List.cons_append,List.nodup_cons] at N;have ih:=DL.remove b0 hnx hpv n64 p64 (a:=a) D.2.2 N.2 (.inr ⟨y,rfl,N.1⟩);have hn:=DL.lZ (a:=y::a) D;have hp:=DL.nL (a:=y::a) D;rw [←hnx] at hn;rw [←hpv] at hp
  have hn':next=0∨∃ k,next=b+4096*k:=by
   cases t with
   | nil=>exact .inl hn
   | cons z t=>exact .inr ⟨z,hn⟩
  have hp':prev=0∨∃ k,prev=b+4096*k:=by
   obtain ⟨z,hz⟩:=j3 (l:=y::a) (by simp);rw [kX hz] at hp;exact .inr ⟨z,hp⟩
  have hyx:y≠x:=fun e=>N.1 (by simp [e])
  have VE:y∉t:=fun e=>N.1 (by simp [e])
  refine ⟨by simpa using D.1,?_,?_⟩
  ·rw [qb _ _ _ _ _ p64 hn' hp',if_neg,D.2.1];rintro ⟨e,ne⟩;cases t with
   | nil=>exact ne hn
   | cons z t =>
    have hn:next=b+4096*z:=hn;have:z=y:=by omega
    exact VE (by simp [this])
  ·rw [uV _ _ _ _ _ n64 hn' hp'];cases a with
   | nil =>
    have hp1:prev=b+4096*y:=hp;rw [if_pos ⟨hp1,by omega⟩];simpa using ih
   | cons z a =>
    rw [if_neg]
    ·simpa using ih
    rintro ⟨e,ne⟩;obtain ⟨u,hu⟩:=j3 (l:=z::a) (by simp);rw [kX ((List.getLast?_cons_cons).trans hu)] at hp;have hm:u∈z::a:=List.mem_of_getLast? hu;have:u=y:=by omega
    rw [this] at hm;exact N.1 (List.mem_append_left _ hm)
theorem DL.RO {σ:Sp} {b h x:Nat} {a t:List Nat} (b0:0<b) (D:DL σ b 0 h (a++x::t)) (N:(a++x::t).Nodup) :
  (pv σ b x=0↔b+4096*x=h)∧(pv σ b x≠0→∃ y∈a,pv σ b x=b+4096*y∧nx σ b y=b+4096*x)∧(nx σ b x≠0→∃ y∈t,nx σ b x=b+4096*y∧pv σ b y=b+4096*x)∧(pv σ b x=0↔a = []):=by
 have hp:=D.nL;have hn:=D.lZ;refine ⟨?_,?_,?_,?_⟩
 ·cases a with
  | nil =>
   have h1:pv σ b x=0:=hp;have h2:=D.1;simp [h1,h2]
  | cons y a =>
   have h1:=D.1;obtain ⟨z,hz⟩:=j3 (l:=y::a) (by simp);rw [kX hz] at hp
   have h2:y≠x:=by
    rintro rfl;simp at N
   constructor
   ·intro e;omega
   ·intro e;omega
 ·intro ne;rcases List.eq_nil_or_concat a with rfl | ⟨a',y,rfl⟩
  ·exact (ne hp).elim
  ·refine ⟨y,by simp,?_,?_⟩
   ·rw [hp];exact kX (by simp)
   ·rw [List.concat_eq_append,List.append_assoc] at D;exact DL.ER D
 ·intro ne;cases t with
  | nil=>exact (ne hn).elim
  | cons y t =>
   refine ⟨y,by simp,hn,?_⟩;have D':DL σ b 0 h ((a++[x])++y::t):=by simpa using D
   exact D'.nL.trans (kX (by simp))
 ·cases a with
  | nil=>simpa [RN] using hp
  | cons y a =>
   obtain ⟨z,hz⟩:=j3 (l:=y::a) (by simp);rw [kX hz] at hp;simp;omega
theorem put_mem (σ:Sp) (p a:Nat) (bs:List Nat) (h:a<p∨p+bs.length≤a):(σ.put p bs).mem a=σ.mem a:=by
 unfold Sp.put;simp only;rw [if_neg (by omega)]
theorem gD (σ:Sp) (p v a:Nat) (h:a<p∨p+8≤a):(σ.aQ p v).mem a=σ.mem a:=put_mem σ p a _ h
theorem Ay (σ:Sp) (b h i x off:Nat) (ho:off<4096) (hi:x≠i) (hh:h=0∨∃ k,k≠x∧h=b+4096*k):(pushed σ h (b+4096*i)).mem (b+4096*x+off)=σ.mem (b+4096*x+off):=by
 unfold pushed;split
 ·rw [gD _ _ _ _ (by omega),gD _ _ _ _ (by omega)]
 ·rcases hh with e | ⟨k,hk,e⟩
  ·contradiction
  ·rw [gD _ _ _ _ (by omega),gD _ _ _ _ (by omega),gD _ _ _ _ (by omega)]
theorem GI (σ:Sp) (b next prev x off:Nat) (ho:off<4096) (hn:next=0∨∃ k,k≠x∧next=b+4096*k) (hp:prev=0∨∃ k,k≠x∧prev=b+4096*k):(removed σ next prev).mem (b+4096*x+off)=σ.mem (b+4096*x+off):=by
 have h1:(cK σ next prev).mem (b+4096*x+off)=σ.mem (b+4096*x+off):=by
  unfold cK;split
  ·rfl
  ·next h =>
   obtain ⟨k,hk,e⟩:=hp.resolve_left h;rw [gD _ _ _ _ (by omega)]
 unfold removed;split
 ·exact h1
 ·next h =>
  obtain ⟨k,hk,e⟩:=hn.resolve_left h;rw [gD _ _ _ _ (by omega),h1]
def Inb (a k x:Nat):Prop:=a≤x∧x<a+2^k
structure bf (ps:List Pg) (a k:Nat) (kd:Int):Prop where
 al:2^k∣a
 at_:∀ j,j<2^k→ps[a+j]? = some (bK kd k j)
theorem fF (k:Nat):0<2^k:=Nat.pow_pos (by omega)
theorem JE {a k x:Nat} (h:2^k∣a) (hx:Inb a k x):a=x/2^k*2^k:=by
 obtain ⟨m,rfl⟩:=h;have h1:=hx.1;have h2:=hx.2;have:x/2^k=m:=Nat.div_eq_of_lt_le (by rw [Nat.mul_comm];exact h1) (by rw [Nat.succ_mul,Nat.mul_comm];omega);rw [this,Nat.mul_comm]
theorem aS (a k:Nat):Inb a k a:=⟨Nat.le_refl _,by have:=fF k;omega⟩
theorem bf.page {ps:List Pg} {a k:Nat} {kd:Int} (h:bf ps a k kd) {x:Nat} (hx:Inb a k x):ps[x]? = some (bK kd k (x-a)):=by
 have:=h.at_ (x-a) (by have:=hx.1;have:=hx.2;omega);rwa [show a+(x-a)=x by have:=hx.1;omega] at this
theorem bf.le {ps:List Pg} {a k:Nat} {kd:Int} (h:bf ps a k kd):a+2^k≤ps.length:=by
 have:=fF k;have:=(List.getElem?_eq_some_iff.1 (h.at_ (2^k-1) (by omega))).1;omega
theorem bf.same {ps:List Pg} {a k a' k' x:Nat} {kd kd':Int} (h:bf ps a k kd) (h':bf ps a' k' kd') (hx:Inb a k x) (hx':Inb a' k' x):a=a'∧k=k'∧kd=kd':=by
 have e:=(h.page hx).symm.trans (h'.page hx');have e:=Option.some.inj e;have e1:((k:Nat):Int)=k':=congrArg Pg.order e;obtain rfl:k=k':=by omega
 have ea:a=a':=(JE h.al hx).trans (JE h'.al hx').symm;subst ea;refine ⟨rfl,rfl,?_⟩;have e2:(bK kd k (x-a)).kind=(bK kd' k (x-a)).kind:=congrArg Pg.kind e;simp only [bK,aD] at e2;split at e2 <;> omega
theorem bf.far {ps ps':List Pg} {a k:Nat} {kd:Int} (h:bf ps a k kd) (H:∀ x,Inb a k x→ps'[x]? = ps[x]?):bf ps' a k kd :=
 ⟨h.al,fun j hj=>(H (a+j) ⟨by omega,by omega⟩).trans (h.at_ j hj)⟩
def wM (o:Nat) (ps:List Pg) (H:Nat→Prop) (x:Nat):Prop :=
 (∃ a k,k≤o∧bf ps a k 2∧Inb a k x∧∀ y,H y→¬Inb a k y)∨∃ p,ps[x]? = some p∧p.kind=4∧p.order=0
structure BInv (β:Bu) (F:Nat→List Nat) (H:Nat→Prop):Prop where
 ord:β.μ.order≤8
 heads:β.heads.length=β.μ.order+1
 yL:β.μ.pairs.length=β.μ.order
 base:0<β.σ.base
 top:β.σ.base+4096*β.μ.pages.length<18446744073709551616
 full:2^β.μ.order∣β.μ.pages.length
 hole:∀ x,H x→x<β.μ.pages.length
 lists:∀ k,k≤β.μ.order→DL β.σ β.σ.base 0 (β.heads.getD k 0) (F k)
 nodup:∀ k,k≤β.μ.order→(F k).Nodup
 free:∀ k,k≤β.μ.order→∀ i∈F k,bf β.μ.pages i k 0
 apart:∀ k,k≤β.μ.order→∀ i∈F k,∀ x,H x→¬Inb i k x
 uW:∀ x,x<β.μ.pages.length→¬H x→(∃ k,k≤β.μ.order∧∃ h∈F k,Inb h k x)∨wM β.μ.order β.μ.pages H x
 xV:∀ k,k<β.μ.order→(β.μ.pairs.getD k ⟨0,[]⟩).n=β.μ.pages.length/2^(k+1)
 xW:∀ k,k<β.μ.order→(β.μ.pairs.getD k ⟨0,[]⟩).ws.length=((β.μ.pairs.getD k ⟨0,[]⟩).n+63)/64
 pair:∀ k,k<β.μ.order→∀ q,eZ (β.μ.pairs.getD k ⟨0,[]⟩).ws q=(decide (2*q*2^k∈F k) != decide ((2*q+1)*2^k∈F k))
 merged:∀ k,k<β.μ.order→∀ q,¬(2*q*2^k∈F k∧(2*q+1)*2^k∈F k)
def bE (o:Nat) (F:Nat→List Nat) (H:Nat→Prop) (x:Nat):Prop:=H x∨∃ k,k≤o∧∃ h∈F k,Inb h k x
structure Keeps (β β':Bu) (O:Nat→Prop):Prop where
 base:β'.σ.base=β.σ.base
 len:β'.μ.pages.length=β.μ.pages.length
 order:β'.μ.order=β.μ.order
 n:β'.σ.n=β.σ.n
 limit:β'.σ.limit=β.σ.limit
 size:β'.σ.size=β.σ.size
 so:β'.σ.order=β.σ.order
 page:∀ x,¬O x→β'.μ.pages[x]? = β.μ.pages[x]?
 byte:∀ x off,¬O x→off<4096→β'.σ.mem (β.σ.base+4096*x+off)=β.σ.mem (β.σ.base+4096*x+off)
 slab:∀ (x:Nat) (p:Pg),β'.μ.pages[x]? = some p→p.kind=4→β.μ.pages[x]? = some p
theorem Keeps.refl (β:Bu) (O:Nat→Prop):Keeps β β O:=⟨rfl,rfl,rfl,rfl,rfl,rfl,rfl,fun _ _=>rfl,fun _ _ _ _=>rfl,fun _ _ h _=>h⟩
theorem Keeps.trans {β β' β'':Bu} {O O':Nat→Prop} (h:Keeps β β' O) (k:Keeps β' β'' O') (hO:∀ x,O' x→O x):Keeps β β'' O :=
 ⟨k.base.trans h.base,k.len.trans h.len,k.order.trans h.order,k.n.trans h.n,k.limit.trans h.limit,k.size.trans h.size,k.so.trans h.so,
  fun x hx=>(k.page x (fun e=>hx (hO x e))).trans (h.page x hx),
  fun x off hx ho=>by
   have:=k.byte x off (fun e=>hx (hO x e)) ho;rw [h.base] at this;exact this.trans (h.byte x off hx ho),
  fun x p hp hk=>h.slab x p (k.slab x p hp hk) hk⟩
def upd (F:Nat→List Nat) (k:Nat) (l:List Nat):Nat→List Nat:=fun j=>if j=k then l else F j
theorem fG (F:Nat→List Nat) (k:Nat) (l:List Nat):upd F k l k=l:=by simp [upd]
theorem upd_ne (F:Nat→List Nat) {k j:Nat} (l:List Nat) (h:j≠k):upd F k l j=F j:=by simp [upd,h]
def dM (a k:Nat):Nat:=if a/2^k%2=0 then a+2^k else a-2^k
theorem wN {k x:Nat} (h:2^k∣x):x=2*(x/2^(k+1))*2^k∧x/2^k%2=0∨x=(2*(x/2^(k+1))+1)*2^k∧x/2^k%2=1:=by
 obtain ⟨m,rfl⟩:=h;have p:=fF k
 have e1:2^k*m/2^(k+1)=m/2:=by
  rw [Nat.pow_succ,Nat.mul_div_mul_left _ _ p]
 have e2:2^k*m/2^k=m:=Nat.mul_div_cancel_left _ p;rw [e1,e2];rcases Nat.mod_two_eq_zero_or_one m with h | h
 ·left;refine ⟨?_,h⟩;rw [Nat.mul_comm (2^k)]
  congr 1
  omega
 ·right;refine ⟨?_,h⟩;rw [Nat.mul_comm (2^k)]
  congr 1
  omega
theorem zf (k q:Nat):2*q*2^k/2^(k+1)=q∧(2*q+1)*2^k/2^(k+1)=q:=by
 have p:=fF k;rw [Nat.pow_succ,Nat.mul_comm _ (2^k),Nat.mul_comm _ (2^k),Nat.mul_div_mul_left _ _ p,Nat.mul_div_mul_left _ _ p];omega
theorem ES (k q:Nat):2*q*2^k/2^k=2*q∧(2*q+1)*2^k/2^k=2*q+1 :=
 ⟨Nat.mul_div_cancel _ (fF k),Nat.mul_div_cancel _ (fF k)⟩
theorem BK (k q:Nat):2*q*2^k≠(2*q+1)*2^k:=by
 intro e;have:=Nat.eq_of_mul_eq_mul_right (fF k) e;omega
theorem BL (k q:Nat):dM (2*q*2^k) k=(2*q+1)*2^k:=by
 unfold dM;rw [(ES k q).1,if_pos (by omega),Nat.add_mul,Nat.one_mul]
theorem xX (k q:Nat):dM ((2*q+1)*2^k) k=2*q*2^k:=by
 unfold dM;rw [(ES k q).2,if_neg (by omega),Nat.add_mul,Nat.one_mul];omega
theorem Mj {l l':List Nat} {k x q:Nat} {b:Bool} (h:2^k∣x) (hx:(x∈l) = ¬(x∈l')) (ho:∀ y,y≠x→(y∈l'↔y∈l)) (hb:b=(decide (2*q*2^k∈l) != decide ((2*q+1)*2^k∈l))) :
  (b != decide (q=x/2^(k+1)))=(decide (2*q*2^k∈l') != decide ((2*q+1)*2^k∈l')):=by
 subst hb;have hd:=zf k q;have hne:=BK k q;by_cases hq:q=x/2^(k+1)
 ·rcases wN h with ⟨e,_⟩ | ⟨e,_⟩
  ·rw [←hq] at e;have h2:=ho ((2*q+1)*2^k) (by rw [e];exact fun x=>hne x.symm);rw [←e];have hx':(x∈l)↔¬(x∈l'):=iff_of_eq hx;rw [show decide ((2*q+1)*2^k∈l')=decide ((2*q+1)*2^k∈l) from decide_eq_decide.2 h2,show decide (x∈l) = !decide (x∈l') by rw [←decide_not];exact decide_eq_decide.2 hx',decide_eq_true hq];cases decide (x∈l') <;> cases decide ((2*q+1)*2^k∈l) <;> rfl
  ·rw [←hq] at e;have h2:=ho (2*q*2^k) (by rw [e];exact hne);rw [←e];have hx':(x∈l)↔¬(x∈l'):=iff_of_eq hx;rw [show decide (2*q*2^k∈l')=decide (2*q*2^k∈l) from decide_eq_decide.2 h2,show decide (x∈l) = !decide (x∈l') by rw [←decide_not];exact decide_eq_decide.2 hx',decide_eq_true hq];cases decide (x∈l') <;> cases decide (2*q*2^k∈l) <;> rfl
 ·rw [decide_eq_false hq];have h1:=ho (2*q*2^k) (by rintro rfl;exact hq hd.1.symm);have h2:=ho ((2*q+1)*2^k) (by rintro rfl;exact hq hd.2.symm);have e1:decide (2*q*2^k∈l')=decide (2*q*2^k∈l):=decide_eq_decide.2 h1;have e2:decide ((2*q+1)*2^k∈l')=decide ((2*q+1)*2^k∈l):=decide_eq_decide.2 h2;rw [e1,e2,Bool.bne_false]
theorem kI (β:Bu) (i j:Nat):(β.turned i j).σ=β.σ∧(β.turned i j).heads=β.heads∧(β.turned i j).μ.pages=β.μ.pages∧(β.turned i j).μ.order=β.μ.order∧(β.turned i j).μ.pairs.length=β.μ.pairs.length:=by
 unfold Bu.turned;split
 ·exact ⟨rfl,rfl,rfl,rfl,rfl⟩
 ·exact ⟨rfl,rfl,rfl,rfl,by simp [Mp.flip]⟩
theorem ET (β:Bu) (i j k:Nat) (hk:k<β.μ.order) (hl:β.μ.pairs.length=β.μ.order):(β.turned i j).μ.pairs.getD k ⟨0,[]⟩=if k=j then (β.μ.pairs.getD k ⟨0,[]⟩).flip (i/2^(k+1)) else β.μ.pairs.getD k ⟨0,[]⟩:=by
 unfold Bu.turned;split
 ·rw [if_neg (by omega)]
 ·simp only [Mp.flip,List.getD_eq_getElem?_getD];split
  ·next e=>subst e;rw [List.getElem?_set_self (by omega)];simp
  ·next e=>rw [List.getElem?_set_ne (fun x=>e x.symm)]
theorem BInv.lt {β:Bu} {F:Nat→List Nat} {H:Nat→Prop} (I:BInv β F H) {k i:Nat} (hk:k≤β.μ.order) (hi:i∈F k):i+2^k≤β.μ.pages.length∧i<β.μ.pages.length:=by
 have:=(I.free k hk i hi).le;have:=fF k;omega
theorem BInv.one {β:Bu} {F:Nat→List Nat} {H:Nat→Prop} (I:BInv β F H) {k k' i i' x:Nat} (hk:k≤β.μ.order) (hi:i∈F k) (hk':k'≤β.μ.order) (hi':i'∈F k') (h:Inb i k x) (h':Inb i' k' x):i=i'∧k=k':=by
 have:=(I.free k hk i hi).same (I.free k' hk' i' hi') h h';exact ⟨this.1,this.2.1⟩
theorem BInv.qp {β:Bu} {F:Nat→List Nat} {H:Nat→Prop} (I:BInv β F H) {i:Nat} (h:i<β.μ.pages.length):β.σ.base+4096*i<18446744073709551616:=by
 have:=I.top;omega
theorem BInv.xY {β:Bu} {F:Nat→List Nat} {H:Nat→Prop} (I:BInv β F H) {k i:Nat} (hk:k<β.μ.order) (hi:i<β.μ.pages.length):i/2^(k+1)<(β.μ.pairs.getD k ⟨0,[]⟩).n:=by
 rw [I.xV k hk];have hd:2^(k+1)∣β.μ.pages.length:=Nat.dvd_trans (Nat.pow_dvd_pow 2 (by omega)) I.full;rw [Nat.div_lt_iff_lt_mul (fF _),Nat.div_mul_cancel hd];exact hi
theorem BInv.TY {β:Bu} {F:Nat→List Nat} {H:Nat→Prop} (I:BInv β F H) {k i:Nat} (hk:k<β.μ.order) (hi:i<β.μ.pages.length):i/2^(k+1)/64<(β.μ.pairs.getD k ⟨0,[]⟩).ws.length:=by
 have:=I.xY hk hi;rw [I.xW k hk];omega
theorem BInv.Az {β β':Bu} {F:Nat→List Nat} {H:Nat→Prop} (I:BInv β F H) (hp:β'.μ.pairs=β.μ.pairs) (ho:β'.μ.order=β.μ.order) {k x:Nat} {l':List Nat} (hx:2^k∣x) (hxl:x<β.μ.pages.length) (hm:(x∈F k) = ¬(x∈l')) (hl:∀ y,y≠x→(y∈l'↔y∈F k)) :
  ∀ j,j<β.μ.order→(((β'.turned x k).μ.pairs.getD j ⟨0,[]⟩).n=(β.μ.pairs.getD j ⟨0,[]⟩).n∧((β'.turned x k).μ.pairs.getD j ⟨0,[]⟩).ws.length=(β.μ.pairs.getD j ⟨0,[]⟩).ws.length ∧
   ∀ q,eZ ((β'.turned x k).μ.pairs.getD j ⟨0,[]⟩).ws q=(decide (2*q*2^j∈upd F k l' j) != decide ((2*q+1)*2^j∈upd F k l' j))):=by
 intro j hj;rw [ET β' x k j (by omega) (by rw [hp,ho];exact I.yL),hp];split
 ·next e =>
  subst e;rw [fG];refine ⟨rfl,by simp [gT.flip,rE],fun q=>?_⟩;rw [show ((β.μ.pairs.getD j ⟨0,[]⟩).flip (x/2^(j+1))).ws=rE (β.μ.pairs.getD j ⟨0,[]⟩).ws (x/2^(j+1)) from rfl,zO _ _ _ (I.TY hj hxl)];exact Mj hx hm hl (I.pair j hj q)
 ·next e =>
  rw [upd_ne _ _ e];exact ⟨rfl,rfl,I.pair j hj⟩
theorem tO (σ:Sp) (next prev:Nat):(removed σ next prev).base=σ.base∧(removed σ next prev).n=σ.n∧(removed σ next prev).limit=σ.limit∧(removed σ next prev).size=σ.size∧(removed σ next prev).order=σ.order:=by
 have h1:(cK σ next prev).base=σ.base∧(cK σ next prev).n=σ.n∧(cK σ next prev).limit=σ.limit∧(cK σ next prev).size=σ.size∧(cK σ next prev).order=σ.order:=by
  unfold cK;split <;> exact ⟨rfl,rfl,rfl,rfl,rfl⟩
 unfold removed;split
 ·exact h1
 ·exact h1
def Bu.bZ (β:Bu) (k x:Nat):Bu :=
 { β with σ:=removed β.σ (nx β.σ β.σ.base x) (pv β.σ β.σ.base x),heads:=β.heads.set k (if pv β.σ β.σ.base x=0 then nx β.σ β.σ.base x else β.heads.getD k 0) }
theorem jG (β:Bu) (k x:Nat):(β.bZ k x).μ=β.μ:=by unfold Bu.bZ;rfl
theorem Mk (β:Bu) (k x:Nat):(β.bZ k x).σ=removed β.σ (nx β.σ β.σ.base x) (pv β.σ β.σ.base x):=by unfold Bu.bZ;rfl
theorem EU (β:Bu) (k x:Nat):(β.bZ k x).heads=β.heads.set k (if pv β.σ β.σ.base x=0 then nx β.σ β.σ.base x else β.heads.getD k 0):=by unfold Bu.bZ;rfl
theorem pz (l:List Nat) (k v:Nat) (h:k<l.length):(l.set k v).getD k 0=v:=by
 rw [List.getD_eq_getElem?_getD,List.getElem?_set_self h];rfl
theorem getD_set_ne (l:List Nat) (k j v:Nat) (h:j≠k):(l.set k v).getD j 0=l.getD j 0:=by
 rw [List.getD_eq_getElem?_getD,List.getD_eq_getElem?_getD,List.getElem?_set_ne (fun x=>h x.symm)]
theorem BInv.links {β:Bu} {F:Nat→List Nat} {H:Nat→Prop} (I:BInv β F H) {k x:Nat} (hk:k≤β.μ.order) (hx:x∈F k) :
  (nx β.σ β.σ.base x=0∨∃ y∈F k,y≠x∧nx β.σ β.σ.base x=β.σ.base+4096*y∧pv β.σ β.σ.base y=β.σ.base+4096*x) ∧
  (pv β.σ β.σ.base x=0∨∃ y∈F k,y≠x∧pv β.σ β.σ.base x=β.σ.base+4096*y∧nx β.σ β.σ.base y=β.σ.base+4096*x) ∧
  (pv β.σ β.σ.base x=0↔β.σ.base+4096*x=β.heads.getD k 0):=by
 obtain ⟨a,t,hF⟩:=List.append_of_mem hx;have D:=I.lists k hk;have N:=I.nodup k hk;rw [hF] at D N ⊢;obtain ⟨h1,h2,h3,h4⟩:=D.RO I.base N;have N':=N;rw [List.nodup_append] at N;obtain ⟨_,N2,N3⟩:=N;refine ⟨?_,?_,h1⟩
 ·by_cases e:nx β.σ β.σ.base x=0
  ·exact .inl e
  ·obtain ⟨y,hy,e1,e2⟩:=h3 e;refine .inr ⟨y,by simp [hy],?_,e1,e2⟩;rintro rfl;simp only [List.nodup_cons] at N2;exact N2.1 hy
 ·by_cases e:pv β.σ β.σ.base x=0
  ·exact .inl e
  ·obtain ⟨y,hy,e1,e2⟩:=h2 e;refine .inr ⟨y,by simp [hy],?_,e1,e2⟩;rintro rfl;exact N3 y hy y (by simp) rfl
theorem BInv.bZ {β:Bu} {F:Nat→List Nat} {H:Nat→Prop} (I:BInv β F H) {k x:Nat} (hk:k≤β.μ.order) (hx:x∈F k) :
  BInv ((β.bZ k x).turned x k) (upd F k ((F k).erase x)) (fun y=>H y∨Inb x k y)∧Keeps β ((β.bZ k x).turned x k) (bE β.μ.order F H) ∧
  ∀ y,bE β.μ.order (upd F k ((F k).erase x)) (fun y=>H y∨Inb x k y) y↔bE β.μ.order F H y:=by
 have hB:=I.free k hk x hx;have hN:=I.nodup k hk;have hxl:=(I.lt hk hx).2;obtain ⟨l7,th,tp,bP,tl⟩:=kI (β.bZ k x) x k;rw [jG] at tp bP tl;rw [Mk] at l7;rw [EU] at th;have hlk:=I.links hk hx;have hn':nx β.σ β.σ.base x=0∨∃ y,nx β.σ β.σ.base x=β.σ.base+4096*y:=hlk.1.imp id (fun ⟨y,_,_,e,_⟩=>⟨y,e⟩);have hp':pv β.σ β.σ.base x=0∨∃ y,pv β.σ β.σ.base x=β.σ.base+4096*y:=hlk.2.1.imp id (fun ⟨y,_,_,e,_⟩=>⟨y,e⟩)
 have n64:nx β.σ β.σ.base x<18446744073709551616:=by
  rcases hlk.1 with e | ⟨y,hy,_,e,_⟩
  ·omega
  ·rw [e];exact I.qp (I.lt hk hy).2
 have p64:pv β.σ β.σ.base x<18446744073709551616:=by
  rcases hlk.2.1 with e | ⟨y,hy,_,e,_⟩
  ·omega
  ·rw [e];exact I.qp (I.lt hk hy).2
 have hme:∀ y,y∈(F k).erase x↔y≠x∧y∈F k:=fun y=>hN.mem_erase_iff
 have hsub:∀ j,∀ y∈upd F k ((F k).erase x) j,y∈F j:=by
  intro j y hy;unfold upd at hy;split at hy
  ·next e=>subst e;exact ((hme y).1 hy).2
  ·exact hy
 have hback:∀ j,∀ y∈F j,(j=k→y≠x)→y∈upd F k ((F k).erase x) j:=by
  intro j y hy hne;unfold upd;split
  ·next e=>subst e;exact (hme y).2 ⟨hne rfl,hy⟩
  ·exact hy
 have AA:=I.Az (β':=β.bZ k x) (by rw [jG]) (by rw [jG]) (x:=x) (k:=k) (l':=(F k).erase x) hB.al hxl (by simp [hme,hx]) (fun y hy=>by rw [hme];simp [hy]);obtain ⟨hbase,hsame⟩:=tO β.σ (nx β.σ β.σ.base x) (pv β.σ β.σ.base x);have hxu:∀ y,Inb x k y→bE β.μ.order F H y:=fun y hy=>.inr ⟨k,hk,x,hx,hy⟩
 refine ⟨?_,?_,?_⟩
 ·constructor
  ·rw [bP];exact I.ord
  ·rw [th,bP,List.length_set];exact I.heads
  ·rw [tl,bP];exact I.yL
  ·rw [l7,hbase];exact I.base
  ·rw [l7,hbase,tp];exact I.top
  ·rw [bP,tp];exact I.full
  ·rw [tp];rintro y (hy | hy)
   ·exact I.hole y hy
   ·have:=(I.lt hk hx).1;have:=hy.2;omega
  ·rw [bP,l7,th,hbase];intro j hj;by_cases e:j=k
   ·subst e;rw [fG,pz _ _ _ (by rw [I.heads];omega)];obtain ⟨a,t,hF⟩:=List.append_of_mem hx;have D:=I.lists j hk;have N:=hN;rw [hF] at D N;have h4:=(D.RO I.base N).2.2.2;have R:=DL.remove I.base rfl rfl n64 p64 D N (.inl rfl)
    have hxa:x∉a:=by
     intro h;rw [List.nodup_append] at N;exact N.2.2 x h x (by simp) rfl
    rw [hF,List.erase_append_right _ hxa];simp only [List.erase_cons_head];by_cases ha:a = []
    ·rw [if_pos (h4.2 ha)];rw [if_pos ha] at R;exact R
    ·rw [if_neg (fun e=>ha (h4.1 e))];rw [if_neg ha] at R;exact R
   ·rw [upd_ne _ _ e,getD_set_ne _ _ _ _ e];refine DL.congr (fun i hi=>?_) (I.lists j hj)
    have hne:∀ y∈F k,y≠i:=by
     rintro y hy rfl;exact e (I.one hj hi hk hy (aS _ _) (aS _ _)).2
    refine ⟨?_,?_⟩
    ·rw [uV _ _ _ _ _ n64 hn' hp',if_neg];rintro ⟨e1,e0⟩;rcases hlk.2.1 with h | ⟨y,hy,_,e2,_⟩
     ·exact e0 h
     ·exact hne y hy (by omega)
    ·rw [qb _ _ _ _ _ p64 hn' hp',if_neg];rintro ⟨e1,e0⟩;rcases hlk.1 with h | ⟨y,hy,_,e2,_⟩
     ·exact e0 h
     ·exact hne y hy (by omega)
  ·rw [bP];intro j hj;unfold upd;split
   ·exact hN.erase x
   ·exact I.nodup j hj
  ·rw [bP,tp];exact fun j hj y hy=>I.free j hj y (hsub j y hy)
  ·rw [bP];rintro j hj y hy z (hz | hz) hyz
   ·exact I.apart j hj y (hsub j y hy) z hz hyz
   ·obtain ⟨rfl,rfl⟩:=I.one hj (hsub j y hy) hk hx hyz hz;rw [fG] at hy;exact ((hme y).1 hy).1 rfl
  ·rw [bP,tp];intro y hy hny;rcases I.uW y hy (fun h=>hny (.inl h)) with ⟨j,hj,h,hh,RP⟩ | h
   ·left;refine ⟨j,hj,h,hback j h hh ?_,RP⟩;rintro rfl rfl;exact hny (.inr RP)
   ·right;rcases h with ⟨a,m,hm,hb,hy1,hap⟩ | h
    ·refine .inl ⟨a,m,hm,hb,hy1,?_⟩;rintro z (hz | hz) hz1
     ·exact hap z hz hz1
     ·have:=hb.same hB hz1 hz;omega
    ·exact .inr h
  ·rw [bP,tp];intro j hj;rw [(AA j hj).1];exact I.xV j hj
  ·rw [bP];intro j hj;rw [(AA j hj).1,(AA j hj).2.1];exact I.xW j hj
  ·rw [bP];exact fun j hj=>(AA j hj).2.2
  ·rw [bP];exact fun j hj q h=>I.merged j hj q ⟨hsub _ _ h.1,hsub _ _ h.2⟩
 ·refine ⟨by rw [l7,hbase],by rw [tp],by rw [bP],by rw [l7,hsame.1],by rw [l7,hsame.2.1],by rw [l7,hsame.2.2.1],by rw [l7,hsame.2.2.2],fun y _=>by rw [tp],fun y off hy ho=>?_,fun y p hp _=>by rw [tp] at hp;exact hp⟩;rw [l7];refine GI _ _ _ _ _ _ ho ?_ ?_
  ·rcases hlk.1 with e | ⟨z,hz,_,e,_⟩
   ·exact .inl e
   ·refine .inr ⟨z,?_,e⟩;rintro rfl;exact hy (.inr ⟨k,hk,z,hz,aS _ _⟩)
  ·rcases hlk.2.1 with e | ⟨z,hz,_,e,_⟩
   ·exact .inl e
   ·refine .inr ⟨z,?_,e⟩;rintro rfl;exact hy (.inr ⟨k,hk,z,hz,aS _ _⟩)
 ·intro y;constructor
  ·rintro ((h | h) | ⟨j,hj,h,hh,hy⟩)
   ·exact .inl h
   ·exact hxu y h
   ·exact .inr ⟨j,hj,h,hsub j h hh,hy⟩
  ·rintro (h | ⟨j,hj,h,hh,hy⟩)
   ·exact .inl (.inl h)
   ·by_cases e:j=k∧h=x
    ·obtain ⟨rfl,rfl⟩:=e;exact .inl (.inr hy)
    ·exact .inr ⟨j,hj,h,hback j h hh (fun e1 e2=>e ⟨e1,e2⟩),hy⟩
theorem nZ {μ:Mp} {a k x:Nat} {kd:Int} (hx:¬Inb a k x):(μ.run a k kd).pages[x]? = μ.pages[x]? := by
 refine EC μ.pages a kd k (2^k) x ?_
 unfold Inb at hx;omega
theorem runIn {μ:Mp} {a k x:Nat} {kd:Int} (hx:Inb a k x) (hl:a+2^k≤μ.pages.length):(μ.run a k kd).pages[x]? = some (bK kd k (x-a)):=by
 have:=hx.1;have:=hx.2;have h:=EB μ.pages a kd k (2^k) (x-a) (by omega) (by omega);rwa [show a+(x-a)=x by omega] at h
theorem uX {μ:Mp} {a k x:Nat} {kd:Int} {p:Pg} (hd:kd=0∨kd=2) (hl:a+2^k≤μ.pages.length) (hp:(μ.run a k kd).pages[x]? = some p) (h4:p.kind=4):μ.pages[x]? = some p:=by
 by_cases hx:Inb a k x
 ·rw [runIn hx hl] at hp;have e:=Option.some.inj hp;rw [←e] at h4;simp only [bK,aD] at h4;split at h4 <;> omega
 ·rwa [nZ hx] at hp
theorem iT (μ:Mp) (a k:Nat) (kd:Int):(μ.run a k kd).pages.length=μ.pages.length:=gU _ _ _ _ _
theorem BM {μ:Mp} {a k:Nat} {kd:Int} (al:2^k∣a) (hl:a+2^k≤μ.pages.length):bf (μ.run a k kd).pages a k kd :=
 ⟨al,fun j hj=>by
  have:=runIn (μ:=μ) (kd:=kd) (x:=a+j) (a:=a) (k:=k) ⟨by omega,by omega⟩ hl;rwa [show a+j-a=j by omega] at this⟩
theorem AB {a k n:Nat} (h:∀ y,Inb a k y→y<n):a+2^k≤n:=by
 have:=fF k;have:=h (a+2^k-1) ⟨by omega,by omega⟩;omega
theorem BInv.pages {β:Bu} {F:Nat→List Nat} {H H':Nat→Prop} {μ':Mp} (I:BInv β F H) (ho:μ'.order=β.μ.order) (hp:μ'.pairs=β.μ.pairs) (hl:μ'.pages.length=β.μ.pages.length)
  (hH:∀ x,H' x→H x) (hpg:∀ x,¬H x→μ'.pages[x]? = β.μ.pages[x]?) (hin:∀ x,H x→¬H' x→wM β.μ.order μ'.pages H' x):BInv { β with μ:=μ' } F H':=by
 have hfree:∀ k,k≤β.μ.order→∀ i∈F k,bf μ'.pages i k 0:=fun k hk i hi=>(I.free k hk i hi).far (fun x hx=>hpg x (fun h=>I.apart k hk i hi x h hx))
 constructor
 ·show μ'.order≤8;rw [ho];exact I.ord
 ·show β.heads.length=μ'.order+1;rw [ho];exact I.heads
 ·show μ'.pairs.length=μ'.order;rw [ho,hp];exact I.yL
 ·exact I.base
 ·show β.σ.base+4096*μ'.pages.length<_;rw [hl];exact I.top
 ·show 2^μ'.order∣μ'.pages.length;rw [ho,hl];exact I.full
 ·intro x hx;show x<μ'.pages.length;rw [hl];exact I.hole x (hH x hx)
 ·show ∀ k,k≤μ'.order→_;rw [ho];exact I.lists
 ·show ∀ k,k≤μ'.order→_;rw [ho];exact I.nodup
 ·show ∀ k,k≤μ'.order→_;rw [ho];exact hfree
 ·show ∀ k,k≤μ'.order→_;rw [ho];exact fun k hk i hi x hx=>I.apart k hk i hi x (hH x hx)
 ·show ∀ x,x<μ'.pages.length→¬H' x→(∃ k,k≤μ'.order∧_)∨wM μ'.order μ'.pages H' x
  rw [ho,hl];intro x hx hn;by_cases h:H x
  ·exact .inr (hin x h hn)
  ·rcases I.uW x hx h with h1 | ⟨a,k,hk,hb,hy,hap⟩ | ⟨p,hp1,hp2⟩
   ·exact .inl h1
   ·exact .inr (.inl ⟨a,k,hk,hb.far (fun y hy=>hpg y (fun h=>hap y h hy)),hy,fun y hy=>hap y (hH y hy)⟩)
   ·exact .inr (.inr ⟨p,(hpg x h).trans hp1,hp2⟩)
 ·show ∀ k,k<μ'.order→(μ'.pairs.getD k _).n=μ'.pages.length/_;rw [ho,hp,hl];exact I.xV
 ·show ∀ k,k<μ'.order→(μ'.pairs.getD k _).ws.length=((μ'.pairs.getD k _).n+63)/64;rw [ho,hp];exact I.xW
 ·show ∀ k,k<μ'.order→∀ q,eZ (μ'.pairs.getD k _).ws q=_;rw [ho,hp];exact I.pair
 ·show ∀ k,k<μ'.order→_;rw [ho];exact I.merged
theorem BInv.live {β:Bu} {F:Nat→List Nat} {H:Nat→Prop} (I:BInv β F H) {a k:Nat} (hk:k≤β.μ.order) (al:2^k∣a) (hH:∀ y,Inb a k y→H y) :
  BInv { β with μ:=β.μ.run a k 2 } F (fun y=>H y∧¬Inb a k y)∧Keeps β { β with μ:=β.μ.run a k 2 } (Inb a k)∧bf (β.μ.run a k 2).pages a k 2:=by
 have hl:=AB (fun y hy=>I.hole y (hH y hy));have hb:=BM (μ:=β.μ) (kd:=2) al hl;refine ⟨I.pages rfl rfl (iT _ _ _ _) (fun x h=>h.1) (fun x h=>nZ (fun e=>h (hH x e))) (fun x h hn=>.inl ⟨a,k,hk,hb,?_,fun y hy=>hy.2⟩),⟨rfl,iT _ _ _ _,rfl,rfl,rfl,rfl,rfl,fun x h=>nZ h,fun x off _ _=>rfl,fun x p hp h4=>uX (.inr rfl) hl hp h4⟩,hb⟩;exact Classical.byContradiction (fun e=>hn ⟨h,e⟩)
theorem BInv.slab {β:Bu} {F:Nat→List Nat} {H:Nat→Prop} (I:BInv β F H) {i:Nat} {p:Pg} (hH:H i) (hk:p.kind=4) (ho:p.order=0) :
  BInv { β with μ:=β.μ.aA i p } F (fun y=>H y∧y≠i):=by
 have hl:=I.hole i hH;have hs:(β.μ.aA i p).pages[i]? = some p:=List.getElem?_set_self hl;have hn:∀ x,x≠i→(β.μ.aA i p).pages[x]? = β.μ.pages[x]? := fun x h=>List.getElem?_set_ne (fun e=>h e.symm)
 refine I.pages rfl rfl (List.length_set ..) (fun x h=>h.1) (fun x h=>hn x (by rintro rfl;exact h hH)) (fun x h hn'=>?_);have:x=i:=Classical.byContradiction (fun e=>hn' ⟨h,e⟩);subst this;exact .inr ⟨p,hs,hk,ho⟩
theorem BInv.open_ {β:Bu} {F:Nat→List Nat} {H H':Nat→Prop} (I:BInv β F H) (hH:∀ x,H x→H' x) (hl:∀ x,H' x→x<β.μ.pages.length)
  (hf:∀ k,k≤β.μ.order→∀ i∈F k,∀ x,H' x→¬Inb i k x)
  (ht:∀ a k,k≤β.μ.order→bf β.μ.pages a k 2→(∀ y,H y→¬Inb a k y)→∀ y,H' y→Inb a k y→∀ x,Inb a k x→H' x):BInv β F H':=by
 refine ⟨I.ord,I.heads,I.yL,I.base,I.top,I.full,hl,I.lists,I.nodup,I.free,hf,?_,I.xV,I.xW,I.pair,I.merged⟩;intro x hx hn;rcases I.uW x hx (fun h=>hn (hH x h)) with h1 | ⟨a,k,hk,hb,hy,hap⟩ | h
 ·exact .inl h1
 ·exact .inr (.inl ⟨a,k,hk,hb,hy,fun y hy1 hy2=>hn (ht a k hk hb hap y hy1 hy2 x hy)⟩)
 ·exact .inr (.inr h)
theorem BInv.mH {β:Bu} {F:Nat→List Nat} {H:Nat→Prop} (I:BInv β F H) {a k:Nat} (hb:bf β.μ.pages a k 2):BInv β F (fun y=>H y∨Inb a k y):=by
 refine I.open_ (fun x h=>.inl h) ?_ ?_ ?_
 ·rintro x (h | h)
  ·exact I.hole x h
  ·have:=hb.le;have:=h.2;omega
 ·rintro j hj i hi x (h | h) hx
  ·exact I.apart j hj i hi x h hx
  ·have:=(I.free j hj i hi).same hb hx h;omega
 ·rintro a' k' hk' hb' hap y (h | h) hy x hx
  ·exact (hap y h hy).elim
  ·obtain ⟨rfl,rfl,-⟩:=hb'.same hb hy h;exact .inr hx
theorem BInv.Pn {β:Bu} {F:Nat→List Nat} {H:Nat→Prop} (I:BInv β F H) {i:Nat} {p:Pg} (hi:β.μ.pages[i]? = some p) (hk:p.kind=4):BInv β F (fun y=>H y∨y=i):=by
 have hkind:∀ {a k kd},bf β.μ.pages a k kd→Inb a k i→kd=4∨kd=3:=by
  intro a k kd hb hx;have e:=Option.some.inj (hi.symm.trans (hb.page hx));rw [e] at hk;simp only [bK,aD] at hk;split at hk <;> omega
 refine I.open_ (fun x h=>.inl h) ?_ ?_ ?_
 ·rintro x (h | rfl)
  ·exact I.hole x h
  ·exact (List.getElem?_eq_some_iff.1 hi).1
 ·rintro j hj a ha x (h | rfl) hx
  ·exact I.apart j hj a ha x h hx
  ·have:=hkind (I.free j hj a ha) hx;omega
 ·rintro a' k' hk' hb' hap y (h | rfl) hy x hx
  ·exact (hap y h hy).elim
  ·have:=hkind hb' hy;omega
theorem BInv.write {β:Bu} {F:Nat→List Nat} {H:Nat→Prop} {σ':Sp} (I:BInv β F H) (hb:σ'.base=β.σ.base) (hw:∀ k,k≤β.μ.order→∀ i∈F k,nx σ' β.σ.base i=nx β.σ β.σ.base i∧pv σ' β.σ.base i=pv β.σ β.σ.base i):BInv { β with σ:=σ' } F H:=by
 refine ⟨I.ord,I.heads,I.yL,?_,?_,I.full,I.hole,?_,I.nodup,I.free,I.apart,I.uW,I.xV,I.xW,I.pair,I.merged⟩
 ·show 0<σ'.base;rw [hb];exact I.base
 ·show σ'.base+_<_;rw [hb];exact I.top
 ·show ∀ k,k≤β.μ.order→DL σ' σ'.base 0 _ _
  rw [hb];exact fun k hk=>DL.congr (hw k hk) (I.lists k hk)
theorem BInv.EW {β:Bu} {F:Nat→List Nat} {H:Nat→Prop} {σ':Sp} (I:BInv β F H) (hb:σ'.base=β.σ.base) (hw:∀ k,k≤β.μ.order→∀ i∈F k,∀ off,off<16→σ'.mem (β.σ.base+4096*i+off)=β.σ.mem (β.σ.base+4096*i+off)):BInv { β with σ:=σ' } F H:=by
 refine I.write hb (fun k hk i hi=>⟨?_,?_⟩)
 ·refine iw (fun a h1 h2=>?_);have:=hw k hk i hi (a-(β.σ.base+4096*i)) (by omega);rwa [show β.σ.base+4096*i+(a-(β.σ.base+4096*i))=a by omega] at this
 ·refine iw (fun a h1 h2=>?_);have:=hw k hk i hi (a-(β.σ.base+4096*i)) (by omega);rwa [show β.σ.base+4096*i+(a-(β.σ.base+4096*i))=a by omega] at this
theorem BInv.head {β:Bu} {F:Nat→List Nat} {H:Nat→Prop} (I:BInv β F H) {k:Nat} (hk:k≤β.μ.order) :
  (β.heads.getD k 0=0∧F k = [])∨∃ y t,F k=y::t∧β.heads.getD k 0=β.σ.base+4096*y∧pv β.σ β.σ.base y=0:=by
 have D:=I.lists k hk;cases h:F k with
 | nil=>rw [h] at D;exact .inl ⟨D,rfl⟩
 | cons y t=>rw [h] at D;exact .inr ⟨y,t,rfl,D.1,D.2.1⟩
theorem mI (β:Bu) (a k:Nat):(β.enter a k).μ=β.μ.run a k 0:=by unfold Bu.enter;rfl
theorem EX (β:Bu) (a k:Nat):(β.enter a k).σ=pushed β.σ (β.heads.getD k 0) (β.addr a):=by unfold Bu.enter;rfl
theorem GJ (β:Bu) (a k:Nat):(β.enter a k).heads=β.heads.set k (β.addr a):=by unfold Bu.enter;rfl
theorem mJ (μ:Mp) (a k:Nat) (kd:Int):(μ.run a k kd).order=μ.order∧(μ.run a k kd).pairs=μ.pairs:=by unfold Mp.run Mp.runK;exact ⟨rfl,rfl⟩
theorem BInv.attach {β:Bu} {F:Nat→List Nat} {H:Nat→Prop} (I:BInv β F H) {a k:Nat} (hk:k≤β.μ.order) (al:2^k∣a) (hH:∀ y,Inb a k y→H y) (hm:k<β.μ.order→dM a k∉F k) :
  BInv ((β.enter a k).turned a k) (upd F k (a::F k)) (fun y=>H y∧¬Inb a k y)∧Keeps β ((β.enter a k).turned a k) (bE β.μ.order F H) ∧
  (∀ y,bE β.μ.order (upd F k (a::F k)) (fun y=>H y∧¬Inb a k y) y↔bE β.μ.order F H y):=by
 have hl:=AB (fun y hy=>I.hole y (hH y hy));have hal:a<β.μ.pages.length:=I.hole a (hH a (aS a k));obtain ⟨l7,th,tp,bP,tl⟩:=kI (β.enter a k) a k;obtain ⟨ro,rp⟩:=mJ β.μ a k 0;rw [mI] at tp bP tl;rw [ro] at bP;rw [rp] at tl;rw [EX] at l7;rw [GJ] at th;have hna:∀ j,j≤β.μ.order→a∉F j:=fun j hj h=>I.apart j hj a h a (hH a (aS a k)) (aS a j)
 have hpre:∀ j,j≤β.μ.order→∀ y∈F j,∀ z,Inb y j z→¬H z:=fun j hj y hy z hz h=>I.apart j hj y hy z h hz
 have I1:BInv { β with μ:=β.μ.run a k 0 } F H:=I.pages ro rp (iT _ _ _ _) (fun _ h=>h) (fun x h=>nZ (fun e=>h (hH x e))) (fun x h hn=>(hn h).elim);have AA:=I.Az (β':=β.enter a k) (by rw [mI,rp]) (by rw [mI,ro]) (x:=a) (k:=k) (l':=a::F k) al hal (by simp [hna k hk]) (fun y hy=>by simp [hy]);have hbase:=(oD β.σ (β.heads.getD k 0) (β.addr a)).1
 have hsub:∀ j,∀ y∈upd F k (a::F k) j,y∈F j∨(j=k∧y=a):=by
  intro j y hy;unfold upd at hy;split at hy
  ·next e =>
   subst e;rcases List.mem_cons.1 hy with rfl | hy
   ·exact .inr ⟨rfl,rfl⟩
   ·exact .inl hy
  ·exact .inl hy
 have hback:∀ j,∀ y∈F j,y∈upd F k (a::F k) j:=by
  intro j y hy;unfold upd;split
  ·next e=>subst e;exact List.mem_cons_of_mem _ hy
  ·exact hy
 have hhd:β.heads.getD k 0=0∨∃ y,y∈F k∧β.heads.getD k 0=β.σ.base+4096*y:=by
  rcases I.head hk with ⟨h,_⟩ | ⟨y,t,e,h,_⟩
  ·exact .inl h
  ·exact .inr ⟨y,by simp [e],h⟩
 have aaq:β.heads.getD k 0=0∨∃ y,β.heads.getD k 0=β.σ.base+4096*y:=hhd.imp id (fun ⟨y,_,e⟩=>⟨y,e⟩);have aar:β.heads.getD k 0=0∨∃ y,y≠a∧β.heads.getD k 0=β.σ.base+4096*y:=hhd.imp id (fun ⟨y,hy,e⟩=>⟨y,by rintro rfl;exact hna k hk hy,e⟩)
 have h64:β.heads.getD k 0<18446744073709551616:=by
  rcases hhd with e | ⟨y,hy,e⟩
  ·omega
  ·rw [e];exact I.qp (I.lt hk hy).2
 refine ⟨?_,?_,?_⟩
 ·constructor
  ·rw [bP];exact I.ord
  ·rw [th,bP,List.length_set];exact I.heads
  ·rw [tl,bP];exact I.yL
  ·rw [l7,hbase];exact I.base
  ·rw [l7,hbase,tp,iT];exact I.top
  ·rw [bP,tp,iT];exact I.full
  ·rw [tp,iT];exact fun x hx=>I.hole x hx.1
  ·rw [bP,l7,th,hbase];intro j hj;unfold Bu.addr;by_cases e:j=k
   ·subst e;rw [fG,pz _ _ _ (by rw [I.heads];omega)];refine DL.push I.base (hna j hk) ?_ (I.lists j hk);intro y hy;rcases List.mem_cons.1 hy with rfl | hy
    ·exact I.qp hal
    ·exact I.qp (I.lt hk hy).2
   ·rw [upd_ne _ _ e,getD_set_ne _ _ _ _ e];refine DL.congr (fun i hi=>?_) (I.lists j hj);have hia:i≠a:=by rintro rfl;exact hna j hj hi
    refine ⟨?_,?_⟩
    ·rw [rO _ _ _ _ _ h64 aaq,if_neg hia]
    ·rw [rP _ _ _ _ _ (I.qp hal) aar,if_neg hia,if_neg];rintro ⟨e1,e0⟩;rcases hhd with h | ⟨y,hy,e2⟩
     ·exact e0 h
     ·have:y=i:=by omega
      subst this;exact e (I.one hj hi hk hy (aS _ _) (aS _ _)).2
  ·rw [bP];intro j hj;unfold upd;split
   ·exact List.nodup_cons.2 ⟨hna k hk,I.nodup k hk⟩
   ·exact I.nodup j hj
  ·rw [bP,tp];intro j hj y hy;rcases hsub j y hy with h | ⟨rfl,rfl⟩
   ·exact I1.free j hj y h
   ·exact BM al hl
  ·rw [bP];intro j hj y hy z hz hyz;rcases hsub j y hy with h | ⟨rfl,rfl⟩
   ·exact I.apart j hj y h z hz.1 hyz
   ·exact hz.2 hyz
  ·rw [bP,tp,iT];intro y hy hny;by_cases hya:Inb a k y
   ·exact .inl ⟨k,hk,a,by rw [fG];simp,hya⟩
   ·rcases I1.uW y (by rw [iT];exact hy) (fun h=>hny ⟨h,hya⟩) with ⟨j,hj,h,hh,RP⟩ | ⟨b,m,hm',hb,hy1,hap⟩ | h
    ·exact .inl ⟨j,hj,h,hback j h hh,RP⟩
    ·exact .inr (.inl ⟨b,m,hm',hb,hy1,fun z hz=>hap z hz.1⟩)
    ·exact .inr (.inr h)
  ·rw [bP,tp,iT];intro j hj;rw [(AA j hj).1];exact I.xV j hj
  ·rw [bP];intro j hj;rw [(AA j hj).1,(AA j hj).2.1];exact I.xW j hj
  ·rw [bP];exact fun j hj=>(AA j hj).2.2
  ·rw [bP];rintro j hj q ⟨h1,h2⟩;rcases hsub _ _ h1 with g1 | ⟨rfl,e1⟩
   ·rcases hsub _ _ h2 with g2 | ⟨rfl,e2⟩
    ·exact I.merged j hj q ⟨g1,g2⟩
    ·refine hm hj ?_
     rw [←e2,xX];exact g1
   ·rcases hsub _ _ h2 with g2 | ⟨_,e2⟩
    ·refine hm hj ?_
     rw [←e1,BL];exact g2
    ·exact BK j q (e1.trans e2.symm)
 ·have hs:=oD β.σ (β.heads.getD k 0) (β.addr a);refine ⟨by rw [l7,hbase],by rw [tp,iT],by rw [bP],by rw [l7];exact hs.2.2.2.2,by rw [l7];exact hs.2.1,by rw [l7];exact hs.2.2.2.1,by rw [l7];exact hs.2.2.1,fun y hy=>by rw [tp];exact nZ (fun e=>hy (.inl (hH y e))),fun y off hy ho=>?_,fun y p hp h4=>by rw [tp] at hp;exact uX (.inl rfl) hl hp h4⟩;rw [l7];refine Ay _ _ _ _ _ _ ho ?_ ?_
  ·rintro rfl;exact hy (.inl (hH y (aS _ _)))
  ·refine hhd.imp id (fun ⟨z,hz,e⟩=>⟨z,?_,e⟩);rintro rfl;exact hy (.inr ⟨k,hk,z,hz,aS _ _⟩)
 ·intro y;constructor
  ·rintro (h | ⟨j,hj,h,hh,hy⟩)
   ·exact .inl h.1
   ·rcases hsub j h hh with h' | ⟨rfl,rfl⟩
    ·exact .inr ⟨j,hj,h,h',hy⟩
    ·exact .inl (hH y hy)
  ·rintro (h | ⟨j,hj,h,hh,hy⟩)
   ·by_cases e:Inb a k y
    ·exact .inr ⟨k,hk,a,by rw [fG];simp,e⟩
    ·exact .inl ⟨h,e⟩
   ·exact .inr ⟨j,hj,h,hback j h hh,hy⟩
abbrev aH:Nat→Prop:=fun _=>False
def Bu.Has (β:Bu):Prop:=∀ i off n,i<β.μ.pages.length→0<n→off+n≤4096→β.σ.has (β.σ.base+4096*i+off) n
theorem Keeps.has {β β':Bu} {O:Nat→Prop} (h:Keeps β β' O) (H:β.Has):β'.Has:=by
 intro i off n hi hn ho;rw [h.len] at hi;have:=H i off n hi hn ho;rw [h.base];exact ⟨this.pos,by rw [h.base];exact this.lo,by rw [h.base,h.size,h.n];exact this.reg,by rw [h.base,h.size];exact this.fit⟩
theorem Bu.ok.has' {β:Bu} (o:β.ok):β.Has:=fun _ _ _ hi hn hf=>o.has hi hn hf
theorem Ml (β:Bu) (k x:Nat) (h:pv β.σ β.σ.base x=0):β.popped k (nx β.σ β.σ.base x)=β.bZ k x:=by
 unfold Bu.popped Bu.bZ;rw [h];simp
theorem T9 (β:Bu) (s i:Nat) (h:i≠β.μ.order):β.lV s i=(β.enter s i).turned s i:=by
 unfold Bu.lV Bu.turned;rw [if_neg];exact h
theorem uY (β:Bu) (a:Nat):β.turned a β.μ.order=β:=by
 unfold Bu.turned;rw [if_pos rfl]
theorem BInv.hd {β:Bu} {F:Nat→List Nat} {H:Nat→Prop} (I:BInv β F H) (hs:β.Has) {k:Nat} (hk:k≤β.μ.order):β.heads.getD k 0≠0→β.σ.has (β.heads.getD k 0) 16∧β.σ.word (β.heads.getD k 0+8)=0:=by
 intro ne;rcases I.head hk with ⟨h,_⟩ | ⟨y,t,e,h,hp⟩
 ·exact (ne h).elim
 ·rw [h];exact ⟨hs y 0 16 (I.lt hk (by rw [e];simp)).2 (by omega) (by omega),hp⟩
theorem qO {a k:Nat} (h:2^k∣a):(a:Int).tmod (2^k:Nat)=0:=by
 obtain ⟨m,rfl⟩:=h;exact (Int.ofNat_tmod _ _).symm.trans (by simp)
def qP (F:Nat→List Nat) (i j:Nat):Nat→Nat→List Nat
 | 0=>F
 | m+1=>upd (qP F i j m) (j-1-m) ((i+2^(j-1-m))::qP F i j m (j-1-m))
theorem Ua {i k:Nat} (h:2^(k+1)∣i):2^k∣i+2^k∧dM (i+2^k) k=i:=by
 obtain ⟨q,rfl⟩:=h;have e:2^(k+1)*q=2*q*2^k:=by rw [Nat.pow_succ,Nat.mul_assoc,Nat.mul_comm]
 have e2:2^(k+1)*q+2^k=(2*q+1)*2^k:=by rw [e,Nat.add_mul,Nat.one_mul]
 rw [e2,xX,e];exact ⟨Nat.dvd_mul_left _ _,rfl⟩
theorem BInv.lV {β:Bu} {F:Nat→List Nat} {i k:Nat} (I:BInv β F (Inb i (k+1))) (hk:k<β.μ.order) (al:2^(k+1)∣i) (hs:β.Has) :
  xM β (i+2^k) k∧BInv (β.lV (i+2^k) k) (upd F k ((i+2^k)::F k)) (Inb i k)∧Keeps β (β.lV (i+2^k) k) (bE β.μ.order F (Inb i (k+1))) ∧
  (∀ y,bE β.μ.order (upd F k ((i+2^k)::F k)) (Inb i k) y↔bE β.μ.order F (Inb i (k+1)) y):=by
 obtain ⟨al',hm⟩:=Ua al;have hp:2^(k+1)=2^k+2^k:=by rw [Nat.pow_succ];omega
 have p0:=fF k;have hin:∀ y,Inb (i+2^k) k y→Inb i (k+1) y:=fun y hy=>⟨by have:=hy.1;omega,by have:=hy.2;omega⟩
 have hle:=AB (fun y hy=>I.hole y hy)
 have hHe:∀ y,(Inb i (k+1) y∧¬Inb (i+2^k) k y)↔Inb i k y:=by
  intro y;unfold Inb;omega
 obtain ⟨I',K',U'⟩:=I.attach (a:=i+2^k) (k:=k) (by omega) al' hin (fun _=>by
  rw [hm];intro h;exact I.apart k (by omega) i h i (aS _ _) (aS _ _))
 have hfun:(fun y=>Inb i (k+1) y∧¬Inb (i+2^k) k y)=Inb i k:=funext fun y=>propext (hHe y)
 rw [hfun] at I' U';rw [T9 _ _ _ (by omega)];refine ⟨⟨hk,qO al',by omega,I.hd hs (by omega),I.xY hk (by omega)⟩,I',K',U'⟩
theorem BInv.gJ {β:Bu} {F:Nat→List Nat} {i j:Nat} (I:BInv β F (Inb i j)) (hj:j≤β.μ.order) (al:2^j∣i) (hs:β.Has):∀ m,m≤j →
  BInv (β.gJ i j m) (qP F i j m) (Inb i (j-m))∧Keeps β (β.gJ i j m) (bE β.μ.order F (Inb i j))∧(∀ y,bE β.μ.order (qP F i j m) (Inb i (j-m)) y↔bE β.μ.order F (Inb i j) y) ∧
  (∀ m',m'<m→xM (β.gJ i j m') (i+2^(j-1-m')) (j-1-m'))
 | 0,_=>⟨I,Keeps.refl _ _,fun _=>Iff.rfl,fun _ h=>by omega⟩
 | m+1,hm=>by
  obtain ⟨I1,K1,U1,C1⟩:=BInv.gJ I hj al hs m (by omega);obtain ⟨k,hk⟩:∃ k,k=j-1-m:=⟨_,rfl⟩;have e1:j-m=k+1:=by omega
  have e2:j-(m+1)=k:=by omega
  rw [e1] at I1 U1;have al':2^(k+1)∣i:=Nat.dvd_trans (Nat.pow_dvd_pow 2 (by omega)) al;obtain ⟨C,I2,K2,U2⟩:=I1.lV (by rw [K1.order];omega) al' (K1.has hs);rw [K1.order] at K2 U2;rw [e2]
  show BInv ((β.gJ i j m).lV (i+2^(j-1-m)) (j-1-m)) (upd (qP F i j m) (j-1-m) _) _∧Keeps β ((β.gJ i j m).lV (i+2^(j-1-m)) (j-1-m)) _∧(∀ y,bE β.μ.order (upd (qP F i j m) (j-1-m) _) _ y↔_)∧_
  rw [←hk];refine ⟨I2,K1.trans K2 (fun x hx=>(U1 x).1 hx),fun y=>(U2 y).trans (U1 y),fun m' hm'=>?_⟩;by_cases e:m'=m
  ·subst e;rw [←hk];exact C
  ·exact C1 m' (by omega)
theorem BInv.took {β:Bu} {F:Nat→List Nat} (I:BInv β F aH) (hs:β.Has) {i j o:Nat} {t:List Nat} (lo:o≤j) (hj:j≤β.μ.order) (hnone:∀ k,o≤k→k<j→F k = []) (hF:F j=i::t) :
  tC β i j o (nx β.σ β.σ.base i)∧BInv (β.took i j o (nx β.σ β.σ.base i)) (qP (upd F j t) i j (j-o)) aH∧Keeps β (β.took i j o (nx β.σ β.σ.base i)) (bE β.μ.order F aH) ∧
  bf (β.took i j o (nx β.σ β.σ.base i)).μ.pages i o 2∧(∀ y,bE β.μ.order (qP (upd F j t) i j (j-o)) aH y↔bE β.μ.order F aH y∧¬Inb i o y)∧(∀ y,Inb i o y→bE β.μ.order F aH y):=by
 have hi:i∈F j:=by rw [hF];simp
 have hlt:=I.lt hj hi;have al:=(I.free j hj i hi).al;have D:=I.lists j hj;rw [hF] at D;have hpv:=D.2.1;have her:(F j).erase i=t:=by rw [hF];simp
 obtain ⟨I1,K1,U1⟩:=I.bZ hj hi;rw [her] at I1 U1;rw [←Ml _ _ _ hpv] at I1 K1;generalize JF:(β.popped j (nx β.σ β.σ.base i)).turned i j=β1 at I1 K1;have hH:(fun y=>aH y∨Inb i j y)=Inb i j:=funext fun y=>propext ⟨fun h=>h.resolve_left id,.inr⟩
 rw [hH] at I1 U1;have hs1:=K1.has hs;obtain ⟨I2,K2,U2,C2⟩:=I1.gJ (by rw [K1.order];exact hj) al hs1 (j-o) (by omega);rw [K1.order] at K2 U2;rw [show j-(j-o)=o by omega] at I2 U2;have RQ:2^o∣i:=Nat.dvd_trans (Nat.pow_dvd_pow 2 lo) al;have ho2:(β1.gJ i j (j-o)).μ.order=β.μ.order:=K2.order.trans K1.order;obtain ⟨I3,K3,B3⟩:=I2.live (a:=i) (k:=o) (by rw [ho2];omega) RQ (fun _ h=>h);have hH3:(fun y=>Inb i o y∧¬Inb i o y)=aH:=funext fun y=>propext ⟨fun h=>h.2 h.1,fun h=>h.elim⟩
 rw [hH3] at I3;have hU:∀ y,Inb i o y→bE β.μ.order F aH y:=fun y hy=>(U1 y).1 ((U2 y).1 (.inl hy))
 have XW:β.took i j o (nx β.σ β.σ.base i) = { β1.gJ i j (j-o) with μ:=(β1.gJ i j (j-o)).μ.run i o 2 }:=by
  unfold Bu.took Bu.cut;rw [JF]
 rw [XW];have hl2:(β1.gJ i j (j-o)).μ.pages.length=β.μ.pages.length:=K2.len.trans K1.len;refine ⟨⟨lo,hj,?_,D.1,hlt.2,rfl,hpv,?_,fun h=>I.xY h hlt.2,?_,?_,qO RQ,?_⟩,I3,?_,B3,?_,hU⟩
 ·intro k h1 h2;rcases I.head (k:=k) (by omega) with ⟨h,_⟩ | ⟨y,t',e,_⟩
  ·exact h
  ·rw [hnone k h1 h2] at e;simp at e
 ·intro ne;rcases (I.links hj hi).1 with h | ⟨y,hy,_,e1,e2⟩
  ·exact (ne h).elim
  ·rw [e1];exact ⟨hs y 0 16 (I.lt hj hy).2 (by omega) (by omega),e2⟩
 ·rw [JF];exact C2
 ·rw [JF,ho2];omega
 ·rw [JF,hl2];have:2^o≤2^j:=Nat.pow_le_pow_right (by omega) lo;omega
 ·exact (K1.trans K2 (fun x hx=>(U1 x).1 hx)).trans K3 (fun x hx=>hU x hx)
 ·intro y;have h2:=(U2 y).trans (U1 y);constructor
  ·rintro (h | h)
   ·exact h.elim
   ·refine ⟨h2.1 (.inr h),fun hy=>?_⟩;obtain ⟨k,hk,x,hx,hxy⟩:=h;exact I2.apart k (by rw [ho2];exact hk) x hx y hy hxy
  ·rintro ⟨h,hy⟩;rcases h2.2 h with h | h
   ·exact (hy h).elim
   ·exact .inr h
theorem CO (cs:List Nat) (n q:Nat):eZ (oN cs n) q=(decide (q<n) && eZ cs q):=by
 obtain ⟨K,hK⟩:∃ K,K=(n+63)/64:=⟨_,rfl⟩
 have hg:∀ i,((cs++List.replicate K 0).take K).getD i 0=if i<K then cs.getD i 0 else 0:=by
  intro i;simp only [List.getD_eq_getElem?_getD,List.getElem?_take];split
  ·next h =>
   rw [List.getElem?_append];split
   ·rfl
   ·next h2 =>
    rw [List.getElem?_replicate];rw [List.getElem?_eq_none (by omega:cs.length≤i)];split <;> rfl
  ·rfl
 have hl:((cs++List.replicate K 0).take K).length=K:=by simp
 unfold oN;rw [←hK];generalize hw:(cs++List.replicate K 0).take K=ws at hg hl;unfold sJ;split
 ·next h0 =>
  unfold eZ;rw [hg];by_cases h:q<n
  ·rw [if_pos (by omega)];simp [h]
  ·rw [if_neg (by omega)];simp [h]
 ·next h0 =>
  have hK1:K=n/64+1:=by omega
  unfold eZ;rw [hl];by_cases e:q/64=K-1
  ·rw [←e,pz _ _ _ (by omega),Nat.testBit_and,Nat.testBit_two_pow_sub_one,hg,if_pos (by omega),Bool.and_comm]
   congr 1
   exact decide_eq_decide.2 (by omega)
  ·rw [getD_set_ne _ _ _ _ e,hg];by_cases h:q<n
   ·rw [if_pos (by omega)];simp [h]
   ·rw [if_neg (by omega)];simp [h]
theorem wO (μ:Mp):∀ (m k:Nat),k<m→m≤μ.pairs.length→(μ.iO m).pairs.getD k ⟨0,[]⟩=reset μ.pages.length k (μ.pairs.getD k ⟨0,[]⟩)
 | 0,k,h,_=>by omega
 | m+1,k,h,hm=>by
  show ((μ.iO m).mW m _).pairs.getD k _=_
  simp only [Mp.mW];have hl:=(Mp.jw μ m).2.2;by_cases e:k=m
  ·subst e;rw [List.getD_eq_getElem?_getD,List.getElem?_set_self (by omega)];rfl
  ·rw [List.getD_eq_getElem?_getD,List.getElem?_set_ne (fun x=>e x.symm),←List.getD_eq_getElem?_getD];exact wO μ m k (by omega) (by omega)
theorem yM (μ:Mp) (k:Nat) (hk:k<μ.order) (hl:μ.pairs.length=μ.order):μ.paired.pairs.getD k ⟨0,[]⟩=reset μ.pages.length k (μ.pairs.getD k ⟨0,[]⟩):=wO μ μ.order k hk (by omega)
theorem AJ (μ:Mp):μ.paired.pairs.length=μ.pairs.length:=(Mp.jw μ _).2.2
theorem uZ (cs:List Nat) (n:Nat):(oN cs n).length=(n+63)/64:=by
 unfold oN sJ;split <;> simp
theorem BInv.fit {β:Bu} {F:Nat→List Nat} {H:Nat→Prop} (I:BInv β F H) {N':Nat} (hd:2^β.μ.order∣N') (hF:∀ k,k≤β.μ.order→∀ i∈F k,i<N') (k:Nat) (hk:k<β.μ.order) (q:Nat) :
  eZ (reset N' k (β.μ.pairs.getD k ⟨0,[]⟩)).ws q=(decide (2*q*2^k∈F k) != decide ((2*q+1)*2^k∈F k)):=by
 show eZ (oN _ _) q=_
 rw [CO,I.pair k hk];by_cases h:q<N'/2^(k+1)
 ·simp [h]
 ·have hd':2^(k+1)∣N':=Nat.dvd_trans (Nat.pow_dvd_pow 2 (by omega)) hd
  have hno:∀ i,i/2^(k+1)=q→i∉F k:=by
   intro i hi hm;have:=hF k (by omega) i hm;apply h;rw [←hi,Nat.div_lt_iff_lt_mul (fF _),Nat.div_mul_cancel hd'];exact this
  have hq:=zf k q;simp [h,hno _ hq.1,hno _ hq.2]
theorem u7 (μ:Mp) {x:Nat} (h:x<μ.pages.length):μ.grow.pages[x]? = μ.pages[x]? := by
 unfold Mp.grow;rw [nZ (by unfold Inb;omega),(Mp.gu _).1];exact List.getElem?_append_left h
theorem AL (μ:Mp):μ.grow.pairs=μ.more.paired.pairs:=rfl
theorem BInv.grow {β:Bu} {F:Nat→List Nat} (I:BInv β F aH) (hn:β.μ.pages.length=β.σ.n*2^β.μ.order) (hsz:β.σ.size=4096*2^β.μ.order) (top':β.σ.base+4096*(β.μ.pages.length+2^β.μ.order)<18446744073709551616) :
  BInv { β with σ:=β.σ.grow,μ:=β.μ.grow } F aH∧bf β.μ.grow.pages β.μ.pages.length β.μ.order 2 ∧
  ∀ x off,x<β.μ.pages.length→off<4096→β.σ.grow.mem (β.σ.base+4096*x+off)=β.σ.mem (β.σ.base+4096*x+off):=by
 have ho:=Mp.iH β.μ;have hl:=Mp.mF β.μ;have hm:β.μ.more.order=β.μ.order:=rfl;have hmp:β.μ.more.pairs=β.μ.pairs:=rfl;have hml:β.μ.more.pages.length=β.μ.pages.length+2^β.μ.order:=by simp [Mp.more]
 have hmem:∀ x off,x<β.μ.pages.length→off<4096→β.σ.grow.mem (β.σ.base+4096*x+off)=β.σ.mem (β.σ.base+4096*x+off):=by
  intro x off hx hoff;unfold Sp.grow;simp only;rw [if_neg];have e:β.σ.n*β.σ.size=4096*β.μ.pages.length:=by rw [hsz,hn];rw [Nat.mul_left_comm]
  rw [e];omega
 have hfull:2^β.μ.order∣β.μ.pages.length+2^β.μ.order:=Nat.dvd_add I.full (Nat.dvd_refl _)
 have hB:bf β.μ.grow.pages β.μ.pages.length β.μ.order 2:=by
  have hh:β.μ.more.paired.pages.length=β.μ.pages.length+2^β.μ.order:=by rw [(Mp.gu _).1,hml]
  exact BM (μ:=β.μ.more.paired) (kd:=2) I.full (by rw [hh];exact Nat.le_refl _)
 have vg:∀ k,k<β.μ.order→β.μ.grow.pairs.getD k ⟨0,[]⟩=reset (β.μ.pages.length+2^β.μ.order) k (β.μ.pairs.getD k ⟨0,[]⟩):=by
  intro k hk;rw [AL,yM β.μ.more k hk I.yL,hml,hmp]
 refine ⟨?_,hB,hmem⟩;constructor
 ·show β.μ.grow.order≤8;rw [ho];exact I.ord
 ·show β.heads.length=β.μ.grow.order+1;rw [ho];exact I.heads
 ·show β.μ.grow.pairs.length=β.μ.grow.order;rw [ho,AL,AJ,hmp];exact I.yL
 ·exact I.base
 ·show β.σ.base+4096*β.μ.grow.pages.length<_;rw [hl];exact top'
 ·show 2^β.μ.grow.order∣β.μ.grow.pages.length;rw [ho,hl];exact hfull
 ·intro x hx;exact hx.elim
 ·show ∀ k,k≤β.μ.grow.order→DL β.σ.grow β.σ.base 0 _ _
  rw [ho];refine fun k hk=>DL.congr (fun i hi=>?_) (I.lists k hk)
  have hlt:=(I.lt hk hi).2;constructor
  ·refine iw (fun a h1 h2=>?_);have:=hmem i (a-(β.σ.base+4096*i)) hlt (by omega);rwa [show β.σ.base+4096*i+(a-(β.σ.base+4096*i))=a by omega] at this
  ·refine iw (fun a h1 h2=>?_);have:=hmem i (a-(β.σ.base+4096*i)) hlt (by omega);rwa [show β.σ.base+4096*i+(a-(β.σ.base+4096*i))=a by omega] at this
 ·show ∀ k,k≤β.μ.grow.order→_;rw [ho];exact I.nodup
 ·show ∀ k,k≤β.μ.grow.order→∀ i∈F k,bf β.μ.grow.pages i k 0
  rw [ho];exact fun k hk i hi=>(I.free k hk i hi).far (fun x hx=>u7 β.μ (by have:=(I.lt hk hi).1;have:=hx.2;omega))
 ·intro k _ i _ x hx;exact hx.elim
 ·show ∀ x,x<β.μ.grow.pages.length→¬aH x→(∃ k,k≤β.μ.grow.order∧_)∨wM β.μ.grow.order β.μ.grow.pages aH x
  rw [ho,hl];intro x hx hnx;by_cases h:x<β.μ.pages.length
  ·rcases I.uW x h hnx with h1 | ⟨a,k,hk,hb,hy,hap⟩ | ⟨p,hp1,hp2⟩
   ·exact .inl h1
   ·exact .inr (.inl ⟨a,k,hk,hb.far (fun y hy=>u7 β.μ (by have:=hb.le;have:=hy.2;omega)),hy,hap⟩)
   ·exact .inr (.inr ⟨p,(u7 β.μ h).trans hp1,hp2⟩)
  ·exact .inr (.inl ⟨_,_,Nat.le_refl _,hB,⟨by omega,by omega⟩,fun y hy=>hy.elim⟩)
 ·show ∀ k,k<β.μ.grow.order→(β.μ.grow.pairs.getD k _).n=β.μ.grow.pages.length/_
  rw [ho,hl];intro k hk;rw [vg k hk];rfl
 ·show ∀ k,k<β.μ.grow.order→(β.μ.grow.pairs.getD k _).ws.length=((β.μ.grow.pairs.getD k _).n+63)/64
  rw [ho];intro k hk;rw [vg k hk];exact uZ _ _
 ·show ∀ k,k<β.μ.grow.order→∀ q,eZ (β.μ.grow.pairs.getD k _).ws q=_
  rw [ho];intro k hk q;rw [vg k hk];exact I.fit hfull (fun k hk i hi=>by have:=(I.lt hk hi).2;omega) k hk q
 ·show ∀ k,k<β.μ.grow.order→_;rw [ho];exact I.merged
theorem BInv.fed {β:Bu} {F:Nat→List Nat} (I:BInv β F aH) (hn:β.μ.pages.length=β.σ.n*2^β.μ.order) (hsz:β.σ.size=4096*2^β.μ.order) (top':β.σ.base+4096*(β.μ.pages.length+2^β.μ.order)<18446744073709551616) :
  BInv β.fed (upd F β.μ.order (β.μ.pages.length::F β.μ.order)) aH ∧
  (∀ x,x<β.μ.pages.length→¬bE β.μ.order F aH x→β.fed.μ.pages[x]? = β.μ.pages[x]?) ∧
  (∀ x off,x<β.μ.pages.length→¬bE β.μ.order F aH x→off<4096→β.fed.σ.mem (β.σ.base+4096*x+off)=β.σ.mem (β.σ.base+4096*x+off)) ∧
  (∀ y,bE β.μ.order (upd F β.μ.order (β.μ.pages.length::F β.μ.order)) aH y↔bE β.μ.order F aH y∨Inb β.μ.pages.length β.μ.order y):=by
 obtain ⟨I1,B1,M1⟩:=I.grow hn hsz top';have ho:=Mp.iH β.μ;have I2:=I1.mH B1;have hH:(fun y=>aH y∨Inb β.μ.pages.length β.μ.order y)=Inb β.μ.pages.length β.μ.order:=funext fun y=>propext ⟨fun h=>h.resolve_left id,.inr⟩
 rw [hH] at I2;have hk:β.μ.order≤β.μ.grow.order:=by omega
 obtain ⟨I3,K3,U3⟩:=I2.attach (a:=β.μ.pages.length) (k:=β.μ.order) hk I.full (fun y h=>h) (fun h=>by
  have h:β.μ.order<β.μ.grow.order:=h;omega)
 have hH3:(fun y=>Inb β.μ.pages.length β.μ.order y∧¬Inb β.μ.pages.length β.μ.order y)=aH:=funext fun y=>propext ⟨fun h=>h.2 h.1,fun h=>h.elim⟩
 have het:(Bu.enter { β with σ:=β.σ.grow,μ:=β.μ.grow } β.μ.pages.length β.μ.order).turned β.μ.pages.length β.μ.order=β.fed:=by
  have:=uY β.fed β.μ.pages.length;rwa [show β.fed.μ.order=β.μ.order from ho] at this
 rw [hH3] at I3 U3;rw [het] at I3 K3
 have hU3:∀ y,bE β.μ.order (upd F β.μ.order (β.μ.pages.length::F β.μ.order)) aH y↔bE β.μ.order F (Inb β.μ.pages.length β.μ.order) y:=by
  intro y;have:=U3 y;rwa [show ({ β with σ:=β.σ.grow,μ:=β.μ.grow }:Bu).μ.order=β.μ.order from ho] at this
 have hno:∀ x,x<β.μ.pages.length→¬bE β.μ.order F aH x→¬bE ({ β with σ:=β.σ.grow,μ:=β.μ.grow }:Bu).μ.order F (Inb β.μ.pages.length β.μ.order) x:=by
  intro x hx h e;rw [show ({ β with σ:=β.σ.grow,μ:=β.μ.grow }:Bu).μ.order=β.μ.order from ho] at e;rcases e with e | e
  ·have:=e.1;omega
  ·exact h (.inr e)
 refine ⟨I3,fun x hx h=>(K3.page x (hno x hx h)).trans (u7 β.μ hx),fun x off hx h ho=>(K3.byte x off (hno x hx h) ho).trans (M1 x off hx ho),fun y=>(hU3 y).trans ?_⟩;unfold bE;constructor
 ·rintro (h | h)
  ·exact .inr h
  ·exact .inl (.inr h)
 ·rintro ((h | h) | h)
  ·exact h.elim
  ·exact .inr h
  ·exact .inl h
end Go.Proofs.YtnjcmcnjgdjbiaaGreatDoor
