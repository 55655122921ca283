/- Conditions: as each theorem states. -/
import Derived.Test.YtnjcmcnjgdjbiaaGreatDoorKpPartAk
import Derived.Lib.ConvBytes
import Derived.Laws.AppendOwnNone
set_option maxRecDepth 100000
set_option maxHeartbeats 8000000
namespace Go.Proofs.YtnjcmcnjgdjbiaaGreatDoor
open Go.RowKit Go.MuLone
@[reducible] def NoPanic (Q:Exit→Act→World→Prop):Exit→Act→World→Prop:=fun e a w=>match e with | .panic _=>False | e'=>Q e' a w
theorem J9 {P:Program} {c:Code} {Q:Exit→Act→World→Prop} {a:Act} {w:World} (h:c.wp P (NoPanic Q) a w):c.wp P Q a w :=
 Code.wp_mono (fun e a w h=>by cases e <;> first | exact h | exact h.elim) h
def lX (l:List (Nat × Nat)):Nat:=(l.map Prod.snd).sum
def jd (β:Bu):Nat→Nat
 | 0=>0
 | m+1=>jd β m+if (β.μ.pages.getD m eH).kind=0∨(β.μ.pages.getD m eH).kind=1 then 1 else 0
theorem IW:∀ (l:List (Nat × Nat)),(∀ b∈l,b.2≤1048576)→lX l≤1048576*l.length
 | [],_=>by simp [lX]
 | b::t,h=>by
  have h1:=h b (by simp);have h2:=IW t (fun c hc=>h c (by simp [hc]));unfold lX at *;simp only [List.map_cons,List.sum_cons,List.length_cons];omega
theorem Nc (l:List (Nat × Nat)) (j:Nat) (h:j<l.length):lX (l.take (j+1))=lX (l.take j)+l[j].2:=by
 unfold lX;rw [List.take_succ_eq_append_getElem h,List.map_append,List.sum_append];simp
theorem Dn:∀ (l:List (Nat × Nat)) (j:Nat) (b:Nat × Nat),l[j]? = some b→(l.flatMap nN)[j*2]? = some (.int .u64 (b.1:Nat))∧(l.flatMap nN)[j*2+1]? = some (.int .u64 (b.2:Nat))
 | [],j,b,h=>by simp at h
 | c::t,0,b,h=>by
  obtain rfl:c=b:=by simpa using h
  exact ⟨rfl,rfl⟩
 | c::t,j+1,b,h=>by
  have:=Dn t j b (by simpa using h);rw [show (j+1)*2=j*2+2 by omega];exact this
theorem Ka {w:World} {B e s n:Nat} {v:Value} {xs:List Value} (h:w.ownsRow B e s v n xs):∃ pa cap,v=.slice pa n cap∧(0<n→∃ g,pa=some ⟨g,0,none⟩∧(∃ cur,w.heap[g]? = some (.cells cur e (0,0)))∧∀ j,j<n*s→w.cell? ⟨g,j,none⟩=xs[j]?):=by
 rcases h.2 with ⟨hv,hn⟩ | ⟨g,cap,cur,hv,_,hg,_⟩
 ·subst hn;exact ⟨none,0,hv,fun h=>by omega⟩
 ·subst hv;exact ⟨_,cap,rfl,fun _=>⟨g,rfl,⟨cur,hg⟩,fun j hj=>World.ownsRow.cellAt h j hj⟩⟩
theorem Kc {at_:Nat} {p:Pg} (ok:p.ok):∀ b∈jK at_ p,b.2≤1048576:=by
 intro b hb;unfold jK at hb;split at hb
 ·simp only [List.mem_singleton] at hb;rw [hb];obtain ⟨o,ho⟩:=Int.eq_ofNat_of_zero_le ok.order.1;have:=fD (o:=o) (by have:=ok.order.2;omega);rw [ho];simp only [Int.toNat_natCast];omega
 ·split at hb
  ·have key:∀ m,b∈fQ at_ (aB p.cls.toNat) p m→b.2=aB p.cls.toNat:=by
    intro m
    induction m with
    | zero=>intro h;simp [fQ] at h
    | succ m ih =>
     intro h;unfold fQ at h;rcases List.mem_append.1 h with h | h
     ·exact ih h
     ·split at h
      ·simp at h;rw [h]
      ·simp at h
   rw [key _ hb];have:=(fu p.cls ⟨ok.cls.1,by have:=ok.cls.2;omega⟩).2.2.1;omega
  ·simp at hb
theorem Bd {β:Bu} (ok:∀ p∈β.μ.pages,p.ok):∀ m,m≤β.μ.pages.length→∀ b∈dI β m,b.2≤1048576
 | 0,_,b,hb=>by simp [dI] at hb
 | m+1,hm,b,hb=>by
  unfold dI at hb;rcases List.mem_append.1 hb with h | h
  ·exact Bd ok m (by omega) b h
  ·refine Kc (ok _ ?_) b h;rw [List.getD_eq_getElem?_getD,List.getElem?_eq_getElem (by omega)];exact List.getElem_mem _
theorem Nf (l:List (Nat × Nat)) (j:Nat):lX (l.take j)≤lX l:=by
 unfold lX
 conv=>rhs;rw [←List.take_append_drop j l]
 rw [List.map_append,List.sum_append];omega
theorem FT (β:Bu):∀ m,jd β m≤m
 | 0=>Nat.le_refl _
 | m+1=>by
  unfold jd;have:=FT β m;split <;> omega
theorem ak.Wu {w:World} {hb s pb:Nat} {K:ay} {β:Bu} {ps:List Int} (R:ak 0 w hb s pb K β ps) :
  Calls Tryz.prog 26 #[.pointer (some ⟨hb,0,none⟩)] w (bC w hb s pb K β ps (.agg #[.int .u64 (β.σ.size*β.σ.n:Nat),.int .u64 (lX (dI β β.μ.pages.length):Nat),.int .i64 ((dI β β.μ.pages.length).length:Nat),.int .i64 (jd β β.μ.pages.length:Nat)])):=by
 have T0:=(Touch.refl Nothing w).alloc (.cells #[.int .u64 0,.int .u64 0,.int .i64 0,.int .i64 0] 36);have B0:=aC.new w #[.int .u64 0,.int .u64 0,.int .i64 0,.int .i64 0] 36;have hRB:w.heap.size<(w.alloc (.cells #[.int .u64 0,.int .u64 0,.int .i64 0,.int .i64 0] 36)).heap.size:=by simp
 have R0:=R.aj T0;have HRl:=Hd R;have Zh:=Hd (show w.heap.size∉hb::s::pb::K.fp from fun h=>by have:=R.lt _ h;omega);clear R;obtain ⟨c0,-,-,-,-,f0⟩:=R0.cells;have R1:=R0.locked 1;have HR1:=Hd R1;have HT0:=Hd T0;have HB0:=Hd B0;clear R1 R0 T0 B0
 go_enter_defers Tryz.func26,Tryz.ntmps26
 go_wp2_with fail
 refine (lock_free Tryz.muLib ⟨hb,0,none⟩ _ c0 f0).mono ?_
 rintro e w' ⟨rfl,rfl⟩;generalize hw0:w.alloc (.cells #[.int .u64 0,.int .u64 0,.int .i64 0,.int .i64 0] 36)=w0 at *;generalize hw1:w0.setCell ⟨hb,0,none⟩ (.int .i32 1)=w1 at *;have HW0:=Hd hw0;have HW1:=Hd hw1;obtain ⟨-,d2,-,d5,-,-⟩:=HR1.out.cells;have pK:hb<w1.heap.size:=HR1.out.blk.lt;have hcf:∀ (us:Array Value) (W:World),(callFunc 60 us).run Tryz.prog W=.ok (.enter 60 us) W:=fun us W=>by simp [go_sem]
 have nI:∀ (us:Array Value) (W:World),(callFunc 61 us).run Tryz.prog W=.ok (.enter 61 us) W:=fun us W=>by simp [go_sem]
 have kF:=Hd hcf;have wI:=Hd nI;have jg:=Hd (fun W (T:Touch Nothing w1 W)=>(HR1.out.aj T).sl.po.gM);have Zi:=Hd (fun W (T:Touch Nothing w1 W)=>(HR1.out.aj T).sl.po.bu.sp.end_);have htop:=HR1.out.sl.po.bu.sp.ok.wo;obtain ⟨H,hH⟩:∃ H,H=β.σ.size*β.σ.n:=⟨_,rfl⟩;have HH:=Hd hH;rw [←hH] at htop;have Zj:((β.σ.base+β.σ.size*β.σ.n:Nat):Int)=(β.σ.base:Int)+(H:Int):=by rw [hH];push_cast;rfl
 rw [Zj] at Zi;clear hcf nI hH Zj hw0 hw1 c0 f0;generalize yN:β.σ.base=B at *
 go_upto_region 3 with fail
 have hwd:IntKind.u64.wrap ((B:Int)+(H:Int)-(B:Int))=(H:Int):=by rw [IntWalk.u64_in _ (by omega)];omega
 go_cut [3] from 17 to 31 (fun v wx=>∃ SB:Nat,v=.pointer (some ⟨SB,0,none⟩)∧w1.heap.size≤SB∧aC wx SB 36 [.int .u64 (H:Int),.int .u64 0,.int .i64 0,.int .i64 0]∧Touch Nothing w1 wx)
 case first =>
  refine J9 ?_
  go_region_law (first | (refine eU _ (by rfl) 60 #[.tmp 22] #[120] (by rfl) #[.pointer (some ⟨pb,0,none⟩)] (by rfl) (jg.out _ (by first | exact (Touch.refl Nothing w1).drew | exact ((Touch.refl Nothing w1).drew).alloc _)) (kF.out _ _) ?_;rintro e w2 ⟨rfl,rfl⟩;refine ⟨_,rfl,?_⟩) | (refine eU _ (by rfl) 61 #[.tmp 23] #[115] (by rfl) #[.pointer (some ⟨K.L.sb,0,none⟩)] (by rfl) (Zi.out _ (by first | exact (Touch.refl Nothing w1).drew | exact ((Touch.refl Nothing w1).drew).alloc _)) (wI.out _ _) ?_;rintro e w2 ⟨rfl,hkq⟩;refine ⟨_,rfl,?_⟩;have T2:Touch Nothing w1 w2:=(by obtain ⟨kq,rfl⟩:=hkq;first | exact ((Touch.refl Nothing w1).drew).drewN kq | exact (((Touch.refl Nothing w1).alloc _).drew).drewN kq);have d2':w2.cell? ⟨hb,2,none⟩=some (.int .u64 B):=(T2.cell (p:=⟨hb,2,none⟩) pK (fun h=>h)).trans d2;have acY:hb<w2.heap.size:=Nat.lt_of_lt_of_le pK T2.size;have HT2:=Hd T2;first | (have BS:aC w2 w1.heap.size 36 [.int .u64 0,.int .u64 0,.int .i64 0,.int .i64 0]:=(by obtain ⟨kq,rfl⟩:=hkq;exact ((aC.new w1 #[.int .u64 0,.int .u64 0,.int .i64 0,.int .i64 0] 36).drew).drewN kq);have z0:w2.cell? ⟨w1.heap.size,0,none⟩=some (.int .u64 0):=BS.cell 0;have z1:w2.cell? ⟨w1.heap.size,1,none⟩=some (.int .u64 0):=BS.cell 1;have z2:w2.cell? ⟨w1.heap.size,2,none⟩=some (.int .i64 0):=BS.cell 2;have z3:w2.cell? ⟨w1.heap.size,3,none⟩=some (.int .i64 0):=BS.cell 3;have y0:=BS.free 0;have y1:=BS.free 1;have y2:=BS.free 2;have y3:=BS.free 3;have Wv:=Hd BS;clear BS hkq T2) | (clear hkq T2)))
  all_goals
   show Exit.then _ _ Exit.normal _ _
   try rw [hwd]
   go_wp2_with fail
   go_meet
   first
    | exact ⟨_,rfl,HT2.out.size,aC.new _ _ _,HT2.out.alloc _⟩
    | exact ⟨_,rfl,Nat.le_refl _,(((Wv.out.set 0 _).set 1 _).set 2 _).set 3 _,(((HT2.out.setCell (fun h=>absurd h (Nat.lt_irrefl _)) _).setCell (fun h=>absurd h (Nat.lt_irrefl _)) _).setCell (fun h=>absurd h (Nat.lt_irrefl _)) _).setCell (fun h=>absurd h (Nat.lt_irrefl _)) _⟩
 case rest =>
  obtain ⟨SB,rfl,Ww,hB,hT⟩:=hcut;have HL:=Hd ((HR1.out.aj hT).xO);have Wv:=Hd hB;have Fz:=Hd hT;clear hB hT
  go_wp2_with fail
  refine HL.out.mono ?_
  rintro e wl ⟨v,rfl,Sm⟩;have hlen:=HR1.out.sl.po.bu.mp.ok.len;have hll:=rY β β.μ.pages.length;have hsz:=IW _ (Bd HR1.out.sl.po.bu.mp.ok.page _ (Nat.le_refl _));have hmn:=Nf (dI β β.μ.pages.length);have htk:=Nc (dI β β.μ.pages.length);have Au:=Hd (Fz.out.trans Sm.touch);have Da:=Hd (Wv.out.touch Sm.touch (fun h=>h));obtain ⟨pa,cap,rfl,hrow⟩:=Ka Sm.own;have Wx:=Hd hrow;generalize hl:dI β β.μ.pages.length=l at *;clear Sm hrow hl
  go_wp2_with fail
  go_loopw [35] (fun a wr=>∃ j:Nat,j≤l.length∧a=.int .i64 j∧aC wr SB 36 [.int .u64 (H:Int),.int .u64 (lX (l.take j):Nat),.int .i64 (j:Nat),.int .i64 0]∧Touch (· = SB) wl wr) (fun a _=>l.length-(intOf a).toNat)
  case atStart=>exact ⟨0,by omega,rfl,Da.out,Touch.refl _ _⟩
  case round =>
   obtain ⟨j,hj,rfl,hB,hT⟩:=hrel;have c1:wr.cell? ⟨SB,1,none⟩=some (.int .u64 (lX (l.take j):Nat)):=hB.cell 1;have c2:wr.cell? ⟨SB,2,none⟩=some (.int .i64 (j:Nat)):=hB.cell 2;have f1:=hB.free 1;have f2:=hB.free 2;have hsb:=hB.lt;have HB:=Hd hB;have HT:=Hd hT;clear hB;by_cases hlt:j<l.length
   ·obtain ⟨g,hg,⟨cur,hcur⟩,hcells⟩:=Wx.out (by omega);subst hg
    have hgs:g≠SB:=by
     rintro rfl;have h2:wl.heap[g]? = _:=Da.out;rw [hcur] at h2;cases h2
    have hgl:g<wl.heap.size:=(Array.getElem?_eq_some_iff.1 hcur).1;obtain ⟨e1,e2⟩:=Dn l j l[j] (List.getElem?_eq_getElem hlt);have x1:wr.cell? ⟨g,j*2,none⟩=some (.int .u64 (l[j].1:Nat)):=((hT.cell (p:=⟨g,j*2,none⟩) hgl hgs).trans (hcells (j*2) (by omega))).trans e1;have x2:wr.cell? ⟨g,j*2+1,none⟩=some (.int .u64 (l[j].2:Nat)):=((hT.cell (p:=⟨g,j*2+1,none⟩) hgl hgs).trans (hcells (j*2+1) (by omega))).trans e2;have hgr:g<wr.heap.size:=Nat.lt_of_lt_of_le hgl hT.size;have h1:=htk j hlt;have h2:=hmn (j+1);have HS:=Hd h1;generalize hP:l[j].1=P at *;generalize hS:l[j].2=S at *;generalize lX (l.take j)=sj at *;clear hT hcur hcells e1 e2 hP hS
    go_wp2_with fail
    go_roundw
    case rel =>
     refine ⟨j+1,by omega,rfl,?_,?_⟩
     ·rw [HS.out,show (((sj+S:Nat):Nat):Int)=(sj:Int)+(S:Int) by omega,show ((j+1:Nat):Int)=(j:Int)+1 by omega];exact ((HB.out.set 1 (.int .u64 ((sj:Int)+(S:Int)))).set 2 (.int .i64 ((j:Int)+1))).alloc _
     ·exact ((HT.out.trans (Touch.cellAt wr SB 1 _)).trans (Touch.cellAt _ SB 2 _)).alloc _
    case measure=>simp [intOf];omega
   ·obtain rfl:j=l.length:=by omega
    rw [List.take_length] at HB;have Sn:=Hd (Au.out.trans' hT (fun k hk e=>by subst e;exact absurd (Nat.lt_of_lt_of_le hk Ww) (Nat.lt_irrefl _)));have Zk:=Hd ((HR1.out.aj Sn.out).sl.po.jQ);have zZ:=Hd ((HR1.out.aj Sn.out).sl.po.bu.mp.sU);obtain ⟨-,-,-,g5,-,-⟩:=(HR1.out.aj Sn.out).cells;clear hT c1 c2 f1 f2 hsb htk Wx hlt;generalize hsum:lX l=sm at *;generalize acF:l.length=ll at *
    go_wp2_with fail
    refine Zk.out.mono ?_
    rintro e wm ⟨rfl,rfl⟩
    go_wp2_with fail
    refine zZ.out.mono ?_
    rintro e wm ⟨rfl,rfl⟩;clear Zk zZ g5
    go_wp2_with fail
    go_loopw [59] (fun a wr=>∃ k:Nat,k≤β.μ.pages.length∧a=.int .i64 k∧aC wr SB 36 [.int .u64 (H:Int),.int .u64 (sm:Nat),.int .i64 (ll:Nat),.int .i64 (jd β k:Nat)]∧Touch Nothing w1 wr) (fun a _=>β.μ.pages.length-(intOf a).toNat)
    case atStart=>exact ⟨0,by omega,rfl,HB.out,Sn.out⟩
    case round =>
     obtain ⟨k,hk,rfl,hB,hT⟩:=hrel;have HB2:=Hd hB;have HT2:=Hd hT;clear hB hT;by_cases hlt:k<β.μ.pages.length
     ·have hp:β.μ.pages[k]? = some β.μ.pages[k]:=List.getElem?_eq_getElem hlt;generalize β.μ.pages[k]=p at hp;have iW:=Hd ((HR1.out.aj HT2.out).sl.po.bu.mp.at_ hp)
      have HF:=Hd (show jd β (k+1)=jd β k+if p.kind=0∨p.kind=1 then 1 else 0 by
       show jd β k+(if (β.μ.pages.getD k eH).kind=0∨(β.μ.pages.getD k eH).kind=1 then 1 else 0)=_
       rw [List.getD_eq_getElem?_getD,hp];rfl)
      have hfl:=FT β k;clear hp
      go_wp2_with fail
      refine iW.out.mono ?_
      rintro e w3 ⟨rfl,T3⟩;have hB3:=HB2.out.touch T3 (fun h=>h);have c3:w3.cell? ⟨SB,3,none⟩=some (.int .i64 (jd β k:Nat)):=hB3.cell 3;have f3:=hB3.free 3;have hsb:=hB3.lt;have HB3:=Hd hB3;have HT3:=Hd (HT2.out.trans T3);clear hB3 T3 iW;generalize jd β k=fk at *;unfold Pg.val;by_cases h0:p.kind=0
      ·rw [if_pos (.inl h0)] at HF;have e0:(p.kind == 0)=true:=by rw [h0];rfl
       go_wp2_with fail
       go_roundw
       case rel =>
        refine ⟨k+1,by omega,rfl,?_,?_⟩
        ·rw [HF.out,show ((fk+1:Nat):Int)=(fk:Int)+1 by omega];exact (HB3.out.set 3 (.int .i64 ((fk:Int)+1))).alloc _
        ·exact (HT3.out.trans' (Touch.cellAt w3 SB 3 _) (fun j hj e=>by subst e;exact absurd (Nat.lt_of_lt_of_le hj Ww) (Nat.lt_irrefl _))).alloc _
       case measure=>simp [intOf];omega
      ·by_cases h1:p.kind=1
       ·rw [if_pos (.inr h1)] at HF;have e0:(p.kind == 0)=false:=by rw [h1];rfl
        have e1:(p.kind == 1)=true:=by rw [h1];rfl
        go_wp2_with fail
        go_roundw
        case rel =>
         refine ⟨k+1,by omega,rfl,?_,?_⟩
         ·rw [HF.out,show ((fk+1:Nat):Int)=(fk:Int)+1 by omega];exact (HB3.out.set 3 (.int .i64 ((fk:Int)+1))).alloc _
         ·exact (HT3.out.trans' (Touch.cellAt w3 SB 3 _) (fun j hj e=>by subst e;exact absurd (Nat.lt_of_lt_of_le hj Ww) (Nat.lt_irrefl _))).alloc _
        case measure=>simp [intOf];omega
       ·rw [if_neg (fun h=>h.elim h0 h1)] at HF;have e0:(p.kind == 0)=false:=by rw [beq_eq_false_iff_ne];exact h0
        have e1:(p.kind == 1)=false:=by rw [beq_eq_false_iff_ne];exact h1
        go_wp2_with fail
        go_roundw
        case rel =>
         refine ⟨k+1,by omega,rfl,?_,?_⟩
         ·rw [HF.out];exact HB3.out.alloc _
         ·exact HT3.out.alloc _
        case measure=>simp [intOf];omega
     ·obtain rfl:k=β.μ.pages.length:=by omega
      have s0:wr.cell? ⟨SB,0,none⟩=some (.int .u64 (H:Int)):=HB2.out.cell 0;have s1:wr.cell? ⟨SB,1,none⟩=some (.int .u64 (sm:Nat)):=HB2.out.cell 1;have s2:wr.cell? ⟨SB,2,none⟩=some (.int .i64 (ll:Nat)):=HB2.out.cell 2;have s3:wr.cell? ⟨SB,3,none⟩=some (.int .i64 (jd β β.μ.pages.length:Nat)):=HB2.out.cell 3;have hrb:w.heap.size≠hb:=fun e=>Zh.out (by rw [e];simp)
      have hBr:aC wr w.heap.size 36 [.int .u64 0,.int .u64 0,.int .i64 0,.int .i64 0]:=by
       have h1:aC w1 w.heap.size 36 [.int .u64 0,.int .u64 0,.int .i64 0,.int .i64 0]:=by
        rw [←HW1.out];exact HB0.out.other (fun e=>hrb e.symm) _
       exact h1.touch HT2.out (fun h=>h)
      have q0:=hBr.cell 0;have q1:=hBr.cell 1;have q2:=hBr.cell 2;have q3:=hBr.cell 3;simp only [List.getElem?_cons_zero,List.getElem?_cons_succ] at q0 q1 q2 q3;have p0:=hBr.free 0;have p1:=hBr.free 1;have p2:=hBr.free 2;have p3:=hBr.free 3;have HBr:=Hd hBr;clear hBr
      go_wp2_with fail
      have BZ:=(((HBr.out.set 0 (.int .u64 (H:Int))).set 1 (.int .u64 (sm:Nat))).set 2 (.int .i64 (ll:Nat))).set 3 (.int .i64 (jd β β.μ.pages.length:Nat));have TZ:Touch (fun k=>k=w.heap.size) wr _:=(((Touch.cellAt wr w.heap.size 0 (.int .u64 (H:Int))).trans (Touch.cellAt _ w.heap.size 1 (.int .u64 (sm:Nat)))).trans (Touch.cellAt _ w.heap.size 2 (.int .i64 (ll:Nat)))).trans (Touch.cellAt _ w.heap.size 3 (.int .i64 (jd β β.μ.pages.length:Nat)));generalize (((wr.setCell ⟨w.heap.size,0,none⟩ (.int .u64 (H:Int))).setCell ⟨w.heap.size,1,none⟩ (.int .u64 (sm:Nat))).setCell ⟨w.heap.size,2,none⟩ (.int .i64 (ll:Nat))).setCell ⟨w.heap.size,3,none⟩ (.int .i64 (jd β β.μ.pages.length:Nat))=wz at *;have Zl:Touch (fun k=>k=w.heap.size) w1 wz:=HT2.out.none_.trans TZ;have RZ:ak 1 wz hb s pb K β ps:=HR1.out.touch Zl (fun k hk e=>Zh.out (e▸hk)) (fun k hk e=>by have:=HRl.out.ko.size;omega);have hm:=RZ.cells.1;have fm:=RZ.cells.2.2.2.2.2;have b0:wz.cell? ⟨w.heap.size,0,none⟩=some (.int .u64 (H:Int)):=BZ.cell 0;have b1:wz.cell? ⟨w.heap.size,1,none⟩=some (.int .u64 (sm:Nat)):=BZ.cell 1;have b2:wz.cell? ⟨w.heap.size,2,none⟩=some (.int .i64 (ll:Nat)):=BZ.cell 2;have b3:wz.cell? ⟨w.heap.size,3,none⟩=some (.int .i64 (jd β β.μ.pages.length:Nat)):=BZ.cell 3;refine leaves_cons (f:=59) (args:=#[.pointer (some ⟨hb,0,none⟩)]) (by simp) (by simp [go_sem]) ?_
      refine (unlock_deferred Tryz.muLib ⟨hb,0,none⟩ .returning _ hm fm).mono ?_
      rintro e u' w'' ⟨rfl,rfl,rfl⟩;have Sq:=BZ.other (p:=⟨hb,0,none⟩) (fun e=>hrb e.symm) (.int .i32 0);have z0:(wz.setCell ⟨hb,0,none⟩ (.int .i32 0)).cell? ⟨w.heap.size,0,none⟩=some (.int .u64 (H:Int)):=Sq.cell 0;have z1:(wz.setCell ⟨hb,0,none⟩ (.int .i32 0)).cell? ⟨w.heap.size,1,none⟩=some (.int .u64 (sm:Nat)):=Sq.cell 1;have z2:(wz.setCell ⟨hb,0,none⟩ (.int .i32 0)).cell? ⟨w.heap.size,2,none⟩=some (.int .i64 (ll:Nat)):=Sq.cell 2;have z3:(wz.setCell ⟨hb,0,none⟩ (.int .i32 0)).cell? ⟨w.heap.size,3,none⟩=some (.int .i64 (jd β β.μ.pages.length:Nat)):=Sq.cell 3;refine ⟨.agg #[.int .u64 (H:Int),.int .u64 (sm:Nat),.int .i64 (ll:Nat),.int .i64 (jd β β.μ.pages.length:Nat)],?_,?_,RZ.locked 0,?_⟩
      ·simp [results,Tryz.results26,go_sem,z0,z1,z2,z3]
      ·rw [HH.out]
      ·have t1:Touch (· = hb) w w1:=by
        rw [←HW1.out];exact HT0.out.none_.trans (Touch.cellAt w0 hb 0 _)
       exact (t1.trans' Zl (fun k hk e=>by omega)).trans (Touch.cellAt wz hb 0 _)
end Go.Proofs.YtnjcmcnjgdjbiaaGreatDoor
namespace Go.Proofs.YtnjcmcnjgdjbiaaGreatDoor
open Go.RowKit
theorem Ke {w:World} (hb q:Nat) (c:au) (av:Value)
  (hop:kC.reverse.find? (fun p=>p.1 == c.op)=none) (hwf:(Lit.int .i64 c.op).wf=true)
  (jZ:Hid (∀ W,Touch Nothing w W→Calls Tryz.prog 38 #[c.val,av] W fun e w'=>e=.returned (.tuple #[.int .u64 q,.bool true])∧Touch Nothing W w')) :
  Calls Tryz.prog 22 #[.pointer (some ⟨hb,0,none⟩),c.val,av] w (Done w fun an W W1=>an=aY 1∧Touch Nothing W W1):=by
 obtain ⟨op,ref,p,a,b,deny,dp,dn,dc⟩:=c;have Ac:=Hd (show kC.reverse.find? (fun p=>p.1 == op)=none from hop);have FD:=Hd (show (Lit.int .i64 op).wf=true from hwf);clear hop hwf;unfold au.val at *
 go_enter Tryz.func22,Tryz.ntmps22
 go_wp2_with fail
 refine (jZ.out _ (((Touch.refl _ w).alloc _).alloc _)).mono ?_
 rintro e w1 ⟨rfl,T1⟩;have B0:=(((aC.new w #[.int .i64 op,.int .i64 ref,.int .u64 p,.int .u64 a,.int .u64 b,.bool deny,.slice dp dn dc] 43).alloc (.cells #[.int .i64 0,.int .u64 0,.slice none 0 0,.int .u64 0,.int .u64 0,.int .i64 0,.int .i64 0] 38)).touch T1 (fun h=>h));have R0:=((aC.new (w.alloc (.cells #[.int .i64 op,.int .i64 ref,.int .u64 p,.int .u64 a,.int .u64 b,.bool deny,.slice dp dn dc] 43)) #[.int .i64 0,.int .u64 0,.slice none 0 0,.int .u64 0,.int .u64 0,.int .i64 0,.int .i64 0] 38).touch T1 (fun h=>h));have hsz:(w.alloc (.cells #[.int .i64 op,.int .i64 ref,.int .u64 p,.int .u64 a,.int .u64 b,.bool deny,.slice dp dn dc] 43)).heap.size=w.heap.size+1:=by simp
 rw [hsz] at R0;have HT1:=Hd ((((Touch.refl Nothing w).alloc (.cells #[.int .i64 op,.int .i64 ref,.int .u64 p,.int .u64 a,.int .u64 b,.bool deny,.slice dp dn dc] 43)).alloc (.cells #[.int .i64 0,.int .u64 0,.slice none 0 0,.int .u64 0,.int .u64 0,.int .i64 0,.int .i64 0] 38)).trans T1);have k0:w1.cell? ⟨w.heap.size,0,none⟩=some (.int .i64 op):=B0.cell 0;have k1:w1.cell? ⟨w.heap.size,1,none⟩=some (.int .i64 ref):=B0.cell 1;have k2:w1.cell? ⟨w.heap.size,2,none⟩=some (.int .u64 p):=B0.cell 2;have k3:w1.cell? ⟨w.heap.size,3,none⟩=some (.int .u64 a):=B0.cell 3;have k4:w1.cell? ⟨w.heap.size,4,none⟩=some (.int .u64 b):=B0.cell 4;have k5:w1.cell? ⟨w.heap.size,5,none⟩=some (.bool deny):=B0.cell 5;have k6:w1.cell? ⟨w.heap.size,6,none⟩=some (.slice dp dn dc):=B0.cell 6;have HB0:=Hd B0;have bG:=Hd R0;clear B0 R0 T1 hsz;have zm:=Hd (show ¬(w.heap.size=w1.heap.size+1) by have:=HB0.out.lt;omega);have hmm:=@run_makeMap Tryz.prog;have zK:∀ (fn:Fn) (first cap:Array Value) (w:World),(Instr.makeFunc fn first cap).run Tryz.prog w=.ok (.func fn first cap) w:=fun _ _ _ _=>rfl
 have HM:=Hd (nJ.made (w1.alloc (.cells #[.pointer (some ⟨hb,0,none⟩),.int .u64 q,.int .i64 op,.int .i64 ref,.int .u64 p,.int .u64 a,.int .u64 b,.bool deny,.slice dp dn dc] 103)) (.agg #[.pointer (some ⟨hb,0,none⟩),.int .u64 q,.int .i64 op,.int .i64 ref,.int .u64 p,.int .u64 a,.int .u64 b,.bool deny,.slice dp dn dc]));have gN:=Hd ((aC.new w1 #[.pointer (some ⟨hb,0,none⟩),.int .u64 q,.int .i64 op,.int .i64 ref,.int .u64 p,.int .u64 a,.int .u64 b,.bool deny,.slice dp dn dc] 103).alloc (.map #[] 0));have TT:Touch Nothing w1 ((w1.alloc (.cells #[.pointer (some ⟨hb,0,none⟩),.int .u64 q,.int .i64 op,.int .i64 ref,.int .u64 p,.int .u64 a,.int .u64 b,.bool deny,.slice dp dn dc] 103)).alloc (.map #[] 0)):=((Touch.refl Nothing w1).alloc _).alloc _;have oU:=Hd TT;have HT:=Hd (Touch.refl (· = w1.heap.size+1) ((w1.alloc (.cells #[.pointer (some ⟨hb,0,none⟩),.int .u64 q,.int .i64 op,.int .i64 ref,.int .u64 p,.int .u64 a,.int .u64 b,.bool deny,.slice dp dn dc] 103)).alloc (.map #[] 0)));have gY:=Hd (show ¬(w1.heap.size=w1.heap.size+1) by omega);have hsz1:(w1.alloc (.cells #[.pointer (some ⟨hb,0,none⟩),.int .u64 q,.int .i64 op,.int .i64 ref,.int .u64 p,.int .u64 a,.int .u64 b,.bool deny,.slice dp dn dc] 103)).heap.size=w1.heap.size+1:=by simp
 rw [hsz1] at HM;have d0:True:=trivial;have d1:True:=trivial;have d2:True:=trivial;have d3:True:=trivial;have d4:True:=trivial;have d5:True:=trivial;have d6:True:=trivial;have d7:True:=trivial;have d8:True:=trivial;have d9:True:=trivial;clear TT hsz1
 go_upto_region 5 with (first | (refine oW rfl _ _ rfl _ _ _ rfl HM.out op rfl FD.out Ac.out ?_) | (refine kr rfl _ _ _ rfl _ _ _ rfl HM.out (by decide) _ _ rfl (by decide) rfl ?_;intro w9 hown hgrow;have X:=And.intro (Hd hown) (Hd (HT.out.trans (Touch.bT hgrow (fun k hk=>(Option.some.inj hk).symm))));clear HM HT d9 d0 d1 d2 d3 d4 d5 d6 d7 d8 hown hgrow;obtain ⟨HM,HT⟩:=X;have d0:World.cell? _ ⟨w1.heap.size,0,none⟩=some (.pointer (some ⟨hb,0,none⟩)):=(gN.out.touch HT.out gY.out).cell 0;have d1:World.cell? _ ⟨w1.heap.size,1,none⟩=some (.int .u64 q):=(gN.out.touch HT.out gY.out).cell 1;have d2:World.cell? _ ⟨w1.heap.size,2,none⟩=some (.int .i64 op):=(gN.out.touch HT.out gY.out).cell 2;have d3:World.cell? _ ⟨w1.heap.size,3,none⟩=some (.int .i64 ref):=(gN.out.touch HT.out gY.out).cell 3;have d4:World.cell? _ ⟨w1.heap.size,4,none⟩=some (.int .u64 p):=(gN.out.touch HT.out gY.out).cell 4;have d5:World.cell? _ ⟨w1.heap.size,5,none⟩=some (.int .u64 a):=(gN.out.touch HT.out gY.out).cell 5;have d6:World.cell? _ ⟨w1.heap.size,6,none⟩=some (.int .u64 b):=(gN.out.touch HT.out gY.out).cell 6;have d7:World.cell? _ ⟨w1.heap.size,7,none⟩=some (.bool deny):=(gN.out.touch HT.out gY.out).cell 7;have d8:World.cell? _ ⟨w1.heap.size,8,none⟩=some (.slice dp dn dc):=(gN.out.touch HT.out gY.out).cell 8;have d9:World.cell? _ ⟨w.heap.size,0,none⟩=some (.int .i64 op):=((HB0.out.touch oU.out (fun h=>h)).touch HT.out zm.out).cell 0))
 have hsw:=HT1.out.size;have Dh:=Hd ((HT1.out.trans oU.out).trans' HT.out (fun i hi e=>by omega));have R9:=(((bG.out.touch oU.out (fun h=>h))).touch HT.out (show ¬(w.heap.size+1=w1.heap.size+1) by have:=bG.out.lt;omega));have Di:=Hd R9;obtain ⟨z0,f0,z1,f1,z2,f2,z3,f3,z4,f4,z5,f5,z6,f6⟩:=R9.jq;have zn:=Hd (((((((R9.set 0 (.int .i64 1)).set 1 (.int .u64 0)).set 2 (.slice none 0 0)).set 3 (.int .u64 0)).set 4 (.int .u64 0)).set 5 (.int .i64 0)).set 6 (.int .i64 0));clear hsw d0 d1 d2 d3 d4 d5 d6 d7 d8 d9 k0 k1 k2 k3 k4 k5 k6 R9
 go_wp2_with fail
 obtain ⟨y0,y1,y2,y3,y4,y5,y6⟩:=jr zn.out;exact bodyPost_ret (v:=.agg #[.int .i64 1,.int .u64 0,.slice none 0 0,.int .u64 0,.int .u64 0,.int .i64 0,.int .i64 0]) (by simp [results,Tryz.results22,go_sem,y0,y1,y2,y3,y4,y5,y6]) rfl ⟨aY 1,rfl,_,_,w.heap.size+1,Dh.out,⟨rfl,Touch.refl _ _⟩,by omega,Di.out.lt,bJ _ _ (aY 1)⟩
theorem Kg {w:World} (hb q:Nat) (c:au) (av:Value)
  (hop:kC.reverse.find? (fun p=>p.1 == c.op)=none) (hwf:(Lit.int .i64 c.op).wf=true)
  (jZ:Hid (∀ W,Touch Nothing w W→Calls Tryz.prog 38 #[c.val,av] W fun e w'=>e=.returned (.tuple #[.int .u64 q,.bool false])∧Touch Nothing W w')) :
  Calls Tryz.prog 22 #[.pointer (some ⟨hb,0,none⟩),c.val,av] w (Done w fun an W W1=>an=aY 1∧Touch Nothing W W1):=by
 obtain ⟨op,ref,p,a,b,deny,dp,dn,dc⟩:=c;have Ac:=Hd (show kC.reverse.find? (fun p=>p.1 == op)=none from hop);have FD:=Hd (show (Lit.int .i64 op).wf=true from hwf);clear hop hwf;unfold au.val at *
 go_enter Tryz.func22,Tryz.ntmps22
 go_wp2_with fail
 refine (jZ.out _ (((Touch.refl _ w).alloc _).alloc _)).mono ?_
 rintro e w1 ⟨rfl,T1⟩;have B0:=(((aC.new w #[.int .i64 op,.int .i64 ref,.int .u64 p,.int .u64 a,.int .u64 b,.bool deny,.slice dp dn dc] 43).alloc (.cells #[.int .i64 0,.int .u64 0,.slice none 0 0,.int .u64 0,.int .u64 0,.int .i64 0,.int .i64 0] 38)).touch T1 (fun h=>h));have R0:=((aC.new (w.alloc (.cells #[.int .i64 op,.int .i64 ref,.int .u64 p,.int .u64 a,.int .u64 b,.bool deny,.slice dp dn dc] 43)) #[.int .i64 0,.int .u64 0,.slice none 0 0,.int .u64 0,.int .u64 0,.int .i64 0,.int .i64 0] 38).touch T1 (fun h=>h));have hsz:(w.alloc (.cells #[.int .i64 op,.int .i64 ref,.int .u64 p,.int .u64 a,.int .u64 b,.bool deny,.slice dp dn dc] 43)).heap.size=w.heap.size+1:=by simp
 rw [hsz] at R0;have HT1:=Hd ((((Touch.refl Nothing w).alloc (.cells #[.int .i64 op,.int .i64 ref,.int .u64 p,.int .u64 a,.int .u64 b,.bool deny,.slice dp dn dc] 43)).alloc (.cells #[.int .i64 0,.int .u64 0,.slice none 0 0,.int .u64 0,.int .u64 0,.int .i64 0,.int .i64 0] 38)).trans T1);have k0:w1.cell? ⟨w.heap.size,0,none⟩=some (.int .i64 op):=B0.cell 0;have k1:w1.cell? ⟨w.heap.size,1,none⟩=some (.int .i64 ref):=B0.cell 1;have k2:w1.cell? ⟨w.heap.size,2,none⟩=some (.int .u64 p):=B0.cell 2;have k3:w1.cell? ⟨w.heap.size,3,none⟩=some (.int .u64 a):=B0.cell 3;have k4:w1.cell? ⟨w.heap.size,4,none⟩=some (.int .u64 b):=B0.cell 4;have k5:w1.cell? ⟨w.heap.size,5,none⟩=some (.bool deny):=B0.cell 5;have k6:w1.cell? ⟨w.heap.size,6,none⟩=some (.slice dp dn dc):=B0.cell 6;have HB0:=Hd B0;have bG:=Hd R0;clear B0 R0 T1 hsz;have zm:=Hd (show ¬(w.heap.size=w1.heap.size+1) by have:=HB0.out.lt;omega);have hmm:=@run_makeMap Tryz.prog;have zK:∀ (fn:Fn) (first cap:Array Value) (w:World),(Instr.makeFunc fn first cap).run Tryz.prog w=.ok (.func fn first cap) w:=fun _ _ _ _=>rfl
 have HM:=Hd (nJ.made (w1.alloc (.cells #[.pointer (some ⟨hb,0,none⟩),.int .u64 q,.int .i64 op,.int .i64 ref,.int .u64 p,.int .u64 a,.int .u64 b,.bool deny,.slice dp dn dc] 103)) (.agg #[.pointer (some ⟨hb,0,none⟩),.int .u64 q,.int .i64 op,.int .i64 ref,.int .u64 p,.int .u64 a,.int .u64 b,.bool deny,.slice dp dn dc]));have gN:=Hd ((aC.new w1 #[.pointer (some ⟨hb,0,none⟩),.int .u64 q,.int .i64 op,.int .i64 ref,.int .u64 p,.int .u64 a,.int .u64 b,.bool deny,.slice dp dn dc] 103).alloc (.map #[] 0));have TT:Touch Nothing w1 ((w1.alloc (.cells #[.pointer (some ⟨hb,0,none⟩),.int .u64 q,.int .i64 op,.int .i64 ref,.int .u64 p,.int .u64 a,.int .u64 b,.bool deny,.slice dp dn dc] 103)).alloc (.map #[] 0)):=((Touch.refl Nothing w1).alloc _).alloc _;have oU:=Hd TT;have HT:=Hd (Touch.refl (· = w1.heap.size+1) ((w1.alloc (.cells #[.pointer (some ⟨hb,0,none⟩),.int .u64 q,.int .i64 op,.int .i64 ref,.int .u64 p,.int .u64 a,.int .u64 b,.bool deny,.slice dp dn dc] 103)).alloc (.map #[] 0)));have gY:=Hd (show ¬(w1.heap.size=w1.heap.size+1) by omega);have hsz1:(w1.alloc (.cells #[.pointer (some ⟨hb,0,none⟩),.int .u64 q,.int .i64 op,.int .i64 ref,.int .u64 p,.int .u64 a,.int .u64 b,.bool deny,.slice dp dn dc] 103)).heap.size=w1.heap.size+1:=by simp
 rw [hsz1] at HM;have d0:True:=trivial;have d1:True:=trivial;have d2:True:=trivial;have d3:True:=trivial;have d4:True:=trivial;have d5:True:=trivial;have d6:True:=trivial;have d7:True:=trivial;have d8:True:=trivial;have d9:True:=trivial;clear TT hsz1
 go_upto_region 5 with (first | (refine oW rfl _ _ rfl _ _ _ rfl HM.out op rfl FD.out Ac.out ?_) | (refine kr rfl _ _ _ rfl _ _ _ rfl HM.out (by decide) _ _ rfl (by decide) rfl ?_;intro w9 hown hgrow;have X:=And.intro (Hd hown) (Hd (HT.out.trans (Touch.bT hgrow (fun k hk=>(Option.some.inj hk).symm))));clear HM HT d9 d0 d1 d2 d3 d4 d5 d6 d7 d8 hown hgrow;obtain ⟨HM,HT⟩:=X;have d0:World.cell? _ ⟨w1.heap.size,0,none⟩=some (.pointer (some ⟨hb,0,none⟩)):=(gN.out.touch HT.out gY.out).cell 0;have d1:World.cell? _ ⟨w1.heap.size,1,none⟩=some (.int .u64 q):=(gN.out.touch HT.out gY.out).cell 1;have d2:World.cell? _ ⟨w1.heap.size,2,none⟩=some (.int .i64 op):=(gN.out.touch HT.out gY.out).cell 2;have d3:World.cell? _ ⟨w1.heap.size,3,none⟩=some (.int .i64 ref):=(gN.out.touch HT.out gY.out).cell 3;have d4:World.cell? _ ⟨w1.heap.size,4,none⟩=some (.int .u64 p):=(gN.out.touch HT.out gY.out).cell 4;have d5:World.cell? _ ⟨w1.heap.size,5,none⟩=some (.int .u64 a):=(gN.out.touch HT.out gY.out).cell 5;have d6:World.cell? _ ⟨w1.heap.size,6,none⟩=some (.int .u64 b):=(gN.out.touch HT.out gY.out).cell 6;have d7:World.cell? _ ⟨w1.heap.size,7,none⟩=some (.bool deny):=(gN.out.touch HT.out gY.out).cell 7;have d8:World.cell? _ ⟨w1.heap.size,8,none⟩=some (.slice dp dn dc):=(gN.out.touch HT.out gY.out).cell 8;have d9:World.cell? _ ⟨w.heap.size,0,none⟩=some (.int .i64 op):=((HB0.out.touch oU.out (fun h=>h)).touch HT.out zm.out).cell 0))
 have hsw:=HT1.out.size;have Dh:=Hd ((HT1.out.trans oU.out).trans' HT.out (fun i hi e=>by omega));have R9:=(((bG.out.touch oU.out (fun h=>h))).touch HT.out (show ¬(w.heap.size+1=w1.heap.size+1) by have:=bG.out.lt;omega));have Di:=Hd R9;obtain ⟨z0,f0,z1,f1,z2,f2,z3,f3,z4,f4,z5,f5,z6,f6⟩:=R9.jq;have zn:=Hd (((((((R9.set 0 (.int .i64 1)).set 1 (.int .u64 0)).set 2 (.slice none 0 0)).set 3 (.int .u64 0)).set 4 (.int .u64 0)).set 5 (.int .i64 0)).set 6 (.int .i64 0));clear hsw d0 d1 d2 d3 d4 d5 d6 d7 d8 d9 k0 k1 k2 k3 k4 k5 k6 R9
 go_wp2_with fail
 obtain ⟨y0,y1,y2,y3,y4,y5,y6⟩:=jr zn.out;exact bodyPost_ret (v:=.agg #[.int .i64 1,.int .u64 0,.slice none 0 0,.int .u64 0,.int .u64 0,.int .i64 0,.int .i64 0]) (by simp [results,Tryz.results22,go_sem,y0,y1,y2,y3,y4,y5,y6]) rfl ⟨aY 1,rfl,_,_,w.heap.size+1,Dh.out,⟨rfl,Touch.refl _ _⟩,by omega,Di.out.lt,bJ _ _ (aY 1)⟩
theorem Ul {w:World} (hb q:Nat) (c:au) (av:Value)
  (f:Nat) (hop:(kC.reverse.find? (fun p=>p.1 == c.op)).map Prod.snd=some f) (hwf:(Lit.int .i64 c.op).wf=true)
  (jZ:Hid (∀ W,Touch Nothing w W→Calls Tryz.prog 38 #[c.val,av] W fun e w'=>e=.returned (.tuple #[.int .u64 q,.bool false])∧Touch Nothing W w')) :
  Calls Tryz.prog 22 #[.pointer (some ⟨hb,0,none⟩),c.val,av] w (Done w fun an W W1=>an=aY 1∧Touch Nothing W W1):=by
 obtain ⟨op,ref,p,a,b,deny,dp,dn,dc⟩:=c;have Ac:=Hd (show (kC.reverse.find? (fun p=>p.1 == op)).map Prod.snd=some f from hop);have FD:=Hd (show (Lit.int .i64 op).wf=true from hwf);clear hop hwf;unfold au.val at *
 go_enter Tryz.func22,Tryz.ntmps22
 go_wp2_with fail
 refine (jZ.out _ (((Touch.refl _ w).alloc _).alloc _)).mono ?_
 rintro e w1 ⟨rfl,T1⟩;have B0:=(((aC.new w #[.int .i64 op,.int .i64 ref,.int .u64 p,.int .u64 a,.int .u64 b,.bool deny,.slice dp dn dc] 43).alloc (.cells #[.int .i64 0,.int .u64 0,.slice none 0 0,.int .u64 0,.int .u64 0,.int .i64 0,.int .i64 0] 38)).touch T1 (fun h=>h));have R0:=((aC.new (w.alloc (.cells #[.int .i64 op,.int .i64 ref,.int .u64 p,.int .u64 a,.int .u64 b,.bool deny,.slice dp dn dc] 43)) #[.int .i64 0,.int .u64 0,.slice none 0 0,.int .u64 0,.int .u64 0,.int .i64 0,.int .i64 0] 38).touch T1 (fun h=>h));have hsz:(w.alloc (.cells #[.int .i64 op,.int .i64 ref,.int .u64 p,.int .u64 a,.int .u64 b,.bool deny,.slice dp dn dc] 43)).heap.size=w.heap.size+1:=by simp
 rw [hsz] at R0;have HT1:=Hd ((((Touch.refl Nothing w).alloc (.cells #[.int .i64 op,.int .i64 ref,.int .u64 p,.int .u64 a,.int .u64 b,.bool deny,.slice dp dn dc] 43)).alloc (.cells #[.int .i64 0,.int .u64 0,.slice none 0 0,.int .u64 0,.int .u64 0,.int .i64 0,.int .i64 0] 38)).trans T1);have k0:w1.cell? ⟨w.heap.size,0,none⟩=some (.int .i64 op):=B0.cell 0;have k1:w1.cell? ⟨w.heap.size,1,none⟩=some (.int .i64 ref):=B0.cell 1;have k2:w1.cell? ⟨w.heap.size,2,none⟩=some (.int .u64 p):=B0.cell 2;have k3:w1.cell? ⟨w.heap.size,3,none⟩=some (.int .u64 a):=B0.cell 3;have k4:w1.cell? ⟨w.heap.size,4,none⟩=some (.int .u64 b):=B0.cell 4;have k5:w1.cell? ⟨w.heap.size,5,none⟩=some (.bool deny):=B0.cell 5;have k6:w1.cell? ⟨w.heap.size,6,none⟩=some (.slice dp dn dc):=B0.cell 6;have HB0:=Hd B0;have bG:=Hd R0;clear B0 R0 T1 hsz;have zm:=Hd (show ¬(w.heap.size=w1.heap.size+1) by have:=HB0.out.lt;omega);have hmm:=@run_makeMap Tryz.prog;have zK:∀ (fn:Fn) (first cap:Array Value) (w:World),(Instr.makeFunc fn first cap).run Tryz.prog w=.ok (.func fn first cap) w:=fun _ _ _ _=>rfl
 have HM:=Hd (nJ.made (w1.alloc (.cells #[.pointer (some ⟨hb,0,none⟩),.int .u64 q,.int .i64 op,.int .i64 ref,.int .u64 p,.int .u64 a,.int .u64 b,.bool deny,.slice dp dn dc] 103)) (.agg #[.pointer (some ⟨hb,0,none⟩),.int .u64 q,.int .i64 op,.int .i64 ref,.int .u64 p,.int .u64 a,.int .u64 b,.bool deny,.slice dp dn dc]));have gN:=Hd ((aC.new w1 #[.pointer (some ⟨hb,0,none⟩),.int .u64 q,.int .i64 op,.int .i64 ref,.int .u64 p,.int .u64 a,.int .u64 b,.bool deny,.slice dp dn dc] 103).alloc (.map #[] 0));have TT:Touch Nothing w1 ((w1.alloc (.cells #[.pointer (some ⟨hb,0,none⟩),.int .u64 q,.int .i64 op,.int .i64 ref,.int .u64 p,.int .u64 a,.int .u64 b,.bool deny,.slice dp dn dc] 103)).alloc (.map #[] 0)):=((Touch.refl Nothing w1).alloc _).alloc _;have oU:=Hd TT;have HT:=Hd (Touch.refl (· = w1.heap.size+1) ((w1.alloc (.cells #[.pointer (some ⟨hb,0,none⟩),.int .u64 q,.int .i64 op,.int .i64 ref,.int .u64 p,.int .u64 a,.int .u64 b,.bool deny,.slice dp dn dc] 103)).alloc (.map #[] 0)));have gY:=Hd (show ¬(w1.heap.size=w1.heap.size+1) by omega);have hsz1:(w1.alloc (.cells #[.pointer (some ⟨hb,0,none⟩),.int .u64 q,.int .i64 op,.int .i64 ref,.int .u64 p,.int .u64 a,.int .u64 b,.bool deny,.slice dp dn dc] 103)).heap.size=w1.heap.size+1:=by simp
 rw [hsz1] at HM;have d0:True:=trivial;have d1:True:=trivial;have d2:True:=trivial;have d3:True:=trivial;have d4:True:=trivial;have d5:True:=trivial;have d6:True:=trivial;have d7:True:=trivial;have d8:True:=trivial;have d9:True:=trivial;clear TT hsz1
 go_upto_region 5 with (first | (refine nU rfl _ _ rfl _ _ _ rfl HM.out op rfl FD.out f Ac.out ?_) | (refine kr rfl _ _ _ rfl _ _ _ rfl HM.out (by decide) _ _ rfl (by decide) rfl ?_;intro w9 hown hgrow;have X:=And.intro (Hd hown) (Hd (HT.out.trans (Touch.bT hgrow (fun k hk=>(Option.some.inj hk).symm))));clear HM HT d9 d0 d1 d2 d3 d4 d5 d6 d7 d8 hown hgrow;obtain ⟨HM,HT⟩:=X;have d0:World.cell? _ ⟨w1.heap.size,0,none⟩=some (.pointer (some ⟨hb,0,none⟩)):=(gN.out.touch HT.out gY.out).cell 0;have d1:World.cell? _ ⟨w1.heap.size,1,none⟩=some (.int .u64 q):=(gN.out.touch HT.out gY.out).cell 1;have d2:World.cell? _ ⟨w1.heap.size,2,none⟩=some (.int .i64 op):=(gN.out.touch HT.out gY.out).cell 2;have d3:World.cell? _ ⟨w1.heap.size,3,none⟩=some (.int .i64 ref):=(gN.out.touch HT.out gY.out).cell 3;have d4:World.cell? _ ⟨w1.heap.size,4,none⟩=some (.int .u64 p):=(gN.out.touch HT.out gY.out).cell 4;have d5:World.cell? _ ⟨w1.heap.size,5,none⟩=some (.int .u64 a):=(gN.out.touch HT.out gY.out).cell 5;have d6:World.cell? _ ⟨w1.heap.size,6,none⟩=some (.int .u64 b):=(gN.out.touch HT.out gY.out).cell 6;have d7:World.cell? _ ⟨w1.heap.size,7,none⟩=some (.bool deny):=(gN.out.touch HT.out gY.out).cell 7;have d8:World.cell? _ ⟨w1.heap.size,8,none⟩=some (.slice dp dn dc):=(gN.out.touch HT.out gY.out).cell 8;have d9:World.cell? _ ⟨w.heap.size,0,none⟩=some (.int .i64 op):=((HB0.out.touch oU.out (fun h=>h)).touch HT.out zm.out).cell 0))
 have hsw:=HT1.out.size;have Dh:=Hd ((HT1.out.trans oU.out).trans' HT.out (fun i hi e=>by omega));have R9:=(((bG.out.touch oU.out (fun h=>h))).touch HT.out (show ¬(w.heap.size+1=w1.heap.size+1) by have:=bG.out.lt;omega));have Di:=Hd R9;obtain ⟨z0,f0,z1,f1,z2,f2,z3,f3,z4,f4,z5,f5,z6,f6⟩:=R9.jq;have zn:=Hd (((((((R9.set 0 (.int .i64 1)).set 1 (.int .u64 0)).set 2 (.slice none 0 0)).set 3 (.int .u64 0)).set 4 (.int .u64 0)).set 5 (.int .i64 0)).set 6 (.int .i64 0));clear hsw d0 d1 d2 d3 d4 d5 d6 d7 d8 d9 k0 k1 k2 k3 k4 k5 k6 R9
 go_wp2_with fail
 obtain ⟨y0,y1,y2,y3,y4,y5,y6⟩:=jr zn.out;exact bodyPost_ret (v:=.agg #[.int .i64 1,.int .u64 0,.slice none 0 0,.int .u64 0,.int .u64 0,.int .i64 0,.int .i64 0]) (by simp [results,Tryz.results22,go_sem,y0,y1,y2,y3,y4,y5,y6]) rfl ⟨aY 1,rfl,_,_,w.heap.size+1,Dh.out,⟨rfl,Touch.refl _ _⟩,by omega,Di.out.lt,bJ _ _ (aY 1)⟩
theorem qV {w:World} {hb s pb:Nat} {K:ay} {β β':Bu} {ps ps':List Int} (R:ak 0 w hb s pb K β ps) (c:au) (q:Nat) (p:Nat) (er:Int)
  (HM:∀ W,ak 0 W hb s pb K β ps→Calls Tryz.prog 90 #[.pointer (some ⟨hb,0,none⟩),.int .u64 c.a,.int .u64 c.b,.bool c.deny] W (aK W hb s pb K β' ps' (.tuple #[.int .u64 p,.int .i64 er]))) :
  Calls Tryz.prog 41 #[c.doer hb q] w fun e w'=>∃ an:aG,e=.returned an.val∧jU hb s pb K β' ps' (bV p er) an w w':=by
 obtain ⟨op,ref,pp,a,b,deny,dp,dn,dc⟩:=c;unfold au.doer at *;have T0:Touch Nothing w ((w.alloc (.cells #[.pointer (some ⟨hb,0,none⟩),.int .u64 q,.int .i64 op,.int .i64 ref,.int .u64 pp,.int .u64 a,.int .u64 b,.bool deny,.slice dp dn dc] 103)).alloc (.cells #[.int .i64 0,.int .u64 0,.slice none 0 0,.int .u64 0,.int .u64 0,.int .i64 0,.int .i64 0] 38)):=((Touch.refl _ w).alloc _).alloc _;have hsz:(w.alloc (.cells #[.pointer (some ⟨hb,0,none⟩),.int .u64 q,.int .i64 op,.int .i64 ref,.int .u64 pp,.int .u64 a,.int .u64 b,.bool deny,.slice dp dn dc] 103)).heap.size=w.heap.size+1:=by simp
 have R0:=aC.new (w.alloc (.cells #[.pointer (some ⟨hb,0,none⟩),.int .u64 q,.int .i64 op,.int .i64 ref,.int .u64 pp,.int .u64 a,.int .u64 b,.bool deny,.slice dp dn dc] 103)) #[.int .i64 0,.int .u64 0,.slice none 0 0,.int .u64 0,.int .u64 0,.int .i64 0,.int .i64 0] 38;rw [hsz] at R0;have iL:=Hd (HM _ (R.aj T0));have bG:=Hd R0;have HT0:=Hd T0;have HV:=Hd (qN p er);have HR:=Hd R;have hlt:=R.lt;have HL:=Hd hlt;clear R HM T0 R0 hsz hlt
 go_enter Tryz.func41,Tryz.ntmps41
 go_wp2_with fail
 generalize (w.alloc (.cells #[.pointer (some ⟨hb,0,none⟩),.int .u64 q,.int .i64 op,.int .i64 ref,.int .u64 pp,.int .u64 a,.int .u64 b,.bool deny,.slice dp dn dc] 103)).alloc (.cells #[.int .i64 0,.int .u64 0,.slice none 0 0,.int .u64 0,.int .u64 0,.int .i64 0,.int .i64 0] 38)=w1 at *;refine iL.out.mono ?_
 rintro e w2 hH;have HH:=Hd hH;obtain ⟨rfl,K',R2,N2,T2⟩:=hH
 have hnot:¬(w.heap.size+1∈hb::s::K.fp):=fun h=>by
  simp only [List.mem_cons] at h;rcases h with h | h | h
  ·have:=HL.out hb (by simp);omega
  ·have:=HL.out s (by simp);omega
  ·have:=HL.out (w.heap.size+1) (by simp [h]);omega
 have B2:=Hd (bG.out.touch T2 hnot);clear R2 N2 T2 hnot
 go_wp2_with fail
 refine (HV.out _).mono ?_
 rintro e w3 ⟨rfl,T3⟩;have R3:=B2.out.touch T3 (fun h=>h);have HT3:=Hd T3;obtain ⟨z0,f0,z1,f1,z2,f2,z3,f3,z4,f4,z5,f5,z6,f6⟩:=R3.jq;generalize hN:bV p er=an at *;have HN:=Hd hN;have HB:=Hd (dz R3 an);have bI:=Hd (bJ w3 (w.heap.size+1) an);clear R3 T3 hN;obtain ⟨ae,kM,fE,eB,adc,ah,al,gH,gI⟩:=an;unfold iQ at *;unfold aG.val at *
 go_wp2_with fail
 obtain ⟨y0,y1,y2,y3,y4,y5,y6⟩:=jr HB.out;exact bodyPost_ret (v:=.agg #[.int .i64 ae,.int .u64 kM,.slice fE eB adc,.int .u64 ah,.int .u64 al,.int .i64 gH,.int .i64 gI]) (by simp [results,Tryz.results41,go_sem,y0,y1,y2,y3,y4,y5,y6]) rfl ⟨⟨ae,kM,fE,eB,adc,ah,al,gH,gI⟩,rfl,HN.out.symm,aK.out HR.out HT0.out HH.out (by omega) bG.out.lt (HT3.out.none_.trans bI.out)⟩
theorem ig {w:World} {hb s pb:Nat} {K:ay} {β β':Bu} {ps ps':List Int} (R:ak 0 w hb s pb K β ps) (c:au) (q:Nat) (p:Nat) (er:Int)
  (HM:∀ W,ak 0 W hb s pb K β ps→Calls Tryz.prog 91 #[.pointer (some ⟨hb,0,none⟩),.int .u64 q,.int .u64 c.a,.bool c.deny] W (aK W hb s pb K β' ps' (.tuple #[.int .u64 p,.int .i64 er]))) :
  Calls Tryz.prog 42 #[c.doer hb q] w fun e w'=>∃ an:aG,e=.returned an.val∧jU hb s pb K β' ps' (bV p er) an w w':=by
 obtain ⟨op,ref,pp,a,b,deny,dp,dn,dc⟩:=c;unfold au.doer at *;have T0:Touch Nothing w ((w.alloc (.cells #[.pointer (some ⟨hb,0,none⟩),.int .u64 q,.int .i64 op,.int .i64 ref,.int .u64 pp,.int .u64 a,.int .u64 b,.bool deny,.slice dp dn dc] 103)).alloc (.cells #[.int .i64 0,.int .u64 0,.slice none 0 0,.int .u64 0,.int .u64 0,.int .i64 0,.int .i64 0] 38)):=((Touch.refl _ w).alloc _).alloc _;have hsz:(w.alloc (.cells #[.pointer (some ⟨hb,0,none⟩),.int .u64 q,.int .i64 op,.int .i64 ref,.int .u64 pp,.int .u64 a,.int .u64 b,.bool deny,.slice dp dn dc] 103)).heap.size=w.heap.size+1:=by simp
 have R0:=aC.new (w.alloc (.cells #[.pointer (some ⟨hb,0,none⟩),.int .u64 q,.int .i64 op,.int .i64 ref,.int .u64 pp,.int .u64 a,.int .u64 b,.bool deny,.slice dp dn dc] 103)) #[.int .i64 0,.int .u64 0,.slice none 0 0,.int .u64 0,.int .u64 0,.int .i64 0,.int .i64 0] 38;rw [hsz] at R0;have iL:=Hd (HM _ (R.aj T0));have bG:=Hd R0;have HT0:=Hd T0;have HV:=Hd (qN p er);have HR:=Hd R;have hlt:=R.lt;have HL:=Hd hlt;clear R HM T0 R0 hsz hlt
 go_enter Tryz.func42,Tryz.ntmps42
 go_wp2_with fail
 generalize (w.alloc (.cells #[.pointer (some ⟨hb,0,none⟩),.int .u64 q,.int .i64 op,.int .i64 ref,.int .u64 pp,.int .u64 a,.int .u64 b,.bool deny,.slice dp dn dc] 103)).alloc (.cells #[.int .i64 0,.int .u64 0,.slice none 0 0,.int .u64 0,.int .u64 0,.int .i64 0,.int .i64 0] 38)=w1 at *;refine iL.out.mono ?_
 rintro e w2 hH;have HH:=Hd hH;obtain ⟨rfl,K',R2,N2,T2⟩:=hH
 have hnot:¬(w.heap.size+1∈hb::s::K.fp):=fun h=>by
  simp only [List.mem_cons] at h;rcases h with h | h | h
  ·have:=HL.out hb (by simp);omega
  ·have:=HL.out s (by simp);omega
  ·have:=HL.out (w.heap.size+1) (by simp [h]);omega
 have B2:=Hd (bG.out.touch T2 hnot);clear R2 N2 T2 hnot
 go_wp2_with fail
 refine (HV.out _).mono ?_
 rintro e w3 ⟨rfl,T3⟩;have R3:=B2.out.touch T3 (fun h=>h);have HT3:=Hd T3;obtain ⟨z0,f0,z1,f1,z2,f2,z3,f3,z4,f4,z5,f5,z6,f6⟩:=R3.jq;generalize hN:bV p er=an at *;have HN:=Hd hN;have HB:=Hd (dz R3 an);have bI:=Hd (bJ w3 (w.heap.size+1) an);clear R3 T3 hN;obtain ⟨ae,kM,fE,eB,adc,ah,al,gH,gI⟩:=an;unfold iQ at *;unfold aG.val at *
 go_wp2_with fail
 obtain ⟨y0,y1,y2,y3,y4,y5,y6⟩:=jr HB.out;exact bodyPost_ret (v:=.agg #[.int .i64 ae,.int .u64 kM,.slice fE eB adc,.int .u64 ah,.int .u64 al,.int .i64 gH,.int .i64 gI]) (by simp [results,Tryz.results42,go_sem,y0,y1,y2,y3,y4,y5,y6]) rfl ⟨⟨ae,kM,fE,eB,adc,ah,al,gH,gI⟩,rfl,HN.out.symm,aK.out HR.out HT0.out HH.out (by omega) bG.out.lt (HT3.out.none_.trans bI.out)⟩
theorem vR {w:World} {hb s pb:Nat} {K:ay} {β β':Bu} {ps ps':List Int} (R:ak 0 w hb s pb K β ps) (c:au) (q:Nat) (p:Nat) (er:Int)
  (HM:∀ W,ak 0 W hb s pb K β ps→Calls Tryz.prog 95 #[.pointer (some ⟨hb,0,none⟩),.int .u64 q] W (aK W hb s pb K β' ps' (.tuple #[.int .u64 p,.int .i64 er]))) :
  Calls Tryz.prog 47 #[c.doer hb q] w fun e w'=>∃ an:aG,e=.returned an.val∧jU hb s pb K β' ps' (bV p er) an w w':=by
 obtain ⟨op,ref,pp,a,b,deny,dp,dn,dc⟩:=c;unfold au.doer at *;have T0:Touch Nothing w ((w.alloc (.cells #[.pointer (some ⟨hb,0,none⟩),.int .u64 q,.int .i64 op,.int .i64 ref,.int .u64 pp,.int .u64 a,.int .u64 b,.bool deny,.slice dp dn dc] 103)).alloc (.cells #[.int .i64 0,.int .u64 0,.slice none 0 0,.int .u64 0,.int .u64 0,.int .i64 0,.int .i64 0] 38)):=((Touch.refl _ w).alloc _).alloc _;have hsz:(w.alloc (.cells #[.pointer (some ⟨hb,0,none⟩),.int .u64 q,.int .i64 op,.int .i64 ref,.int .u64 pp,.int .u64 a,.int .u64 b,.bool deny,.slice dp dn dc] 103)).heap.size=w.heap.size+1:=by simp
 have R0:=aC.new (w.alloc (.cells #[.pointer (some ⟨hb,0,none⟩),.int .u64 q,.int .i64 op,.int .i64 ref,.int .u64 pp,.int .u64 a,.int .u64 b,.bool deny,.slice dp dn dc] 103)) #[.int .i64 0,.int .u64 0,.slice none 0 0,.int .u64 0,.int .u64 0,.int .i64 0,.int .i64 0] 38;rw [hsz] at R0;have iL:=Hd (HM _ (R.aj T0));have bG:=Hd R0;have HT0:=Hd T0;have HV:=Hd (qN p er);have HR:=Hd R;have hlt:=R.lt;have HL:=Hd hlt;clear R HM T0 R0 hsz hlt
 go_enter Tryz.func47,Tryz.ntmps47
 go_wp2_with fail
 generalize (w.alloc (.cells #[.pointer (some ⟨hb,0,none⟩),.int .u64 q,.int .i64 op,.int .i64 ref,.int .u64 pp,.int .u64 a,.int .u64 b,.bool deny,.slice dp dn dc] 103)).alloc (.cells #[.int .i64 0,.int .u64 0,.slice none 0 0,.int .u64 0,.int .u64 0,.int .i64 0,.int .i64 0] 38)=w1 at *;refine iL.out.mono ?_
 rintro e w2 hH;have HH:=Hd hH;obtain ⟨rfl,K',R2,N2,T2⟩:=hH
 have hnot:¬(w.heap.size+1∈hb::s::K.fp):=fun h=>by
  simp only [List.mem_cons] at h;rcases h with h | h | h
  ·have:=HL.out hb (by simp);omega
  ·have:=HL.out s (by simp);omega
  ·have:=HL.out (w.heap.size+1) (by simp [h]);omega
 have B2:=Hd (bG.out.touch T2 hnot);clear R2 N2 T2 hnot
 go_wp2_with fail
 refine (HV.out _).mono ?_
 rintro e w3 ⟨rfl,T3⟩;have R3:=B2.out.touch T3 (fun h=>h);have HT3:=Hd T3;obtain ⟨z0,f0,z1,f1,z2,f2,z3,f3,z4,f4,z5,f5,z6,f6⟩:=R3.jq;generalize hN:bV p er=an at *;have HN:=Hd hN;have HB:=Hd (dz R3 an);have bI:=Hd (bJ w3 (w.heap.size+1) an);clear R3 T3 hN;obtain ⟨ae,kM,fE,eB,adc,ah,al,gH,gI⟩:=an;unfold iQ at *;unfold aG.val at *
 go_wp2_with fail
 obtain ⟨y0,y1,y2,y3,y4,y5,y6⟩:=jr HB.out;exact bodyPost_ret (v:=.agg #[.int .i64 ae,.int .u64 kM,.slice fE eB adc,.int .u64 ah,.int .u64 al,.int .i64 gH,.int .i64 gI]) (by simp [results,Tryz.results47,go_sem,y0,y1,y2,y3,y4,y5,y6]) rfl ⟨⟨ae,kM,fE,eB,adc,ah,al,gH,gI⟩,rfl,HN.out.symm,aK.out HR.out HT0.out HH.out (by omega) bG.out.lt (HT3.out.none_.trans bI.out)⟩
theorem tZ {w:World} {hb s pb:Nat} {K:ay} {β β':Bu} {ps ps':List Int} (R:ak 0 w hb s pb K β ps) (c:au) (q:Nat) (er:Int)
  (HM:∀ W,ak 0 W hb s pb K β ps→Calls Tryz.prog 96 #[.pointer (some ⟨hb,0,none⟩),.int .u64 q,.int .u64 c.a] W (aK W hb s pb K β' ps' (.int .i64 er))) :
  Calls Tryz.prog 48 #[c.doer hb q] w fun e w'=>∃ an:aG,e=.returned an.val∧jU hb s pb K β' ps' (aY er) an w w':=by
 obtain ⟨op,ref,pp,a,b,deny,dp,dn,dc⟩:=c;unfold au.doer at *;have T0:Touch Nothing w ((w.alloc (.cells #[.pointer (some ⟨hb,0,none⟩),.int .u64 q,.int .i64 op,.int .i64 ref,.int .u64 pp,.int .u64 a,.int .u64 b,.bool deny,.slice dp dn dc] 103)).alloc (.cells #[.int .i64 0,.int .u64 0,.slice none 0 0,.int .u64 0,.int .u64 0,.int .i64 0,.int .i64 0] 38)):=((Touch.refl _ w).alloc _).alloc _;have hsz:(w.alloc (.cells #[.pointer (some ⟨hb,0,none⟩),.int .u64 q,.int .i64 op,.int .i64 ref,.int .u64 pp,.int .u64 a,.int .u64 b,.bool deny,.slice dp dn dc] 103)).heap.size=w.heap.size+1:=by simp
 have R0:=aC.new (w.alloc (.cells #[.pointer (some ⟨hb,0,none⟩),.int .u64 q,.int .i64 op,.int .i64 ref,.int .u64 pp,.int .u64 a,.int .u64 b,.bool deny,.slice dp dn dc] 103)) #[.int .i64 0,.int .u64 0,.slice none 0 0,.int .u64 0,.int .u64 0,.int .i64 0,.int .i64 0] 38;rw [hsz] at R0;have iL:=Hd (HM _ (R.aj T0));have bG:=Hd R0;have HT0:=Hd T0;have HR:=Hd R;have hlt:=R.lt;have HL:=Hd hlt;clear R HM T0 R0 hsz hlt
 go_enter Tryz.func48,Tryz.ntmps48
 go_wp2_with fail
 generalize (w.alloc (.cells #[.pointer (some ⟨hb,0,none⟩),.int .u64 q,.int .i64 op,.int .i64 ref,.int .u64 pp,.int .u64 a,.int .u64 b,.bool deny,.slice dp dn dc] 103)).alloc (.cells #[.int .i64 0,.int .u64 0,.slice none 0 0,.int .u64 0,.int .u64 0,.int .i64 0,.int .i64 0] 38)=w1 at *;refine iL.out.mono ?_
 rintro e w2 hH;have HH:=Hd hH;obtain ⟨rfl,K',R2,N2,T2⟩:=hH
 have hnot:¬(w.heap.size+1∈hb::s::K.fp):=fun h=>by
  simp only [List.mem_cons] at h;rcases h with h | h | h
  ·have:=HL.out hb (by simp);omega
  ·have:=HL.out s (by simp);omega
  ·have:=HL.out (w.heap.size+1) (by simp [h]);omega
 have B2:=Hd (bG.out.touch T2 hnot);clear R2 N2 T2 hnot;have R3:=B2.out;obtain ⟨z0,f0,z1,f1,z2,f2,z3,f3,z4,f4,z5,f5,z6,f6⟩:=R3.jq;have HB:=Hd (dz R3 (aY er));have bI:=Hd (bJ w2 (w.heap.size+1) (aY er));clear R3;unfold aY at *;unfold iQ at *
 go_wp2_with fail
 obtain ⟨y0,y1,y2,y3,y4,y5,y6⟩:=jr HB.out;simp at y0 y1 y2 y3 y4 y5 y6;exact bodyPost_ret (v:=.agg #[.int .i64 er,.int .u64 0,.slice none 0 0,.int .u64 0,.int .u64 0,.int .i64 0,.int .i64 0]) (by simp [results,Tryz.results48,go_sem,y0,y1,y2,y3,y4,y5,y6]) rfl ⟨aY er,rfl,rfl,aK.out HR.out HT0.out HH.out (by omega) bG.out.lt bI.out⟩
theorem vS {w:World} {hb s pb:Nat} {K:ay} {β β':Bu} {ps ps':List Int} (R:ak 0 w hb s pb K β ps) (c:au) (q:Nat) (er:Int)
  (HM:∀ W,ak 0 W hb s pb K β ps→Calls Tryz.prog 94 #[.pointer (some ⟨hb,0,none⟩),.int .u64 q,.int .u8 (c.a%256:Nat)] W (aK W hb s pb K β' ps' (.int .i64 er))) :
  Calls Tryz.prog 46 #[c.doer hb q] w fun e w'=>∃ an:aG,e=.returned an.val∧jU hb s pb K β' ps' (aY er) an w w':=by
 obtain ⟨op,ref,pp,a,b,deny,dp,dn,dc⟩:=c;have hwa:IntKind.u8.wrap (a:Int)=((a%256:Nat):Int):=by unfold IntKind.wrap;simp [IntKind.signed,IntKind.bits]
 unfold au.doer at *;have T0:Touch Nothing w ((w.alloc (.cells #[.pointer (some ⟨hb,0,none⟩),.int .u64 q,.int .i64 op,.int .i64 ref,.int .u64 pp,.int .u64 a,.int .u64 b,.bool deny,.slice dp dn dc] 103)).alloc (.cells #[.int .i64 0,.int .u64 0,.slice none 0 0,.int .u64 0,.int .u64 0,.int .i64 0,.int .i64 0] 38)):=((Touch.refl _ w).alloc _).alloc _;have hsz:(w.alloc (.cells #[.pointer (some ⟨hb,0,none⟩),.int .u64 q,.int .i64 op,.int .i64 ref,.int .u64 pp,.int .u64 a,.int .u64 b,.bool deny,.slice dp dn dc] 103)).heap.size=w.heap.size+1:=by simp
 have R0:=aC.new (w.alloc (.cells #[.pointer (some ⟨hb,0,none⟩),.int .u64 q,.int .i64 op,.int .i64 ref,.int .u64 pp,.int .u64 a,.int .u64 b,.bool deny,.slice dp dn dc] 103)) #[.int .i64 0,.int .u64 0,.slice none 0 0,.int .u64 0,.int .u64 0,.int .i64 0,.int .i64 0] 38;rw [hsz] at R0;have iL:=Hd (HM _ (R.aj T0));have bG:=Hd R0;have HT0:=Hd T0;have HR:=Hd R;have hlt:=R.lt;have HL:=Hd hlt;clear R HM T0 R0 hsz hlt
 go_enter Tryz.func46,Tryz.ntmps46
 go_wp2_with fail
 generalize (w.alloc (.cells #[.pointer (some ⟨hb,0,none⟩),.int .u64 q,.int .i64 op,.int .i64 ref,.int .u64 pp,.int .u64 a,.int .u64 b,.bool deny,.slice dp dn dc] 103)).alloc (.cells #[.int .i64 0,.int .u64 0,.slice none 0 0,.int .u64 0,.int .u64 0,.int .i64 0,.int .i64 0] 38)=w1 at *;refine iL.out.mono ?_
 rintro e w2 hH;have HH:=Hd hH;obtain ⟨rfl,K',R2,N2,T2⟩:=hH
 have hnot:¬(w.heap.size+1∈hb::s::K.fp):=fun h=>by
  simp only [List.mem_cons] at h;rcases h with h | h | h
  ·have:=HL.out hb (by simp);omega
  ·have:=HL.out s (by simp);omega
  ·have:=HL.out (w.heap.size+1) (by simp [h]);omega
 have B2:=Hd (bG.out.touch T2 hnot);clear R2 N2 T2 hnot;have R3:=B2.out;obtain ⟨z0,f0,z1,f1,z2,f2,z3,f3,z4,f4,z5,f5,z6,f6⟩:=R3.jq;have HB:=Hd (dz R3 (aY er));have bI:=Hd (bJ w2 (w.heap.size+1) (aY er));clear R3;unfold aY at *;unfold iQ at *
 go_wp2_with fail
 obtain ⟨y0,y1,y2,y3,y4,y5,y6⟩:=jr HB.out;simp at y0 y1 y2 y3 y4 y5 y6;exact bodyPost_ret (v:=.agg #[.int .i64 er,.int .u64 0,.slice none 0 0,.int .u64 0,.int .u64 0,.int .i64 0,.int .i64 0]) (by simp [results,Tryz.results46,go_sem,y0,y1,y2,y3,y4,y5,y6]) rfl ⟨aY er,rfl,rfl,aK.out HR.out HT0.out HH.out (by omega) bG.out.lt bI.out⟩
theorem Ng {w:World} {hb s pb:Nat} {K:ay} {β β':Bu} {ps ps':List Int} (R:ak 0 w hb s pb K β ps) (c:au) (q:Nat) (m:Nat) (hm:m≤1024)
  (HM:∀ W,ak 0 W hb s pb K β ps→Calls Tryz.prog 98 #[.pointer (some ⟨hb,0,none⟩)] W (aK W hb s pb K β' ps' (.int .i64 m))) :
  Calls Tryz.prog 51 #[c.doer hb q] w fun e w'=>∃ an:aG,e=.returned an.val∧jU hb s pb K β' ps' (bV m 0) an w w':=by
 obtain ⟨op,ref,pp,a,b,deny,dp,dn,dc⟩:=c;unfold au.doer at *;have T0:Touch Nothing w ((w.alloc (.cells #[.pointer (some ⟨hb,0,none⟩),.int .u64 q,.int .i64 op,.int .i64 ref,.int .u64 pp,.int .u64 a,.int .u64 b,.bool deny,.slice dp dn dc] 103)).alloc (.cells #[.int .i64 0,.int .u64 0,.slice none 0 0,.int .u64 0,.int .u64 0,.int .i64 0,.int .i64 0] 38)):=((Touch.refl _ w).alloc _).alloc _;have hsz:(w.alloc (.cells #[.pointer (some ⟨hb,0,none⟩),.int .u64 q,.int .i64 op,.int .i64 ref,.int .u64 pp,.int .u64 a,.int .u64 b,.bool deny,.slice dp dn dc] 103)).heap.size=w.heap.size+1:=by simp
 have R0:=aC.new (w.alloc (.cells #[.pointer (some ⟨hb,0,none⟩),.int .u64 q,.int .i64 op,.int .i64 ref,.int .u64 pp,.int .u64 a,.int .u64 b,.bool deny,.slice dp dn dc] 103)) #[.int .i64 0,.int .u64 0,.slice none 0 0,.int .u64 0,.int .u64 0,.int .i64 0,.int .i64 0] 38;rw [hsz] at R0;have iL:=Hd (HM _ (R.aj T0));have bG:=Hd R0;have HT0:=Hd T0;have HR:=Hd R;have hlt:=R.lt;have HL:=Hd hlt;clear R HM T0 R0 hsz hlt
 go_enter Tryz.func51,Tryz.ntmps51
 go_wp2_with fail
 generalize (w.alloc (.cells #[.pointer (some ⟨hb,0,none⟩),.int .u64 q,.int .i64 op,.int .i64 ref,.int .u64 pp,.int .u64 a,.int .u64 b,.bool deny,.slice dp dn dc] 103)).alloc (.cells #[.int .i64 0,.int .u64 0,.slice none 0 0,.int .u64 0,.int .u64 0,.int .i64 0,.int .i64 0] 38)=w1 at *;refine iL.out.mono ?_
 rintro e w2 hH;have HH:=Hd hH;obtain ⟨rfl,K',R2,N2,T2⟩:=hH
 have hnot:¬(w.heap.size+1∈hb::s::K.fp):=fun h=>by
  simp only [List.mem_cons] at h;rcases h with h | h | h
  ·have:=HL.out hb (by simp);omega
  ·have:=HL.out s (by simp);omega
  ·have:=HL.out (w.heap.size+1) (by simp [h]);omega
 have R3:=bG.out.touch T2 hnot;clear R2 N2 T2 hnot;obtain ⟨z0,f0,z1,f1,z2,f2,z3,f3,z4,f4,z5,f5,z6,f6⟩:=R3.jq;have HB:=Hd (dz R3 (⟨0,m,none,0,0,0,0,0,0⟩:aG));have bI:=Hd (bJ w2 (w.heap.size+1) (⟨0,m,none,0,0,0,0,0,0⟩:aG));clear R3;unfold iQ at *
 go_wp2_with fail
 obtain ⟨y0,y1,y2,y3,y4,y5,y6⟩:=jr HB.out;simp at y0 y1 y2 y3 y4 y5 y6;exact bodyPost_ret (v:=.agg #[.int .i64 0,.int .u64 m,.slice none 0 0,.int .u64 0,.int .u64 0,.int .i64 0,.int .i64 0]) (by simp [results,Tryz.results51,go_sem,y0,y1,y2,y3,y4,y5,y6]) rfl ⟨(⟨0,m,none,0,0,0,0,0,0⟩:aG),rfl,rfl,aK.out HR.out HT0.out HH.out (by omega) bG.out.lt bI.out⟩
theorem Kh {w:World} {hb s pb:Nat} {K:ay} {β β':Bu} {ps ps':List Int} (R:ak 0 w hb s pb K β ps) (c:au) (q:Nat) (h l bl fr:Nat)
  (HM:∀ W,ak 0 W hb s pb K β ps→Calls Tryz.prog 26 #[.pointer (some ⟨hb,0,none⟩)] W (aK W hb s pb K β' ps' (.agg #[.int .u64 h,.int .u64 l,.int .i64 bl,.int .i64 fr]))) :
  Calls Tryz.prog 52 #[c.doer hb q] w fun e w'=>∃ an:aG,e=.returned an.val∧jU hb s pb K β' ps' ⟨0,0,none,0,0,h,l,bl,fr⟩ an w w':=by
 obtain ⟨op,ref,pp,a,b,deny,dp,dn,dc⟩:=c;unfold au.doer at *;have T0:Touch Nothing w ((w.alloc (.cells #[.pointer (some ⟨hb,0,none⟩),.int .u64 q,.int .i64 op,.int .i64 ref,.int .u64 pp,.int .u64 a,.int .u64 b,.bool deny,.slice dp dn dc] 103)).alloc (.cells #[.int .i64 0,.int .u64 0,.slice none 0 0,.int .u64 0,.int .u64 0,.int .i64 0,.int .i64 0] 38)):=((Touch.refl _ w).alloc _).alloc _;have hsz:(w.alloc (.cells #[.pointer (some ⟨hb,0,none⟩),.int .u64 q,.int .i64 op,.int .i64 ref,.int .u64 pp,.int .u64 a,.int .u64 b,.bool deny,.slice dp dn dc] 103)).heap.size=w.heap.size+1:=by simp
 have R0:=aC.new (w.alloc (.cells #[.pointer (some ⟨hb,0,none⟩),.int .u64 q,.int .i64 op,.int .i64 ref,.int .u64 pp,.int .u64 a,.int .u64 b,.bool deny,.slice dp dn dc] 103)) #[.int .i64 0,.int .u64 0,.slice none 0 0,.int .u64 0,.int .u64 0,.int .i64 0,.int .i64 0] 38;rw [hsz] at R0;have iL:=Hd (HM _ (R.aj T0));have bG:=Hd R0;have HT0:=Hd T0;have HR:=Hd R;have hlt:=R.lt;have HL:=Hd hlt;clear R HM T0 R0 hsz hlt
 go_enter Tryz.func52,Tryz.ntmps52
 go_wp2_with fail
 generalize (w.alloc (.cells #[.pointer (some ⟨hb,0,none⟩),.int .u64 q,.int .i64 op,.int .i64 ref,.int .u64 pp,.int .u64 a,.int .u64 b,.bool deny,.slice dp dn dc] 103)).alloc (.cells #[.int .i64 0,.int .u64 0,.slice none 0 0,.int .u64 0,.int .u64 0,.int .i64 0,.int .i64 0] 38)=w1 at *;refine iL.out.mono ?_
 rintro e w2 hH;have HH:=Hd hH;obtain ⟨rfl,K',R2,N2,T2⟩:=hH
 have hnot:¬(w.heap.size+1∈hb::s::K.fp):=fun h=>by
  simp only [List.mem_cons] at h;rcases h with h | h | h
  ·have:=HL.out hb (by simp);omega
  ·have:=HL.out s (by simp);omega
  ·have:=HL.out (w.heap.size+1) (by simp [h]);omega
 have R3:=bG.out.touch T2 hnot;clear R2 N2 T2 hnot;obtain ⟨z0,f0,z1,f1,z2,f2,z3,f3,z4,f4,z5,f5,z6,f6⟩:=R3.jq;have HB:=Hd (dz R3 (⟨0,0,none,0,0,h,l,bl,fr⟩:aG));have bI:=Hd (bJ w2 (w.heap.size+1) (⟨0,0,none,0,0,h,l,bl,fr⟩:aG));clear R3;unfold iQ at *
 go_wp2_with fail
 obtain ⟨y0,y1,y2,y3,y4,y5,y6⟩:=jr HB.out;simp at y0 y1 y2 y3 y4 y5 y6;exact bodyPost_ret (v:=.agg #[.int .i64 0,.int .u64 0,.slice none 0 0,.int .u64 h,.int .u64 l,.int .i64 bl,.int .i64 fr]) (by simp [results,Tryz.results52,go_sem,y0,y1,y2,y3,y4,y5,y6]) rfl ⟨(⟨0,0,none,0,0,h,l,bl,fr⟩:aG),rfl,rfl,aK.out HR.out HT0.out HH.out (by omega) bG.out.lt bI.out⟩
theorem yS {w:World} {hb s pb:Nat} {K:ay} {β β':Bu} {ps ps':List Int} (R:ak 0 w hb s pb K β ps) (c:au) (q:Nat) (er:Int) (ha:c.a≤65536)
  (HM:∀ W,ak 0 W hb s pb K β ps→Calls Tryz.prog 28 #[.pointer (some ⟨hb,0,none⟩),.int .u64 q,.int .u64 c.a] W (aK W hb s pb K β' ps' (.tuple #[.slice none 0 0,.int .i64 er]))) :
  Calls Tryz.prog 49 #[c.doer hb q] w fun e w'=>∃ an:aG,e=.returned an.val∧jU hb s pb K β' ps' (aY er) an w w':=by
 obtain ⟨op,ref,pp,a,b,deny,dp,dn,dc⟩:=c
 replace ha:a≤65536:=ha
 unfold au.doer at *;have T0:Touch Nothing w ((w.alloc (.cells #[.pointer (some ⟨hb,0,none⟩),.int .u64 q,.int .i64 op,.int .i64 ref,.int .u64 pp,.int .u64 a,.int .u64 b,.bool deny,.slice dp dn dc] 103)).alloc (.cells #[.int .i64 0,.int .u64 0,.slice none 0 0,.int .u64 0,.int .u64 0,.int .i64 0,.int .i64 0] 38)):=((Touch.refl _ w).alloc _).alloc _;have hsz:(w.alloc (.cells #[.pointer (some ⟨hb,0,none⟩),.int .u64 q,.int .i64 op,.int .i64 ref,.int .u64 pp,.int .u64 a,.int .u64 b,.bool deny,.slice dp dn dc] 103)).heap.size=w.heap.size+1:=by simp
 have R0:=aC.new (w.alloc (.cells #[.pointer (some ⟨hb,0,none⟩),.int .u64 q,.int .i64 op,.int .i64 ref,.int .u64 pp,.int .u64 a,.int .u64 b,.bool deny,.slice dp dn dc] 103)) #[.int .i64 0,.int .u64 0,.slice none 0 0,.int .u64 0,.int .u64 0,.int .i64 0,.int .i64 0] 38;rw [hsz] at R0;have iL:=Hd (HM _ (R.aj T0));have bG:=Hd R0;have HT0:=Hd T0;have HR:=Hd R;have hlt:=R.lt;have HL:=Hd hlt;clear R HM T0 R0 hsz hlt
 go_enter Tryz.func49,Tryz.ntmps49
 go_wp2_with fail
 generalize (w.alloc (.cells #[.pointer (some ⟨hb,0,none⟩),.int .u64 q,.int .i64 op,.int .i64 ref,.int .u64 pp,.int .u64 a,.int .u64 b,.bool deny,.slice dp dn dc] 103)).alloc (.cells #[.int .i64 0,.int .u64 0,.slice none 0 0,.int .u64 0,.int .u64 0,.int .i64 0,.int .i64 0] 38)=w1 at *;refine iL.out.mono ?_
 rintro e w2 hH;have HH:=Hd hH;obtain ⟨rfl,K',R2,N2,T2⟩:=hH
 have hnot:¬(w.heap.size+1∈hb::s::K.fp):=fun h=>by
  simp only [List.mem_cons] at h;rcases h with h | h | h
  ·have:=HL.out hb (by simp);omega
  ·have:=HL.out s (by simp);omega
  ·have:=HL.out (w.heap.size+1) (by simp [h]);omega
 have R3:=bG.out.touch T2 hnot;clear R2 N2 T2 hnot;obtain ⟨z0,f0,z1,f1,z2,f2,z3,f3,z4,f4,z5,f5,z6,f6⟩:=R3.jq;have HB:=Hd (dz R3 (⟨er,0,none,0,0,0,0,0,0⟩:aG));have bI:=Hd (bJ w2 (w.heap.size+1) (⟨er,0,none,0,0,0,0,0,0⟩:aG));clear R3;unfold iQ at *
 go_wp2_with fail
 obtain ⟨y0,y1,y2,y3,y4,y5,y6⟩:=jr HB.out;simp at y0 y1 y2 y3 y4 y5 y6;exact bodyPost_ret (v:=.agg #[.int .i64 er,.int .u64 0,.slice none 0 0,.int .u64 0,.int .u64 0,.int .i64 0,.int .i64 0]) (by simp [results,Tryz.results49,go_sem,y0,y1,y2,y3,y4,y5,y6]) rfl ⟨(⟨er,0,none,0,0,0,0,0,0⟩:aG),rfl,rfl,aK.out HR.out HT0.out HH.out (by omega) bG.out.lt bI.out⟩
theorem FU {w:World} {hb s pb:Nat} {K:ay} {β:Bu} {ps:List Int} (R:ak 0 w hb s pb K β ps) (c:au) (q:Nat) (ha:65536<c.a) :
  Calls Tryz.prog 49 #[c.doer hb q] w fun e w'=>∃ an:aG,e=.returned an.val∧jU hb s pb K β ps (aY 6) an w w':=by
 obtain ⟨op,ref,pp,a,b,deny,dp,dn,dc⟩:=c;have ha':(65536:Int)<(a:Int):=by simp only at ha;omega
 clear ha;unfold au.doer at *;have T0:Touch Nothing w ((w.alloc (.cells #[.pointer (some ⟨hb,0,none⟩),.int .u64 q,.int .i64 op,.int .i64 ref,.int .u64 pp,.int .u64 a,.int .u64 b,.bool deny,.slice dp dn dc] 103)).alloc (.cells #[.int .i64 0,.int .u64 0,.slice none 0 0,.int .u64 0,.int .u64 0,.int .i64 0,.int .i64 0] 38)):=((Touch.refl _ w).alloc _).alloc _;have hsz:(w.alloc (.cells #[.pointer (some ⟨hb,0,none⟩),.int .u64 q,.int .i64 op,.int .i64 ref,.int .u64 pp,.int .u64 a,.int .u64 b,.bool deny,.slice dp dn dc] 103)).heap.size=w.heap.size+1:=by simp
 have R0:=aC.new (w.alloc (.cells #[.pointer (some ⟨hb,0,none⟩),.int .u64 q,.int .i64 op,.int .i64 ref,.int .u64 pp,.int .u64 a,.int .u64 b,.bool deny,.slice dp dn dc] 103)) #[.int .i64 0,.int .u64 0,.slice none 0 0,.int .u64 0,.int .u64 0,.int .i64 0,.int .i64 0] 38;rw [hsz] at R0;have bG:=Hd R0;have HT0:=Hd T0;have HR:=Hd R;have HK:=Hd ((aC.new w #[.pointer (some ⟨hb,0,none⟩),.int .u64 q,.int .i64 op,.int .i64 ref,.int .u64 pp,.int .u64 a,.int .u64 b,.bool deny,.slice dp dn dc] 103).alloc (.cells #[.int .i64 0,.int .u64 0,.slice none 0 0,.int .u64 0,.int .u64 0,.int .i64 0,.int .i64 0] 38));clear R T0 R0 hsz
 go_enter Tryz.func49,Tryz.ntmps49
 go_upto_region 1 with fail
 generalize (w.alloc (.cells #[.pointer (some ⟨hb,0,none⟩),.int .u64 q,.int .i64 op,.int .i64 ref,.int .u64 pp,.int .u64 a,.int .u64 b,.bool deny,.slice dp dn dc] 103)).alloc (.cells #[.int .i64 0,.int .u64 0,.slice none 0 0,.int .u64 0,.int .u64 0,.int .i64 0,.int .i64 0] 38)=w1 at *;have k5:w1.cell? ⟨w.heap.size,5,none⟩=some (.int .u64 a):=HK.out.cell 5;have k8:w1.cell? ⟨w.heap.size,8,none⟩=some (.slice dp dn dc):=HK.out.cell 8;have R3:=bG.out;obtain ⟨z0,f0,z1,f1,z2,f2,z3,f3,z4,f4,z5,f5,z6,f6⟩:=R3.jq;have HB:=Hd (dz R3 (aY 6));have bI:=Hd (bJ w1 (w.heap.size+1) (aY 6));clear R3;unfold aY at *;unfold iQ at *
 go_wp2_with fail
 obtain ⟨y0,y1,y2,y3,y4,y5,y6⟩:=jr HB.out;simp at y0 y1 y2 y3 y4 y5 y6;exact bodyPost_ret (v:=.agg #[.int .i64 6,.int .u64 0,.slice none 0 0,.int .u64 0,.int .u64 0,.int .i64 0,.int .i64 0]) (by simp [results,Tryz.results49,go_sem,y0,y1,y2,y3,y4,y5,y6]) rfl ⟨_,rfl,rfl,aK.out HR.out HT0.out (v:=.int .i64 0) (e:=.returned (.int .i64 0)) ⟨rfl,K,HR.out.aj HT0.out,ay.Next.refl _ _,Touch.refl _ _⟩ (by omega) bG.out.lt bI.out⟩
theorem DV {w:World} {hb s pb:Nat} {K:ay} {β:Bu} {ps:List Int} (R:ak 0 w hb s pb K β ps) (c:au) (q:Nat) (ha:65536<c.dn) :
  Calls Tryz.prog 50 #[c.doer hb q] w fun e w'=>∃ an:aG,e=.returned an.val∧jU hb s pb K β ps (aY 6) an w w':=by
 obtain ⟨op,ref,pp,a,b,deny,dp,dn,dc⟩:=c;have ha':(65536:Int)<(dn:Int):=by simp only at ha;omega
 clear ha;unfold au.doer at *;have T0:Touch Nothing w ((w.alloc (.cells #[.pointer (some ⟨hb,0,none⟩),.int .u64 q,.int .i64 op,.int .i64 ref,.int .u64 pp,.int .u64 a,.int .u64 b,.bool deny,.slice dp dn dc] 103)).alloc (.cells #[.int .i64 0,.int .u64 0,.slice none 0 0,.int .u64 0,.int .u64 0,.int .i64 0,.int .i64 0] 38)):=((Touch.refl _ w).alloc _).alloc _;have hsz:(w.alloc (.cells #[.pointer (some ⟨hb,0,none⟩),.int .u64 q,.int .i64 op,.int .i64 ref,.int .u64 pp,.int .u64 a,.int .u64 b,.bool deny,.slice dp dn dc] 103)).heap.size=w.heap.size+1:=by simp
 have R0:=aC.new (w.alloc (.cells #[.pointer (some ⟨hb,0,none⟩),.int .u64 q,.int .i64 op,.int .i64 ref,.int .u64 pp,.int .u64 a,.int .u64 b,.bool deny,.slice dp dn dc] 103)) #[.int .i64 0,.int .u64 0,.slice none 0 0,.int .u64 0,.int .u64 0,.int .i64 0,.int .i64 0] 38;rw [hsz] at R0;have bG:=Hd R0;have HT0:=Hd T0;have HR:=Hd R;have HK:=Hd ((aC.new w #[.pointer (some ⟨hb,0,none⟩),.int .u64 q,.int .i64 op,.int .i64 ref,.int .u64 pp,.int .u64 a,.int .u64 b,.bool deny,.slice dp dn dc] 103).alloc (.cells #[.int .i64 0,.int .u64 0,.slice none 0 0,.int .u64 0,.int .u64 0,.int .i64 0,.int .i64 0] 38));clear R T0 R0 hsz
 go_enter Tryz.func50,Tryz.ntmps50
 go_upto_region 1 with fail
 generalize (w.alloc (.cells #[.pointer (some ⟨hb,0,none⟩),.int .u64 q,.int .i64 op,.int .i64 ref,.int .u64 pp,.int .u64 a,.int .u64 b,.bool deny,.slice dp dn dc] 103)).alloc (.cells #[.int .i64 0,.int .u64 0,.slice none 0 0,.int .u64 0,.int .u64 0,.int .i64 0,.int .i64 0] 38)=w1 at *;have k5:w1.cell? ⟨w.heap.size,5,none⟩=some (.int .u64 a):=HK.out.cell 5;have k8:w1.cell? ⟨w.heap.size,8,none⟩=some (.slice dp dn dc):=HK.out.cell 8;have R3:=bG.out;obtain ⟨z0,f0,z1,f1,z2,f2,z3,f3,z4,f4,z5,f5,z6,f6⟩:=R3.jq;have HB:=Hd (dz R3 (aY 6));have bI:=Hd (bJ w1 (w.heap.size+1) (aY 6));clear R3;unfold aY at *;unfold iQ at *
 go_wp2_with fail
 obtain ⟨y0,y1,y2,y3,y4,y5,y6⟩:=jr HB.out;simp at y0 y1 y2 y3 y4 y5 y6;exact bodyPost_ret (v:=.agg #[.int .i64 6,.int .u64 0,.slice none 0 0,.int .u64 0,.int .u64 0,.int .i64 0,.int .i64 0]) (by simp [results,Tryz.results50,go_sem,y0,y1,y2,y3,y4,y5,y6]) rfl ⟨_,rfl,rfl,aK.out HR.out HT0.out (v:=.int .i64 0) (e:=.returned (.int .i64 0)) ⟨rfl,K,HR.out.aj HT0.out,ay.Next.refl _ _,Touch.refl _ _⟩ (by omega) bG.out.lt bI.out⟩
theorem FV {w:World} (c:au) (dp:Option Addr) (n cap:Nat) (h:c.ref<0∨(n:Int)<c.ref) (hn:n≤9223372036854775807):Calls Tryz.prog 38 #[c.val,.slice dp n cap] w fun e w'=>e=.returned (.tuple #[.int .u64 0,.bool false])∧Touch Nothing w w':=by
 obtain ⟨op,ref,p,a,b,deny,xp,xn,xc⟩:=c;simp only at h;unfold au.val;by_cases h0:ref<0
 ·have hr0:(ref == 0)=false:=by rw [beq_eq_false_iff_ne];omega
  clear h
  go_enter Tryz.func38,Tryz.ntmps38
  go_wp2_with fail
  go_ret2
  exact ⟨rfl,(Touch.refl Nothing w).alloc _⟩
 ·have h1:(n:Int)<ref:=by omega
  have hr0:(ref == 0)=false:=by rw [beq_eq_false_iff_ne];omega
  clear h
  go_enter Tryz.func38,Tryz.ntmps38
  go_wp2_with fail
  go_ret2
  exact ⟨rfl,(Touch.refl Nothing w).alloc _⟩
theorem FW {w:World} (c:au) (av:Value) (aa:List aG) (A:uR w av aa) (j:Nat) (x:aG) (h:c.ref=(j:Int)+1) (hx:aa[j]? = some x) (he:x.e=0) (hs:18446744073709551616≤x.v+c.p) (hv:x.v<18446744073709551616) (hp:c.p<18446744073709551616):Calls Tryz.prog 38 #[c.val,av] w (Addressed w (x.v+c.p-18446744073709551616)):=by
 have hj:j<aa.length:=(List.getElem?_eq_some_iff.1 hx).1;obtain ⟨g,cap,hv',hcap,hg⟩:=A.form (by omega);rw [hv'] at A;subst hv'
 have hcell:∀ k u,x.cells[k]? = some u→w.cell? ⟨g,j*7+k,none⟩=some u:=fun k u hu=>by
  have hk:k<7:=by have:=(List.getElem?_eq_some_iff.1 hu).1;simpa [aG.cells] using this
  rw [A.cell _ (by omega)];exact oZ aa j x hx k u hu
 have d0:=hcell 0 _ rfl;have d1:=hcell 1 _ rfl;have d2:=hcell 2 _ rfl;have d3:=hcell 3 _ rfl;have d4:=hcell 4 _ rfl;have d5:=hcell 5 _ rfl;have d6:=hcell 6 _ rfl;simp only [Nat.add_zero] at d0
 have hmx:aa.length≤9223372036854775807:=by
  rcases A.2 with ⟨h0,_⟩ | ⟨g',cap',cur,hv',_,_,hc',hm,_⟩
  ·cases h0
  ·unfold maxLen at hm;omega
 obtain ⟨op,ref,p,a,b,deny,dp,dn,dc⟩:=c;obtain ⟨e,v,xp,xn,xc,xh,xl,xb,xf⟩:=x;simp only at h he hs hv hp;subst h;subst he;have hlt:(j:Int)<(aa.length:Int):=by omega
 have hr0:(((j:Int)+1) == 0)=false:=by rw [beq_eq_false_iff_ne];omega
 have hs':IntKind.u64.wrap ((v:Int)+(p:Int))=((v+p-18446744073709551616:Nat):Int):=by
  unfold IntKind.wrap;simp [IntKind.signed,IntKind.bits];omega
 have aaH:=Hd hs';unfold au.val;clear hcell A hx hcap hs hs'
 go_enter Tryz.func38,Tryz.ntmps38
 go_wp2_with fail
 go_ret2
 exact ⟨by simp [aaH.out],((Touch.refl Nothing w).alloc _).alloc _⟩
abbrev dF:Nat:=18446744073709551616
structure Cq where
 op:Int
 a:Nat
 b:Nat
 deny:Bool
 data:List UInt8
structure Src (w:World) (A:Nat→Prop) (dp:Option Addr) (dn dc:Nat) (dat:List UInt8):Prop where
 len:dn=dat.length
 cap:dn≤dc
 data:dat≠[]→∃ g off,dp=some ⟨g,off,none⟩∧A g∧∀ (j:Nat) x,dat[j]? = some x→w.cell? ⟨g,off+j,none⟩=some (.int .u8 x.toNat)
theorem Src.keep {w w':World} {A:Nat→Prop} {dp:Option Addr} {dn dc:Nat} {dat:List UInt8} (h:Src w A dp dn dc dat) (hk:∀ k,A k→k<w.heap.size→w'.heap[k]? = w.heap[k]?):Src w' A dp dn dc dat :=
 ⟨h.len,h.cap,fun hne=>by
  obtain ⟨g,off,hp,hA,hc⟩:=h.data hne;refine ⟨g,off,hp,hA,fun j x hj=>?_⟩;have h1:=hc j x hj;have hlt:=World.block_lt_of_cell? w _ h1;rw [World.cell?_of_block (w:=w) (a:=⟨g,off+j,none⟩) (hk g hA hlt)];exact h1⟩
def yc (x:Cq) (q size align:Nat):Prop :=
 (x.op=1∧size=x.a∧align=1)∨(x.op=2∧x.a*x.b<dF∧size=x.a*x.b∧align=1)∨(x.op=3∧size=x.b∧align=x.a)∨(x.op=4∧q=0∧size=x.a∧align=1)
def lq (v:Nat):An:=⟨0,v,[],0,0,0,0⟩
def lQ (β:Bu) (p n:Nat):List UInt8:=(List.range n).map fun o=>UInt8.ofNat (β.σ.mem (p+o))
inductive Eff (β:Bu) (F L:Nat→List Nat) (x:Cq):Option Nat→Bu→An→Prop
 | bad (q:Option Nat):(q=none∨¬(1≤x.op∧x.op≤14))→Eff β F L x q β (fZ 1)
 | limit (q:Nat):(x.op=11∧65536<x.a∨x.op=12∧65536<x.data.length)→Eff β F L x (some q) β (fZ 6)
 | over (q:Nat):x.op=2→dF≤x.a*x.b→Eff β F L x (some q) β (fZ 3)
 | refused (q size align:Nat):yc x q size align→(bD β.σ.size size align).2≠0→Eff β F L x (some q) β (fZ (bD β.σ.size size align).2)
 | full (q size align r:Nat):yc x q size align→bD β.σ.size size align=(r,0)→gZ β.μ.order r→NoRoom β.μ.order F L r→(x.deny=true∨β.σ.n=β.σ.limit)→Eff β F L x (some q) β (fZ 2)
 | took (q size align r:Nat) (β':Bu) (p:Nat):yc x q size align→bD β.σ.size size align=(r,0)→gZ β.μ.order r→wY β F L r x.deny β' p→(x.op=2→∀ i,i<r→β'.σ.mem (p+i)=0)→Eff β F L x (some q) β' (lq p)
 | Wy (q:Nat):x.op=4→q≠0→(∀ S,¬Live β q S)→Eff β F L x (some q) β (fZ 1)
 | G6 (q S:Nat):x.op=4→q≠0→Live β q S→(bD β.σ.size x.a 1).2≠0→Eff β F L x (some q) β (fZ (bD β.σ.size x.a 1).2)
 | Qd (q S:Nat):x.op=4→q≠0→Live β q S→bD β.σ.size x.a 1=(S,0)→gZ β.μ.order S→Eff β F L x (some q) β (lq q)
 | Um (q S r:Nat) (β':Bu):x.op=4→q≠0→Live β q S→bD β.σ.size x.a 1=(r,0)→gZ β.μ.order r→4096≤r→r<S→P9 β β' q r→Eff β F L x (some q) β' (lq q)
 | moved (q S r p:Nat) (β1 β':Bu):x.op=4→q≠0→Live β q S→bD β.σ.size x.a 1=(r,0)→gZ β.μ.order r→r≠S→¬(4096≤r∧r<S)→wY β F L r x.deny β1 p→β'.σ.n=β1.σ.n→Moved β β' q p r (min r S)→Eff β F L x (some q) β' (lq p)
 | Qe (q S r:Nat):x.op=4→q≠0→Live β q S→bD β.σ.size x.a 1=(r,0)→gZ β.μ.order r→r≠S→¬(4096≤r∧r<S)→NoRoom β.μ.order F L r→(x.deny=true∨β.σ.n=β.σ.limit)→Eff β F L x (some q) β (fZ 2)
 | Qf:x.op=5→Eff β F L x (some 0) β (fZ 0)
 | Wz (q:Nat):x.op=5→q≠0→(∀ S,¬Live β q S)→Eff β F L x (some q) β (fZ 1)
 | freed (q S:Nat) (β':Bu):x.op=5→q≠0→Live β q S→Gone β β' q→Eff β F L x (some q) β' (fZ 0)
 | usable (q S:Nat):x.op=6→Live β q S→Eff β F L x (some q) β (lq S)
 | Qg (q:Nat):x.op=6→(∀ S,¬Live β q S)→Eff β F L x (some q) β (fZ 1)
 | fault (q n:Nat):(x.op=7∧n=1∨x.op=8∧n=1∨x.op=9∧n=8∨x.op=10∧n=8∨x.op=11∧n=x.a∧x.a≤65536∨x.op=12∧n=x.data.length∧n≤65536)→0<n→¬dP β q n→Eff β F L x (some q) β (fZ 4)
 | load (q:Nat):x.op=7→dP β q 1→Eff β F L x (some q) β (lq (β.σ.mem q))
 | store (q:Nat):x.op=8→dP β q 1→Eff β F L x (some q) { β with σ:=β.σ.put q [x.a%256] } (fZ 0)
 | zq (q:Nat):x.op=9→dP β q 8→Eff β F L x (some q) β (lq (β.σ.word q))
 | wZ (q:Nat):x.op=10→dP β q 8→Eff β F L x (some q) { β with σ:=β.σ.put q (bL x.a) } (fZ 0)
 | Qh (q:Nat):x.op=11→x.a=0→Eff β F L x (some q) β (fZ 0)
 | read (q:Nat):x.op=11→0<x.a→x.a≤65536→dP β q x.a→Eff β F L x (some q) β ⟨0,0,lQ β q x.a,0,0,0,0⟩
 | Nh (q:Nat):x.op=12→x.data = []→Eff β F L x (some q) β (fZ 0)
 | write (q:Nat):x.op=12→x.data≠[]→x.data.length≤65536→dP β q x.data.length→Eff β F L x (some q) { β with σ:=β.σ.put q (x.data.map UInt8.toNat) } (fZ 0)
 | trim (q m:Nat) (β':Bu):x.op=13→BR β β' m→¬β'.mg→(∀ i,i<m→(β.bW i).mg)→β'=β.bW m→Eff β F L x (some q) β' (lq m)
 | stats (q:Nat):x.op=14→Eff β F L x (some q) β ⟨0,0,[],β.σ.size*β.σ.n,lX (dI β β.μ.pages.length),((dI β β.μ.pages.length).length:Nat),(jd β β.μ.pages.length:Nat)⟩
structure Ed (c:au) (x:Cq):Prop where
 op:c.op=x.op
 a:c.a=x.a
 b:c.b=x.b
 deny:c.deny=x.deny
def Ki (w:World) (c:au) (v:Value) (q:Option Nat):Prop :=
 ∀ W,Touch Nothing w W→match q with
  | some n=>Calls Tryz.prog 38 #[c.val,v] W (Addressed W n)
  | none=>Calls Tryz.prog 38 #[c.val,v] W fun e w'=>e=.returned (.tuple #[.int .u64 0,.bool false])∧Touch Nothing W w'
def Bf (β:Bu) (ps:List Int) (x:Cq) (q:Option Nat) (β':Bu) (ps':List Int) (an:An):Prop :=
 ∀ (w:World) (hb s pb:Nat) (K:ay) (A:Nat→Prop) (c:au) (v:Value),ak 0 w hb s pb K β ps→Ed c x→Src w A c.dp c.dn c.dc x.data→(∀ k,A k→k∉hb::s::pb::K.fp)→Ki w c v q →
  an.v<dF∧Calls Tryz.prog 22 #[.pointer (some ⟨hb,0,none⟩),c.val,v] w (Stepped w hb s pb K β' ps' an)
theorem Bg {w:World} {hb s pb:Nat} {K:ay} {β β':Bu} {ps ps':List Int} (R:ak 0 w hb s pb K β ps) (c:au) (v:Value) (q f:Nat) (n:Int) (hc:c.op=n) (hn:(kC.reverse.find? (fun p=>p.1 == n)).map Prod.snd=some f) (hw:(Lit.int .i64 n).wf=true)
  (hcf:∀ (us:Array Value) (W:World),(callFunc f us).run Tryz.prog W=.ok (.enter f us) W) (jZ:Ki w c v (some q)) (a0:aG) (x:An) (hx:∀ W,iI W a0 x) (hb0:a0.block=none)
  (wX:∀ W,Touch Nothing w W→Calls Tryz.prog f #[c.doer hb q] W fun e w'=>∃ an:aG,e=.returned an.val∧jU hb s pb K β' ps' a0 an W w') :
  Calls Tryz.prog 22 #[.pointer (some ⟨hb,0,none⟩),c.val,v] w (Stepped w hb s pb K β' ps' x) :=
 (wW hb q c v (·∈hb::s::K.fp) R.tX (jU hb s pb K β' ps' a0) (fun _ _ _ h=>h.2.choose_spec.2.2) f (by rw [hc];exact hn) (by rw [hc];exact hw) hcf (Hd jZ) (Hd wX)).mono fun _ _ h=>h.stepped R hx hb0
theorem BX {w:World} {hb s pb:Nat} {K:ay} {β:Bu} {ps:List Int} (R:ak 0 w hb s pb K β ps) {c:au} {v:Value}
  (H:Calls Tryz.prog 22 #[.pointer (some ⟨hb,0,none⟩),c.val,v] w (Done w fun an W W1=>an=aY 1∧Touch Nothing W W1)) :
  Calls Tryz.prog 22 #[.pointer (some ⟨hb,0,none⟩),c.val,v] w (Stepped w hb s pb K β ps (fZ 1)):=by
 refine H.mono ?_
 rintro e w' ⟨an,he,W,W1,b,T0,⟨rfl,T1⟩,h1,h2,T2⟩;have D:Done w (jU hb s pb K β ps (aY 1)) e w':=⟨aY 1,he,W,W1,b,T0,⟨rfl,K,(R.aj T0).aj T1,ay.Next.refl _ _,T1.none_⟩,h1,h2,T2⟩;exact D.stepped R (fun W=>(ng W 1).1) (ng w 1).2
theorem WA (W:World) (p:Nat):iI W (bV p 0) (lq p):=(j4 W p 0).1
theorem Un (W:World) (p:Nat) (e:Int) (h:e≠0):iI W (bV p e) (fZ e):=by
 have:=(j4 W p e).1;unfold AY at this;rw [if_neg h] at this;exact this
def iM (β:Bu) (ps:List Int) (F L:Nat→List Nat) (x:Cq) (q:Option Nat):Prop :=
 ∃ β' ps' F' C' L' an,HS β' ps' F' C' L'∧Eff β F L x q β' an∧Bf β ps x q β' ps' an
section
variable {β:Bu} {ps:List Int} {F C L:Nat→List Nat}
theorem HS.qx (I:HS β ps F C L) {P S:Nat} (h:Live β P S):P<dF:=by
 have h1:=h.top I;have h2:=I.inv.top;have h3:=h.pos.1
 show P<18446744073709551616
 omega
theorem FX (e:Int):(fZ e).v<dF:=by show 0<dF;decide
theorem iF {x:Cq} {q f:Nat} {n er:Int} (hop:x.op=n) (hf:f∈[39,40,41,42,43,44,45,46,47,48,49,50,51,52]) (hn:(kC.reverse.find? (fun p=>p.1 == n)).map Prod.snd=some f) (hw:(Lit.int .i64 n).wf=true) {β':Bu} {ps':List Int} (h:er≠0)
  (HM:∀ (w:World) (hb s pb:Nat) (K:ay) (c:au),ak 0 w hb s pb K β ps→Ed c x→Calls Tryz.prog f #[c.doer hb q] w fun e w'=>∃ an:aG,e=.returned an.val∧jU hb s pb K β' ps' (bV 0 er) an w w') :
  Bf β ps x (some q) β' ps' (fZ er) :=
 fun w hb s pb K _ c v R hc _ _ uf=>⟨FX er,Bg R c v q f n (hc.op.trans hop) hn hw (rX f hf) uf (bV 0 er) _ (fun W=>Un W 0 er h) (j4 w 0 er).2 (fun W T=>HM W hb s pb K c (R.aj T) hc)⟩
theorem iq {x:Cq} {q f:Nat} {n er:Int} (hop:x.op=n) (hf:f∈[39,40,41,42,43,44,45,46,47,48,49,50,51,52]) (hn:(kC.reverse.find? (fun p=>p.1 == n)).map Prod.snd=some f) (hw:(Lit.int .i64 n).wf=true) {β':Bu} {ps':List Int}
  (HM:∀ (w:World) (hb s pb:Nat) (K:ay) (A:Nat→Prop) (c:au),ak 0 w hb s pb K β ps→Ed c x→Src w A c.dp c.dn c.dc x.data→(∀ k,A k→k∉hb::s::pb::K.fp)→Calls Tryz.prog f #[c.doer hb q] w fun e w'=>∃ an:aG,e=.returned an.val∧jU hb s pb K β' ps' (aY er) an w w') :
  Bf β ps x (some q) β' ps' (fZ er) :=
 fun w hb s pb K A c v R hc hS hA uf=>⟨FX er,Bg R c v q f n (hc.op.trans hop) hn hw (rX f hf) uf (aY er) _ (fun W=>(ng W er).1) (ng w er).2 (fun W T=>HM W hb s pb K A c (R.aj T) hc (hS.keep (fun k _ hk=>T.block k hk (fun h=>h))) hA)⟩
theorem one_num {x:Cq} {q f p:Nat} {n:Int} (hop:x.op=n) (hf:f∈[39,40,41,42,43,44,45,46,47,48,49,50,51,52]) (hn:(kC.reverse.find? (fun p=>p.1 == n)).map Prod.snd=some f) (hw:(Lit.int .i64 n).wf=true) {β':Bu} {ps':List Int} (h:∀ (w:World) (hb s pb:Nat) (K:ay),ak 0 w hb s pb K β ps→p<dF)
  (HM:∀ (w:World) (hb s pb:Nat) (K:ay) (c:au),ak 0 w hb s pb K β ps→Ed c x→Calls Tryz.prog f #[c.doer hb q] w fun e w'=>∃ an:aG,e=.returned an.val∧jU hb s pb K β' ps' (bV p 0) an w w') :
  Bf β ps x (some q) β' ps' (lq p) :=
 fun w hb s pb K _ c v R hc _ _ uf=>⟨h w hb s pb K R,Bg R c v q f n (hc.op.trans hop) hn hw (rX f hf) uf (bV p 0) _ (fun W=>WA W p) (j4 w p 0).2 (fun W T=>HM W hb s pb K c (R.aj T) hc)⟩
theorem HS.Kj (I:HS β ps F C L) (x:Cq) (q:Nat) (hop:x.op=1) (ha:x.a<dF):iM β ps F L x (some q):=by
 have hA:yc x q x.a 1:=.inl ⟨hop,rfl,rfl⟩;rcases I.IK x.a x.deny ha with ⟨h,H⟩ | ⟨r,β',ps',F',C',L',p,hr,hs,I',T,H⟩ | ⟨r,hr,hs,hn,hd,H⟩
 ·exact ⟨β,ps,F,C,L,_,I,.refused q x.a 1 hA h,iF hop (by simp) rfl (by decide) h (fun w hb s pb K c R hc=>oF R c q 0 _ (fun W RW=>by rw [hc.a,hc.deny];exact H W hb s pb K RW))⟩
 ·exact ⟨β',ps',F',C',L',_,I',.took q x.a 1 r β' p hA hr hs T (fun e=>by rw [hop] at e;cases e),one_num hop (by simp) rfl (by decide) (fun _ _ _ _ _ _=>I'.qx ((T.more.live p r).2 (.inr ⟨rfl,rfl⟩))) (fun w hb s pb K c R hc=>oF R c q p _ (fun W RW=>by rw [hc.a,hc.deny];exact H W hb s pb K RW))⟩
 ·exact ⟨β,ps,F,C,L,_,I,.full q x.a 1 r hA hr hs hn hd,iF hop (by simp) rfl (by decide) (by decide) (fun w hb s pb K c R hc=>oF R c q 0 2 (fun W RW=>by rw [hc.a,hc.deny];exact H W hb s pb K RW))⟩
theorem HS.Kk (I:HS β ps F C L) (x:Cq) (q:Nat) (hop:x.op=2) (ha:x.a<dF) (hb:x.b<dF):iM β ps F L x (some q):=by
 rcases I.Wp x.a x.b x.deny ha hb with ⟨h,H⟩ | ⟨h0,h,H⟩ | ⟨h0,r,β',ps',F',C',L',p,hr,hs,I',T,Z,H⟩ | ⟨h0,r,hr,hs,hn,hd,H⟩
 ·exact ⟨β,ps,F,C,L,_,I,.over q hop h,iF hop (by simp) rfl (by decide) (by decide) (fun w hb s pb K c R hc=>oI R c q 0 3 (fun W RW=>by rw [hc.a,hc.b,hc.deny];exact H W hb s pb K RW))⟩
 ·exact ⟨β,ps,F,C,L,_,I,.refused q (x.a*x.b) 1 (.inr (.inl ⟨hop,h0,rfl,rfl⟩)) h,iF hop (by simp) rfl (by decide) h (fun w hb s pb K c R hc=>oI R c q 0 _ (fun W RW=>by rw [hc.a,hc.b,hc.deny];exact H W hb s pb K RW))⟩
 ·exact ⟨β',ps',F',C',L',_,I',.took q (x.a*x.b) 1 r β' p (.inr (.inl ⟨hop,h0,rfl,rfl⟩)) hr hs T (fun _=>Z),one_num hop (by simp) rfl (by decide) (fun _ _ _ _ _ _=>I'.qx ((T.more.live p r).2 (.inr ⟨rfl,rfl⟩))) (fun w hb s pb K c R hc=>oI R c q p _ (fun W RW=>by rw [hc.a,hc.b,hc.deny];exact H W hb s pb K RW))⟩
 ·exact ⟨β,ps,F,C,L,_,I,.full q (x.a*x.b) 1 r (.inr (.inl ⟨hop,h0,rfl,rfl⟩)) hr hs hn hd,iF hop (by simp) rfl (by decide) (by decide) (fun w hb s pb K c R hc=>oI R c q 0 2 (fun W RW=>by rw [hc.a,hc.b,hc.deny];exact H W hb s pb K RW))⟩
theorem HS.G7 (I:HS β ps F C L) (x:Cq) (q:Nat) (hop:x.op=3) (ha:x.a<dF) (hb:x.b<dF):iM β ps F L x (some q):=by
 have hA:yc x q x.b x.a:=.inr (.inr (.inl ⟨hop,rfl,rfl⟩));rcases I.aligned x.a x.b x.deny hb ha with ⟨h,H⟩ | ⟨r,β',ps',F',C',L',p,hr,hs,I',T,H⟩ | ⟨r,hr,hs,hn,hd,H⟩
 ·exact ⟨β,ps,F,C,L,_,I,.refused q x.b x.a hA h,iF hop (by simp) rfl (by decide) h (fun w hb s pb K c R hc=>qV R c q 0 _ (fun W RW=>by rw [hc.a,hc.b,hc.deny];exact H W hb s pb K RW))⟩
 ·exact ⟨β',ps',F',C',L',_,I',.took q x.b x.a r β' p hA hr hs T (fun e=>by rw [hop] at e;cases e),one_num hop (by simp) rfl (by decide) (fun _ _ _ _ _ _=>I'.qx ((T.more.live p r).2 (.inr ⟨rfl,rfl⟩))) (fun w hb s pb K c R hc=>qV R c q p _ (fun W RW=>by rw [hc.a,hc.b,hc.deny];exact H W hb s pb K RW))⟩
 ·exact ⟨β,ps,F,C,L,_,I,.full q x.b x.a r hA hr hs hn hd,iF hop (by simp) rfl (by decide) (by decide) (fun w hb s pb K c R hc=>qV R c q 0 2 (fun W RW=>by rw [hc.a,hc.b,hc.deny];exact H W hb s pb K RW))⟩
theorem HS.FY (I:HS β ps F C L) (x:Cq) (hop:x.op=4) (ha:x.a<dF):iM β ps F L x (some 0):=by
 have hA:yc x 0 x.a 1:=.inr (.inr (.inr ⟨hop,rfl,rfl,rfl⟩));rcases I.IK x.a x.deny ha with ⟨h,H⟩ | ⟨r,β',ps',F',C',L',p,hr,hs,I',T,H⟩ | ⟨r,hr,hs,hn,hd,H⟩
 ·exact ⟨β,ps,F,C,L,_,I,.refused 0 x.a 1 hA h,iF hop (by simp) rfl (by decide) h (fun w hb s pb K c R hc=>ig R c 0 0 _ (fun W RW=>by rw [hc.a,hc.deny];exact qU _ 0 _ _ (H W hb s pb K RW)))⟩
 ·exact ⟨β',ps',F',C',L',_,I',.took 0 x.a 1 r β' p hA hr hs T (fun e=>by rw [hop] at e;cases e),one_num hop (by simp) rfl (by decide) (fun _ _ _ _ _ _=>I'.qx ((T.more.live p r).2 (.inr ⟨rfl,rfl⟩))) (fun w hb s pb K c R hc=>ig R c 0 p _ (fun W RW=>by rw [hc.a,hc.deny];exact qU _ p _ _ (H W hb s pb K RW)))⟩
 ·exact ⟨β,ps,F,C,L,_,I,.full 0 x.a 1 r hA hr hs hn hd,iF hop (by simp) rfl (by decide) (by decide) (fun w hb s pb K c R hc=>ig R c 0 0 2 (fun W RW=>by rw [hc.a,hc.deny];exact qU _ 0 _ _ (H W hb s pb K RW)))⟩
theorem HS.G8 (I:HS β ps F C L) (x:Cq) (q:Nat) (hop:x.op=4) (hq:q<dF) (hq0:q≠0) (ha:x.a<dF):iM β ps F L x (some q):=by
 rcases I.Ui q x.a x.deny hq hq0 ha with ⟨h,H⟩ | ⟨S,hL,⟨h,H⟩ | ⟨r,hr,hs,⟨h,H⟩ | ⟨h1,h2,β',F',I',Cd,H⟩ | ⟨h1,h2,β1,β',ps',F',C',L',p,T,hn,I',M,H⟩ | ⟨h1,h2,hn,hd,H⟩⟩⟩
 ·exact ⟨β,ps,F,C,L,_,I,.Wy q hop hq0 h,iF hop (by simp) rfl (by decide) (by decide) (fun w hb s pb K c R hc=>ig R c q 0 1 (fun W RW=>by rw [hc.a,hc.deny];exact H W hb s pb K RW))⟩
 ·exact ⟨β,ps,F,C,L,_,I,.G6 q S hop hq0 hL h,iF hop (by simp) rfl (by decide) h (fun w hb s pb K c R hc=>ig R c q 0 _ (fun W RW=>by rw [hc.a,hc.deny];exact H W hb s pb K RW))⟩
 ·subst h;exact ⟨β,ps,F,C,L,_,I,.Qd q r hop hq0 hL hr hs,one_num hop (by simp) rfl (by decide) (fun _ _ _ _ _ _=>hq) (fun w hb s pb K c R hc=>ig R c q q _ (fun W RW=>by rw [hc.a,hc.deny];exact H W hb s pb K RW))⟩
 ·exact ⟨β',ps,F',C,L,_,I',.Um q S r β' hop hq0 hL hr hs h1 h2 Cd,one_num hop (by simp) rfl (by decide) (fun _ _ _ _ _ _=>hq) (fun w hb s pb K c R hc=>ig R c q q _ (fun W RW=>by rw [hc.a,hc.deny];exact H W hb s pb K RW))⟩
 ·exact ⟨β',ps',F',C',L',_,I',.moved q S r p β1 β' hop hq0 hL hr hs h1 h2 T hn M,one_num hop (by simp) rfl (by decide) (fun _ _ _ _ _ _=>I'.qx ((M.live p r).2 (.inr ⟨rfl,rfl⟩))) (fun w hb s pb K c R hc=>ig R c q p _ (fun W RW=>by rw [hc.a,hc.deny];exact H W hb s pb K RW))⟩
 ·exact ⟨β,ps,F,C,L,_,I,.Qe q S r hop hq0 hL hr hs h1 h2 hn hd,iF hop (by simp) rfl (by decide) (by decide) (fun w hb s pb K c R hc=>ig R c q 0 2 (fun W RW=>by rw [hc.a,hc.deny];exact H W hb s pb K RW))⟩
theorem HS.Qi (I:HS β ps F C L) (x:Cq) (q:Nat) (hop:x.op=5) (hq:q<dF):iM β ps F L x (some q):=by
 rcases I.free q hq with ⟨rfl,H⟩ | ⟨h0,S,β',ps',F',C',L',hL,I',G,H⟩ | ⟨h0,h,H⟩
 ·exact ⟨β,ps,F,C,L,_,I,.Qf hop,iq hop (by simp) rfl (by decide) (fun w hb s pb K A c R hc _ _=>wU R c 0 0 (fun W RW=>(H W hb s pb K RW).mono fun _ _ h=>h.gB))⟩
 ·exact ⟨β',ps',F',C',L',_,I',.freed q S β' hop h0 hL G,iq hop (by simp) rfl (by decide) (fun w hb s pb K A c R hc _ _=>wU R c q 0 (fun W RW=>H W hb s pb K RW))⟩
 ·exact ⟨β,ps,F,C,L,_,I,.Wz q hop h0 h,iq hop (by simp) rfl (by decide) (fun w hb s pb K A c R hc _ _=>wU R c q 1 (fun W RW=>(H W hb s pb K RW).mono fun _ _ h=>h.gB))⟩
theorem HS.Kl (I:HS β ps F C L) (x:Cq) (q:Nat) (hop:x.op=6) (hq:q<dF):iM β ps F L x (some q):=by
 rcases I.usable q hq with ⟨S,hL,H⟩ | ⟨h,H⟩
 ·exact ⟨β,ps,F,C,L,_,I,.usable q S hop hL,one_num hop (by simp) rfl (by decide) (fun _ _ _ _ _ _=>by have h1:=hL.top I;have h2:=I.inv.top;show S<18446744073709551616;omega) (fun w hb s pb K c R hc=>yP R c q S _ (fun W RW=>(H W hb s pb K RW).mono fun _ _ h=>h.gB))⟩
 ·exact ⟨β,ps,F,C,L,_,I,.Qg q hop h,iF hop (by simp) rfl (by decide) (by decide) (fun w hb s pb K c R hc=>yP R c q 0 1 (fun W RW=>(H W hb s pb K RW).mono fun _ _ h=>h.gB))⟩
theorem HS.Qj (I:HS β ps F C L) (x:Cq) (q:Nat) (hop:x.op=7) (hq:q<dF):iM β ps F L x (some q):=by
 rcases I.load q hq with ⟨h,H⟩ | ⟨h,H⟩
 ·exact ⟨β,ps,F,C,L,_,I,.load q hop h,one_num hop (by simp) rfl (by decide) (fun _ _ _ _ _ R=>by have:=R.sl.po.bu.sp.ok.byte q;show β.σ.mem q<18446744073709551616;omega) (fun w hb s pb K c R hc=>wT R c q _ 0 (R.sl.po.bu.sp.ok.byte q) (fun W RW=>(H W hb s pb K RW).mono fun _ _ h=>h.gB))⟩
 ·exact ⟨β,ps,F,C,L,_,I,.fault q 1 (.inl ⟨hop,rfl⟩) (by omega) h,iF hop (by simp) rfl (by decide) (by decide) (fun w hb s pb K c R hc=>wT R c q 0 4 (by omega) (fun W RW=>(H W hb s pb K RW).mono fun _ _ h=>h.gB))⟩
theorem HS.Ni (I:HS β ps F C L) (x:Cq) (q:Nat) (hop:x.op=8) (hq:q<dF):iM β ps F L x (some q):=by
 rcases I.store q (x.a%256) hq (Nat.mod_lt _ (by omega)) with ⟨h,I',H⟩ | ⟨h,H⟩
 ·exact ⟨_,ps,F,C,L,_,I',.store q hop h,iq hop (by simp) rfl (by decide) (fun w hb s pb K A c R hc _ _=>vS R c q 0 (fun W RW=>by rw [hc.a];exact H W hb s pb K RW))⟩
 ·exact ⟨β,ps,F,C,L,_,I,.fault q 1 (.inr (.inl ⟨hop,rfl⟩)) (by omega) h,iq hop (by simp) rfl (by decide) (fun w hb s pb K A c R hc _ _=>vS R c q 4 (fun W RW=>by rw [hc.a];exact (H W hb s pb K RW).mono fun _ _ h=>h.gB))⟩
theorem HS.FZ (I:HS β ps F C L) (x:Cq) (q:Nat) (hop:x.op=9) (hq:q<dF):iM β ps F L x (some q):=by
 rcases I.zq q hq with ⟨h,H⟩ | ⟨h,H⟩
 ·exact ⟨β,ps,F,C,L,_,I,.zq q hop h,one_num hop (by simp) rfl (by decide) (fun _ _ _ _ _ R=>R.sl.po.bu.sp.ok.word_lt q) (fun w hb s pb K c R hc=>vR R c q _ 0 (fun W RW=>(H W hb s pb K RW).mono fun _ _ h=>h.gB))⟩
 ·exact ⟨β,ps,F,C,L,_,I,.fault q 8 (.inr (.inr (.inl ⟨hop,rfl⟩))) (by omega) h,iF hop (by simp) rfl (by decide) (by decide) (fun w hb s pb K c R hc=>vR R c q 0 4 (fun W RW=>(H W hb s pb K RW).mono fun _ _ h=>h.gB))⟩
theorem HS.DW (I:HS β ps F C L) (x:Cq) (q:Nat) (hop:x.op=10) (hq:q<dF) (ha:x.a<dF):iM β ps F L x (some q):=by
 rcases I.wZ q x.a hq ha with ⟨h,I',H⟩ | ⟨h,H⟩
 ·exact ⟨_,ps,F,C,L,_,I',.wZ q hop h,iq hop (by simp) rfl (by decide) (fun w hb s pb K A c R hc _ _=>tZ R c q 0 (fun W RW=>by rw [hc.a];exact H W hb s pb K RW))⟩
 ·exact ⟨β,ps,F,C,L,_,I,.fault q 8 (.inr (.inr (.inr (.inl ⟨hop,rfl⟩)))) (by omega) h,iq hop (by simp) rfl (by decide) (fun w hb s pb K A c R hc _ _=>tZ R c q 4 (fun W RW=>by rw [hc.a];exact (H W hb s pb K RW).mono fun _ _ h=>h.gB))⟩
theorem HS.Qk (I:HS β ps F C L) (x:Cq) (q:Nat) (hop:x.op=13):iM β ps F L x (some q):=by
 obtain ⟨m,β',F',I',T,N,A,hp,hm,H⟩:=I.trim;exact ⟨β',ps,F',C,L,_,I',.trim q m β' hop T N A hp,one_num hop (by simp) rfl (by decide) (fun _ _ _ _ _ _=>by show m<18446744073709551616;omega) (fun w hb s pb K c R hc=>Ng R c q m hm (fun W RW=>H W hb s pb K RW))⟩
theorem HS.Nj (I:HS β ps F C L) (x:Cq) (q:Nat) (hop:x.op=14):iM β ps F L x (some q) :=
 ⟨β,ps,F,C,L,_,I,.stats q hop,fun w hb s pb K A c v R hc _ _ uf=>⟨by show 0<dF;decide,Bg R c v q 52 14 (hc.op.trans hop) rfl (by decide) (rX 52 (by simp)) uf ⟨0,0,none,0,0,β.σ.size*β.σ.n,lX (dI β β.μ.pages.length),((dI β β.μ.pages.length).length:Nat),(jd β β.μ.pages.length:Nat)⟩ _ (fun W=>⟨rfl,rfl,rfl,rfl,rfl,rfl,World.ownsRow_nil _ _ _ _⟩) rfl (fun W T=>Kh (R.aj T) c q _ _ _ _ (fun W2 RW=>(RW.Wu).mono fun _ _ h=>h.gB))⟩⟩
theorem rZ (β:Bu) (p n:Nat):(lQ β p n).length=n:=by simp [lQ]
theorem yT {w:World} {hb s pb:Nat} {K:ay} (R:ak 0 w hb s pb K β ps) (p n:Nat):bR (lQ β p n)=β.σ.bytes p n:=by
 unfold bR lQ Sp.bytes;rw [List.map_map];apply List.map_congr_left;intro o _;have:=R.sl.po.bu.sp.ok.byte (p+o)
 show Value.int .u8 ((UInt8.ofNat (β.σ.mem (p+o))).toNat:Nat)=_
 congr 2
 simp;omega
theorem HS.Ql (I:HS β ps F C L) (x:Cq) (q:Nat) (hop:x.op=11) (hq:q<dF):iM β ps F L x (some q):=by
 by_cases h1:65536<x.a
 ·exact ⟨β,ps,F,C,L,_,I,.limit q (.inl ⟨hop,h1⟩),iq hop (by simp) rfl (by decide) (fun w hb s pb K A c R hc _ _=>FU R c q (by rw [hc.a];exact h1))⟩
 by_cases h0:x.a=0
 ·exact ⟨β,ps,F,C,L,_,I,.Qh q hop h0,iq hop (by simp) rfl (by decide) (fun w hb s pb K A c R hc _ _=>yS R c q 0 (by rw [hc.a];omega) (fun W RW=>by rw [hc.a,h0];exact (RW.LY q).mono fun _ _ h=>h.gB))⟩
 rcases I.read q x.a hq (by omega) with ⟨h,H⟩ | ⟨h,H⟩
 ·refine ⟨β,ps,F,C,L,_,I,.read q hop (by omega) (by omega) h,fun w hb s pb K A c v R hc _ _ uf=>⟨by show 0<dF;decide,?_⟩⟩;have hn:(lQ β q x.a).length=c.a:=by rw [rZ,hc.a]
  refine (wW hb q c v (·∈hb::s::K.fp) R.tX (JO hb s pb K β ps c.a (bR (lQ β q x.a))) (fun _ _ _ h=>h.choose_spec.2.2.2.2.mono (fun k _ h=>by simp [h])) 49 (by rw [hc.op,hop];rfl) (by rw [hc.op,hop];decide) (rX 49 (by simp)) (Hd uf) (Hd fun W T=>MR (R.aj T) c q _ (by rw [hc.a];omega) (fun W2 RW=>?_))).mono fun _ _ h=>h.FE R hn (by rw [hc.a];omega)
  rw [hc.a,yT RW];exact H W2 hb s pb K RW
 ·exact ⟨β,ps,F,C,L,_,I,.fault q x.a (.inr (.inr (.inr (.inr (.inl ⟨hop,rfl,by omega⟩))))) (by omega) h,iq hop (by simp) rfl (by decide) (fun w hb s pb K A c R hc _ _=>yS R c q 4 (by rw [hc.a];omega) (fun W RW=>by rw [hc.a];exact (H W hb s pb K RW).mono fun _ _ h=>h.gB))⟩
theorem HS.Nk (I:HS β ps F C L) (x:Cq) (q:Nat) (hop:x.op=12) (hq:q<dF):iM β ps F L x (some q):=by
 by_cases h1:65536<x.data.length
 ·exact ⟨β,ps,F,C,L,_,I,.limit q (.inr ⟨hop,h1⟩),iq hop (by simp) rfl (by decide) (fun w hb s pb K A c R hc hS _=>DV R c q (by rw [hS.len];exact h1))⟩
 by_cases h0:x.data = []
 ·refine ⟨β,ps,F,C,L,_,I,.Nh q hop h0,iq hop (by simp) rfl (by decide) (fun w hb s pb K A c R hc hS _=>vB R c q 0 (by rw [hS.len];omega) (fun W T RW=>?_))⟩;have e:c.dn=0:=by rw [hS.len,h0];rfl
  rw [e];exact (RW.J3 q c.dc c.dp).mono fun _ _ h=>h.gB
 have hl0:0<x.data.length:=List.length_pos_iff.2 h0;have hlen:(x.data.map UInt8.toNat).length=x.data.length:=by simp
 rcases I.writes q (x.data.map UInt8.toNat) hq (by rw [hlen];exact hl0) (by rw [hlen];omega) (fun y hy=>by
  obtain ⟨z,_,rfl⟩:=List.mem_map.1 hy;exact z.toNat_lt) with ⟨h,I',H⟩ | ⟨h,H⟩
 ·rw [hlen] at h;refine ⟨_,ps,F,C,L,_,I',.write q hop h0 (by omega) h,iq hop (by simp) rfl (by decide) (fun w hb s pb K A c R hc hS hA=>vB R c q 0 (by rw [hS.len];omega) (fun W T RW=>?_))⟩;obtain ⟨g,off,hdp,Sr,hcell⟩:=(hS.keep (fun k _ hk=>T.block k hk (fun h=>h))).data h0;have h00:=hcell 0 _ (List.getElem?_eq_getElem hl0);have hlt:=World.block_lt_of_cell? W _ h00;have hn:=hA g Sr;have hcap:x.data.length≤c.dc:=by rw [←hS.len];exact hS.cap
  ·have:=H W hb s pb K c.dc ⟨g,off,none⟩ RW (by rw [hlen];exact hcap) hlt (fun e=>hn (by show g∈_;rw [show g=hb from e];simp)) (fun j v hj=>by
    unfold mP at hj;rw [List.map_map,List.getElem?_map,Option.map_eq_some_iff] at hj;obtain ⟨z,hz,rfl⟩:=hj;rw [show (⟨g,off,none⟩:Addr).add j=⟨g,off+j,none⟩ from Lib.add_plain _ _ _];exact hcell j z hz)
   rw [hlen] at this;rw [hdp,hS.len];exact this
 ·rw [hlen] at h;refine ⟨β,ps,F,C,L,_,I,.fault q x.data.length (.inr (.inr (.inr (.inr (.inr ⟨hop,rfl,by omega⟩))))) hl0 h,iq hop (by simp) rfl (by decide) (fun w hb s pb K A c R hc hS _=>vB R c q 4 (by rw [hS.len];omega) (fun W T RW=>?_))⟩;have:=H W hb s pb K c.dc c.dp RW;rw [hlen] at this;rw [hS.len];exact this.mono fun _ _ h=>h.gB
theorem Km (n:Int) (h:¬(1≤n∧n≤14)):kC.reverse.find? (fun p=>p.1 == n)=none:=by
 rw [List.find?_eq_none];intro p hp;simp only [kC,List.reverse_cons,List.reverse_nil,List.nil_append,List.cons_append,List.mem_cons,List.not_mem_nil,or_false] at hp;simp only [beq_iff_eq];rcases hp with rfl | rfl | rfl | rfl | rfl | rfl | rfl | rfl | rfl | rfl | rfl | rfl | rfl | rfl <;> (simp only;omega)
theorem HS.IX (I:HS β ps F C L) (x:Cq) (q:Option Nat) (hw:(Lit.int .i64 x.op).wf=true) (h:q=none∨¬(1≤x.op∧x.op≤14)):iM β ps F L x q:=by
 refine ⟨β,ps,F,C,L,_,I,.bad q h,fun w hb s pb K A c v R hc _ _ uf=>⟨FX 1,?_⟩⟩;by_cases ho:1≤x.op∧x.op≤14
 ·have hq:q=none:=h.resolve_right (fun h=>h ho);subst hq
  obtain ⟨f,hf⟩:∃ f,(kC.reverse.find? (fun p=>p.1 == c.op)).map Prod.snd=some f:=by
   rw [hc.op];have:x.op=1∨x.op=2∨x.op=3∨x.op=4∨x.op=5∨x.op=6∨x.op=7∨x.op=8∨x.op=9∨x.op=10∨x.op=11∨x.op=12∨x.op=13∨x.op=14:=by omega
   rcases this with e | e | e | e | e | e | e | e | e | e | e | e | e | e <;> (rw [e];exact ⟨_,rfl⟩)
  exact BX R (Ul hb 0 c v f hf (by rw [hc.op];exact hw) (Hd uf))
 ·have hn:=Km x.op ho;rw [←hc.op] at hn;cases q with
  | none=>exact BX R (Kg hb 0 c v hn (by rw [hc.op];exact hw) (Hd uf))
  | some q=>exact BX R (Ke hb q c v hn (by rw [hc.op];exact hw) (Hd uf))
theorem HS.one (I:HS β ps F C L) (x:Cq) (q:Option Nat) (hw:(Lit.int .i64 x.op).wf=true) (hq:∀ n,q=some n→n<dF) (ha:x.a<dF) (hb:x.b<dF):iM β ps F L x q:=by
 cases q with
 | none=>exact I.IX x none hw (.inl rfl)
 | some q =>
  have hq:=hq q rfl;by_cases ho:1≤x.op∧x.op≤14
  ·have:x.op=1∨x.op=2∨x.op=3∨x.op=4∨x.op=5∨x.op=6∨x.op=7∨x.op=8∨x.op=9∨x.op=10∨x.op=11∨x.op=12∨x.op=13∨x.op=14:=by omega
   rcases this with e | e | e | e | e | e | e | e | e | e | e | e | e | e
   ·exact I.Kj x q e ha
   ·exact I.Kk x q e ha hb
   ·exact I.G7 x q e ha hb
   ·by_cases h0:q=0
    ·subst h0;exact I.FY x e ha
    ·exact I.G8 x q e hq h0 ha
   ·exact I.Qi x q e hq
   ·exact I.Kl x q e hq
   ·exact I.Qj x q e hq
   ·exact I.Ni x q e hq
   ·exact I.FZ x q e hq
   ·exact I.DW x q e hq ha
   ·exact I.Ql x q e hq
   ·exact I.Nk x q e hq
   ·exact I.Qk x q e
   ·exact I.Nj x q e
  ·exact I.IX x (some q) hw (.inr ho)
end
structure Cp where
 ref:Int
 p:Nat
 x:Cq
def pF (c:au) (d:List UInt8):Cp:=⟨c.ref,c.p,⟨c.op,c.a,c.b,c.deny,d⟩⟩
structure vT (w:World) (A:Nat→Prop) (p:Option Addr) (n:Nat) (cs:List au) (ds:List (List UInt8)):Prop where
 len:n=cs.length
 len2:n=ds.length
 each:0<n→∃ g off,p=some ⟨g,off,none⟩∧A g∧∀ (i:Nat) c d,cs[i]? = some c→ds[i]? = some d→(∀ (j:Nat) v,c.cells[j]? = some v→w.cell? ⟨g,off+i*7+j,none⟩=some v)∧Src w A c.dp c.dn c.dc d
theorem vT.keep {w w':World} {A:Nat→Prop} {p:Option Addr} {n:Nat} {cs:List au} {ds:List (List UInt8)} (h:vT w A p n cs ds) (hk:∀ k,A k→k<w.heap.size→w'.heap[k]? = w.heap[k]?):vT w' A p n cs ds :=
 ⟨h.len,h.len2,fun hn=>by
  obtain ⟨g,off,hp,hA,he⟩:=h.each hn;refine ⟨g,off,hp,hA,fun i c d hc hd=>⟨fun j v hj=>?_,(he i c d hc hd).2.keep hk⟩⟩;have h1:=(he i c d hc hd).1 j v hj;have hlt:=World.block_lt_of_cell? w _ h1;rw [World.cell?_of_block (w:=w) (a:=⟨g,off+i*7+j,none⟩) (hk g hA hlt)];exact h1⟩
structure WB (c:Cp):Prop where
 op:(Lit.int .i64 c.x.op).wf=true
 p:c.p<dF
 a:c.x.a<dF
 b:c.x.b<dF
def vE (ref:Int) (p:Nat) (ax:List An):Option Nat :=
 if ref=0 then some p
 else if ref<0∨(ax.length:Int)<ref then none
 else match ax[(ref-1).toNat]? with
  | some a=>if a.e=0 then some ((a.v+p)%dF) else some p
  | none=>none
theorem Qm {ref:Int} {p:Nat} {ax:List An} (hp:p<dF) (n:Nat) (h:vE ref p ax=some n):n<dF:=by
 unfold vE at h;split at h
 ·cases h;exact hp
 ·split at h
  ·cases h
  ·split at h
   ·split at h
    ·cases h;exact Nat.mod_lt _ (by decide)
    ·cases h;exact hp
   ·cases h
theorem WC {w:World} {B hb s pb:Nat} {K:ay} {v:Value} {aa:List aG} {ax:List An} (An:iU w B hb s pb K v aa ax) (hv:∀ a∈ax,a.v<dF) (c:au) (hp:c.p<dF) (hl:aa.length≤4096):Ki w c v (vE c.ref c.p ax):=by
 intro W T;have AW:=(An.still T);have hlen:=An.len;unfold vE;by_cases h0:c.ref=0
 ·rw [if_pos h0];exact wJ c v h0
 rw [if_neg h0];by_cases h1:c.ref<0∨(ax.length:Int)<c.ref
 ·rw [if_pos h1];obtain ⟨vp,vn,vc,rfl⟩:=jC AW.own
  have hn:vn=aa.length:=by
   rcases AW.own.2 with ⟨h,h'⟩ | ⟨g,cap,cur,h,_⟩
   ·cases h;exact h'.symm
   ·cases h;rfl
  subst hn;exact FV c vp _ vc (by omega) (by omega)
 rw [if_neg h1];obtain ⟨j,hj⟩:∃ j:Nat,c.ref=(j:Int)+1:=⟨(c.ref-1).toNat,by omega⟩;have hjl:j<ax.length:=by omega
 obtain ⟨a,ha⟩:∃ a,aa[j]? = some a:=⟨_,List.getElem?_eq_getElem (by omega)⟩;obtain ⟨x,hx⟩:∃ x,ax[j]? = some x:=⟨_,List.getElem?_eq_getElem hjl⟩;have hi:=AW.each j a x ha hx;have e1:(c.ref-1).toNat=j:=by omega
 have hxv:=hv x (List.mem_of_getElem? hx);have hW:dF=18446744073709551616:=rfl;simp only [e1,hx];by_cases he:x.e=0
 ·simp only [he,if_true];by_cases hs:x.v+c.p<dF
  ·rw [Nat.mod_eq_of_lt hs];have:=Ap c v aa (uR.of AW) j a hj ha (hi.e.trans he) (by rw [hi.v];omega);rwa [hi.v] at this
  ·have e2:(x.v+c.p)%dF=x.v+c.p-dF:=by
    rw [Nat.mod_eq_sub_mod (by omega),Nat.mod_eq_of_lt (by omega)]
   rw [e2];have:=FW c v aa (uR.of AW) j a hj ha (hi.e.trans he) (by rw [hi.v];omega) (by rw [hi.v];exact hxv) hp;rwa [hi.v] at this
 ·simp only [he,if_false];exact GH c v aa (uR.of AW) j a hj ha (by rw [hi.e];exact he)
structure Run (β:Bu) (ps:List Int) (xs:List Cp) (st:Nat→Bu × List Int) (ax:List An):Prop where
 start:st 0=(β,ps)
 len:ax.length=xs.length
 inv:∀ k,k≤xs.length→∃ F C L,HS (st k).1 (st k).2 F C L
 step:∀ (k:Nat) x a,xs[k]? = some x→ax[k]? = some a→(∃ F C L,HS (st k).1 (st k).2 F C L∧Eff (st k).1 F L x.x (vE x.ref x.p (ax.take k)) (st (k+1)).1 a)∧Bf (st k).1 (st k).2 x.x (vE x.ref x.p (ax.take k)) (st (k+1)).1 (st (k+1)).2 a
theorem HS.run {β:Bu} {ps:List Int} {F C L:Nat→List Nat} (I:HS β ps F C L) (xs:List Cp) (ok:∀ x∈xs,WB x):∃ st ax,Run β ps xs st ax:=by
 have key:∀ n,n≤xs.length→∃ st ax,Run β ps (xs.take n) st ax:=by
  intro n
  induction n with
  | zero =>
   intro _;exact ⟨fun _=>(β,ps),[],rfl,by simp,fun k _=>⟨F,C,L,I⟩,fun k x a hx=>by simp at hx⟩
  | succ n ih =>
   intro hn;obtain ⟨st,ax,R⟩:=ih (by omega);have hl:(xs.take n).length=n:=by rw [List.length_take];omega
   have hal:ax.length=n:=R.len.trans hl;obtain ⟨x,hx⟩:∃ x,xs[n]? = some x:=⟨_,List.getElem?_eq_getElem (by omega)⟩;have hok:=ok x (List.mem_of_getElem? hx);obtain ⟨F1,C1,L1,I1⟩:=R.inv n (by omega);obtain ⟨β',ps',F',C',L',an,I',E,D⟩:=I1.one x.x (vE x.ref x.p ax) hok.op (fun m hm=>Qm hok.p m hm) hok.a hok.b;have htk:xs.take (n+1)=xs.take n++[x]:=by rw [List.take_add_one,hx];rfl
   rw [htk];refine ⟨fun k=>if k≤n then st k else (β',ps'),ax++[an],⟨by simp [R.start],by simp [R.len],fun k hk=>?_,fun k y a hy ha=>?_⟩⟩
   ·by_cases h:k≤n
    ·simp only [if_pos h];exact R.inv k (by omega)
    ·simp only [if_neg h];exact ⟨F',C',L',I'⟩
   ·by_cases h:k<n
    ·rw [List.getElem?_append_left (by omega)] at hy ha;simp only [if_pos (show k≤n by omega),if_pos (show k+1≤n by omega)];rw [List.take_append_of_le_length (by omega)];exact R.step k y a hy ha
    ·have hk:k=n:=by
      have:=(List.getElem?_eq_some_iff.1 ha).1;simp at this;omega
     subst hk;rw [List.getElem?_append_right (by omega),hl,Nat.sub_self] at hy;rw [List.getElem?_append_right (by omega),hal,Nat.sub_self] at ha;simp at hy ha;subst hy ha;simp only [Nat.le_refl,if_true,if_neg (show ¬k+1≤k by omega)];rw [List.take_append_of_le_length (by omega),List.take_of_length_le (by omega)];exact ⟨⟨F1,C1,L1,I1,E⟩,D⟩
 obtain ⟨st,ax,R⟩:=key xs.length (Nat.le_refl _);rw [List.take_length] at R;exact ⟨st,ax,R⟩
structure nO (w:World) (A:Nat→Prop) (hb s pb:Nat) (K0:ay) (ax:List An) (st:Nat→Bu × List Int) (k:Nat) (v:Value) (wr:World) (K:ay) (aa:List aG):Prop where
 heap:ak 0 wr hb s pb K (st k).1 (st k).2
 keep:∀ j,A j→j<w.heap.size→wr.heap[j]? = w.heap[j]?
 away:∀ j,A j→j∉hb::s::pb::K.fp
 answers:iU wr w.heap.size hb s pb K v aa (ax.take k)
 vals:∀ a∈ax.take k,a.v<dF
 new:∀ a∈aa,∀ g,a.block=some g→w.heap.size≤g
 dist:aa.Pairwise fun a b=>∀ g,a.block=some g→b.block≠some g
 len:aa.length=k
 next:K0.Next w K
 touch:Touch (·∈hb::s::K0.fp) w wr
 low:9≤w.heap.size
theorem nO.more {w:World} {A:Nat→Prop} {hb s pb:Nat} {K0:ay} {ax:List An} {st:Nat→Bu × List Int} {k:Nat} {v:Value} {wr w1 w2 w3:World} {K K':ay} {aa:List aG} {a:aG} {x:An} {o:Obj} {g c':Nat}
  (R:nO w A hb s pb K0 ax st k v wr K aa) (hlo:∀ j,A j→j<w.heap.size) (hx:ax[k]? = some x) (hxv:x.v<dF) (T1:Touch Nothing wr w1) (H:ak 0 w2 hb s pb K' (st (k+1)).1 (st (k+1)).2) (N:K.Next w1 K') (T2:Touch (·∈hb::s::K.fp) w1 w2)
  (AI:iI w2 a x) (F:∀ g,a.block=some g→w1.heap.size≤g∧g∉hb::s::pb::K'.fp) (hown:w3.ownsRow w.heap.size 38 7 (.slice (some ⟨g,0,none⟩) (aa.length+1) c') (aa.length+1) (aa.flatMap aG.cells++a.cells))
  (hg:(w2.alloc o).grownBy w3 v.ownBlock) (hat:v.ownBlock=some g∨g=w2.heap.size+1):nO w A hb s pb K0 ax st (k+1) (.slice (some ⟨g,0,none⟩) (aa.length+1) c') w3 K' (aa++[a]):=by
 have hA:=((R.answers.still T1).step N T2);have N0:K.Next wr K':=⟨N.bb,N.sb,N.mb,fun i hi=>(N.fresh i hi).elim .inl (fun h=>.inr (Nat.le_trans T1.size h))⟩;have TG:Touch (fun i=>v.ownBlock=some i) w2 w3:=((Touch.refl _ w2).alloc o).none_.trans (Touch.bT hg (fun i hi=>hi));have hvl:∀ i,v.ownBlock=some i→w.heap.size≤i∧i<wr.heap.size:=fun i hi=>World.ownsRow.lt R.answers.own i hi
 have hH:=H.lt;have h9:=R.low;have hsz:=R.touch.size;have hkind:∀ (d:aG) (y:An),iI w2 d y→iI w3 d y:=fun d y hd=>hd.touch TG (fun i hi hv=>kY hd.own hA.own (by decide) i hi hv)
 have JW:g∉hb::s::pb::K'.fp:=by
  rcases hat with h | h
  ·exact hA.away g h
  ·exact fun hm=>by have:=hH g hm;omega
 have hxl:=(List.getElem?_eq_some_iff.1 hx).1
 have htk:ax.take (k+1)=ax.take k++[x]:=by
  rw [List.take_add_one,hx];rfl
 have T3:Touch (fun i=>i∈hb::s::K.fp∨v.ownBlock=some i) wr w3:=(T1.none_.trans (T2.mono (fun _ _ h=>.inl h))).trans (TG.mono (fun _ _ h=>.inr h));refine ⟨H.touch TG (fun i hi hv=>hA.away i hv hi) (fun i hi hv=>by have:=hvl i hv;omega),fun j hj hjl=>?_,fun j hj hm=>?_,?_,fun b hb=>?_,fun b hb i hi=>?_,?_,by simp [R.len],R.next.trans N0 R.touch.size,?_,R.low⟩
 ·rw [←R.keep j hj hjl];refine T3.block j (by omega) ?_
  rintro (h | h)
  ·refine R.away j hj ?_
   simp only [List.mem_cons] at h ⊢;rcases h with h | h | h
   ·exact .inl h
   ·exact .inr (.inl h)
   ·exact .inr (.inr (.inr h))
  ·have:=hvl j h;omega
 ·have hjl:=hlo j hj;refine mZ N0 (R.away j hj) (by omega) hm
 ·refine ⟨by simpa using hown,by rw [htk,List.length_append,List.length_append,hA.len];rfl,fun i d y hd hy=>?_,fun i hi=>by cases hi;exact JW,fun d hd i hi=>?_⟩
  ·rw [htk] at hy;by_cases hi:i<aa.length
   ·rw [List.getElem?_append_left hi] at hd;rw [List.getElem?_append_left (by rw [←hA.len];exact hi)] at hy;exact hkind d y (hA.each i d y hd hy)
   ·have hi':i=aa.length:=by
     have:=(List.getElem?_eq_some_iff.1 hd).1;simp at this;omega
    subst hi';rw [List.getElem?_append_right (Nat.le_refl _)] at hd;rw [hA.len,List.getElem?_append_right (Nat.le_refl _)] at hy;simp at hd hy;subst hd hy;exact hkind _ _ AI
  ·rcases List.mem_append.1 hd with hd | hd
   ·exact hA.data d hd i hi
   ·simp at hd;subst hd;exact (F i hi).2
 ·rw [htk] at hb;rcases List.mem_append.1 hb with h | h
  ·exact R.vals b h
  ·simp at h;subst h;exact hxv
 ·rcases List.mem_append.1 hb with h | h
  ·exact R.new b h i hi
  ·simp at h;subst h;have:=(F i hi).1;have:=T1.size;omega
 ·rw [List.pairwise_append];refine ⟨R.dist,List.pairwise_singleton _ _,fun b hb c hc g hg hcg=>?_⟩;simp at hc;subst hc;obtain ⟨i,hi,rfl⟩:=List.getElem_of_mem hb;obtain ⟨y,hy⟩:∃ y,(ax.take k)[i]? = some y:=⟨_,List.getElem?_eq_getElem (by have:=R.answers.len;omega)⟩;have h1:=(World.ownsRow.lt (R.answers.each i _ y (List.getElem?_eq_getElem hi) hy).own g hg).2;have:=(F g hcg).1;have:=T1.size;omega
 ·refine R.touch.trans' T3 (fun i hi h=>?_);rcases h with h | h
  ·simp only [List.mem_cons] at h ⊢;rcases h with h | h | h
   ·exact .inl h
   ·exact .inr (.inl h)
   ·rcases R.next.fresh i h with h | h
    ·exact .inr (.inr h)
    ·omega
  ·have:=hvl i h;omega
def zw (w:World) (A:Nat→Prop) (hb s pb:Nat) (K0:ay) (n:Nat) (ax:List An) (st:Nat→Bu × List Int) (e:Ending) (w':World):Prop :=
 ∃ K aa dp dc,e=.returned (.tuple #[.slice dp n dc,.int .i64 0])∧nO w A hb s pb K0 ax st n (.slice dp n dc) w' K aa
theorem Nl {w:World} {A:Nat→Prop} {hb s pb:Nat} {K0:ay} {β:Bu} {ps:List Int} {pa:Option Addr} {n cap:Nat} {cs:List au} {ds:List (List UInt8)} {ax:List An} {st:Nat→Bu × List Int} (R:ak 0 w hb s pb K0 β ps) (C:vT w A pa n cs ds)
  (hA:∀ j,A j→j<w.heap.size∧j∉hb::s::pb::K0.fp) (hn:n≤4096) (ok:∀ c∈cs,c.p<dF) (H:Run β ps (List.zipWith pF cs ds) st ax) :
  Calls Tryz.prog 15 #[.pointer (some ⟨hb,0,none⟩),.slice pa n cap] w (zw w A hb s pb K0 n ax st):=by
 have bG:=Hd (show nO w A hb s pb K0 ax st 0 (.slice none 0 0) w K0 [] from
  ⟨by rw [H.start];exact R,fun _ _ _=>rfl,fun j hj=>(hA j hj).2,⟨World.ownsRow_nil _ _ _ _,by simp,fun i a x h=>by simp at h,fun g h=>by simp [Value.ownBlock] at h,fun a h=>by simp at h⟩,fun a h=>by simp at h,fun a h=>by simp at h,List.Pairwise.nil,rfl,ay.Next.refl _ _,Touch.refl _ _,R.ko.size⟩)
 have HS:=Hd H;have HC:=Hd C;have HA:=Hd hA;have Wt:=Hd ok;obtain ⟨i0,hi0,hz0,hz1,hz2⟩:=info_parts MW;have hxl:(List.zipWith pF cs ds).length=n:=by rw [List.length_zipWith,←C.len,←C.len2];omega
 have hal:ax.length=n:=H.len.trans hxl;have Zm:=Hd hal;clear R C H hA ok hxl hal
 go_enter Tryz.func15,Tryz.ntmps15
 go_wp2_with fail
 go_loopw [6,14] (fun v a wr=>∃ k:Nat,k≤n∧a=.int .i64 k∧∃ K aa,nO w A hb s pb K0 ax st k v wr K aa) (fun _ a _=>n-(intOf a).toNat)
 case atStart=>exact ⟨0,by omega,rfl,K0,[],bG.out⟩
 case round =>
  obtain ⟨k,hk,rfl,K,aa,hR⟩:=hrel;have HR:=Hd hR;clear hR;by_cases hlt:k<n
  ·obtain ⟨c,hc⟩:∃ c,cs[k]? = some c:=⟨_,List.getElem?_eq_getElem (by have:=HC.out.len;omega)⟩;obtain ⟨d,hd⟩:∃ d,ds[k]? = some d:=⟨_,List.getElem?_eq_getElem (by have:=HC.out.len2;omega)⟩;obtain ⟨x,hx⟩:∃ x,ax[k]? = some x:=⟨_,List.getElem?_eq_getElem (by have:=Zm.out;omega)⟩;have Zn:=HC.out.keep HR.out.keep;obtain ⟨ga,oa,hpa,Sr,ea⟩:=Zn.each (by omega);subst hpa;have HE:=Hd (ea k c d hc hd)
   have hcp:(List.zipWith pF cs ds)[k]? = some (pF c d):=by
    rw [List.getElem?_zipWith,hc,hd]
   have Ba:=Hd (HS.out.step k _ x hcp hx).2;have hcm:=Wt.out c (List.mem_of_getElem? hc);have HX:=Hd hx;clear hc hd hx Zn ea hcp;obtain ⟨vp,vn,vc,hv⟩:=jC HR.out.answers.own;subst hv;obtain ⟨cop,bN,cp,ca,cb,cd,dA,dB,dD⟩:=c;have z0:wr.cell? ⟨ga,oa+k*7,none⟩=some (.int .i64 cop):=HE.out.1 0 _ rfl;have z1:wr.cell? ⟨ga,oa+k*7+1,none⟩=some (.int .i64 bN):=HE.out.1 1 _ rfl;have z2:wr.cell? ⟨ga,oa+k*7+2,none⟩=some (.int .u64 cp):=HE.out.1 2 _ rfl;have z3:wr.cell? ⟨ga,oa+k*7+3,none⟩=some (.int .u64 ca):=HE.out.1 3 _ rfl;have z4:wr.cell? ⟨ga,oa+k*7+4,none⟩=some (.int .u64 cb):=HE.out.1 4 _ rfl;have z5:wr.cell? ⟨ga,oa+k*7+5,none⟩=some (.bool cd):=HE.out.1 5 _ rfl;have z6:wr.cell? ⟨ga,oa+k*7+6,none⟩=some (.slice dA dB dD):=HE.out.1 6 _ rfl;have hT1:Touch Nothing wr (wr.alloc (.cells #[.int .i64 cop,.int .i64 bN,.int .u64 cp,.int .u64 ca,.int .u64 cb,.bool cd,.slice dA dB dD] 43)):=(Touch.refl _ _).alloc _;have hal:aa.length≤4096:=by have:=HR.out.len;omega
   have hst:=Ba.out _ hb s pb K A ⟨cop,bN,cp,ca,cb,cd,dA,dB,dD⟩ (.slice vp vn vc) (HR.out.heap.aj hT1) ⟨rfl,rfl,rfl,rfl⟩ (HE.out.2.keep (fun j _ hj=>hT1.block j hj (fun h=>h))) HR.out.away (WC (HR.out.answers.still hT1) HR.out.vals _ hcm hal);have HST:=Hd hst.2;have HXv:=Hd hst.1;have HT1:=Hd hT1;clear hT1 hst hcm;unfold au.val at HST
   go_wp2_with fail
   refine HST.out.mono ?_
   rintro e w2 ⟨a,rfl,K',hR',hN',hT',hA',hF⟩;obtain ⟨ae,av,fE,eB,adc,ah,al,gH,gI⟩:=a;unfold aG.val at *;have HH:=Hd hR';have l9:=Hd hN';have HT2:=Hd hT';have Nn:=Hd hA';have HF:=Hd hF;clear hR' hN' hT' hA' hF;have Wh:=Hd ((HR.out.answers.still HT1.out).step l9.out HT2.out);have hB2:=aC.new w2 #[.int .i64 ae,.int .u64 av,.slice fE eB adc,.int .u64 ah,.int .u64 al,.int .i64 gH,.int .i64 gI] 38;have qR:=Hd (fJ hB2);have hbs:w.heap.size≤w2.heap.size:=Nat.le_trans HR.out.touch.size (Nat.le_trans HT1.out.size HT2.out.size);clear hB2
   go_wp2_with (at_builtin;refine wpList_append_lies _ rfl _ _ 30 rfl w.heap.size 38 i0 _ 7 72 Tryz.underlying30 hi0 hz0 hz1 hz2 rfl (by decide) _ _ _ rfl (Wh.out.own.alloc _) ⟨w2.heap.size,0,none⟩ 1 1 [.int .i64 ae,.int .u64 av,.slice fE eB adc,.int .u64 ah,.int .u64 al,.int .i64 gH,.int .i64 gI] rfl rfl qR.out (by simp [Value.oneCell']) (by omega) (by unfold maxLen;omega) (by omega) (by simp;omega) (w2.heap.size+1) (by simp) ?_;intro gg cap' w3 hown hgrow hat Ep)
   have HO:=Hd hown;have HG:=Hd hgrow;have iW:=Hd hat;clear hown hgrow hat
   go_wp2_with fail
   go_roundw
   case rel=>exact ⟨k+1,by omega,by go_num,K',aa++[⟨ae,av,fE,eB,adc,ah,al,gH,gI⟩],HR.out.more (a:=⟨ae,av,fE,eB,adc,ah,al,gH,gI⟩) (fun j hj=>(HA.out j hj).1) HX.out HXv.out HT1.out HH.out l9.out HT2.out Nn.out HF.out HO.out HG.out iW.out⟩
   case measure=>simp [intOf];omega
  ·obtain rfl:k=n:=by omega
   obtain ⟨vp,vn,vc,hv⟩:=jC HR.out.answers.own;subst hv
   have hvn:vn=k:=by
    have hl:=HR.out.len;rcases HR.out.answers.own.2 with ⟨h,h'⟩ | ⟨g,cap',cur,h,_⟩
    ·cases h;omega
    ·cases h;omega
   subst hvn
   go_wp2_with fail
   go_ret2
   exact ⟨K,aa,vp,vc,rfl,HR.out⟩
theorem Yf (base:Nat) (limit:Int) (o:Nat) (ho:o≤8) (w:World) :
  Calls Tryz.prog 37 #[dS base limit o] w fun e w'=>e=.returned (.int .u64 (4096*2^o:Nat))∧Touch Nothing w w':=by
 unfold dS;have hw:=oK ho;have h1:IntKind.u64.wrap (o:Int)=(o:Int):=IntWalk.u64_in _ (by omega);have h2:min o 64=o:=by omega
 go_enter Tryz.func37,Tryz.ntmps37
 go_wp2_with fail
 go_ret
 exact ⟨by simp,(Touch.refl _ _).alloc _⟩
theorem Uo (base:Nat) (limit order:Int) (w:World) :
  Calls Tryz.prog 19 #[dS base limit order] w fun e w'=>e=.returned (dS base limit order)∧Touch Nothing w w':=by
 unfold dS
 go_enter Tryz.func19,Tryz.ntmps19
 have T:Touch Nothing w ((w.alloc (.cells #[.int .u64 base,.int .i64 limit,.int .i64 order] 46)).alloc (.cells #[.int .u64 base,.int .i64 limit,.int .i64 order] 51)):=((Touch.refl _ _).alloc _).alloc _;have B:=aC.new (w.alloc (.cells #[.int .u64 base,.int .i64 limit,.int .i64 order] 46)) #[.int .u64 base,.int .i64 limit,.int .i64 order] 51;rw [show (w.alloc (.cells #[.int .u64 base,.int .i64 limit,.int .i64 order] 46)).heap.size=w.heap.size+1 by simp] at B;have y0:=B.cell 0;have y1:=B.cell 1;have y2:=B.cell 2;simp only [List.getElem?_cons_zero,List.getElem?_cons_succ] at y0 y1 y2;have HT:=Hd T;clear T B
 go_wp2_with fail
 exact bodyPost_ret (v:=.agg #[.int .u64 base,.int .i64 limit,.int .i64 order]) (by simp [results,Tryz.results19,go_sem,y0,y1,y2]) rfl ⟨rfl,HT.out⟩
theorem Kn (base:Nat) (limit order:Int) (w:World) (h:order<0∨8<order∨limit<1∨64<limit) :
  Calls Tryz.prog 20 #[dS base limit order] w fun e w'=>e=.returned (.bool (eF base limit order))∧Touch Nothing w w':=by
 have hm:eF base limit order=false:=by
  unfold eF;rw [decide_eq_false_iff_not];omega
 rw [hm];have HT:=Hd (show Touch Nothing w (w.alloc (.cells #[.int .u64 base,.int .i64 limit,.int .i64 order] 46)) from (Touch.refl _ _).alloc _);unfold dS;by_cases h1:order<0
 ·go_enter Tryz.func20,Tryz.ntmps20
  go_wp2
  go_ret
  exact ⟨rfl,HT.out⟩
 by_cases h2:8<order
 ·go_enter Tryz.func20,Tryz.ntmps20
  go_wp2
  go_ret
  exact ⟨rfl,HT.out⟩
 by_cases h3:limit<1
 ·go_enter Tryz.func20,Tryz.ntmps20
  go_wp2
  go_ret
  exact ⟨rfl,HT.out⟩
 have h4:64<limit:=by omega
 go_enter Tryz.func20,Tryz.ntmps20
 go_wp2
 go_ret
 exact ⟨rfl,HT.out⟩
theorem Np (base:Nat) (limit:Int) (o r:Nat) (w:World) (hb:base<18446744073709551616) (h1:1≤limit) (h2:limit≤64) (ho:o≤8) (hr:4096*2^o=r) :
  Calls Tryz.prog 20 #[dS base limit o] w fun e w'=>e=.returned (.bool (eF base limit o))∧Touch Nothing w w':=by
 have HR:=Hd (fun W=>Yf base limit o ho W);have hp:=Bt ho;have hu:IntKind.u64.wrap (o:Int)=(o:Int):=IntWalk.u64_in _ (by omega);have hm:min o 64=o:=by omega
 have he:(4096*2^o:Int)=(r:Int):=by rw [←hr];simp
 have HE:=Hd (show ∀ b:Bool,(b=true↔(limit*2^o≤1024∧base≠0∧base%r=0∧base≤9223372036854775808∧limit*(r:Int)≤9223372036854775808-(base:Int)))→b=eF base limit o from fun b h=>kH base limit o h1 h2 ho b (by rw [he,hr,Int.mul_comm (r:Int)];exact h));clear he;have HP:=Hd hr
 have h3:(limit*2^o:Int)≤16384∧0≤limit*2^o:=by
  rcases (show o=0∨o=1∨o=2∨o=3∨o=4∨o=5∨o=6∨o=7∨o=8 by omega) with rfl | rfl | rfl | rfl | rfl | rfl | rfl | rfl | rfl <;> (simp;omega)
 have hw3:IntKind.i64.wrap (limit*2^o)=limit*2^o:=IntWalk.i64_in _ (by omega);unfold dS at *;rw [hr] at HR;by_cases hc:(1024:Int)<limit*2^o
 ·rw [←HE.out false ⟨(fun h=>by cases h),(fun h=>by omega)⟩]
  go_enter Tryz.func20,Tryz.ntmps20
  go_wp2_with fail
  go_ret
  exact ⟨rfl,(Touch.refl _ _).alloc _⟩
 have T0:=(Touch.refl Nothing w).alloc (.cells #[.int .u64 base,.int .i64 limit,.int .i64 o] 46);have B0:=aC.new w #[.int .u64 base,.int .i64 limit,.int .i64 o] 46;have HT0:=Hd T0;have HB0:=Hd B0;clear T0 B0
 go_enter Tryz.func20,Tryz.ntmps20
 go_wp2_with fail
 refine (HR.out _).mono ?_
 rintro e w1 ⟨rfl,T1⟩;have B1:=HB0.out.touch T1 (fun h=>h);have b0:=B1.cell 0;have b1:=B1.cell 1;simp only [List.getElem?_cons_zero,List.getElem?_cons_succ] at b0 b1;have HT1:=Hd (HT0.out.trans T1);have HC:=Hd (And.intro h3 (And.intro hc hr));have hrl:(r:Int)≤1048576∧4096≤(r:Int):=by omega
 have acZ:¬((r:Int)=0):=by omega
 have hmul:limit*(r:Int)=4096*(limit*2^o):=by
  rw [←hr];simp [Int.mul_left_comm]
 have hml:0≤limit*(r:Int)∧limit*(r:Int)≤67108864:=by omega
 have hwl:IntKind.u64.wrap limit=limit:=IntWalk.u64_in _ (by omega);have Ru:IntKind.u64.wrap (limit*(r:Int))=limit*(r:Int):=IntWalk.u64_in _ (by omega);have HM:=Hd (And.intro hmul hml);clear B1 T1 hw3 h3 hc hmul hr hp
 go_wp2_with fail
 all_goals
  go_ret
  refine ⟨jP (HE.out _ ?_),HT1.out⟩;have k1:=HC.out;have k2:=HM.out;simp
  try simp only [beq_iff_eq] at *
  omega
theorem IY (base:Nat) (limit order:Int) (w:World) (hb:base<18446744073709551616) :
  Calls Tryz.prog 20 #[dS base limit order] w fun e w'=>e=.returned (.bool (eF base limit order))∧Touch Nothing w w':=by
 by_cases h:order<0∨8<order∨limit<1∨64<limit
 ·exact Kn base limit order w h
 ·obtain ⟨o,rfl⟩:∃ o:Nat,order=o:=⟨order.toNat,by omega⟩;exact Np base limit o _ w hb (by omega) (by omega) (by omega) rfl
theorem F4 {w:World} {B:Nat} {dp:Option Addr} {dn dc:Nat} {d:List UInt8} (h:w.ownsRow B 5 1 (.slice dp dn dc) d.length (bR d)):(convert 34 9 (.slice dp dn dc)).run Tryz.prog w=.ok (.string ⟨d.toArray⟩) w:=by
 rcases h.2 with ⟨hv,h0⟩ | ⟨g,cap,cur,hv,hB,hb,hcap,hmx,hs,ht⟩
 ·cases hv;obtain rfl:d = []:=List.eq_nil_of_length_eq_zero h0;exact run_convert_bytes_nil w 34 5 Tryz.underlying34 Tryz.underlying5 _ _ 9 Tryz.underlying9
 ·cases hv;refine run_convert_bytes_back w 34 9 5 ⟨g,0,none⟩ dc d Tryz.underlying34 Tryz.underlying5 Tryz.underlying9 (fun j hj=>?_);rw [Lib.add_plain,Nat.zero_add];have hc:=World.ownsRow.cellAt h j (by omega);rw [hc];simp [bR,hj]
theorem G9 {w:World} {a b:aG} {x:An} (ha:iI w a x) (hb:iI w b x) :
  Calls Tryz.prog 25 #[a.val,b.val] w fun e w'=>e=.returned (.bool true)∧Touch Nothing w w':=by
 obtain ⟨ae,av,fE,eB,adc,ah,al,gH,gI⟩:=a;obtain ⟨be,bv,WE,WG,WH,bh,bl,WI,WJ⟩:=b;obtain ⟨e1,v1,h1,l1,Zo,Zp,o1⟩:=ha;obtain ⟨e2,v2,h2,l2,Zq,Zr,o2⟩:=hb;simp only at e1 v1 h1 l1 Zo Zp o1 e2 v2 h2 l2 Zq Zr o2;subst e1 v1 h1 l1 Zo Zp;unfold aG.val;have T0:Touch Nothing w ((w.alloc (.cells #[.int .i64 x.e,.int .u64 x.v,.slice fE eB adc,.int .u64 x.h,.int .u64 x.l,.int .i64 x.bl,.int .i64 x.fr] 38)).alloc (.cells #[.int .i64 be,.int .u64 bv,.slice WE WG WH,.int .u64 bh,.int .u64 bl,.int .i64 WI,.int .i64 WJ] 38)):=((Touch.refl _ _).alloc _).alloc _;have C1:=Hd (F4 (aZ o1 T0 (fun _ _ _ h=>h)));have C2:=Hd (F4 (aZ o2 T0 (fun _ _ _ h=>h)));have HT:=Hd T0;subst e2 v2 h2 l2 Zq Zr;clear o1 o2 T0
 go_enter Tryz.func25,Tryz.ntmps25
 go_wp2_with fail
 rw [C1.out]
 go_wp2_with fail
 rw [C2.out]
 go_wp2_with fail
 go_ret
 exact ⟨rfl,HT.out⟩
theorem vU:∀ (l:List au) (i j:Nat),j<7→(l.flatMap au.cells)[i*7+j]? = (l[i]?).bind fun c=>c.cells[j]?
 | [],i,j,_=>by simp
 | c::l,0,j,hj=>by
  rw [List.flatMap_cons,List.getElem?_append_left (by show _<7;omega)];simp
 | c::l,i+1,j,hj=>by
  rw [List.flatMap_cons,List.getElem?_append_right (by show 7≤_;omega),show (i+1)*7+j-c.cells.length=i*7+j by show _-7=_;omega,vU l i j hj];simp
theorem vT.mono {w:World} {A A':Nat→Prop} {p:Option Addr} {n:Nat} {cs:List au} {ds:List (List UInt8)} (h:vT w A p n cs ds) (hA:∀ k,A k→A' k):vT w A' p n cs ds :=
 ⟨h.len,h.len2,fun hn=>by
  obtain ⟨g,off,hp,h1,he⟩:=h.each hn;refine ⟨g,off,hp,hA g h1,fun i c d hc hd=>⟨(he i c d hc hd).1,?_⟩⟩;have hs:=(he i c d hc hd).2;refine ⟨hs.len,hs.cap,fun hne=>?_⟩;obtain ⟨g',o',e1,e2,e3⟩:=hs.data hne;exact ⟨g',o',e1,hA g' e2,e3⟩⟩
theorem vT.src {w:World} {A:Nat→Prop} {p:Option Addr} {n:Nat} {cs:List au} {ds:List (List UInt8)} (h:vT w A p n cs ds):∀ (i:Nat) c d,cs[i]? = some c→ds[i]? = some d→Src w A c.dp c.dn c.dc d:=by
 intro i c d hc hd;obtain ⟨g,off,_,_,he⟩:=h.each (by have:=h.len;have:=(List.getElem?_eq_some_iff.1 hc).1;omega);exact (he i c d hc hd).2
theorem Qn {cs:List au} {ds:List (List UInt8)} (h:∀ c∈cs,(Lit.int .i64 c.op).wf=true∧c.p<dF∧c.a<dF∧c.b<dF):∀ x∈List.zipWith pF cs ds,WB x:=by
 intro x hx;obtain ⟨i,hi⟩:=List.mem_iff_getElem?.1 hx;rw [List.getElem?_zipWith] at hi;cases hc:cs[i]? with
 | none=>rw [hc] at hi;cases hi
 | some c =>
  cases hd:ds[i]? with
  | none=>rw [hc,hd] at hi;cases hi
  | some d =>
   rw [hc,hd] at hi;cases hi;obtain ⟨h1,h2,h3,h4⟩:=h c (List.mem_of_getElem? hc);exact ⟨h1,h2,h3,h4⟩
structure Handed (w:World) (p:Option Addr) (n cap:Nat) (cs:List au) (ds:List (List UInt8)):Prop where
 rd:vT w (· < w.heap.size) p n cs ds
 nil:p=none→n=0∧cap=0
 ok:∀ c∈cs,(Lit.int .i64 c.op).wf=true∧c.p<dF∧c.a<dF∧c.b<dF
 fine:∀ c∈cs,(c.dp=none→c.dn=0)∧c.dn≤maxLen
theorem Handed.at_ {w w':World} {p:Option Addr} {n cap:Nat} {cs:List au} {ds:List (List UInt8)} (h:Handed w p n cap cs ds) {A:Nat→Prop} (hA:∀ k,k<w.heap.size→A k) (T:Touch Nothing w w'):vT w' A p n cs ds :=
 (h.rd.keep (fun k _ hk=>T.block k hk (fun h=>h))).mono (fun k hk=>hA k hk)
end Go.Proofs.YtnjcmcnjgdjbiaaGreatDoor
