/- Conditions: as each theorem states. -/
import Derived.Test.YtnjcmcnjgdjbiaaGreatDoorKpPartAj
set_option maxRecDepth 100000
set_option maxHeartbeats 4000000
namespace Go.Proofs.YtnjcmcnjgdjbiaaGreatDoor
open Go.RowKit Go.MuLone
def dP (β:Bu) (p n:Nat):Prop:=∃ P S,Live β P S∧P≤p∧p+n≤P+S
theorem Live.top {β:Bu} {ps:List Int} {F C L:Nat→List Nat} (_I:HS β ps F C L) {P S:Nat} (h:Live β P S):P+S≤β.σ.base+4096*β.μ.pages.length:=by
 obtain ⟨h1,h2⟩:=h.pos;obtain ⟨x,off,q,e,ho,hq,_⟩:=h.pages (q:=P+S-1) (by omega) (by omega);have:=(List.getElem?_eq_some_iff.1 hq).1;omega
theorem HS.within {β:Bu} {ps:List Int} {F C L:Nat→List Nat} (I:HS β ps F C L) (p n:Nat) (hp:p<18446744073709551616) (hn:0<n) :
  (dP β p n∧∀ (m:Int) (w:World) (hb s pb:Nat) (K:ay),ak m w hb s pb K β ps→Calls Tryz.prog 66 #[.pointer (some ⟨hb,0,none⟩),.int .u64 p,.int .u64 n] w fun e w'=>e=.returned (.bool true)∧Touch Nothing w w') ∨
  (¬dP β p n∧∀ (m:Int) (w:World) (hb s pb:Nat) (K:ay),ak m w hb s pb K β ps→Calls Tryz.prog 66 #[.pointer (some ⟨hb,0,none⟩),.int .u64 p,.int .u64 n] w fun e w'=>e=.returned (.bool false)∧Touch Nothing w w'):=by
 rcases I.block p hp with ⟨P,S,hL,h1,h2,H⟩ | ⟨hno,P,S,H⟩
 ·have ht:=hL.top I;have hT:=I.inv.top;have hW:=fun (m:Int) (w:World) (hb s pb:Nat) (K:ay) (R:ak m w hb s pb K β ps)=>Ak hb p n P S h1 h2 (by omega) (H m w hb s pb K R)
  by_cases hle:n≤P+S-p
  ·rw [decide_eq_true hle] at hW;exact .inl ⟨⟨P,S,hL,h1,by omega⟩,hW⟩
  ·rw [decide_eq_false hle] at hW;refine .inr ⟨?_,hW⟩;rintro ⟨P',S',hL',h3,h4⟩;obtain ⟨rfl,rfl⟩:=hL.meet hL' h1 h2 h3 (by omega);omega
 ·refine .inr ⟨?_,fun m w hb s pb K R=>CF hb p n P S (H m w hb s pb K R)⟩;rintro ⟨P',S',hL',h3,h4⟩;have:=hno P' S' hL';omega
theorem ak.BQ {w:World} {hb s pb:Nat} {K:ay} {β:Bu} {ps:List Int} (R:ak 0 w hb s pb K β ps) (p:Nat) (HW:∀ W,ak 1 W hb s pb K β ps→Calls Tryz.prog 66 #[.pointer (some ⟨hb,0,none⟩),.int .u64 p,.int .u64 (8:Nat)] W fun e w'=>e=.returned (.bool false)∧Touch Nothing W w') :
  Calls Tryz.prog 95 #[.pointer (some ⟨hb,0,none⟩),.int .u64 p] w (bC w hb s pb K β ps (.tuple #[.int .u64 (0:Nat),.int .i64 4])):=by
 obtain ⟨c0,-,-,-,-,f0⟩:=R.cells;have R1:=R.locked 1;have fP:=Hd (HW _ R1);have HR1:=Hd R1;clear R HW R1
 go_enter_defers Tryz.func95,Tryz.ntmps95
 go_wp2_with (go_at_call 58;refine (lock_free Tryz.muLib ⟨hb,0,none⟩ _ c0 f0).mono ?_;rintro e w' ⟨rfl,rfl⟩)
 generalize hw1:w.setCell ⟨hb,0,none⟩ (.int .i32 1)=w1 at *;refine fP.out.mono ?_
 rintro e w2 ⟨rfl,T2⟩;have HW1:=Hd hw1;have HT2:=Hd T2;have R2:=HR1.out.aj T2;have hm:=R2.cells.1;have fm:=R2.cells.2.2.2.2.2;clear hw1 R2 T2 c0 f0
 go_wp2
 refine leaves_cons (f:=59) (args:=#[.pointer (some ⟨hb,0,none⟩)]) (by simp) (by simp [go_sem]) ?_
 refine (unlock_deferred Tryz.muLib ⟨hb,0,none⟩ .returning _ hm fm).mono ?_
 rintro e u' w'' ⟨rfl,rfl,rfl⟩;exact ⟨_,results_tmp2 rfl _ _ _,ak.iX HW1.out.symm HR1.out HT2.out⟩
theorem ak.A8 {w:World} {hb s pb:Nat} {K:ay} {β:Bu} {ps:List Int} (R:ak 0 w hb s pb K β ps) (p v:Nat) (HW:∀ W,ak 1 W hb s pb K β ps→Calls Tryz.prog 66 #[.pointer (some ⟨hb,0,none⟩),.int .u64 p,.int .u64 (8:Nat)] W fun e w'=>e=.returned (.bool false)∧Touch Nothing W w') :
  Calls Tryz.prog 96 #[.pointer (some ⟨hb,0,none⟩),.int .u64 p,.int .u64 v] w (bC w hb s pb K β ps (.int .i64 4)):=by
 obtain ⟨c0,-,-,-,-,f0⟩:=R.cells;have R1:=R.locked 1;have fP:=Hd (HW _ R1);have HR1:=Hd R1;clear R HW R1
 go_enter_defers Tryz.func96,Tryz.ntmps96
 go_wp2_with (go_at_call 58;refine (lock_free Tryz.muLib ⟨hb,0,none⟩ _ c0 f0).mono ?_;rintro e w' ⟨rfl,rfl⟩)
 generalize hw1:w.setCell ⟨hb,0,none⟩ (.int .i32 1)=w1 at *;refine fP.out.mono ?_
 rintro e w2 ⟨rfl,T2⟩;have HW1:=Hd hw1;have HT2:=Hd T2;have R2:=HR1.out.aj T2;have hm:=R2.cells.1;have fm:=R2.cells.2.2.2.2.2;clear hw1 R2 T2 c0 f0
 go_wp2
 refine leaves_cons (f:=59) (args:=#[.pointer (some ⟨hb,0,none⟩)]) (by simp) (by simp [go_sem]) ?_
 refine (unlock_deferred Tryz.muLib ⟨hb,0,none⟩ .returning _ hm fm).mono ?_
 rintro e u' w'' ⟨rfl,rfl,rfl⟩;exact ⟨_,results_tmp rfl _ _ _,ak.iX HW1.out.symm HR1.out HT2.out⟩
theorem ak.yR {w:World} {hb s pb:Nat} {K:ay} {β:Bu} {ps:List Int} (R:ak 0 w hb s pb K β ps) (p n c:Nat) (ad:Option Addr) (hn:n≠0) (hn2:n≤65536) (HW:∀ W,ak 1 W hb s pb K β ps→Calls Tryz.prog 66 #[.pointer (some ⟨hb,0,none⟩),.int .u64 p,.int .u64 n] W fun e w'=>e=.returned (.bool false)∧Touch Nothing W w') :
  Calls Tryz.prog 97 #[.pointer (some ⟨hb,0,none⟩),.int .u64 p,.slice ad n c] w (bC w hb s pb K β ps (.int .i64 4)):=by
 obtain ⟨c0,-,-,-,-,f0⟩:=R.cells;have R1:=R.locked 1;have fP:=Hd (HW _ R1);have HR1:=Hd R1;have hne0:=jy hn;clear R HW R1 hn
 go_enter_defers Tryz.func97,Tryz.ntmps97
 go_wp2_with (go_at_call 58;refine (lock_free Tryz.muLib ⟨hb,0,none⟩ _ c0 f0).mono ?_;rintro e w' ⟨rfl,rfl⟩)
 generalize hw1:w.setCell ⟨hb,0,none⟩ (.int .i32 1)=w1 at *;refine fP.out.mono ?_
 rintro e w2 ⟨rfl,T2⟩;have HW1:=Hd hw1;have HT2:=Hd T2;have R2:=HR1.out.aj T2;have hm:=R2.cells.1;have fm:=R2.cells.2.2.2.2.2;clear hw1 R2 T2 c0 f0
 go_wp2
 refine leaves_cons (f:=59) (args:=#[.pointer (some ⟨hb,0,none⟩)]) (by simp) (by simp [go_sem]) ?_
 refine (unlock_deferred Tryz.muLib ⟨hb,0,none⟩ .returning _ hm fm).mono ?_
 rintro e u' w'' ⟨rfl,rfl,rfl⟩;exact ⟨_,results_tmp rfl _ _ _,ak.iX HW1.out.symm HR1.out HT2.out⟩
theorem ak.GR {w:World} {hb s pb:Nat} {K:ay} {β:Bu} {ps:List Int} (R:ak 0 w hb s pb K β ps) (p:Nat) (H:β.σ.has p 8) (HW:∀ W,ak 1 W hb s pb K β ps→Calls Tryz.prog 66 #[.pointer (some ⟨hb,0,none⟩),.int .u64 p,.int .u64 (8:Nat)] W fun e w'=>e=.returned (.bool true)∧Touch Nothing W w') :
  Calls Tryz.prog 95 #[.pointer (some ⟨hb,0,none⟩),.int .u64 p] w (bC w hb s pb K β ps (.tuple #[.int .u64 (β.σ.word p:Nat),.int .i64 0])):=by
 obtain ⟨c0,-,-,-,-,f0⟩:=R.cells;have R1:=R.locked 1;have fP:=Hd (HW _ R1);have HR1:=Hd R1;have HH:=Hd H;clear R HW R1 H
 go_enter_defers Tryz.func95,Tryz.ntmps95
 go_wp2_with (go_at_call 58;refine (lock_free Tryz.muLib ⟨hb,0,none⟩ _ c0 f0).mono ?_;rintro e w' ⟨rfl,rfl⟩)
 generalize hw1:w.setCell ⟨hb,0,none⟩ (.int .i32 1)=w1 at *;refine fP.out.mono ?_
 rintro e w2 ⟨rfl,T2⟩;have HW1:=Hd hw1;have R2:=HR1.out.aj T2;have c5:=R2.cells.2.2.2.1;have HT2:=Hd T2;have jg:=Hd R2.sl.po.gM;have pG:=Hd (R2.sl.po.bu.sp.uy p HH.out);clear hw1 R2 T2 c0 f0
 go_wp2_with fail
 refine jg.out.mono ?_
 rintro e w3 ⟨rfl,rfl⟩
 go_wp2_with fail
 refine pG.out.mono ?_
 rintro e w3 ⟨rfl,T3⟩;have HT3:=Hd (HT2.out.trans T3);have R3:=HR1.out.aj HT3.out;have hm:=R3.cells.1;have fm:=R3.cells.2.2.2.2.2;clear R3 T3 c5
 go_wp2
 refine leaves_cons (f:=59) (args:=#[.pointer (some ⟨hb,0,none⟩)]) (by simp) (by simp [go_sem]) ?_
 refine (unlock_deferred Tryz.muLib ⟨hb,0,none⟩ .returning _ hm fm).mono ?_
 rintro e u' w'' ⟨rfl,rfl,rfl⟩;exact ⟨_,results_tmp2 rfl _ _ _,ak.iX HW1.out.symm HR1.out HT3.out⟩
theorem ak.FK {w:World} {hb s pb:Nat} {K:ay} {β:Bu} {ps:List Int} (R:ak 0 w hb s pb K β ps) (p v:Nat) (hv:v<18446744073709551616) (H:β.σ.has p 8) (HW:∀ W,ak 1 W hb s pb K β ps→Calls Tryz.prog 66 #[.pointer (some ⟨hb,0,none⟩),.int .u64 p,.int .u64 (8:Nat)] W fun e w'=>e=.returned (.bool true)∧Touch Nothing W w') :
  Calls Tryz.prog 96 #[.pointer (some ⟨hb,0,none⟩),.int .u64 p,.int .u64 v] w (aK w hb s pb K { β with σ:=β.σ.put p (bL v) } ps (.int .i64 0)):=by
 obtain ⟨c0,-,-,-,-,f0⟩:=R.cells;have R1:=R.locked 1;have fP:=Hd (HW _ R1);have HR1:=Hd R1;have HH:=Hd H;clear R HW R1 H
 go_enter_defers Tryz.func96,Tryz.ntmps96
 go_wp2_with (go_at_call 58;refine (lock_free Tryz.muLib ⟨hb,0,none⟩ _ c0 f0).mono ?_;rintro e w' ⟨rfl,rfl⟩)
 generalize hw1:w.setCell ⟨hb,0,none⟩ (.int .i32 1)=w1 at *;refine fP.out.mono ?_
 rintro e w2 ⟨rfl,T2⟩;have HW1:=Hd hw1;have R2:=HR1.out.aj T2;have c5:=R2.cells.2.2.2.1;have HT2:=Hd T2;have jg:=Hd R2.sl.po.gM;have pG:=Hd (R2.sl.po.bu.sp.qF p v HH.out hv);have HR2:=Hd R2;clear hw1 R2 T2 c0 f0
 go_wp2_with fail
 refine jg.out.mono ?_
 rintro e w3 ⟨rfl,rfl⟩
 go_wp2_with fail
 refine pG.out.mono ?_
 rintro e w3 ⟨rfl,r3,t3⟩;obtain ⟨b3,T3⟩:=HR2.out.sl.po.bu.bytes r3 t3 (Sp.kV _ _ _);have S3:=HR2.out.sl.next T3 (ay.Next.refl _ _) b3;have R3:=HR2.out.next (T3.mono (fun b _ hb=>List.mem_cons_of_mem _ hb)) (ay.Next.refl _ _) S3 ⟨rfl,rfl,rfl⟩;have HR3:=Hd R3;have HT3:=Hd T3;have hm:=R3.cells.1;have fm:=R3.cells.2.2.2.2.2;clear r3 t3 b3 T3 S3 R3 c5
 go_wp2
 refine leaves_cons (f:=59) (args:=#[.pointer (some ⟨hb,0,none⟩)]) (by simp) (by simp [go_sem]) ?_
 refine (unlock_deferred Tryz.muLib ⟨hb,0,none⟩ .returning _ hm fm).mono ?_
 rintro e u' w'' ⟨rfl,rfl,rfl⟩;exact ⟨_,results_tmp rfl _ _ _,ak.unlocked HW1.out.symm HR3.out (ay.Next.refl _ _) (HT2.out.none_.trans (HT3.out.mono (fun b _ hb=>List.mem_cons_of_mem _ hb)))⟩
theorem ak.J3 {w:World} {hb s pb:Nat} {K:ay} {β:Bu} {ps:List Int} (R:ak 0 w hb s pb K β ps) (p c:Nat) (ad:Option Addr) :
  Calls Tryz.prog 97 #[.pointer (some ⟨hb,0,none⟩),.int .u64 p,.slice ad (0:Nat) c] w (bC w hb s pb K β ps (.int .i64 0)):=by
 obtain ⟨c0,-,-,-,-,f0⟩:=R.cells;have R1:=R.locked 1;have HR1:=Hd R1;have hm:=R1.cells.1;have fm:=R1.cells.2.2.2.2.2;clear R R1
 go_enter_defers Tryz.func97,Tryz.ntmps97
 go_wp2_with (go_at_call 58;refine (lock_free Tryz.muLib ⟨hb,0,none⟩ _ c0 f0).mono ?_;rintro e w' ⟨rfl,rfl⟩)
 refine leaves_cons (f:=59) (args:=#[.pointer (some ⟨hb,0,none⟩)]) (by simp) (by simp [go_sem]) ?_
 refine (unlock_deferred Tryz.muLib ⟨hb,0,none⟩ .returning _ hm fm).mono ?_
 rintro e u' w'' ⟨rfl,rfl,rfl⟩;exact ⟨_,results_tmp rfl _ _ _,ak.iX rfl HR1.out (Touch.refl _ _)⟩
end Go.Proofs.YtnjcmcnjgdjbiaaGreatDoor
namespace Go.Proofs.YtnjcmcnjgdjbiaaGreatDoor
open Go.RowKit
theorem aJ.Ug {w:World} {K:ay} {β:Bu} {F:Nat→List Nat} (R:aJ w K β) (I:BInv β F aH) {a k o:Nat} (lo:o≤k) (hk:k≤β.μ.order) (hB:bf β.μ.pages a k 2) :
  Calls Tryz.prog 137 #[.pointer (some ⟨K.bb,0,none⟩),.int .u64 (β.addr a:Nat),.int .i64 k,.int .i64 o] w (Turned w K (β.cut a k o) (.int .i64 0)):=by
 have p0:=fF k;have hp:=hB.at_ 0 p0;rw [Nat.add_zero] at hp;have HL:=Hd (R.xO a k hp (by simp [bK,aD]) rfl);have I1:=I.mH hB;have hH:(fun y=>aH y∨Inb a k y)=Inb a k:=funext fun y=>propext ⟨fun h=>h.resolve_left id,.inr⟩
 rw [hH] at I1;obtain ⟨I2,K2,U2,C2⟩:=I1.gJ hk hB.al R.ok.has' (k-o) (by omega);have hle:=hB.le;have hpw:2^o≤2^k:=Nat.pow_le_pow_right (by omega) lo;have hdv:2^o∣a:=Nat.dvd_trans (Nat.pow_dvd_pow 2 lo) hB.al
 have hC:=fun (W:World) (T:Touch Nothing w W)=>(R.aj T).Jq a k o lo hk C2 (by rw [K2.order];omega) (by
  rw [←Int.ofNat_tmod,Nat.mod_eq_zero_of_dvd hdv];rfl) (by rw [K2.len];omega)
 have HC:=Hd hC;have hlo:¬((k:Int)<(o:Int)):=by omega
 have hlo0:¬((o:Int)<0):=by omega
 clear R I hk hB hH I1 I2 K2 U2 C2 hC p0 hp hle hpw hdv
 go_enter Tryz.func137,Tryz.ntmps137
 go_wp2_with fail
 refine HL.out.mono ?_
 rintro e w1 ⟨rfl,T1⟩;have HT1:=Hd T1;clear T1
 go_wp2_with fail
 refine (HC.out _ HT1.out).mono ?_
 rintro e w2 ⟨rfl,R2,T2⟩;have HR2:=Hd R2;have HT2:=Hd (HT1.out.none_.trans T2);clear R2 T2
 go_wp2_with fail
 go_ret
 exact ⟨rfl,HR2.out,HT2.out⟩
theorem BInv.M5 {β:Bu} {F:Nat→List Nat} {i k:Nat} (I:BInv β F (Inb i (k+1))) (hk:k<β.μ.order) {x off:Nat} (hx:Inb i k x) (ho:off<4096) :
  (β.lV (i+2^k) k).σ.mem (β.σ.base+4096*x+off)=β.σ.mem (β.σ.base+4096*x+off):=by
 have e:(β.lV (i+2^k) k).σ=pushed β.σ (β.heads.getD k 0) (β.addr (i+2^k)):=(show (β.lV (i+2^k) k).σ=(β.enter (i+2^k) k).σ by unfold Bu.lV;rfl).trans (EX β _ _);rw [e];have hp:2^(k+1)=2^k+2^k:=by rw [Nat.pow_succ];omega
 have h1:=hx.1;have h2:=hx.2;refine Ay _ _ _ _ _ _ ho (by omega) ?_
 rcases I.head (k:=k) (by omega) with ⟨h,_⟩ | ⟨y,t,e1,e2,_⟩
 ·exact .inl h
 ·refine .inr ⟨y,?_,e2⟩;rintro rfl;exact I.apart k (by omega) y (by rw [e1];simp) y ⟨h1,by omega⟩ (aS _ _)
theorem BInv.Dk {β:Bu} {F:Nat→List Nat} {i j:Nat} (I:BInv β F (Inb i j)) (hj:j≤β.μ.order) (al:2^j∣i) (hs:β.Has) {x off:Nat} (ho:off<4096):∀ m,m≤j→Inb i (j-m) x →
  (β.gJ i j m).σ.mem (β.σ.base+4096*x+off)=β.σ.mem (β.σ.base+4096*x+off)
 | 0,_,_=>rfl
 | m+1,hm,hx=>by
  obtain ⟨I1,K1,U1,C1⟩:=BInv.gJ I hj al hs m (by omega);obtain ⟨k,hk⟩:∃ k,k=j-1-m:=⟨_,rfl⟩;have e1:j-m=k+1:=by omega
  have e2:j-(m+1)=k:=by omega
  rw [e1] at I1;rw [e2] at hx;have h1:=hx.1;have h2:=hx.2;have hp:2^(k+1)=2^k+2^k:=by rw [Nat.pow_succ];omega
  have ih:=BInv.Dk I hj al hs ho m (by omega) (by rw [e1];exact ⟨h1,by omega⟩);have hc:=I1.M5 (by rw [K1.order];omega) hx ho;rw [K1.base] at hc
  show ((β.gJ i j m).lV (i+2^(j-1-m)) (j-1-m)).σ.mem _=_
  rw [←hk,hc,ih]
structure P9 (β β':Bu) (p r:Nat):Prop where
 base:β'.σ.base=β.σ.base
 order:β'.μ.order=β.μ.order
 limit:β'.σ.limit=β.σ.limit
 n:β'.σ.n=β.σ.n
 live:∀ P S,Live β' P S↔(Live β P S∧P≠p)∨(P=p∧S=r)
 byte:∀ P S,Live β P S→P≠p→∀ q,P≤q→q<P+S→β'.σ.mem q=β.σ.mem q
 kept:∀ q,p≤q→q<p+r→β'.σ.mem q=β.σ.mem q
theorem HS.M6 {β:Bu} {ps:List Int} {F C L:Nat→List Nat} (I:HS β ps F C L) (hs:β.Has) {a k o:Nat} (lo:o≤k) (hk:k≤β.μ.order) (hB:bf β.μ.pages a k 2) :
  HS (β.cut a k o) ps (qP F a k (k-o)) C L∧P9 β (β.cut a k o) (β.addr a) (4096*2^o):=by
 obtain ⟨_,I',K,B3,U',_⟩:=I.inv.shrink hs lo hk hB;have I1:=I.inv.mH hB;have hH:(fun y=>aH y∨Inb a k y)=Inb a k:=funext fun y=>propext ⟨fun h=>h.resolve_left id,.inr⟩
 rw [hH] at I1
 have hcb:∀ x off,Inb a o x→off<4096→(β.cut a k o).σ.mem (β.σ.base+4096*x+off)=β.σ.mem (β.σ.base+4096*x+off):=fun x off hx ho =>
  I1.Dk hk hB.al hs ho (k-o) (by omega) (by rw [show k-(k-o)=o by omega];exact hx)
 generalize β.cut a k o=β' at *;have acV:2^o≤2^k:=Nat.pow_le_pow_right (by omega) lo;have ha:∀ j,β'.addr j=β.addr j:=fun j=>by unfold Bu.addr;rw [K.base]
 have hup:∀ {x:Nat} {p:Pg},β.μ.pages[x]? = some p→p.kind=2∨p.kind=3∨p.kind=4→¬Inb a k x→¬bE β.μ.order F (Inb a k) x:=by
  rintro x p hp hkd hx (h | h)
  ·exact hx h
  ·exact I.inv.dX hp hkd (.inr h)
 have PE:∀ {x:Nat} {p:Pg},β'.μ.pages[x]? = some p→p.kind=2∨p.kind=3∨p.kind=4→¬Inb a o x→β'.μ.pages[x]? = β.μ.pages[x]? := by
  intro x p hp hkd hx;have h1:=I'.dX hp hkd;rw [K.order] at h1;exact K.page x (fun h=>h1 ((U' x).2 ⟨h,hx⟩))
 have hbig:∀ b m,bf β'.μ.pages b m 2↔(bf β.μ.pages b m 2∧b≠a)∨(b=a∧m=o):=by
  intro b m;constructor
  ·intro h;by_cases hc:∃ x,Inb b m x∧Inb a o x
   ·obtain ⟨x,h1,h2⟩:=hc;have:=h.same B3 h1 h2;exact .inr ⟨this.1,this.2.1⟩
   ·left;refine ⟨h.far (fun x hx=>(PE (h.page hx) (by have:=dH m (x-b);omega) (fun h'=>hc ⟨x,hx,h'⟩)).symm),?_⟩;rintro rfl;exact hc ⟨b,aS _ _,aS _ _⟩
  ·rintro (⟨h,hne⟩ | ⟨rfl,rfl⟩)
   ·refine h.far (fun x hx=>K.page x (hup (h.page hx) (by have:=dH m (x-b);omega) ?_));intro hx';exact hne (h.same hB hx hx').1
   ·exact B3
 have hkd:∀ {i:Nat} {p:Pg},β.μ.pages[i]? = some p→p.kind=4→¬Inb a k i:=by
  intro i p hp h4 hi;have e:=Option.some.inj (hp.symm.trans (hB.page hi));have:=dH k (i-a);rw [←e] at this;omega
 have hcell:∀ i c x,Cell β' i c x↔Cell β i c x:=by
  intro i c x;constructor
  ·rintro ⟨p,hp,h4,h⟩;exact ⟨p,K.slab i p hp h4,h4,h⟩
  ·rintro ⟨p,hp,h4,h⟩;exact ⟨p,(K.page i (hup hp (.inr (.inr h4)) (hkd hp h4))).trans hp,h4,h⟩
 have hL:Live β (β.addr a) (4096*2^k):=.inl ⟨a,k,hk,hB,rfl,rfl⟩;refine ⟨⟨I',I.slab.keeps K (fun i p hp h4=>hup hp (.inr (.inr h4)) (hkd hp h4)),K.nums I.nums⟩,⟨K.base,K.order,K.limit,K.n,fun P S=>?_,fun P S h hne q h1 h2=>?_,fun q h1 h2=>?_⟩⟩
 ·constructor
  ·rintro (⟨b,m,hm,hb,rfl,rfl⟩ | ⟨i,c,x,hc,hx,rfl,rfl⟩)
   ·rw [ha];rcases (hbig b m).1 hb with ⟨h1,h2⟩ | ⟨rfl,rfl⟩
    ·refine .inl ⟨.inl ⟨b,m,by rw [←K.order];exact hm,h1,rfl,rfl⟩,?_⟩;unfold Bu.addr;omega
    ·exact .inr ⟨rfl,rfl⟩
   ·rw [ha];have hx':=(hcell i c x).1 hx;refine .inl ⟨.inr ⟨i,c,x,hc,hx',rfl,rfl⟩,?_⟩;obtain ⟨p,hp,h4,hcl,hxl,_⟩:=hx';intro e;have:=dO hc hxl;have:=(cO hc).1;unfold Bu.addr at e;have:i=a:=by omega
    subst this;exact hkd hp h4 (aS i k)
  ·rintro (⟨⟨b,m,hm,hb,rfl,rfl⟩ | ⟨i,c,x,hc,hx,rfl,rfl⟩,hne⟩ | ⟨rfl,rfl⟩)
   ·exact .inl ⟨b,m,by rw [K.order];exact hm,(hbig b m).2 (.inl ⟨hb,by rintro rfl;exact hne rfl⟩),(ha b).symm,rfl⟩
   ·exact .inr ⟨i,c,x,hc,(hcell i c x).2 hx,by rw [ha],rfl⟩
   ·exact .inl ⟨a,o,by rw [K.order];omega,B3,(ha a).symm,rfl⟩
 ·obtain ⟨x,off,p,rfl,ho,hp,PG⟩:=h.pages h1 h2;refine K.byte x off (hup hp PG (fun hx=>?_)) ho;have:=hx.1;have:=hx.2;exact hne (h.meet hL h1 h2 (by unfold Bu.addr;omega) (by unfold Bu.addr;omega)).1
 ·unfold Bu.addr at h1 h2;have:=hcb ((q-β.σ.base)/4096) ((q-β.σ.base)%4096) ⟨by omega,by omega⟩ (Nat.mod_lt _ (by omega));rwa [show β.σ.base+4096*((q-β.σ.base)/4096)+(q-β.σ.base)%4096=q by omega] at this
end Go.Proofs.YtnjcmcnjgdjbiaaGreatDoor
namespace Go.Proofs.YtnjcmcnjgdjbiaaGreatDoor
theorem mK.has {β:Bu} (N:mK β):β.Has:=by
 intro x off n hx hn hf;have hs:=N.size;have hfu:=N.full;have p0:=fF β.μ.order;have e:β.σ.base+4096*x+off-β.σ.base=4096*x+off:=by omega
 have hq:(4096*x+off)/β.σ.size=x/2^β.μ.order:=by
  rw [hs,←Nat.div_div_eq_div_mul,show (4096*x+off)/4096=x by omega]
 have hr:(4096*x+off)%β.σ.size=4096*(x%2^β.μ.order)+off:=by
  have h1:=Nat.div_add_mod (4096*x+off) β.σ.size;rw [hq,hs] at h1;have h2:=Nat.div_add_mod x (2^β.μ.order);rw [hs];have h3:4096*2^β.μ.order*(x/2^β.μ.order)=4096*(2^β.μ.order*(x/2^β.μ.order)):=Nat.mul_assoc _ _ _;omega
 refine ⟨hn,by omega,?_,?_⟩
 ·rw [e,hq,Nat.div_lt_iff_lt_mul p0,←hfu];exact hx
 ·rw [e,hr,hs];have:=Nat.mod_lt x p0;omega
theorem Live.Uh {β:Bu} {ps:List Int} {F C L:Nat→List Nat} (I:HS β ps F C L) {P S i f q:Nat} {p:Pg} (h:Live β P S) (hp:β.μ.pages[i]? = some p) (h4:p.kind=4) (hf:f∈C i) (h1:P≤q) (h2:q<P+S)
  (h3:β.addr i+f*aB p.cls.toNat≤q) (h5:q<β.addr i+f*aB p.cls.toNat+aB p.cls.toNat):False:=by
 have D:=I.slab.pages i p hp h4;have hfm:=(D.mem f).1 hf;have l1:=jB p.cls D.cls hfm.1;unfold Bu.addr at h3 h5;rcases h with ⟨a,k,hk,hb,rfl,rfl⟩ | ⟨j,d,y,hd,⟨q',hq,hq4,MN,hyl,hyb⟩,rfl,rfl⟩
 ·unfold Bu.addr at h1 h2;have hin:Inb a k i:=⟨by omega,by omega⟩;have e:=Option.some.inj (hp.symm.trans (hb.page hin));have:=dH k (i-a);rw [←e] at this;omega
 ·have l2:=dO hd hyl;unfold Bu.addr at h1 h2;have:j=i:=by omega
  subst this;obtain rfl:p=q':=Option.some.inj (hp.symm.trans hq);have hdn:p.cls.toNat=d:=by omega
  rw [hdn] at h3 h5 l1;have h6:f*aB d<y*aB d+aB d:=by omega
  have h7:y*aB d<f*aB d+aB d:=by omega
  rw [←Nat.succ_mul] at h6 h7;have h8:=Nat.lt_of_mul_lt_mul_right h6;have h9:=Nat.lt_of_mul_lt_mul_right h7;have:y=f:=by omega
  rw [this,hfm.2] at hyb;simp at hyb
theorem HS.write {β:Bu} {ps:List Int} {F C L:Nat→List Nat} (I:HS β ps F C L) {p:Nat} {bs:List Nat} (hin:dP β p bs.length):HS { β with σ:=β.σ.put p bs } ps F C L:=by
 obtain ⟨P,S,hL,h1,h2⟩:=hin;refine ⟨I.inv.EW rfl (fun k hk j hj off ho=>?_),⟨I.slab.len,fun i pg hpg h4=>?_,I.slab.lists,I.slab.nodup,I.slab.mem⟩,⟨I.nums.full,I.nums.size,I.nums.le,I.nums.pages,I.nums.top,I.nums.so,I.nums.al⟩⟩
 ·refine put_mem _ _ _ _ (Classical.byContradiction (fun hc=>?_));obtain ⟨x,off',q,e,ho',hq,hkd⟩:=hL.pages (q:=β.σ.base+4096*j+off) (by omega) (by omega);have:x=j:=by omega
  subst this;exact I.inv.dX hq hkd (.inr ⟨k,hk,x,hj,aS _ _⟩)
 ·refine (I.slab.pages i pg hpg h4).bytes (fun f hf=>?_);have hw:=(fu pg.cls (I.slab.pages i pg hpg h4).cls).2.1;refine iw (fun a h3 h4'=>put_mem _ _ _ _ (Classical.byContradiction (fun hc=>?_)));exact hL.Uh I hpg h4 hf (q:=a) (by omega) (by omega) h3 (by omega)
theorem HS.ql {β:Bu} {ps:List Int} {F C L:Nat→List Nat} (I:HS β ps F C L) {p n:Nat} (hn:0<n) (hin:dP β p n):β.σ.has p n:=by
 obtain ⟨P,S,hL,h1,h2⟩:=hin;rcases hL with ⟨a,k,hk,hb,rfl,rfl⟩ | ⟨i,c,x,hc,⟨q,hq,hq4,MN,hxl,_⟩,rfl,rfl⟩
 ·obtain ⟨a',rfl⟩:=hb.al;have hs:=I.nums.size;have hfu:=I.nums.full;have hle:=hb.le;obtain ⟨t,ht⟩:∃ t,t=2^(β.μ.order-k):=⟨_,rfl⟩;have hot:2^β.μ.order=2^k*t:=by rw [ht,←Nat.pow_add,show k+(β.μ.order-k)=β.μ.order by omega]
  have t0:0<t:=by rw [ht];exact fF _
  have p0:=fF k;obtain ⟨s,hs'⟩:∃ s,s=4096*2^k:=⟨_,rfl⟩;have hsz:β.σ.size=s*t:=by rw [hs,hot,hs',Nat.mul_assoc]
  unfold Bu.addr at h1 h2;obtain ⟨r,hr⟩:∃ r,p=β.σ.base+4096*(2^k*a')+r:=⟨p-(β.σ.base+4096*(2^k*a')),by omega⟩;have e4:4096*(2^k*a')=s*a':=by rw [hs',Nat.mul_assoc]
  have hD:p-β.σ.base=s*a'+r:=by omega
  have hrs:r<s:=by omega
  have hq:(s*a'+r)/s=a':=by rw [Nat.mul_add_div (by omega),Nat.div_eq_of_lt hrs];rfl
  have hm:(s*a'+r)%s=r:=by rw [Nat.mul_add_mod,Nat.mod_eq_of_lt hrs]
  rw [hot,Nat.mul_comm (2^k) t,←Nat.mul_assoc] at hfu
  have hlt:a'<β.σ.n*t:=by
   have h5:(a'+1)*2^k≤β.σ.n*t*2^k:=by rw [←hfu,Nat.succ_mul,Nat.mul_comm a'];exact hle
   exact Nat.le_of_mul_le_mul_right h5 p0
  refine ⟨hn,by omega,?_,?_⟩
  ·rw [hD,hsz,←Nat.div_div_eq_div_mul,hq];exact (Nat.div_lt_iff_lt_mul t0).2 hlt
  ·rw [hD,hsz,Nat.mod_mul,hm,hq];have h6:a'%t+1≤t:=Nat.mod_lt _ t0;have h7:s*(a'%t+1)≤s*t:=Nat.mul_le_mul_left _ h6;rw [Nat.mul_succ] at h7;omega
 ·have l:=dO hc hxl;have hlt:=(List.getElem?_eq_some_iff.1 hq).1;unfold Bu.addr at h1 h2;have:=I.nums.has i (p-(β.σ.base+4096*i)) n hlt hn (by omega);rwa [show β.σ.base+4096*i+(p-(β.σ.base+4096*i))=p by omega] at this
end Go.Proofs.YtnjcmcnjgdjbiaaGreatDoor
namespace Go.Proofs.YtnjcmcnjgdjbiaaGreatDoor
open Go.RowKit
theorem HS.zq {β:Bu} {ps:List Int} {F C L:Nat→List Nat} (I:HS β ps F C L) (p:Nat) (hp:p<18446744073709551616) :
  (dP β p 8∧∀ (w:World) (hb s pb:Nat) (K:ay),ak 0 w hb s pb K β ps→Calls Tryz.prog 95 #[.pointer (some ⟨hb,0,none⟩),.int .u64 p] w (bC w hb s pb K β ps (.tuple #[.int .u64 (β.σ.word p:Nat),.int .i64 0]))) ∨
  (¬dP β p 8∧∀ (w:World) (hb s pb:Nat) (K:ay),ak 0 w hb s pb K β ps→Calls Tryz.prog 95 #[.pointer (some ⟨hb,0,none⟩),.int .u64 p] w (bC w hb s pb K β ps (.tuple #[.int .u64 (0:Nat),.int .i64 4]))):=by
 rcases I.within p 8 hp (by omega) with ⟨h,H⟩ | ⟨h,H⟩
 ·exact .inl ⟨h,fun w hb s pb K R=>R.GR p (I.ql (by omega) h) (fun W RW=>H 1 W hb s pb K RW)⟩
 ·exact .inr ⟨h,fun w hb s pb K R=>R.BQ p (fun W RW=>H 1 W hb s pb K RW)⟩
theorem HS.wZ {β:Bu} {ps:List Int} {F C L:Nat→List Nat} (I:HS β ps F C L) (p v:Nat) (hp:p<18446744073709551616) (hv:v<18446744073709551616) :
  (dP β p 8∧HS { β with σ:=β.σ.put p (bL v) } ps F C L∧∀ (w:World) (hb s pb:Nat) (K:ay),ak 0 w hb s pb K β ps→Calls Tryz.prog 96 #[.pointer (some ⟨hb,0,none⟩),.int .u64 p,.int .u64 v] w (aK w hb s pb K { β with σ:=β.σ.put p (bL v) } ps (.int .i64 0))) ∨
  (¬dP β p 8∧∀ (w:World) (hb s pb:Nat) (K:ay),ak 0 w hb s pb K β ps→Calls Tryz.prog 96 #[.pointer (some ⟨hb,0,none⟩),.int .u64 p,.int .u64 v] w (bC w hb s pb K β ps (.int .i64 4))):=by
 rcases I.within p 8 hp (by omega) with ⟨h,H⟩ | ⟨h,H⟩
 ·exact .inl ⟨h,I.write (bs:=bL v) (by simpa [bL] using h),fun w hb s pb K R=>R.FK p v hv (I.ql (by omega) h) (fun W RW=>H 1 W hb s pb K RW)⟩
 ·exact .inr ⟨h,fun w hb s pb K R=>R.A8 p v (fun W RW=>H 1 W hb s pb K RW)⟩
theorem ak.GU {w:World} {hb s pb:Nat} {K:ay} {β:Bu} {ps:List Int} (R:ak 0 w hb s pb K β ps) (p v:Nat)
  (HW:∀ W,ak 1 W hb s pb K β ps→Calls Tryz.prog 66 #[.pointer (some ⟨hb,0,none⟩),.int .u64 p,.int .u64 1] W fun e w'=>e=.returned (.bool false)∧Touch Nothing W w') :
  Calls Tryz.prog 94 #[.pointer (some ⟨hb,0,none⟩),.int .u64 p,.int .u8 v] w (bC w hb s pb K β ps (.int .i64 4)):=by
 have T0:Touch Nothing w (w.alloc (.cells #[.int .u8 v] 5)):=(Touch.refl _ _).alloc _;have LZ:=Hd ((R.aj T0).yR p 1 1 (some ⟨w.heap.size,0,none⟩) (by omega) (by omega) HW);have HT0:=Hd T0;clear R HW T0
 go_enter Tryz.func94,Tryz.ntmps94
 go_wp2_with fail
 refine LZ.out.mono ?_
 rintro e w1 ⟨rfl,hR,hT⟩;have H1:=Hd hR;have H2:=Hd hT;clear hR hT
 go_wp2_with fail
 go_ret
 exact ⟨rfl,H1.out,HT0.out.none_.trans H2.out⟩
theorem HS.load {β:Bu} {ps:List Int} {F C L:Nat→List Nat} (I:HS β ps F C L) (p:Nat) (hp:p<18446744073709551616) :
  (dP β p 1∧∀ (w:World) (hb s pb:Nat) (K:ay),ak 0 w hb s pb K β ps→Calls Tryz.prog 93 #[.pointer (some ⟨hb,0,none⟩),.int .u64 p] w (bC w hb s pb K β ps (.tuple #[.int .u8 (β.σ.mem p:Nat),.int .i64 0]))) ∨
  (¬dP β p 1∧∀ (w:World) (hb s pb:Nat) (K:ay),ak 0 w hb s pb K β ps→Calls Tryz.prog 93 #[.pointer (some ⟨hb,0,none⟩),.int .u64 p] w (bC w hb s pb K β ps (.tuple #[.int .u8 0,.int .i64 4]))):=by
 rcases I.within p 1 hp (by omega) with ⟨h,H⟩ | ⟨h,H⟩
 ·exact .inl ⟨h,fun w hb s pb K R=>R.Ip p (I.ql (by omega) h) (fun W RW=>H 1 W hb s pb K RW)⟩
 ·exact .inr ⟨h,fun w hb s pb K R=>R.Ao p (fun W RW=>H 1 W hb s pb K RW)⟩
theorem HS.store {β:Bu} {ps:List Int} {F C L:Nat→List Nat} (I:HS β ps F C L) (p v:Nat) (hp:p<18446744073709551616) (hv:v<256) :
  (dP β p 1∧HS { β with σ:=β.σ.put p [v] } ps F C L∧∀ (w:World) (hb s pb:Nat) (K:ay),ak 0 w hb s pb K β ps→Calls Tryz.prog 94 #[.pointer (some ⟨hb,0,none⟩),.int .u64 p,.int .u8 v] w (aK w hb s pb K { β with σ:=β.σ.put p [v] } ps (.int .i64 0))) ∨
  (¬dP β p 1∧∀ (w:World) (hb s pb:Nat) (K:ay),ak 0 w hb s pb K β ps→Calls Tryz.prog 94 #[.pointer (some ⟨hb,0,none⟩),.int .u64 p,.int .u8 v] w (bC w hb s pb K β ps (.int .i64 4))):=by
 rcases I.within p 1 hp (by omega) with ⟨h,H⟩ | ⟨h,H⟩
 ·exact .inl ⟨h,I.write (bs:=[v]) h,fun w hb s pb K R=>R.EJ p v hv (I.ql (by omega) h) (fun W RW=>H 1 W hb s pb K RW)⟩
 ·exact .inr ⟨h,fun w hb s pb K R=>R.GU p v (fun W RW=>H 1 W hb s pb K RW)⟩
theorem HS.read {β:Bu} {ps:List Int} {F C L:Nat→List Nat} (I:HS β ps F C L) (p n:Nat) (hp:p<18446744073709551616) (hn:0<n) :
  (dP β p n∧∀ (w:World) (hb s pb:Nat) (K:ay),ak 0 w hb s pb K β ps→Calls Tryz.prog 28 #[.pointer (some ⟨hb,0,none⟩),.int .u64 p,.int .u64 n] w (Am w hb s pb K β ps n (β.σ.bytes p n))) ∨
  (¬dP β p n∧∀ (w:World) (hb s pb:Nat) (K:ay),ak 0 w hb s pb K β ps→Calls Tryz.prog 28 #[.pointer (some ⟨hb,0,none⟩),.int .u64 p,.int .u64 n] w (bC w hb s pb K β ps (.tuple #[.slice none 0 0,.int .i64 4]))):=by
 rcases I.within p n hp hn with ⟨h,H⟩ | ⟨h,H⟩
 ·exact .inl ⟨h,fun w hb s pb K R=>R.Io p n (I.ql hn h) (fun W RW=>H 1 W hb s pb K RW)⟩
 ·exact .inr ⟨h,fun w hb s pb K R=>R.Al p n (by omega) (fun W RW=>H 1 W hb s pb K RW)⟩
theorem HS.writes {β:Bu} {ps:List Int} {F C L:Nat→List Nat} (I:HS β ps F C L) (p:Nat) (bs:List Nat) (hp:p<18446744073709551616) (hn:0<bs.length) (hn2:bs.length≤65536) (hbs:∀ x∈bs,x<256) :
  (dP β p bs.length∧HS { β with σ:=β.σ.put p bs } ps F C L∧∀ (w:World) (hb s pb:Nat) (K:ay) (c:Nat) (ad:Addr),ak 0 w hb s pb K β ps→bs.length≤c→ad.block<w.heap.size→ad.block≠hb→(∀ j v,(mP bs)[j]? = some v→w.cell? (ad.add j)=some v) →
   Calls Tryz.prog 97 #[.pointer (some ⟨hb,0,none⟩),.int .u64 p,.slice (some ad) bs.length c] w (aK w hb s pb K { β with σ:=β.σ.put p bs } ps (.int .i64 0))) ∨
  (¬dP β p bs.length∧∀ (w:World) (hb s pb:Nat) (K:ay) (c:Nat) (ad:Option Addr),ak 0 w hb s pb K β ps→Calls Tryz.prog 97 #[.pointer (some ⟨hb,0,none⟩),.int .u64 p,.slice ad bs.length c] w (bC w hb s pb K β ps (.int .i64 4))):=by
 rcases I.within p bs.length hp hn with ⟨h,H⟩ | ⟨h,H⟩
 ·exact .inl ⟨h,I.write h,fun w hb s pb K c ad R hc had hne hsrc=>R.EI p bs.length c bs ad (I.ql hn h) rfl hc hbs had hne hsrc (fun W RW=>H 1 W hb s pb K RW)⟩
 ·exact .inr ⟨h,fun w hb s pb K c ad R=>R.yR p bs.length c ad (by omega) hn2 (fun W RW=>H 1 W hb s pb K RW)⟩
theorem HS.aligned {β:Bu} {ps:List Int} {F C L:Nat→List Nat} (I:HS β ps F C L) (align size:Nat) (deny:Bool) (h1:size<18446744073709551616) (h2:align<18446744073709551616) :
  ((bD β.σ.size size align).2≠0∧∀ (w:World) (hb s pb:Nat) (K:ay),ak 0 w hb s pb K β ps→Calls Tryz.prog 90 #[.pointer (some ⟨hb,0,none⟩),.int .u64 align,.int .u64 size,.bool deny] w (aK w hb s pb K β ps (.tuple #[.int .u64 (0:Nat),.int .i64 (bD β.σ.size size align).2]))) ∨
  (∃ r β' ps' F' C' L' p,bD β.σ.size size align=(r,0)∧gZ β.μ.order r∧HS β' ps' F' C' L'∧wY β F L r deny β' p ∧
   ∀ (w:World) (hb s pb:Nat) (K:ay),ak 0 w hb s pb K β ps→Calls Tryz.prog 90 #[.pointer (some ⟨hb,0,none⟩),.int .u64 align,.int .u64 size,.bool deny] w (aK w hb s pb K β' ps' (.tuple #[.int .u64 p,.int .i64 0]))) ∨
  (∃ r,bD β.σ.size size align=(r,0)∧gZ β.μ.order r∧NoRoom β.μ.order F L r∧(deny=true∨β.σ.n=β.σ.limit) ∧
   ∀ (w:World) (hb s pb:Nat) (K:ay),ak 0 w hb s pb K β ps→Calls Tryz.prog 90 #[.pointer (some ⟨hb,0,none⟩),.int .u64 align,.int .u64 size,.bool deny] w (aK w hb s pb K β ps (.tuple #[.int .u64 (0:Nat),.int .i64 2]))):=by
 rcases I.malloc size align deny h1 h2 with ⟨h,H⟩ | ⟨r,β',ps',F',C',L',p,hr,hs,HI,T,H⟩ | ⟨r,hr,hs,hn,hd,H⟩
 ·exact .inl ⟨h,fun w hb s pb K R=>R.uP size align 0 0 _ deny ⟨rfl,rfl,rfl⟩ (fun W RW=>H 1 W hb s pb K RW)⟩
 ·exact .inr (.inl ⟨r,β',ps',F',C',L',p,hr,hs,HI,T,fun w hb s pb K R=>R.uP size align p r 0 deny T.more.same (fun W RW=>H 1 W hb s pb K RW)⟩)
 ·exact .inr (.inr ⟨r,hr,hs,hn,hd,fun w hb s pb K R=>R.uP size align 0 0 2 deny ⟨rfl,rfl,rfl⟩ (fun W RW=>H 1 W hb s pb K RW)⟩)
theorem HS.IK {β:Bu} {ps:List Int} {F C L:Nat→List Nat} (I:HS β ps F C L) (size:Nat) (deny:Bool) (h1:size<18446744073709551616) :
  ((bD β.σ.size size 1).2≠0∧∀ (w:World) (hb s pb:Nat) (K:ay),ak 0 w hb s pb K β ps→Calls Tryz.prog 88 #[.pointer (some ⟨hb,0,none⟩),.int .u64 size,.bool deny] w (aK w hb s pb K β ps (.tuple #[.int .u64 (0:Nat),.int .i64 (bD β.σ.size size 1).2]))) ∨
  (∃ r β' ps' F' C' L' p,bD β.σ.size size 1=(r,0)∧gZ β.μ.order r∧HS β' ps' F' C' L'∧wY β F L r deny β' p ∧
   ∀ (w:World) (hb s pb:Nat) (K:ay),ak 0 w hb s pb K β ps→Calls Tryz.prog 88 #[.pointer (some ⟨hb,0,none⟩),.int .u64 size,.bool deny] w (aK w hb s pb K β' ps' (.tuple #[.int .u64 p,.int .i64 0]))) ∨
  (∃ r,bD β.σ.size size 1=(r,0)∧gZ β.μ.order r∧NoRoom β.μ.order F L r∧(deny=true∨β.σ.n=β.σ.limit) ∧
   ∀ (w:World) (hb s pb:Nat) (K:ay),ak 0 w hb s pb K β ps→Calls Tryz.prog 88 #[.pointer (some ⟨hb,0,none⟩),.int .u64 size,.bool deny] w (aK w hb s pb K β ps (.tuple #[.int .u64 (0:Nat),.int .i64 2]))):=by
 rcases I.malloc size 1 deny h1 (by omega) with ⟨h,H⟩ | ⟨r,β',ps',F',C',L',p,hr,hs,HI,T,H⟩ | ⟨r,hr,hs,hn,hd,H⟩
 ·exact .inl ⟨h,fun w hb s pb K R=>R.xR size 0 0 _ deny ⟨rfl,rfl,rfl⟩ (fun W RW=>H 1 W hb s pb K RW)⟩
 ·exact .inr (.inl ⟨r,β',ps',F',C',L',p,hr,hs,HI,T,fun w hb s pb K R=>R.xR size p r 0 deny T.more.same (fun W RW=>H 1 W hb s pb K RW)⟩)
 ·exact .inr (.inr ⟨r,hr,hs,hn,hd,fun w hb s pb K R=>R.xR size 0 0 2 deny ⟨rfl,rfl,rfl⟩ (fun W RW=>H 1 W hb s pb K RW)⟩)
end Go.Proofs.YtnjcmcnjgdjbiaaGreatDoor
namespace Go.Proofs.YtnjcmcnjgdjbiaaGreatDoor
open Go.RowKit Go.MuLone
theorem qU {w:World} {hb s pb:Nat} {K:ay} {β':Bu} {ps':List Int} (size p:Nat) (er:Int) (deny:Bool)
  (HM:Calls Tryz.prog 88 #[.pointer (some ⟨hb,0,none⟩),.int .u64 size,.bool deny] w (aK w hb s pb K β' ps' (.tuple #[.int .u64 p,.int .i64 er]))) :
  Calls Tryz.prog 91 #[.pointer (some ⟨hb,0,none⟩),.int .u64 0,.int .u64 size,.bool deny] w (aK w hb s pb K β' ps' (.tuple #[.int .u64 p,.int .i64 er])):=by
 have H:=Hd HM;clear HM
 go_enter_defers Tryz.func91,Tryz.ntmps91
 go_wp2_with fail
 refine H.out.mono ?_
 rintro e w1 ⟨rfl,hR⟩;have HRr:=Hd hR;clear hR
 go_wp2_with fail
 show Leaves _ _ _ _ _ _ _
 simp [Leaves,results,Tryz.results91,go_sem];exact ⟨rfl,HRr.out⟩
theorem ak.GV {w:World} {hb s pb:Nat} {K:ay} {β:Bu} {ps:List Int} (R:ak 0 w hb s pb K β ps) (p size:Nat) (deny:Bool) (hp:((p:Int) == 0)=false)
  (HS:∀ W,ak 1 W hb s pb K β ps→Calls Tryz.prog 99 #[.pointer (some ⟨hb,0,none⟩),.int .u64 p] W (Started W 0 0 1)) :
  Calls Tryz.prog 91 #[.pointer (some ⟨hb,0,none⟩),.int .u64 p,.int .u64 size,.bool deny] w (bC w hb s pb K β ps (.tuple #[.int .u64 (0:Nat),.int .i64 1])):=by
 obtain ⟨c0,-,-,-,-,f0⟩:=R.cells;have R1:=R.locked 1;have fP:=Hd (HS _ R1);have HR1:=Hd R1;clear R HS R1
 go_enter_defers Tryz.func91,Tryz.ntmps91
 go_wp2_with (go_at_call 58;refine (lock_free Tryz.muLib ⟨hb,0,none⟩ _ c0 f0).mono ?_;rintro e w' ⟨rfl,rfl⟩)
 generalize hw1:w.setCell ⟨hb,0,none⟩ (.int .i32 1)=w1 at *;refine fP.out.mono ?_
 rintro e w2 ⟨rfl,T2⟩;have HW1:=Hd hw1;have HT2:=Hd (T2.alloc (.cells #[.int .u64 0,.int .u64 0] 71));have R2:=HR1.out.aj HT2.out;have hm:=R2.cells.1;have fm:=R2.cells.2.2.2.2.2;have HR2:=Hd R2;clear hw1 R2 T2 c0 f0
 go_wp2
 refine leaves_cons (f:=59) (args:=#[.pointer (some ⟨hb,0,none⟩)]) (by simp) (by simp [go_sem]) ?_
 refine (unlock_deferred Tryz.muLib ⟨hb,0,none⟩ .returning _ hm fm).mono ?_
 rintro e u' w'' ⟨rfl,rfl,rfl⟩;exact ⟨_,results_tmp2 rfl _ _ _,ak.iX HW1.out.symm HR1.out HT2.out⟩
theorem ak.DU {w:World} {hb s pb:Nat} {K:ay} {β:Bu} {ps:List Int} (R:ak 0 w hb s pb K β ps) (p size S r:Nat) (er:Int) (deny:Bool) (hp:((p:Int) == 0)=false) (her:er≠0)
  (HS:∀ W,ak 1 W hb s pb K β ps→Calls Tryz.prog 99 #[.pointer (some ⟨hb,0,none⟩),.int .u64 p] W (Started W p S 0))
  (HQ:∀ W,ak 1 W hb s pb K β ps→Calls Tryz.prog 135 #[.pointer (some ⟨hb,0,none⟩),.int .u64 size,.int .u64 1] W (dL W (r,er))) :
  Calls Tryz.prog 91 #[.pointer (some ⟨hb,0,none⟩),.int .u64 p,.int .u64 size,.bool deny] w (bC w hb s pb K β ps (.tuple #[.int .u64 (0:Nat),.int .i64 er])):=by
 obtain ⟨c0,-,-,-,-,f0⟩:=R.cells;have R1:=R.locked 1;have fP:=Hd (HS _ R1);have HR1:=Hd R1;have pO:=Hd HQ;clear R HS R1 HQ
 go_enter_defers Tryz.func91,Tryz.ntmps91
 go_wp2_with (go_at_call 58;refine (lock_free Tryz.muLib ⟨hb,0,none⟩ _ c0 f0).mono ?_;rintro e w' ⟨rfl,rfl⟩)
 generalize hw1:w.setCell ⟨hb,0,none⟩ (.int .i32 1)=w1 at *;refine fP.out.mono ?_
 rintro e w2 ⟨rfl,T2⟩;have HW1:=Hd hw1;have HT2:=Hd (T2.alloc (.cells #[.int .u64 p,.int .u64 S] 71));have R2:=HR1.out.aj HT2.out;have hm:=R2.cells.1;have fm:=R2.cells.2.2.2.2.2;have HR2:=Hd R2;clear hw1 R2 T2 c0 f0
 go_wp2_with fail
 refine (pO.out _ HR2.out).mono ?_
 rintro e w3 ⟨rfl,rfl⟩
 go_wp2
 refine leaves_cons (f:=59) (args:=#[.pointer (some ⟨hb,0,none⟩)]) (by simp) (by simp [go_sem]) ?_
 refine (unlock_deferred Tryz.muLib ⟨hb,0,none⟩ .returning _ hm fm).mono ?_
 rintro e u' w'' ⟨rfl,rfl,rfl⟩;exact ⟨_,results_tmp2 rfl _ _ _,ak.iX HW1.out.symm HR1.out HT2.out⟩
theorem ak.FL {w:World} {hb s pb:Nat} {K:ay} {β:Bu} {ps:List Int} (R:ak 0 w hb s pb K β ps) (p size S r:Nat) (deny:Bool) (hp:((p:Int) == 0)=false) (hrS:(r:Int)=S)
  (HS:∀ W,ak 1 W hb s pb K β ps→Calls Tryz.prog 99 #[.pointer (some ⟨hb,0,none⟩),.int .u64 p] W (Started W p S 0))
  (HQ:∀ W,ak 1 W hb s pb K β ps→Calls Tryz.prog 135 #[.pointer (some ⟨hb,0,none⟩),.int .u64 size,.int .u64 1] W (dL W (r,0))) :
  Calls Tryz.prog 91 #[.pointer (some ⟨hb,0,none⟩),.int .u64 p,.int .u64 size,.bool deny] w (bC w hb s pb K β ps (.tuple #[.int .u64 p,.int .i64 0])):=by
 obtain ⟨c0,-,-,-,-,f0⟩:=R.cells;have R1:=R.locked 1;have fP:=Hd (HS _ R1);have HR1:=Hd R1;have pO:=Hd HQ;clear R HS R1 HQ
 go_enter_defers Tryz.func91,Tryz.ntmps91
 go_wp2_with (go_at_call 58;refine (lock_free Tryz.muLib ⟨hb,0,none⟩ _ c0 f0).mono ?_;rintro e w' ⟨rfl,rfl⟩)
 generalize hw1:w.setCell ⟨hb,0,none⟩ (.int .i32 1)=w1 at *;refine fP.out.mono ?_
 rintro e w2 ⟨rfl,T2⟩;have HW1:=Hd hw1;have HT2:=Hd (T2.alloc (.cells #[.int .u64 p,.int .u64 S] 71));have R2:=HR1.out.aj HT2.out;have hm:=R2.cells.1;have fm:=R2.cells.2.2.2.2.2;have HR2:=Hd R2;clear hw1 R2 T2 c0 f0
 go_wp2_with fail
 refine (pO.out _ HR2.out).mono ?_
 rintro e w3 ⟨rfl,rfl⟩
 go_wp2
 refine leaves_cons (f:=59) (args:=#[.pointer (some ⟨hb,0,none⟩)]) (by simp) (by simp [go_sem]) ?_
 refine (unlock_deferred Tryz.muLib ⟨hb,0,none⟩ .returning _ hm fm).mono ?_
 rintro e u' w'' ⟨rfl,rfl,rfl⟩;exact ⟨_,results_tmp2 rfl _ _ _,ak.iX HW1.out.symm HR1.out HT2.out⟩
theorem ak.GX {w:World} {hb s pb:Nat} {K:ay} {β β':Bu} {ps:List Int} (R:ak 0 w hb s pb K β ps) (p size S r k o:Nat) (deny:Bool) (hp:((p:Int) == 0)=false) (hr1:(4096:Int)≤r) (hr2:(r:Int)<S) (hS:S≤1048576)
  (hk:(Lib.bitLen (S/4096):Int)-1=k) (ho:(Lib.bitLen (r/4096):Int)-1=o) (hσ:β'.σ.base=β.σ.base∧β'.σ.limit=β.σ.limit∧β'.μ.order=β.μ.order)
  (HS:∀ W,ak 1 W hb s pb K β ps→Calls Tryz.prog 99 #[.pointer (some ⟨hb,0,none⟩),.int .u64 p] W (Started W p S 0))
  (HQ:∀ W,ak 1 W hb s pb K β ps→Calls Tryz.prog 135 #[.pointer (some ⟨hb,0,none⟩),.int .u64 size,.int .u64 1] W (dL W (r,0)))
  (Sk:∀ W,ak 1 W hb s pb K β ps→Calls Tryz.prog 137 #[.pointer (some ⟨K.bb,0,none⟩),.int .u64 p,.int .i64 k,.int .i64 o] W (Turned W K β' (.int .i64 0))) :
  Calls Tryz.prog 91 #[.pointer (some ⟨hb,0,none⟩),.int .u64 p,.int .u64 size,.bool deny] w (aK w hb s pb K β' ps (.tuple #[.int .u64 p,.int .i64 0])):=by
 obtain ⟨c0,-,-,-,-,f0⟩:=R.cells;have R1:=R.locked 1;have fP:=Hd (HS _ R1);have HR1:=Hd R1;have pO:=Hd HQ;have aaF:=Hd Sk;have FM:=Hd (fun W=>Ai S W (by omega));have Sl:=Hd (fun W=>Ai r W (by omega));rw [hk] at FM;rw [ho] at Sl;have hne1:¬((r:Int)=S):=by omega
 have HSg:=Hd hσ;clear R HS R1 HQ Sk hk ho hσ
 go_enter_defers Tryz.func91,Tryz.ntmps91
 go_wp2_with (go_at_call 58;refine (lock_free Tryz.muLib ⟨hb,0,none⟩ _ c0 f0).mono ?_;rintro e w' ⟨rfl,rfl⟩)
 generalize hw1:w.setCell ⟨hb,0,none⟩ (.int .i32 1)=w1 at *;refine fP.out.mono ?_
 rintro e w2 ⟨rfl,T2⟩;have HW1:=Hd hw1;have HT2:=Hd (T2.alloc (.cells #[.int .u64 p,.int .u64 S] 71));have R2:=HR1.out.aj HT2.out;have HR2:=Hd R2;have c5:=R2.cells.2.2.2.1;have b1:=(aC.new w2 #[.int .u64 p,.int .u64 S] 71).cell 1;clear hw1 R2 T2 c0 f0
 go_wp2_with fail
 refine (pO.out _ HR2.out).mono ?_
 rintro e w3 ⟨rfl,rfl⟩
 go_wp2_with fail
 have J4:=Hd (HR2.out.aj ((Touch.refl Nothing _).drew));have gN:=Hd J4.out.sl.po.Vo;refine wp_region_still_tail 13 (by kernel_rfl) (by kernel_rfl) ?_
 simp only [List.take_succ_cons,List.take_zero,List.drop_succ_cons,List.drop_zero,World.drew_eq]
 repeat still_step
 still_call (gN.out.mono fun _ _ h=>⟨h.1,h.2.symm⟩)
 repeat still_step
 still_call ((FM.out _).mono fun _ _ h=>⟨h.1,h.2.symm⟩)
 repeat still_step
 still_call ((Sl.out _).mono fun _ _ h=>⟨h.1,h.2.symm⟩)
 repeat still_step
 refine wpStill_nil ?_
 go_wp2_with fail
 refine (aaF.out _ J4.out).mono ?_
 rintro e w4 ⟨rfl,b4,T4⟩;have S4:=J4.out.sl.next T4 (ay.Next.refl _ _) b4;have R4:=J4.out.next (T4.mono (fun b _ hb=>List.mem_cons_of_mem _ hb)) (ay.Next.refl _ _) S4 HSg.out;have HR4:=Hd R4;have eu:=Hd (HT2.out.none_.trans (((Touch.refl _ _).drew).trans (T4.mono (fun b _ hb=>List.mem_cons_of_mem s hb))));have hm:=R4.cells.1;have fm:=R4.cells.2.2.2.2.2;clear S4 R4 b4 T4 c5 b1
 go_wp2
 refine leaves_cons (f:=59) (args:=#[.pointer (some ⟨hb,0,none⟩)]) (by simp) (by simp [go_sem]) ?_
 refine (unlock_deferred Tryz.muLib ⟨hb,0,none⟩ .returning _ hm fm).mono ?_
 rintro e u' w'' ⟨rfl,rfl,rfl⟩;exact ⟨_,results_tmp2 rfl _ _ _,ak.unlocked HW1.out.symm HR4.out (ay.Next.refl _ _) eu.out⟩
theorem IL (σ:Sp) (p:Nat) (bs:List Nat) {a:Nat} (h:a<p∨p+bs.length≤a):(σ.put p bs).mem a=σ.mem a:=by
 show (if _ then _ else _)=_
 rw [if_neg (by omega)]
theorem M7 (σ:Sp) (p:Nat) (bs:List Nat) {i:Nat} (h:i<bs.length):(σ.put p bs).mem (p+i)=bs.getD i 0:=by
 show (if _ then _ else _)=_
 rw [if_pos (by omega),Nat.add_sub_cancel_left]
theorem Qa (β:Bu) (p:Nat) (bs:List Nat) (P S:Nat):Live { β with σ:=β.σ.put p bs } P S↔Live β P S:=Iff.rfl
theorem More.put {β β':Bu} {p r:Nat} {bs:List Nat} (M:More β β' p r) (hl:bs.length≤r):More β { β' with σ:=β'.σ.put p bs } p r:=by
 refine ⟨M.base,M.order,M.limit,fun P S=>(Qa β' p bs P S).trans (M.live P S),M.new,fun P S h q h1 h2=>?_⟩;refine (IL _ _ _ ?_).trans (M.byte P S h q h1 h2);refine Classical.byContradiction (fun hc=>?_);obtain ⟨rfl,rfl⟩:=((M.live P S).2 (.inl h)).meet ((M.live p r).2 (.inr ⟨rfl,rfl⟩)) h1 h2 (by omega) (by omega);exact M.new h
structure Moved (β β':Bu) (p q r m:Nat):Prop where
 base:β'.σ.base=β.σ.base
 order:β'.μ.order=β.μ.order
 limit:β'.σ.limit=β.σ.limit
 live:∀ P S,Live β' P S↔(Live β P S∧P≠p)∨(P=q∧S=r)
 new:¬Live β q r
 byte:∀ P S,Live β P S→P≠p→∀ x,P≤x→x<P+S→β'.σ.mem x=β.σ.mem x
 kept:∀ i,i<m→β'.σ.mem (q+i)=β.σ.mem (p+i)
theorem More.moved {β β1 tY:Bu} {p q r S m:Nat} (M:More β β1 q r) (hL:Live β p S) (hr:m≤r) (hS:m≤S) (G:Gone { β1 with σ:=β1.σ.put q (β1.σ.nums p m) } tY p):Moved β tY p q r m:=by
 have hq1:Live β1 q r:=(M.live q r).2 (.inr ⟨rfl,rfl⟩);have hp1:Live β1 p S:=(M.live p S).2 (.inl hL);have hr0:0<r:=hq1.pos.1
 have hne:q≠p:=by
  rintro rfl;obtain ⟨_,rfl⟩:=hp1.meet hq1 (Nat.le_refl _) (by have:=hL.pos.1;omega) (Nat.le_refl _) (by omega);exact M.new hL
 have hlen:(β1.σ.nums p m).length=m:=by simp [Sp.nums]
 refine ⟨G.base.trans M.base,G.order.trans M.order,G.limit.trans M.limit,fun P T=>?_,M.new,fun P T h hP x h1 h2=>?_,fun i hi=>?_⟩
 ·rw [G.live P T];constructor
  ·rintro ⟨h,hP⟩;rcases (M.live P T).1 h with h | h
   ·exact .inl ⟨h,hP⟩
   ·exact .inr h
  ·rintro (⟨h,hP⟩ | ⟨rfl,rfl⟩)
   ·exact ⟨(M.live P T).2 (.inl h),hP⟩
   ·exact ⟨hq1,hne⟩
 ·have hP1:Live β1 P T:=(M.live P T).2 (.inl h);refine (G.byte P T hP1 hP x h1 h2).trans ((IL _ _ _ ?_).trans (M.byte P T h x h1 h2));rw [hlen];refine Classical.byContradiction (fun hc=>?_);obtain ⟨rfl,rfl⟩:=hP1.meet hq1 h1 h2 (by omega) (by omega);exact M.new h
 ·refine (G.byte q r hq1 hne (q+i) (by omega) (by omega)).trans ((M7 _ _ _ (by rw [hlen];exact hi)).trans ?_)
  have e:(β1.σ.nums p m).getD i 0=β1.σ.mem (p+i):=by
   unfold Sp.nums;rw [List.getD_eq_getElem?_getD,List.getElem?_map,List.getElem?_range hi];rfl
  rw [e];exact M.byte p S hL (p+i) (by omega) (by omega)
theorem ak.FN {w:World} {hb s pb:Nat} {K:ay} {β:Bu} {ps:List Int} (R:ak 0 w hb s pb K β ps) (p size S r q:Nat) (er:Int) (deny:Bool) (hp:((p:Int) == 0)=false) (hne:¬((r:Int)=S)) (hnc:¬((4096:Int)≤r∧(r:Int)<S)) (her:er≠0)
  (HS:∀ W,ak 1 W hb s pb K β ps→Calls Tryz.prog 99 #[.pointer (some ⟨hb,0,none⟩),.int .u64 p] W (Started W p S 0))
  (HQ:∀ W,ak 1 W hb s pb K β ps→Calls Tryz.prog 135 #[.pointer (some ⟨hb,0,none⟩),.int .u64 size,.int .u64 1] W (dL W (r,0)))
  (HT:∀ W,ak 1 W hb s pb K β ps→Calls Tryz.prog 139 #[.pointer (some ⟨hb,0,none⟩),.int .u64 r,.bool deny] W (nH W q er (jR s pb K β ps))) :
  Calls Tryz.prog 91 #[.pointer (some ⟨hb,0,none⟩),.int .u64 p,.int .u64 size,.bool deny] w (aK w hb s pb K β ps (.tuple #[.int .u64 (0:Nat),.int .i64 er])):=by
 obtain ⟨c0,-,-,-,-,f0⟩:=R.cells;have R1:=R.locked 1;have fP:=Hd (HS _ R1);have HR1:=Hd R1;have pO:=Hd HQ;have tK:=Hd HT;clear R HS R1 HQ HT;by_cases h4:(4096:Int)≤r
 ·have hlt:¬((r:Int)<S):=fun h=>hnc ⟨h4,h⟩
  clear hnc
  go_enter_defers Tryz.func91,Tryz.ntmps91
  go_wp2_with (go_at_call 58;refine (lock_free Tryz.muLib ⟨hb,0,none⟩ _ c0 f0).mono ?_;rintro e w' ⟨rfl,rfl⟩)
  generalize hw1:w.setCell ⟨hb,0,none⟩ (.int .i32 1)=w1 at *;refine fP.out.mono ?_
  rintro e w2 ⟨rfl,T2⟩;have HW1:=Hd hw1;have HT2:=Hd (T2.alloc (.cells #[.int .u64 p,.int .u64 S] 71));have R2:=HR1.out.aj HT2.out;have HR2:=Hd R2;have b1:=(aC.new w2 #[.int .u64 p,.int .u64 S] 71).cell 1;clear hw1 R2 T2 c0 f0
  go_wp2_with fail
  refine (pO.out _ HR2.out).mono ?_
  rintro e w3 ⟨rfl,rfl⟩
  go_wp2_with fail
  refine (tK.out _ HR2.out).mono ?_
  rintro e w4 ⟨rfl,W,T4,K',S4,N4,T5⟩;have R4:=(HR2.out.aj T4).next T5 N4 S4 ⟨rfl,rfl,rfl⟩;have HR4:=Hd R4;have xg:=Hd N4;have eu:=Hd (HT2.out.none_.trans (T4.none_.trans T5));have Qb:=Hd (HT2.out.trans T4);have hm:=R4.cells.1;have fm:=R4.cells.2.2.2.2.2;clear S4 R4 N4 T4 T5 b1
  go_wp2
  refine leaves_cons (f:=59) (args:=#[.pointer (some ⟨hb,0,none⟩)]) (by simp) (by simp [go_sem]) ?_
  refine (unlock_deferred Tryz.muLib ⟨hb,0,none⟩ .returning _ hm fm).mono ?_
  rintro e u' w'' ⟨rfl,rfl,rfl⟩;have N:=xg.out;exact ⟨_,results_tmp2 rfl _ _ _,ak.unlocked HW1.out.symm HR4.out ⟨N.bb,N.sb,N.mb,fun k hk=>(N.fresh k hk).elim .inl (fun h=>.inr (Nat.le_trans Qb.out.size h))⟩ eu.out⟩
 ·clear hnc
  go_enter_defers Tryz.func91,Tryz.ntmps91
  go_wp2_with (go_at_call 58;refine (lock_free Tryz.muLib ⟨hb,0,none⟩ _ c0 f0).mono ?_;rintro e w' ⟨rfl,rfl⟩)
  generalize hw1:w.setCell ⟨hb,0,none⟩ (.int .i32 1)=w1 at *;refine fP.out.mono ?_
  rintro e w2 ⟨rfl,T2⟩;have HW1:=Hd hw1;have HT2:=Hd (T2.alloc (.cells #[.int .u64 p,.int .u64 S] 71));have R2:=HR1.out.aj HT2.out;have HR2:=Hd R2;have b1:=(aC.new w2 #[.int .u64 p,.int .u64 S] 71).cell 1;clear hw1 R2 T2 c0 f0
  go_wp2_with fail
  refine (pO.out _ HR2.out).mono ?_
  rintro e w3 ⟨rfl,rfl⟩
  go_wp2_with fail
  refine (tK.out _ HR2.out).mono ?_
  rintro e w4 ⟨rfl,W,T4,K',S4,N4,T5⟩;have R4:=(HR2.out.aj T4).next T5 N4 S4 ⟨rfl,rfl,rfl⟩;have HR4:=Hd R4;have xg:=Hd N4;have eu:=Hd (HT2.out.none_.trans (T4.none_.trans T5));have Qb:=Hd (HT2.out.trans T4);have hm:=R4.cells.1;have fm:=R4.cells.2.2.2.2.2;clear S4 R4 N4 T4 T5 b1
  go_wp2
  refine leaves_cons (f:=59) (args:=#[.pointer (some ⟨hb,0,none⟩)]) (by simp) (by simp [go_sem]) ?_
  refine (unlock_deferred Tryz.muLib ⟨hb,0,none⟩ .returning _ hm fm).mono ?_
  rintro e u' w'' ⟨rfl,rfl,rfl⟩;have N:=xg.out;exact ⟨_,results_tmp2 rfl _ _ _,ak.unlocked HW1.out.symm HR4.out ⟨N.bb,N.sb,N.mb,fun k hk=>(N.fresh k hk).elim .inl (fun h=>.inr (Nat.le_trans Qb.out.size h))⟩ eu.out⟩
theorem Dl {w w1 w2 w4 w6 w7 W:World} {hb s pb:Nat} {K K' K'':ay} {tY:Bu} {FP:List Int} (hw1:w.setCell ⟨hb,0,none⟩ (.int .i32 1)=w1) (T2:Touch Nothing w1 w2) (T4:Touch Nothing w2 W) (N4:K.Next W K') (T5:Touch (·∈s::K.fp) W w4)
  (T6:Touch (·∈K'.fp) w4 w6) (R7:ak 1 w7 hb s pb K'' tY FP) (N7:K'.Next w6 K'') (T7:Touch (·∈s::K'.fp) w6 w7) (v:Value) :
  aK w hb s pb K tY FP v (.returned v) (w7.setCell ⟨hb,0,none⟩ (.int .i32 0)):=by
 have h12:=Nat.le_trans T2.size T4.size;have h14:=Nat.le_trans h12 T5.size;have h16:=Nat.le_trans h14 T6.size
 have hf:∀ k,k∈s::K'.fp→k∈s::K.fp∨W.heap.size≤k:=fun k hk=>by
  rcases List.mem_cons.1 hk with h | h
  ·exact .inl (by simp [h])
  ·exact (N4.fresh k h).imp (fun h=>List.mem_cons_of_mem _ h) id
 have TT:Touch (·∈s::K.fp) w1 w7:=by
  have t1:Touch (·∈s::K.fp) w1 w4:=((T2.trans T4).none_).trans T5
  have t2:Touch (·∈s::K.fp) w1 w6:=t1.trans' T6 (fun i hi h=>by
   rcases hf i (List.mem_cons_of_mem _ h) with h | h
   ·exact h
   ·omega)
  exact t2.trans' T7 (fun i hi h=>by
   rcases hf i h with h | h
   ·exact h
   ·omega)
 refine ak.unlocked hw1.symm R7 ⟨N7.bb.trans N4.bb,N7.sb.trans N4.sb,N7.mb.trans N4.mb,fun k hk=>?_⟩ TT;rcases N7.fresh k hk with h | h
 ·rcases N4.fresh k h with h | h
  ·exact .inl h
  ·exact .inr (by omega)
 ·exact .inr (by omega)
theorem ak.FQ {w:World} {hb s pb:Nat} {K:ay} {β β1 tY:Bu} {ps ps1 FP:List Int} (R:ak 0 w hb s pb K β ps) (p size S r q n:Nat) (deny:Bool) (hp:((p:Int) == 0)=false) (hne:¬((r:Int)=S)) (hnc:¬((4096:Int)≤r∧(r:Int)<S)) (hn:n=min r S) (hσ:β1.σ.base=β.σ.base∧β1.σ.limit=β.σ.limit∧β1.μ.order=β.μ.order)
  (H1:β1.σ.has q n) (H2:β1.σ.has p n)
  (HS:∀ W,ak 1 W hb s pb K β ps→Calls Tryz.prog 99 #[.pointer (some ⟨hb,0,none⟩),.int .u64 p] W (Started W p S 0))
  (HQ:∀ W,ak 1 W hb s pb K β ps→Calls Tryz.prog 135 #[.pointer (some ⟨hb,0,none⟩),.int .u64 size,.int .u64 1] W (dL W (r,0)))
  (HT:∀ W,ak 1 W hb s pb K β ps→Calls Tryz.prog 139 #[.pointer (some ⟨hb,0,none⟩),.int .u64 r,.bool deny] W (nH W q 0 (jR s pb K β1 ps1)))
  (HG:∀ W K',ak 1 W hb s pb K' { β1 with σ:=β1.σ.put q (β1.σ.nums p n) } ps1→Calls Tryz.prog 141 #[.pointer (some ⟨hb,0,none⟩),.agg #[.int .u64 p,.int .u64 S]] W (Turns 1 W hb s pb K' tY FP (.tuple #[]))) :
  Calls Tryz.prog 91 #[.pointer (some ⟨hb,0,none⟩),.int .u64 p,.int .u64 size,.bool deny] w (aK w hb s pb K tY FP (.tuple #[.int .u64 q,.int .i64 0])):=by
 obtain ⟨c0,-,-,-,-,f0⟩:=R.cells;have R1:=R.locked 1;have fP:=Hd (HS _ R1);have HR1:=Hd R1;have pO:=Hd HQ;have tK:=Hd HT;have IC:=Hd HG;have HH:=Hd (And.intro H1 (And.intro H2 hσ));have HN:=Hd hn;clear R HS R1 HQ HT HG H1 H2 hσ hn;have Zd:=Hd (show min (r:Int) (S:Int)=(n:Int) by have:=HN.out;omega);by_cases h4:(4096:Int)≤r
 ·have hlt:¬((r:Int)<S):=fun h=>hnc ⟨h4,h⟩
  clear hnc
  go_enter_defers Tryz.func91,Tryz.ntmps91
  go_wp2_with (go_at_call 58;refine (lock_free Tryz.muLib ⟨hb,0,none⟩ _ c0 f0).mono ?_;rintro e w' ⟨rfl,rfl⟩)
  generalize hw1:w.setCell ⟨hb,0,none⟩ (.int .i32 1)=w1 at *;refine fP.out.mono ?_
  rintro e w2 ⟨rfl,T2⟩;have HW1:=Hd hw1;have HT2:=Hd (T2.alloc (.cells #[.int .u64 p,.int .u64 S] 71));have R2:=HR1.out.aj HT2.out;have HR2:=Hd R2;have B1:=Hd (aC.new w2 #[.int .u64 p,.int .u64 S] 71);have b1:=B1.out.cell 1
  have HX:=Hd (show ¬w2.heap.size∈s::K.fp from fun h=>by
   have h1:=T2.size;have h2:=HR1.out.lt w2.heap.size (by simp only [List.mem_cons] at h ⊢;rcases h with h | h;exact .inr (.inl h);exact .inr (.inr (.inr h)));omega)
  clear hw1 R2 T2 c0 f0
  go_wp2_with fail
  refine (pO.out _ HR2.out).mono ?_
  rintro e w3 ⟨rfl,rfl⟩
  go_wp2_with fail
  refine (tK.out _ HR2.out).mono ?_
  rintro e w4 ⟨rfl,W,T4,K',S4,N4,T5⟩;have R4:=(HR2.out.aj T4).next T5 N4 S4 HH.out.2.2;have B4:=(B1.out.touch T4 (fun h=>h)).touch T5 HX.out;have HR4:=Hd R4;have xg:=Hd N4;have eu:=Hd T4;have gG:=Hd T5;have b0:=B4.cell 0;have b1:=B4.cell 1;have c5:=R4.cells.2.2.2.1;have jX:=Hd B4;have A9:=R4.aj ((Touch.refl Nothing w4).drew);have jg:=Hd A9.sl.po.gM;have IQ:=Hd (A9.sl.po.bu.sp.copy_ q p n HH.out.1 HH.out.2.1);have zu:=Hd A9;clear S4 R4 A9 N4 T4 T5 B4
  go_wp2_with fail
  refine wp_region_still_tail 13 (by kernel_rfl) (by kernel_rfl) ?_
  simp only [List.take_succ_cons,List.take_zero,List.drop_succ_cons,List.drop_zero,World.drew_eq]
  repeat still_step
  still_call (jg.out.mono fun _ _ h=>⟨h.1,h.2.symm⟩)
  repeat still_step
  refine wpStill_nil ?_
  go_wp2_with fail
  rw [Zd.out];refine IQ.out.mono ?_
  rintro e w5 ⟨rfl,r5,t5⟩;obtain ⟨b5,T5⟩:=zu.out.sl.po.bu.bytes r5 t5 (Sp.kV _ _ _);have S5:=zu.out.sl.next T5 (ay.Next.refl _ _) b5;have R5:=zu.out.next (T5.mono (fun b _ hb=>List.mem_cons_of_mem _ hb)) (ay.Next.refl _ _) S5 ⟨rfl,rfl,rfl⟩;have jY:=Hd ((Touch.refl Nothing w4).drew.none_.trans T5)
  have hnot:¬w2.heap.size∈K'.fp:=fun h=>by
   rcases xg.out.fresh _ h with h | h
   ·exact HX.out (List.mem_cons_of_mem _ h)
   ·have:=eu.out.size;have:=B1.out.lt;omega
  have B5:=jX.out.touch jY.out hnot;have M8:=Hd (IC.out _ _ R5);have e0:=B5.cell 0;have e1:=B5.cell 1;simp only [List.getElem?_cons_zero,List.getElem?_cons_succ] at e0 e1;clear r5 t5 b5 T5 S5 R5 B5 hnot b0 b1 c5
  go_wp2_with fail
  refine M8.out.mono ?_
  rintro e w6 ⟨rfl,K'',R6,N6,T6⟩;have Wm:=Hd R6;have Wn:=Hd N6;have nT:=Hd T6;have hm:=R6.cells.1;have fm:=R6.cells.2.2.2.2.2;clear R6 N6 T6 e0 e1
  go_wp2
  refine leaves_cons (f:=59) (args:=#[.pointer (some ⟨hb,0,none⟩)]) (by simp) (by simp [go_sem]) ?_
  refine (unlock_deferred Tryz.muLib ⟨hb,0,none⟩ .returning _ hm fm).mono ?_
  rintro e u' w'' ⟨rfl,rfl,rfl⟩;exact ⟨_,results_tmp2 rfl _ _ _,Dl HW1.out HT2.out eu.out xg.out gG.out jY.out Wm.out Wn.out nT.out _⟩
 ·clear hnc
  go_enter_defers Tryz.func91,Tryz.ntmps91
  go_wp2_with (go_at_call 58;refine (lock_free Tryz.muLib ⟨hb,0,none⟩ _ c0 f0).mono ?_;rintro e w' ⟨rfl,rfl⟩)
  generalize hw1:w.setCell ⟨hb,0,none⟩ (.int .i32 1)=w1 at *;refine fP.out.mono ?_
  rintro e w2 ⟨rfl,T2⟩;have HW1:=Hd hw1;have HT2:=Hd (T2.alloc (.cells #[.int .u64 p,.int .u64 S] 71));have R2:=HR1.out.aj HT2.out;have HR2:=Hd R2;have B1:=Hd (aC.new w2 #[.int .u64 p,.int .u64 S] 71);have b1:=B1.out.cell 1
  have HX:=Hd (show ¬w2.heap.size∈s::K.fp from fun h=>by
   have h1:=T2.size;have h2:=HR1.out.lt w2.heap.size (by simp only [List.mem_cons] at h ⊢;rcases h with h | h;exact .inr (.inl h);exact .inr (.inr (.inr h)));omega)
  clear hw1 R2 T2 c0 f0
  go_wp2_with fail
  refine (pO.out _ HR2.out).mono ?_
  rintro e w3 ⟨rfl,rfl⟩
  go_wp2_with fail
  refine (tK.out _ HR2.out).mono ?_
  rintro e w4 ⟨rfl,W,T4,K',S4,N4,T5⟩;have R4:=(HR2.out.aj T4).next T5 N4 S4 HH.out.2.2;have B4:=(B1.out.touch T4 (fun h=>h)).touch T5 HX.out;have HR4:=Hd R4;have xg:=Hd N4;have eu:=Hd T4;have gG:=Hd T5;have b0:=B4.cell 0;have b1:=B4.cell 1;have c5:=R4.cells.2.2.2.1;have jX:=Hd B4;have A9:=R4.aj ((Touch.refl Nothing w4).drew);have jg:=Hd A9.sl.po.gM;have IQ:=Hd (A9.sl.po.bu.sp.copy_ q p n HH.out.1 HH.out.2.1);have zu:=Hd A9;clear S4 R4 A9 N4 T4 T5 B4
  go_wp2_with fail
  refine wp_region_still_tail 13 (by kernel_rfl) (by kernel_rfl) ?_
  simp only [List.take_succ_cons,List.take_zero,List.drop_succ_cons,List.drop_zero,World.drew_eq]
  repeat still_step
  still_call (jg.out.mono fun _ _ h=>⟨h.1,h.2.symm⟩)
  repeat still_step
  refine wpStill_nil ?_
  go_wp2_with fail
  rw [Zd.out];refine IQ.out.mono ?_
  rintro e w5 ⟨rfl,r5,t5⟩;obtain ⟨b5,T5⟩:=zu.out.sl.po.bu.bytes r5 t5 (Sp.kV _ _ _);have S5:=zu.out.sl.next T5 (ay.Next.refl _ _) b5;have R5:=zu.out.next (T5.mono (fun b _ hb=>List.mem_cons_of_mem _ hb)) (ay.Next.refl _ _) S5 ⟨rfl,rfl,rfl⟩;have jY:=Hd ((Touch.refl Nothing w4).drew.none_.trans T5)
  have hnot:¬w2.heap.size∈K'.fp:=fun h=>by
   rcases xg.out.fresh _ h with h | h
   ·exact HX.out (List.mem_cons_of_mem _ h)
   ·have:=eu.out.size;have:=B1.out.lt;omega
  have B5:=jX.out.touch jY.out hnot;have M8:=Hd (IC.out _ _ R5);have e0:=B5.cell 0;have e1:=B5.cell 1;simp only [List.getElem?_cons_zero,List.getElem?_cons_succ] at e0 e1;clear r5 t5 b5 T5 S5 R5 B5 hnot b0 b1 c5
  go_wp2_with fail
  refine M8.out.mono ?_
  rintro e w6 ⟨rfl,K'',R6,N6,T6⟩;have Wm:=Hd R6;have Wn:=Hd N6;have nT:=Hd T6;have hm:=R6.cells.1;have fm:=R6.cells.2.2.2.2.2;clear R6 N6 T6 e0 e1
  go_wp2
  refine leaves_cons (f:=59) (args:=#[.pointer (some ⟨hb,0,none⟩)]) (by simp) (by simp [go_sem]) ?_
  refine (unlock_deferred Tryz.muLib ⟨hb,0,none⟩ .returning _ hm fm).mono ?_
  rintro e u' w'' ⟨rfl,rfl,rfl⟩;exact ⟨_,results_tmp2 rfl _ _ _,Dl HW1.out HT2.out eu.out xg.out gG.out jY.out Wm.out Wn.out nT.out _⟩
end Go.Proofs.YtnjcmcnjgdjbiaaGreatDoor
namespace Go.Proofs.YtnjcmcnjgdjbiaaGreatDoor
open Go.RowKit
theorem HS.Ui {β:Bu} {ps:List Int} {F C L:Nat→List Nat} (I:HS β ps F C L) (p size:Nat) (deny:Bool) (hp:p<18446744073709551616) (hp0:p≠0) (h1:size<18446744073709551616) :
  ((∀ S,¬Live β p S)∧∀ (w:World) (hb s pb:Nat) (K:ay),ak 0 w hb s pb K β ps→Calls Tryz.prog 91 #[.pointer (some ⟨hb,0,none⟩),.int .u64 p,.int .u64 size,.bool deny] w (aK w hb s pb K β ps (.tuple #[.int .u64 (0:Nat),.int .i64 1]))) ∨
  (∃ S,Live β p S ∧
   (((bD β.σ.size size 1).2≠0∧∀ (w:World) (hb s pb:Nat) (K:ay),ak 0 w hb s pb K β ps→Calls Tryz.prog 91 #[.pointer (some ⟨hb,0,none⟩),.int .u64 p,.int .u64 size,.bool deny] w (aK w hb s pb K β ps (.tuple #[.int .u64 (0:Nat),.int .i64 (bD β.σ.size size 1).2]))) ∨
   (∃ r,bD β.σ.size size 1=(r,0)∧gZ β.μ.order r ∧
    ((r=S∧∀ (w:World) (hb s pb:Nat) (K:ay),ak 0 w hb s pb K β ps→Calls Tryz.prog 91 #[.pointer (some ⟨hb,0,none⟩),.int .u64 p,.int .u64 size,.bool deny] w (aK w hb s pb K β ps (.tuple #[.int .u64 p,.int .i64 0]))) ∨
    (4096≤r∧r<S∧∃ β' F',HS β' ps F' C L∧P9 β β' p r∧∀ (w:World) (hb s pb:Nat) (K:ay),ak 0 w hb s pb K β ps→Calls Tryz.prog 91 #[.pointer (some ⟨hb,0,none⟩),.int .u64 p,.int .u64 size,.bool deny] w (aK w hb s pb K β' ps (.tuple #[.int .u64 p,.int .i64 0]))) ∨
    (r≠S∧¬(4096≤r∧r<S)∧∃ β1 β' ps' F' C' L' q,wY β F L r deny β1 q∧β'.σ.n=β1.σ.n∧HS β' ps' F' C' L'∧Moved β β' p q r (min r S)∧∀ (w:World) (hb s pb:Nat) (K:ay),ak 0 w hb s pb K β ps→Calls Tryz.prog 91 #[.pointer (some ⟨hb,0,none⟩),.int .u64 p,.int .u64 size,.bool deny] w (aK w hb s pb K β' ps' (.tuple #[.int .u64 q,.int .i64 0]))) ∨
    (r≠S∧¬(4096≤r∧r<S)∧NoRoom β.μ.order F L r∧(deny=true∨β.σ.n=β.σ.limit)∧∀ (w:World) (hb s pb:Nat) (K:ay),ak 0 w hb s pb K β ps→Calls Tryz.prog 91 #[.pointer (some ⟨hb,0,none⟩),.int .u64 p,.int .u64 size,.bool deny] w (aK w hb s pb K β ps (.tuple #[.int .u64 (0:Nat),.int .i64 2]))))))):=by
 have hpi:((p:Int) == 0)=false:=by
  simp;omega
 rcases I.start p hp with ⟨S,hL,Ba⟩ | ⟨hno,Ba⟩
 ·right;refine ⟨S,hL,?_⟩;by_cases he:(bD β.σ.size size 1).2=0
  ·right;obtain ⟨r,hr⟩:∃ r,bD β.σ.size size 1=(r,0):=⟨_,Prod.ext rfl he⟩;have hok:gZ β.μ.order r:=(FJ (align:=1) I.inv.ord h1 (by omega) (by rw [←I.nums.size];exact hr)).1
   have HQ:∀ {w:World} {hb s pb:Nat} {K:ay},∀ W,ak 1 W hb s pb K β ps→Calls Tryz.prog 135 #[.pointer (some ⟨hb,0,none⟩),.int .u64 size,.int .u64 1] W (dL W (r,0)):=fun W R=>by
    have:=R.tJ size 1 h1 (by omega);rwa [hr] at this
   refine ⟨r,hr,hok,?_⟩;by_cases h2:r=S
   ·exact .inl ⟨h2,fun w hb s pb K R=>(R.FL p size S r deny hpi (by omega) (fun W RW=>Ba 1 W hb s pb K RW) (HQ (w:=w))).mono fun _ _ h=>h.gB⟩
   right;by_cases h3:4096≤r∧r<S
   ·left;refine ⟨h3.1,h3.2,?_⟩;rcases hL with ⟨a,k,hk,hB,rfl,rfl⟩ | ⟨i,c,x,hc,hx,rfl,rfl⟩
    ·rcases hok with ⟨c,hc,rfl⟩ | ⟨o,ho,rfl⟩
     ·have:=(cO hc).2;omega
     ·have lo:o≤k:=sN (by omega);obtain ⟨I',Cd⟩:=I.M6 I.nums.has lo hk hB
      have bl:∀ j,j≤β.μ.order→(Lib.bitLen (4096*2^j/4096):Int)-1=j:=fun j hj=>by
       have:=I.inv.ord;rw [Nat.mul_div_cancel_left _ (by omega),qj j (by omega)];omega
      have Fu:=fD (o:=k) (by have:=I.inv.ord;omega);exact ⟨_,_,I',Cd,fun w hb s pb K R=>R.GX (β.addr a) size _ _ k o deny hpi (by omega) (by omega) (by omega) (bl k hk) (bl o ho) ⟨Cd.base,Cd.limit,Cd.order⟩ (fun W RW=>Ba 1 W hb s pb K RW) (HQ (w:=w)) (fun W RW=>RW.sl.po.bu.Ug I.inv lo hk hB)⟩
    ·have:=(cO hc).2;omega
   right;have h2':¬((r:Int)=S):=by omega
   have h3':¬((4096:Int)≤r∧(r:Int)<S):=by omega
   rcases I.take r deny hok with ⟨β1,ps1,F1,C1,L1,q,I1,T,HC⟩ | ⟨h4,h5,HC⟩
   ·left;have hq1:Live β1 q r:=(T.more.live q r).2 (.inr ⟨rfl,rfl⟩);have hp1:Live β1 p S:=(T.more.live p S).2 (.inl hL);have hr0:0<r:=hq1.pos.1;have hS0:0<S:=hL.pos.1;have Wo:dP β1 q (min r S):=⟨q,r,hq1,Nat.le_refl _,by omega⟩;have aaG:dP β1 p (min r S):=⟨p,S,hp1,Nat.le_refl _,by omega⟩;have hlen:(β1.σ.nums p (min r S)).length=min r S:=by simp [Sp.nums]
    have I2:=I1.write (p:=q) (bs:=β1.σ.nums p (min r S)) (by rw [hlen];exact Wo);obtain ⟨tY,FP,F3,C3,L3,I3,G,HG⟩:=I2.give hp1;refine ⟨h2,h3,β1,tY,FP,F3,C3,L3,q,T,G.n,I3,T.more.moved hL (by omega) (by omega) G,fun w hb s pb K R=>?_⟩;exact R.FQ p size S r q (min r S) deny hpi h2' h3' rfl T.more.same (I1.ql (by omega) Wo) (I1.ql (by omega) aaG) (fun W RW=>Ba 1 W hb s pb K RW) (HQ (w:=w)) (fun W RW=>HC 1 W hb s pb K RW) (fun W K' RW=>HG 1 W hb s pb K' RW)
   ·right;exact ⟨h2,h3,h4,h5,fun w hb s pb K R=>R.FN p size S r 0 2 deny hpi h2' h3' (by omega) (fun W RW=>Ba 1 W hb s pb K RW) (HQ (w:=w)) (fun W RW=>HC 1 W hb s pb K RW)⟩
  ·left;refine ⟨he,fun w hb s pb K R=>(R.DU p size S _ _ deny hpi he (fun W RW=>Ba 1 W hb s pb K RW) (fun W RW=>RW.tJ size 1 h1 (by omega))).mono fun _ _ h=>h.gB⟩
 ·left;exact ⟨hno,fun w hb s pb K R=>(R.GV p size deny hpi (fun W RW=>Ba 1 W hb s pb K RW)).mono fun _ _ h=>h.gB⟩
end Go.Proofs.YtnjcmcnjgdjbiaaGreatDoor
namespace Go.Proofs.YtnjcmcnjgdjbiaaGreatDoor
open Go.RowKit Go.MuLone
theorem ak.GY {w:World} {hb s pb:Nat} {K:ay} {β:Bu} {ps:List Int} (R:ak 0 w hb s pb K β ps) (n size hi lo:Nat) (deny:Bool) (hne:¬((hi:Int)=0))
  (hMul:∀ W,Calls Tryz.prog 132 #[.int .u64 n,.int .u64 size] W fun e w'=>e=.returned (.tuple #[.int .u64 hi,.int .u64 lo])∧w'=W) :
  Calls Tryz.prog 89 #[.pointer (some ⟨hb,0,none⟩),.int .u64 n,.int .u64 size,.bool deny] w (bC w hb s pb K β ps (.tuple #[.int .u64 (0:Nat),.int .i64 3])):=by
 obtain ⟨c0,-,-,-,-,f0⟩:=R.cells;have R1:=R.locked 1;have HR1:=Hd R1;have L9:=Hd hMul;have hm:=R1.cells.1;have fm:=R1.cells.2.2.2.2.2;clear R R1 hMul
 go_enter_defers Tryz.func89,Tryz.ntmps89
 go_wp2_with (go_at_call 58;refine (lock_free Tryz.muLib ⟨hb,0,none⟩ _ c0 f0).mono ?_;rintro e w' ⟨rfl,rfl⟩)
 generalize hw1:w.setCell ⟨hb,0,none⟩ (.int .i32 1)=w1 at *;have HW1:=Hd hw1;clear hw1;refine (L9.out _).mono ?_
 rintro e w2 ⟨rfl,rfl⟩
 go_wp2
 refine leaves_cons (f:=59) (args:=#[.pointer (some ⟨hb,0,none⟩)]) (by simp) (by simp [go_sem]) ?_
 refine (unlock_deferred Tryz.muLib ⟨hb,0,none⟩ .returning _ hm fm).mono ?_
 rintro e u' w'' ⟨rfl,rfl,rfl⟩;exact ⟨_,results_tmp2 rfl _ _ _,ak.iX HW1.out.symm HR1.out (Touch.refl _ _)⟩
theorem ak.Bb {w:World} {hb s pb:Nat} {K:ay} {β:Bu} {ps:List Int} (R:ak 0 w hb s pb K β ps) (n size low:Nat) (er:Int) (deny:Bool) (her:er≠0)
  (hMul:∀ W,Calls Tryz.prog 132 #[.int .u64 n,.int .u64 size] W fun e w'=>e=.returned (.tuple #[.int .u64 (0:Nat),.int .u64 low])∧w'=W)
  (HM:∀ W,ak 1 W hb s pb K β ps→Calls Tryz.prog 133 #[.pointer (some ⟨hb,0,none⟩),.int .u64 low,.int .u64 1,.bool deny] W (Did W (.tuple #[.agg #[.int .u64 (0:Nat),.int .u64 (0:Nat)],.int .i64 er]) (jR s pb K β ps))) :
  Calls Tryz.prog 89 #[.pointer (some ⟨hb,0,none⟩),.int .u64 n,.int .u64 size,.bool deny] w (aK w hb s pb K β ps (.tuple #[.int .u64 (0:Nat),.int .i64 er])):=by
 obtain ⟨c0,-,-,-,-,f0⟩:=R.cells;have R1:=R.locked 1;have fP:=Hd (HM _ R1);have HR1:=Hd R1;have L9:=Hd hMul;clear R HM R1 hMul
 go_enter_defers Tryz.func89,Tryz.ntmps89
 go_wp2_with (go_at_call 58;refine (lock_free Tryz.muLib ⟨hb,0,none⟩ _ c0 f0).mono ?_;rintro e w' ⟨rfl,rfl⟩)
 generalize hw1:w.setCell ⟨hb,0,none⟩ (.int .i32 1)=w1 at *;refine (L9.out _).mono ?_
 rintro e w2 ⟨rfl,rfl⟩
 go_wp2_with fail
 refine fP.out.mono ?_
 rintro e w2 hD;obtain ⟨K',R2,N2,T2⟩:=Did.hp HR1.out hD ⟨rfl,rfl,rfl⟩;obtain ⟨rfl,-⟩:=hD;have HW1:=Hd hw1;have R3:=R2.aj ((Touch.refl Nothing w2).alloc (.cells #[.int .u64 (0:Nat),.int .u64 (0:Nat)] 71));have HR3:=Hd R3;have tF:=Hd N2;have HT2:=Hd (T2.alloc (.cells #[.int .u64 (0:Nat),.int .u64 (0:Nat)] 71));have hm:=R3.cells.1;have fm:=R3.cells.2.2.2.2.2;clear hw1 R2 R3 N2 T2 c0 f0
 go_wp2
 refine leaves_cons (f:=59) (args:=#[.pointer (some ⟨hb,0,none⟩)]) (by simp) (by simp [go_sem]) ?_
 refine (unlock_deferred Tryz.muLib ⟨hb,0,none⟩ .returning _ hm fm).mono ?_
 rintro e u' w'' ⟨rfl,rfl,rfl⟩;exact ⟨_,results_tmp2 rfl _ _ _,ak.unlocked HW1.out.symm HR3.out tF.out HT2.out⟩
theorem HS.Wp {β:Bu} {ps:List Int} {F C L:Nat→List Nat} (I:HS β ps F C L) (n size:Nat) (deny:Bool) (h1:n<18446744073709551616) (h2:size<18446744073709551616) :
  (18446744073709551616≤n*size∧∀ (w:World) (hb s pb:Nat) (K:ay),ak 0 w hb s pb K β ps→Calls Tryz.prog 89 #[.pointer (some ⟨hb,0,none⟩),.int .u64 n,.int .u64 size,.bool deny] w (aK w hb s pb K β ps (.tuple #[.int .u64 (0:Nat),.int .i64 3]))) ∨
  (n*size<18446744073709551616∧(bD β.σ.size (n*size) 1).2≠0∧∀ (w:World) (hb s pb:Nat) (K:ay),ak 0 w hb s pb K β ps→Calls Tryz.prog 89 #[.pointer (some ⟨hb,0,none⟩),.int .u64 n,.int .u64 size,.bool deny] w (aK w hb s pb K β ps (.tuple #[.int .u64 (0:Nat),.int .i64 (bD β.σ.size (n*size) 1).2]))) ∨
  (n*size<18446744073709551616∧∃ r β' ps' F' C' L' p,bD β.σ.size (n*size) 1=(r,0)∧gZ β.μ.order r∧HS β' ps' F' C' L'∧wY β F L r deny β' p∧(∀ i,i<r→β'.σ.mem (p+i)=0) ∧
   ∀ (w:World) (hb s pb:Nat) (K:ay),ak 0 w hb s pb K β ps→Calls Tryz.prog 89 #[.pointer (some ⟨hb,0,none⟩),.int .u64 n,.int .u64 size,.bool deny] w (aK w hb s pb K β' ps' (.tuple #[.int .u64 p,.int .i64 0]))) ∨
  (n*size<18446744073709551616∧∃ r,bD β.σ.size (n*size) 1=(r,0)∧gZ β.μ.order r∧NoRoom β.μ.order F L r∧(deny=true∨β.σ.n=β.σ.limit) ∧
   ∀ (w:World) (hb s pb:Nat) (K:ay),ak 0 w hb s pb K β ps→Calls Tryz.prog 89 #[.pointer (some ⟨hb,0,none⟩),.int .u64 n,.int .u64 size,.bool deny] w (aK w hb s pb K β ps (.tuple #[.int .u64 (0:Nat),.int .i64 2]))):=by
 have hmul:=fun W=>Tryz.bits_Mul64 n size h1 h2 W
 by_cases ho:18446744073709551616≤n*size
 ·left
  have hhi:¬(((n*size/18446744073709551616:Nat):Int)=0):=by
   have:=Nat.div_pos ho (by omega);omega
  exact ⟨ho,fun w hb s pb K R=>(R.GY n size _ _ deny hhi hmul).mono fun _ _ h=>h.gB⟩
 ·right;have ho':n*size<18446744073709551616:=by omega
  have J5:∀ W,Calls Tryz.prog 132 #[.int .u64 n,.int .u64 size] W fun e w'=>e=.returned (.tuple #[.int .u64 (0:Nat),.int .u64 (n*size:Nat)])∧w'=W:=fun W=>by
   have:=hmul W;rw [Nat.div_eq_of_lt ho',Nat.mod_eq_of_lt ho'] at this;exact this
  rcases I.malloc (n*size) 1 deny ho' (by omega) with ⟨he,H⟩ | ⟨r,β',ps',F',C',L',p,h3,h4,I',T,H⟩ | ⟨r,h3,h4,h5,h6,H⟩
  ·exact .inl ⟨ho',he,fun w hb s pb K R=>R.Bb n size (n*size) _ deny he J5 (fun W RW=>H 1 W hb s pb K RW)⟩
  ·right;left;have hL:Live β' p r:=(T.more.live p r).2 (.inr ⟨rfl,rfl⟩);have hr0:0<r:=hL.pos.1;have hin:dP β' p r:=⟨p,r,hL,Nat.le_refl _,Nat.le_refl _⟩;have hin':dP β' p (List.replicate r 0).length:=by rw [List.length_replicate];exact hin
   have I2:=I'.write hin';refine ⟨ho',r,_,ps',F',C',L',p,h3,h4,I2,⟨T.more.put (by rw [List.length_replicate];exact Nat.le_refl _),T.grew⟩,fun i hi=>?_,fun w hb s pb K R=>?_⟩
   ·rw [M7 _ _ _ (by rw [List.length_replicate];exact hi)];rw [List.getD_eq_getElem?_getD,List.getElem?_replicate,if_pos hi];rfl
   ·exact R.L8 n size p r deny T.more.same ho' (fun W=>(J5 W).mono fun _ _ h=>h) (I'.ql hr0 hin) (fun W RW=>H 1 W hb s pb K RW)
  ·exact .inr (.inr ⟨ho',r,h3,h4,h5,h6,fun w hb s pb K R=>R.Bb n size (n*size) 2 deny (by omega) J5 (fun W RW=>H 1 W hb s pb K RW)⟩)
end Go.Proofs.YtnjcmcnjgdjbiaaGreatDoor
namespace Go.Proofs.YtnjcmcnjgdjbiaaGreatDoor
def Bu.bg (β:Bu):Nat:=β.μ.pages.length-2^β.μ.order
def Bu.dw (β:Bu):Bu :=
 { β.pulled β.bg with σ:=(β.pulled β.bg).σ.less,μ:=(β.pulled β.bg).μ.shrink }
theorem jJ (β:Bu):β.dw.σ=(β.pulled β.bg).σ.less:=by unfold Bu.dw;rfl
theorem vC (β:Bu):β.dw.μ=(β.pulled β.bg).μ.shrink:=by unfold Bu.dw;rfl
theorem j5 (σ:Sp):σ.less.base=σ.base∧σ.less.limit=σ.limit∧σ.less.order=σ.order∧σ.less.size=σ.size∧σ.less.n=σ.n-1∧σ.less.mem=σ.mem:=⟨rfl,rfl,rfl,rfl,rfl,rfl⟩
theorem GZ {β:Bu} {F:Nat→List Nat} {H:Nat→Prop} (h:BInv { β.pulled β.bg with σ:=(β.pulled β.bg).σ.less,μ:=(β.pulled β.bg).μ.shrink } F H):BInv β.dw F H:=by unfold Bu.dw;exact h
theorem jk (β:Bu) (x:Nat):(β.pulled x).μ.order=β.μ.order:=by unfold Bu.pulled;exact (mJ _ _ _ _).1
theorem qm (β:Bu) (x:Nat):(β.pulled x).μ.pages.length=β.μ.pages.length:=by unfold Bu.pulled;exact iT _ _ _ _
structure Uj (β β':Bu):Prop where
 base:β'.σ.base=β.σ.base
 order:β'.μ.order=β.μ.order
 limit:β'.σ.limit=β.σ.limit
 n:β'.σ.n+1=β.σ.n
 live:∀ P S,Live β' P S↔Live β P S
 byte:∀ P S,Live β P S→∀ q,P≤q→q<P+S→β'.σ.mem q=β.σ.mem q
theorem fA.Yc {β β':Bu} {ps:List Int} {C L:Nat→List Nat} (S:fA β ps C L) (hpg:∀ (i:Nat) (p:Pg),p.kind=4→(β'.μ.pages[i]? = some p↔β.μ.pages[i]? = some p)) (hb:β'.σ.base=β.σ.base) (hm:∀ a,β'.σ.mem a=β.σ.mem a):fA β' ps C L:=by
 refine ⟨S.len,fun i p hp h4=>?_,fun c hc=>?_,S.nodup,fun c hc i=>?_⟩
 ·have hp0:=(hpg i p h4).1 hp;have:=S.pages i p hp0 h4;unfold Bu.addr at this ⊢;rw [hb];exact this.qd (fun off _=>hm _)
 ·refine PL.congr (fun i hi=>?_) (S.lists c hc);obtain ⟨p,hp,h4,_⟩:=(S.mem c hc i).1 hi;have hp':=(hpg i p h4).2 hp;rw [eY hp,eY hp',fH hp,fH hp'];exact ⟨rfl,rfl⟩
 ·rw [S.mem c hc i];constructor
  ·rintro ⟨p,hp,h4,h⟩;exact ⟨p,(hpg i p h4).2 hp,h4,h⟩
  ·rintro ⟨p,hp,h4,h⟩;exact ⟨p,(hpg i p h4).1 hp,h4,h⟩
theorem HS.pop {β:Bu} {ps:List Int} {F C L:Nat→List Nat} (I:HS β ps F C L) (hn:0<β.σ.n) (hx:β.bg∈F β.μ.order) :
  HS β.dw ps (upd F β.μ.order ((F β.μ.order).erase β.bg)) C L∧Uj β β.dw:=by
 obtain ⟨I1,K1,B1,U1⟩:=I.inv.pull hx;have ho:=jk β β.bg;have hl:=qm β β.bg
 have hB2:bf (β.pulled β.bg).μ.pages ((β.pulled β.bg).μ.pages.length-2^(β.pulled β.bg).μ.order) (β.pulled β.bg).μ.order 2:=by
  rw [hl,ho];exact B1
 have I2:=I1.drop hB2;have hfull:=I.nums.full;have p0:=fF β.μ.order;have hge:2^β.μ.order≤β.μ.pages.length:=by rw [hfull];exact Nat.le_mul_of_pos_left _ hn
 have ht:β.bg+2^β.μ.order=β.μ.pages.length:=by unfold Bu.bg;omega
 have hsl:=vk (β.pulled β.bg).μ;rw [hl,ho] at hsl;have hlen:β.dw.μ.pages.length=β.bg:=by rw [vC,hsl.1,Bu.bg]
 have kJ:β.dw.μ.order=β.μ.order:=by rw [vC,hsl.2]
 have hold:∀ y,y<β.bg→β.dw.μ.pages[y]? = (β.pulled β.bg).μ.pages[y]? := fun y hy=>by
  rw [vC];exact qc _ (by rw [hl,ho];exact hy)
 have hbase:β.dw.σ.base=β.σ.base:=by rw [jJ,(j5 _).1];exact K1.base
 have hmem:∀ a,β.dw.σ.mem a=(β.pulled β.bg).σ.mem a:=fun a=>by rw [jJ,(j5 _).2.2.2.2.2]
 have uM:∀ j,β.dw.addr j=β.addr j:=fun j=>by unfold Bu.addr;rw [hbase]
 -- pages below the top that are no free ones are as they were
 have hpg:∀ {y:Nat} {p:Pg},(p.kind=2∨p.kind=3∨p.kind=4)→(β.dw.μ.pages[y]? = some p↔β.μ.pages[y]? = some p):=by
  intro y p hk;constructor
  ·intro h;have hy:y<β.bg:=by have:=(List.getElem?_eq_some_iff.1 h).1;omega
   rw [hold y hy] at h
   have hno:¬bE β.μ.order F aH y:=by
    intro hu;have:=(I1.AO h).1 (by rw [ho];exact (U1 y).2 ⟨hu,fun hi=>by have:=hi.1;omega⟩);omega
   rw [←K1.page y hno];exact h
  ·intro h;have hno:=I.inv.dX h hk
   have hy:y<β.bg:=by
    refine Classical.byContradiction (fun hc=>hno (.inr ⟨_,Nat.le_refl _,_,hx,by omega,?_⟩));have:=(List.getElem?_eq_some_iff.1 h).1;omega
   rw [hold y hy,K1.page y hno];exact h
 have hblk:∀ a k,bf β.dw.μ.pages a k 2↔bf β.μ.pages a k 2:=by
  intro a k;constructor
  ·intro h;exact ⟨h.al,fun j hj=>(hpg (by have:=dH k j;omega)).1 (h.at_ j hj)⟩
  ·intro h;exact ⟨h.al,fun j hj=>(hpg (by have:=dH k j;omega)).2 (h.at_ j hj)⟩
 refine ⟨⟨?_,?_,?_⟩,?_⟩
 ·exact GZ I2
 ·refine (I.slab.keeps K1 (fun i p hp h4=>I.inv.dX hp (.inr (.inr h4)))).Yc (fun i p h4=>?_) ?_ hmem
  ·rw [hpg (.inr (.inr h4))];constructor
   ·intro h;rw [K1.page i (I.inv.dX h (.inr (.inr h4)))];exact h
   ·intro h;exact K1.slab i p h h4
  ·rw [hbase,K1.base]
 ·have hN:=I.nums;have e:β.dw.σ.n=β.σ.n-1:=by rw [jJ,(j5 _).2.2.2.2.1,K1.n]
  have el:β.dw.σ.limit=β.σ.limit:=by rw [jJ,(j5 _).2.1];exact K1.limit
  refine ⟨?_,?_,?_,?_,?_,?_,?_⟩
  ·rw [hlen,kJ,e,Nat.sub_mul,Nat.one_mul,←hfull,Bu.bg]
  ·rw [kJ,jJ,(j5 _).2.2.2.1];exact K1.size.trans hN.size
  ·rw [e,el];have:=hN.le;omega
  ·rw [el,kJ];exact hN.pages
  ·rw [hbase,el,kJ];exact hN.top
  ·rw [kJ,jJ,(j5 _).2.2.1];exact K1.so.trans hN.so
  ·rw [hbase,kJ];exact hN.al
 ·refine ⟨hbase,kJ,by rw [jJ,(j5 _).2.1];exact K1.limit,?_,fun P S=>?_,fun P S h q h1 h2=>?_⟩
  ·rw [jJ,(j5 _).2.2.2.2.1,K1.n];omega
  ·constructor
   ·rintro (⟨a,k,hk,hb,rfl,rfl⟩ | ⟨i,c,y,hc,⟨p,hp,h4,h⟩,rfl,rfl⟩)
    ·exact .inl ⟨a,k,by rw [←kJ];exact hk,(hblk a k).1 hb,uM a,rfl⟩
    ·exact .inr ⟨i,c,y,hc,⟨p,(hpg (.inr (.inr h4))).1 hp,h4,h⟩,by rw [uM],rfl⟩
   ·rintro (⟨a,k,hk,hb,rfl,rfl⟩ | ⟨i,c,y,hc,⟨p,hp,h4,h⟩,rfl,rfl⟩)
    ·exact .inl ⟨a,k,by rw [kJ];exact hk,(hblk a k).2 hb,(uM a).symm,rfl⟩
    ·exact .inr ⟨i,c,y,hc,⟨p,(hpg (.inr (.inr h4))).2 hp,h4,h⟩,by rw [uM],rfl⟩
  ·rw [hmem];exact K1.kept.bytes I.inv h h1 h2
def Bu.mg (β:Bu):Prop:=0<β.σ.n∧∃ p,β.μ.pages[β.bg]? = some p∧p.kind=0∧p.order=β.μ.order
theorem HS.Bc {β:Bu} {ps:List Int} {F C L:Nat→List Nat} (I:HS β ps F C L):β.mg↔0<β.σ.n∧β.bg∈F β.μ.order:=by
 constructor
 ·rintro ⟨hn,p,hp,hk,ho⟩;obtain ⟨k,_,hx,hk2⟩:=I.inv.Po hp hk;rw [hk2] at ho;have:k=β.μ.order:=by omega
  subst this;exact ⟨hn,hx⟩
 ·rintro ⟨hn,hx⟩;have:=(I.inv.free _ (Nat.le_refl _) _ hx).at_ 0 (fF _);rw [Nat.add_zero] at this;exact ⟨hn,_,this,rfl,rfl⟩
def Bu.bW (β:Bu):Nat→Bu
 | 0=>β
 | m+1=>(β.bW m).dw
theorem xk (β:Bu):∀ m,β.dw.bW m=β.bW (m+1)
 | 0=>rfl
 | m+1=>by
  show (β.dw.bW m).dw=(β.bW (m+1)).dw
  rw [xk β m]
structure BR (β β':Bu) (m:Nat):Prop where
 base:β'.σ.base=β.σ.base
 order:β'.μ.order=β.μ.order
 limit:β'.σ.limit=β.σ.limit
 n:β'.σ.n+m=β.σ.n
 live:∀ P S,Live β' P S↔Live β P S
 byte:∀ P S,Live β P S→∀ q,P≤q→q<P+S→β'.σ.mem q=β.σ.mem q
theorem HS.pops:∀ (N:Nat) {β:Bu} {ps:List Int} {F C L:Nat→List Nat},HS β ps F C L→β.σ.n=N →
  ∃ m F',HS (β.bW m) ps F' C L∧BR β (β.bW m) m∧¬(β.bW m).mg∧∀ i,i<m→(β.bW i).mg∧∃ Fi,HS (β.bW i) ps Fi C L
 | 0,β,ps,F,C,L,I,hn=>⟨0,F,I,⟨rfl,rfl,rfl,rfl,fun _ _=>Iff.rfl,fun _ _ _ _ _ _=>rfl⟩,fun h=>by have:=h.1;simp only [Bu.bW] at this;omega,fun i hi=>by omega⟩
 | N+1,β,ps,F,C,L,I,hn=>by
  by_cases hm:β.mg
  ·obtain ⟨h0,hx⟩:=I.Bc.1 hm;obtain ⟨I1,P1⟩:=I.pop h0 hx;obtain ⟨m,F',I2,T2,N2,A2⟩:=HS.pops N I1 (by have:=P1.n;omega);rw [xk] at I2 T2 N2;refine ⟨m+1,F',I2,⟨T2.base.trans P1.base,T2.order.trans P1.order,T2.limit.trans P1.limit,by have:=T2.n;have:=P1.n;omega,fun P S=>(T2.live P S).trans (P1.live P S),fun P S h q h1 h2=>(T2.byte P S ((P1.live P S).2 h) q h1 h2).trans (P1.byte P S h q h1 h2)⟩,N2,fun i hi=>?_⟩;cases i with
   | zero=>exact ⟨hm,F,I⟩
   | succ i =>
    have:=A2 i (by omega);rw [xk] at this;exact this
  ·exact ⟨0,F,I,⟨rfl,rfl,rfl,by simp only [Bu.bW];omega,fun _ _=>Iff.rfl,fun _ _ _ _ _ _=>rfl⟩,hm,fun i hi=>by omega⟩
end Go.Proofs.YtnjcmcnjgdjbiaaGreatDoor
namespace Go.Proofs.YtnjcmcnjgdjbiaaGreatDoor
open Go.RowKit
theorem BU (b sb mb o:Nat) (y:Nat) (w:World) (c2:w.cell? ⟨b,2,none⟩=some (.int .i64 o)) (c3:w.cell? ⟨b,3,none⟩=some (.pointer (some ⟨sb,0,none⟩))) (c4:w.cell? ⟨b,4,none⟩=some (.pointer (some ⟨mb,0,none⟩)))
  (hr:∀ k,Calls Tryz.prog 284 #[.pointer (some ⟨sb,0,none⟩)] (w.drewN k) fun e w'=>e=.returned (.int .i64 (0:Nat))∧w'=w.drewN k)
  (hmin:min o 64=o) (h2:IntKind.i64.wrap (2^o)=(y:Int)) (_h2':wrap64 (2^o)=(y:Int)) :
  Calls Tryz.prog 254 #[.pointer (some ⟨b,0,none⟩)] w fun e w'=>(∃ v,e=.returned (.tuple #[v,.bool false]))∧∃ k,w'=w.drewN k:=by
 have Vl:=Hd hr;clear hr
 go_enter Tryz.func254,Tryz.ntmps254
 go_wp2_with fail
 go_quiet (first | (go_at_call 284;refine Calls.quiet_of_same (Vl.out _)))
 go_wp2_with fail
 replace c2:(w.drewN nq).cell? ⟨b,2,none⟩=some (.int .i64 o):=c2
 replace c4:(w.drewN nq).cell? ⟨b,4,none⟩=some (.pointer (some ⟨mb,0,none⟩)):=c4
 have hW:=Hd (show ∀ k,∃ m,(w.drewN nq).drewN k=w.drewN m from fun k=>⟨nq+k,World.drewN_drewN ..⟩);clear c3;generalize w.drewN nq=W at *
 go_quiet (fail)
 go_wp2_with fail
 go_ret2
 exact ⟨⟨_,rfl⟩,hW.out _⟩
theorem aJ.Qc {w:World} {K:ay} {β:Bu} (R:aJ w K β) (hn:β.σ.n=0) :
  Calls Tryz.prog 254 #[.pointer (some ⟨K.bb,0,none⟩)] w fun e w'=>(∃ v,e=.returned (.tuple #[v,.bool false]))∧Touch Nothing w w':=by
 obtain ⟨-,-,c2,c3,c4,-⟩:=R.cells;have ho:=R.mp.ok.order;have hp:=fD ho;have hpc:((2:Int)^β.μ.order)=((2^β.μ.order:Nat):Int):=by simp
 refine (BU K.bb K.L.sb K.M.mb β.μ.order (2^β.μ.order) w c2 c3 c4 ?_ (by omega) ?_ ?_).mono ?_
 ·intro k;have h:=(R.sp.aj ((Touch.refl Nothing w).drewN k)).Eo;rw [hn] at h;exact h.mono fun _ _ h=>⟨h.1,h.2.symm⟩
 ·rw [hpc];exact IntWalk.i64_in _ (by omega)
 ·rw [hpc];exact IntWalk.wrap64_in _ ⟨by omega,by omega⟩
 ·rintro e w' ⟨h,k,rfl⟩;exact ⟨h,(Touch.refl Nothing w).drewN k⟩
theorem aJ.M9 {w:World} {K:ay} {β:Bu} (R:aJ w K β) (hn:β.σ.n=0) :
  Calls Tryz.prog 201 #[.pointer (some ⟨K.bb,0,none⟩)] w fun e w'=>e=.returned (.int .i64 9)∧Touch Nothing w w':=by
 have HT:=Hd (R.Qc hn);clear R hn
 go_enter Tryz.func201,Tryz.ntmps201
 go_wp2_with fail
 refine HT.out.mono ?_
 rintro e w1 ⟨⟨v,rfl⟩,T1⟩;have HT1:=Hd T1;clear T1
 go_wp2_with fail
 go_ret
 exact ⟨rfl,HT1.out⟩
theorem aJ.Uk {w:World} {K:ay} {β:Bu} (R:aJ w K β) (hn:0<β.σ.n) (hl:β.μ.pages.length=β.σ.n*2^β.μ.order) {p:Pg} (hp:β.μ.pages[β.bg]? = some p) (hno:¬(p.kind=0∧p.order=β.μ.order)) (hso:β.σ.order=β.μ.order) :
  Calls Tryz.prog 201 #[.pointer (some ⟨K.bb,0,none⟩)] w fun e w'=>e=.returned (.int .i64 9)∧Touch Nothing w w':=by
 have HT:=Hd (R.OE hn hl);have HR:=Hd R;have HP:=Hd hp;have HN:=Hd hno;have HSo:=Hd hso;have hle:2^β.μ.order≤β.μ.pages.length:=by rw [hl];exact Nat.le_mul_of_pos_left _ hn
 clear R hn hl hp hno hso
 go_enter Tryz.func201,Tryz.ntmps201
 go_wp2_with fail
 refine HT.out.mono ?_
 rintro e w1 ⟨rfl,T1⟩;have R1:=HR.out.aj T1;obtain ⟨-,-,c2,-,c4,-⟩:=R1.cells;have HA:=Hd (R1.mp.at_ HP.out);unfold Bu.bg at HA;have HT1:=Hd T1;clear R1 T1
 go_wp2_with fail
 refine HA.out.mono ?_
 rintro e w2 ⟨rfl,T2⟩;obtain ⟨kind,ord,p2,p3,p4,p5,p6,p7,p8,p9,Ze⟩:=p;have HT2:=Hd (T2.alloc (.cells #[.int .i64 kind,.int .i64 ord,.int .i64 p2,.int .i64 p3,.int .i64 p4,.int .i64 p5,.int .i64 p6,.int .u64 p7,.int .u64 p8,.int .u64 p9,.int .u64 Ze] 128));have d2:=(HR.out.aj (HT1.out.trans HT2.out)).cells.2.2.1;have B3:=aC.new w2 #[.int .i64 kind,.int .i64 ord,.int .i64 p2,.int .i64 p3,.int .i64 p4,.int .i64 p5,.int .i64 p6,.int .u64 p7,.int .u64 p8,.int .u64 p9,.int .u64 Ze] 128;have b0:=B3.cell 0;have b1:=B3.cell 1;simp only [List.getElem?_cons_zero,List.getElem?_cons_succ] at b0 b1;clear T2 c2 c4 B3;unfold Pg.val;by_cases hk:kind=0
 ·have ho:¬(ord=(β.μ.order:Int)):=fun h=>HN.out ⟨hk,h⟩
  subst hk
  go_wp2_with fail
  generalize w2.alloc _=w3 at *
  go_quiet (fail)
  go_wp2
  go_ret
  exact ⟨rfl,(HT1.out.trans HT2.out).drewN _⟩
 ·go_wp2_with fail
  generalize w2.alloc _=w3 at *
  go_quiet (fail)
  go_wp2
  go_ret
  exact ⟨rfl,(HT1.out.trans HT2.out).drewN _⟩
theorem aJ.Yd {w:World} {K:ay} {β:Bu} {F:Nat→List Nat} (R:aJ w K β) (I:BInv β F aH) (hn:0<β.σ.n) (hl:β.μ.pages.length=β.σ.n*2^β.μ.order) (hx:β.bg∈F β.μ.order) :
  Calls Tryz.prog 201 #[.pointer (some ⟨K.bb,0,none⟩)] w (Turned w K (β.pulled β.bg) (.int .i64 0)):=by
 have hB:=I.free _ (Nat.le_refl _) _ hx
 have hp:β.μ.pages[β.bg]? = some ⟨0,β.μ.order,0,0,-1,-1,-1,0,0,0,0⟩:=by
  have:=hB.at_ 0 (fF _);rw [Nat.add_zero] at this;exact this
 have hle:=hB.le;have al:=hB.al;have hxl:=(I.lt (Nat.le_refl _) hx).2;have HT:=Hd (R.OE hn hl);have HR:=Hd R;have HP:=Hd hp;have HI:=Hd (And.intro I hx);have HX:=Hd (And.intro hle (And.intro al hxl));have hm:=R.mp.ok.len;clear R hn hl hp hB I hx hle al
 go_enter Tryz.func201,Tryz.ntmps201
 go_wp2_with fail
 refine HT.out.mono ?_
 rintro e w1 ⟨rfl,T1⟩;have R1:=HR.out.aj T1;obtain ⟨-,-,c2,-,c4,-⟩:=R1.cells;rw [show β.μ.pages.length-2^β.μ.order=β.bg from rfl] at *;generalize hxx:β.bg=x at *;have hA:=R1.mp.at_ HP.out;unfold Pg.val at hA;have HA:=Hd hA;have HT1:=Hd T1;clear R1 T1 hA
 go_wp2_with fail
 refine HA.out.mono ?_
 rintro e w2 ⟨rfl,T2⟩;have HT2:=Hd (T2.alloc (.cells #[.int .i64 0,.int .i64 β.μ.order,.int .i64 0,.int .i64 0,.int .i64 (-1),.int .i64 (-1),.int .i64 (-1),.int .u64 (0:Nat),.int .u64 (0:Nat),.int .u64 (0:Nat),.int .u64 (0:Nat)] 128));have d2:=(HR.out.aj (HT1.out.trans HT2.out)).cells.2.2.1;have B3:=aC.new w2 #[.int .i64 0,.int .i64 β.μ.order,.int .i64 0,.int .i64 0,.int .i64 (-1),.int .i64 (-1),.int .i64 (-1),.int .u64 (0:Nat),.int .u64 (0:Nat),.int .u64 (0:Nat),.int .u64 (0:Nat)] 128;have b0:=B3.cell 0;have b1:=B3.cell 1;simp only [List.getElem?_cons_zero,List.getElem?_cons_succ] at b0 b1;clear T2 c2 c4 B3
 go_wp2_with fail
 generalize w2.alloc _=w2' at *
 go_quiet (fail)
 go_wp2_with fail
 have T3:Touch Nothing w (w2'.drewN nq):=(HT1.out.trans HT2.out).drewN nq;have HT3:=Hd T3;have R3:=HR.out.aj T3;have HR3:=Hd R3;generalize w2'.drewN nq=w3 at *;obtain ⟨g,cap,lb,hv,hc,hlb,hcell,hhd⟩:=R3.wE (k:=β.μ.order) (Nat.le_refl _);obtain ⟨-,-,c2,-,c4,c5⟩:=R3.cells;rw [hv] at c5;have hadd:β.addr x+4096≤18446744073709551615:=R3.ok.dZ R3.sp.ok hxl;have jZ:=Hd (fun W (T:Touch Nothing w3 W)=>(R3.aj T).qI x (by omega));have MJ:=Hd (fun W (T:Touch Nothing w3 W)=>aJ.BN (R3.aj T) rfl rfl HI.out.1 rfl (Nat.le_refl _) HI.out.2 hlb hhd);have hkl:(β.μ.order:Int)<(β.heads.length:Int):=by have:=HI.out.1.heads;omega
 have Rx:=World.block_lt_of_cell? _ _ hcell;clear R3 T3 hv hc hlb hhd hadd d2;refine wp_region_still_tail 14 (by kernel_rfl) (by kernel_rfl) ?_
 simp only [List.take_succ_cons,List.take_zero,List.drop_succ_cons,List.drop_zero,World.drew_eq]
 repeat still_step
 still_call ((jZ.out _ ((Touch.refl Nothing w3).drew)).mono fun _ _ h=>⟨h.1,h.2.symm⟩)
 refine wpStill_nil ?_
 go_wp2_with fail
 refine (MJ.out _ ((Touch.refl Nothing w3).drew)).mono ?_
 rintro e w4 ⟨rfl,r4,t4⟩;have HR4:=Hd r4;have eu:=Hd ((Touch.refl Nothing w3).drew.none_.trans t4);have e2:(β.bZ β.μ.order x).μ=β.μ:=jG _ _ _;have d2:=r4.cells.2.2.1;have d4:=r4.cells.2.2.2.2.1;rw [e2] at d2;have wD:=Hd (fun W (T:Touch Nothing w4 W)=>(r4.aj T).mp.D8 x β.μ.order (by rw [e2];exact Nat.le_refl _) (qO HX.out.2.1) (by rw [e2];exact HX.out.1));clear r4 t4 c2 c4 c5 hcell Rx
 go_wp2_with fail
 refine wp_region_still_tail 10 (by kernel_rfl) (by kernel_rfl) ?_
 simp only [List.take_succ_cons,List.take_zero,List.drop_succ_cons,List.drop_zero,World.drew_eq]
 repeat still_step
 refine wpStill_nil ?_
 go_wp2_with fail
 refine (wD.out _ ((Touch.refl Nothing w4).drew)).mono ?_
 rintro e w5 ⟨rfl,r5,t5⟩;have HR5:=Hd r5;have gG:=Hd t5;clear r5 t5
 go_wp2_with fail
 go_ret
 have T5:Touch (·∈K.M.fp) w4 w5:=(Touch.refl Nothing w4).drew.none_.trans (gG.out.mono (fun b _ e=>by simp [aT.fp,e.symm]));have M:=HR4.out.mapped HR5.out T5 rfl (gU _ _ _ _ _);refine ⟨rfl,?_,(HT3.out.none_.trans eu.out).trans (T5.mono (fun b _ hb=>by simp [ay.fp,hb]))⟩;rw [e2] at M;exact M
theorem J6 (l:List Pg):∀ n,(l.take n).flatMap Pg.cells=(l.flatMap Pg.cells).take (n*11):=by
 induction l with
 | nil=>intro n;simp
 | cons p l ih =>
  intro n;cases n with
  | zero=>simp
  | succ n =>
   have hs:=p.size;rw [List.take_succ_cons,List.flatMap_cons,List.flatMap_cons,ih n,List.take_append,List.take_of_length_le (l:=p.cells) (by omega),hs,show (n+1)*11-11=n*11 by omega]
theorem aI.fewer {w w':World} {L:aT} {μ:Mp} {g cap m:Nat} (R:aI w L μ) (hv:L.gv=.slice (some ⟨g,0,none⟩) μ.pages.length cap) (hm:m≤μ.pages.length) (hw:w'=w.setCell ⟨L.mb,1,none⟩ (.slice (some ⟨g,0,none⟩) m cap)) :
  aI w' { L with gv:=.slice (some ⟨g,0,none⟩) m cap } { μ with pages:=μ.pages.take m }:=by
 subst hw;have T:=Touch.cellAt w L.mb 1 (.slice (some ⟨g,0,none⟩) m cap);have hn:=R.apart;have hfp:({ L with gv:=.slice (some ⟨g,0,none⟩) m cap }:aT).fp=L.fp:=by simp only [aT.fp,hv];rfl
 have hrow:=R.pages;rw [hv] at hrow
 have hmb:∀ k,k∈L.gv.ownBlock.toList++L.sv.ownBlock.toList++(L.sets.flatMap fun l=>[l.1,l.2])→¬(k=L.mb):=fun k hk e=>by
  unfold aT.fp at hn;rw [List.nodup_cons] at hn;exact hn.1 (e▸hk)
 refine ⟨R.blk.set 1 _,?_,R.pairs.touch T (fun k hk=>hmb k (by simp [hk])),?_,by rw [hfp];exact hn,⟨R.ok.order,?_,R.ok.pairs,fun p hp=>R.ok.page p (List.mem_of_mem_take hp)⟩⟩
 ·have h2:=Row.shrink hrow hm;have hl:(μ.pages.take m).length=m:=by rw [List.length_take];omega
  show Row _ 128 11 _ (μ.pages.take m).length _
  rw [hl,J6];exact Row.touch h2 T (fun k hk e=>hmb k (by rw [hv];exact List.mem_append.2 (.inl (List.mem_append.2 (.inl (by cases hk;simp [Value.ownBlock]))))) e)
 ·intro i l s hl hs;have hm:=List.mem_of_getElem? hl;refine (R.sets i l s hl hs).touch T (hmb _ ?_) (hmb _ ?_)
  ·simp only [List.mem_append,List.mem_flatMap];exact .inr ⟨l,hm,by simp⟩
  ·simp only [List.mem_append,List.mem_flatMap];exact .inr ⟨l,hm,by simp⟩
 ·show (μ.pages.take m).length≤1024
  rw [List.length_take];have:=R.ok.len;omega
theorem aI.J7 {w:World} {L:aT} {μ:Mp} (R:aI w L μ) (hle:2^μ.order≤μ.pages.length) :
  Calls Tryz.prog 202 #[.pointer (some ⟨L.mb,0,none⟩),.int .i64 1] w fun e w'=>∃ L',e=.returned (.int .i64 0)∧y7 w w' L L' μ μ.shrink:=by
 have hpw:=fD R.ok.order;obtain ⟨g,cap,hv,hcap,hlt⟩:=R.pages.form (by omega);have c1:=R.blk.cell 1;have f1:=R.blk.free 1;simp [hv] at c1;have hlen:=R.ok.len;have Zf:=Hd (fun k=>((R.aj ((Touch.refl Nothing w).drewN k)).Jr).mono fun _ _ h=>(⟨h.1,h.2.symm⟩:_∧_));have HR:=Hd R;have HV:=Hd hv;generalize hy:2^μ.order=y at *;have HY:=Hd hy
 have hq1:(1:Int)≤(μ.pages.length:Int)/(y:Int):=by
  have:1≤μ.pages.length/y:=(Nat.one_le_div_iff (by omega)).2 hle;omega
 have hq2:(μ.pages.length:Int)/(y:Int)≤1024:=by
  have:μ.pages.length/y≤μ.pages.length:=Nat.div_le_self _ _;have h2:((μ.pages.length/y:Nat):Int)≤1024:=by omega
  simpa using h2
 have hsub:(μ.pages.length:Int)-(y:Int)=((μ.pages.length-y:Nat):Int):=by omega
 have hw1:IntKind.i64.wrap (y:Int)=(y:Int):=IntWalk.i64_in _ (by omega);have hw2:IntKind.i64.wrap ((μ.pages.length:Int)-(y:Int))=((μ.pages.length-y:Nat):Int):=by rw [hsub];exact IntWalk.i64_in _ (by omega)
 have hcp:((μ.pages.length-y:Nat):Int)≤cap:=by omega
 clear R hv hy hsub
 go_enter Tryz.func202,Tryz.ntmps202
 go_wp2_with fail
 go_quiet (first | (go_at_call 257;refine Calls.quiet_of_same (Zf.out _)))
 go_wp2_with fail
 have HT1:=Hd ((Touch.refl Nothing w).drewN nq);have HR1:=Hd (HR.out.aj HT1.out)
 replace c1:(w.drewN nq).cell? ⟨L.mb,1,none⟩=some (.slice (some ⟨g,0,none⟩) μ.pages.length cap):=c1
 replace f1:(w.drewN nq).frozen? ⟨L.mb,1,none⟩=false:=f1
 have Wq:=Hd (Zf.out (nq+1));rw [←World.drewN_drewN] at Wq;generalize w.drewN nq=w1 at *;refine wp_region_still_tail 18 (by kernel_rfl) (by kernel_rfl) ?_
 simp only [List.take_succ_cons,List.take_zero,List.drop_succ_cons,List.drop_zero,World.drew_eq]
 repeat still_step
 still_call (Wq.out.mono fun _ _ h=>⟨h.1,h.2⟩)
 repeat still_step
 refine wpStill_nil ?_
 go_wp2_with fail
 have hF:=(HR1.out.fewer (g:=g) (cap:=cap) (m:=μ.pages.length-y) HV.out (Nat.sub_le _ _) rfl).aj ((Touch.refl Nothing _).drew);have HT2:=Hd ((Touch.cellAt w1 L.mb 1 (.slice (some ⟨g,0,none⟩) (μ.pages.length-y) cap)).drew);have HP:=Hd hF.Ij;have HF:=Hd hF;clear hF c1 f1;generalize World.drew (World.setCell w1 _ _)=w2 at *;refine HP.out.mono ?_
 rintro e w3 ⟨L5,rfl,zU⟩;have eX:=Hd zU;clear zU
 go_wp2_with fail
 go_ret
 have hfp:({ L with gv:=.slice (some ⟨g,0,none⟩) (μ.pages.length-y) cap }:aT).fp=L.fp:=by simp only [aT.fp,HV.out];rfl
 have hfr:∀ k∈L5.fp,k∈L.fp∨w.heap.size≤k:=fun k hk=>by
  rcases eX.out.next.fresh k hk with h | h
  ·rw [hfp] at h;exact .inl h
  ·have:=HT2.out.size;have:=HT1.out.size;exact .inr (by omega)
 refine ⟨L5,rfl,?_,eX.out.next.mb,hfr,?_⟩
 ·have:=eX.out.rep;unfold Mp.shrink Mp.paired;rw [HY.out];exact this
 ·refine (HT1.out.none_.trans (HT2.out.mono (fun k _ e=>by rw [e];simp [aT.fp]))).trans (eX.out.touch.mono (fun k _ e=>?_));obtain ⟨l,hl,rfl⟩:=List.mem_map.1 e;simp only [aT.fp,List.mem_cons,List.mem_append,List.mem_flatMap];exact .inr (.inr ⟨l,hl,by simp⟩)
end Go.Proofs.YtnjcmcnjgdjbiaaGreatDoor
namespace Go.Proofs.YtnjcmcnjgdjbiaaGreatDoor
open Go.RowKit Go.MuLone
theorem aJ.G5 {w w':World} {K:ay} {β:Bu} {e:Ending} (R:aJ w K β) (h:β.μ.pages.length≤(β.σ.n-1)*2^β.μ.order) (G:K9 w K.L β.σ e w') :
  e=.returned (.int .i64 0)∧∃ K',aJ w' K' { β with σ:=β.σ.less }∧K.Next w K'∧Touch (·∈K.fp) w w':=by
 obtain ⟨pv,he,hpv,hS,hT⟩:=G;obtain ⟨_,s2,s3⟩:=R.split;have hlt:=R.lt
 have T:Touch (·∈K.L.fp) w w':=hT.mono (fun k _ hk=>by
  rcases hk with hk | hk
  ·simp [bM.fp,hk]
  ·simp [bM.fp,←hk])
 have hf:∀ k∈(⟨K.L.sb,pv,K.L.eD.dropLast⟩:bM).fp,k∈K.L.fp∨w.heap.size≤k:=by
  intro k hk;simp only [bM.fp,List.mem_append,List.mem_cons,Option.mem_toList,hpv] at hk ⊢;rcases hk with (h | h) | h
  ·exact .inl (.inl (.inl h))
  ·exact .inl (.inl (.inr (List.dropLast_subset _ h)))
  ·exact .inl (.inr h)
 obtain ⟨h1,h2,h3⟩:=R.mX T (fun k hk=>(s2 k hk).1);have o:=R.ok;refine ⟨he,{ K with L:=⟨K.L.sb,pv,K.L.eD.dropLast⟩ },⟨h1,h2,h3,hS,R.mp.touch T (fun k hk h=>s3 k h hk),?_,?_⟩,⟨rfl,rfl,rfl,?_⟩,T.mono (fun k _ hk=>by simp [ay.fp,hk])⟩
 ·exact Ad R.apart hS.y9 hf (fun k hk=>hlt k (List.mem_append.2 (.inl hk))) (fun k hk=>hlt k (List.mem_append.2 (.inr (List.mem_append.2 (.inr hk)))))
 ·exact ⟨o.order,o.heads,o.size,o.limit,o.base,o.pages,h,o.head⟩
 ·intro k hk;simp only [ay.fp,List.mem_append] at hk ⊢;rcases hk with h | h | h
  ·exact .inl (.inl h)
  ·rcases hf k h with h | h
   ·exact .inl (.inr (.inl h))
   ·exact .inr h
  ·exact .inl (.inr (.inr h))
structure IU (w:World) (pb:Nat) (K:ay) (β:Bu) (k:Nat) (wr:World):Prop where
 rep:∃ K',bS wr pb K' (β.bW k)∧K.Next w K'∧Touch (·∈K.fp) w wr
theorem bS.J8 {w:World} {pb:Nat} {K:ay} {β:Bu} {ps:List Int} {F C L:Nat→List Nat} (R:bS w pb K β) (m:Nat) (I:HS (β.bW m) ps F C L) (hm:m≤1024) (Z:¬(β.bW m).mg) (A:∀ i,i<m→(β.bW i).mg∧∃ Fi,HS (β.bW i) ps Fi C L) :
  Calls Tryz.prog 145 #[.pointer (some ⟨pb,0,none⟩)] w (Needed w pb K (β.bW m) (.int .i64 m)):=by
 have bG:=Hd (show IU w pb K β 0 w from ⟨K,R,ay.Next.refl _ _,Touch.refl _ _⟩);have HZ:=Hd (And.intro I Z);have HA:=Hd A;clear R I Z A
 go_enter Tryz.func145,Tryz.ntmps145
 go_wp2_with fail
 go_loopw [3] (fun a wr=>∃ k:Nat,k≤m∧a=.int .i64 k∧IU w pb K β k wr) (fun a _=>m-(intOf a).toNat)
 case atStart=>exact ⟨0,Nat.zero_le _,rfl,bG.out⟩
 case round =>
  obtain ⟨k,hk,rfl,hR⟩:=hrel;obtain ⟨K1,P1,N1,T1⟩:=hR.rep;clear hR;have cl:=P1.cells;by_cases hlt:k<m
  ·obtain ⟨hp,Fi,Ii⟩:=HA.out k hlt;obtain ⟨hn,hx⟩:=Ii.Bc.1 hp;have rT:=Hd (P1.bu.Yd Ii.inv hn Ii.nums.full hx);have vP:=Hd P1;have qJ:=Hd N1;have HT1:=Hd T1;have HI:=Hd (And.intro Ii (And.intro hn hx));obtain ⟨c0,c1,c2⟩:=cl;clear P1 N1 T1 Ii hn hx hp;generalize Na:β.bW k=β1 at *;have yD:=Hd Na;clear Na
   go_wp2_with fail
   refine rT.out.mono ?_
   rintro e w1 ⟨rfl,r1,t1⟩;have P2:=vP.out.next t1 (ay.Next.refl _ _) r1;have d1:=P2.cells.2.1
   have hle:2^(β1.pulled β1.bg).μ.order≤(β1.pulled β1.bg).μ.pages.length:=by
    rw [jk,qm,HI.out.1.nums.full];exact Nat.le_mul_of_pos_left _ HI.out.2.1
   have Sk:=Hd (P2.bu.mp.J7 hle);have wG:=Hd P2;have HT2:=Hd t1;clear P2 r1 t1 c0 c1 c2
   go_wp2_with fail
   refine Sk.out.mono ?_
   rintro e w2 ⟨L',rfl,G⟩;have hsl:=vk (β1.pulled β1.bg).μ;rw [jk,qm] at hsl;have hfull:=HI.out.1.nums.full;have hnn:=HI.out.2.1;have hl2:β1.μ.pages.length-2^β1.μ.order=(β1.σ.n-1)*2^β1.μ.order:=by rw [hfull,Nat.sub_mul,Nat.one_mul]
   have hkn:(β1.pulled β1.bg).σ.n=β1.σ.n:=(HI.out.1.inv.pull HI.out.2.2).2.1.n;obtain ⟨K2,r2,n2,t2⟩:=wG.out.bu.grown G (by rw [hsl.2,jk]) (by rw [hsl.1,jk];have:=wG.out.bu.ok.pages;rw [qm,jk] at this;omega) (by rw [hsl.1,jk,hl2,hkn];exact Nat.mul_le_mul_right _ (Nat.sub_le _ _));have P3:=wG.out.next t2 n2 r2;have d0:=P3.cells.1;have HD:=Hd (P3.bu.sp.La (by show 0<(β1.pulled β1.bg).σ.n;omega));have Ry:=Hd P3;have yQ:=Hd n2;have HT3:=Hd t2;have HLe:=Hd (show (β1.pulled β1.bg).μ.shrink.pages.length≤((β1.pulled β1.bg).σ.n-1)*2^(β1.pulled β1.bg).μ.shrink.order by rw [hsl.1,hsl.2,hl2,hkn];exact Nat.le_refl _);clear P3 n2 t2 r2 G hsl hl2 d1 hle
   go_wp2_with fail
   refine HD.out.mono ?_
   rintro e w3 hS;obtain ⟨rfl,K3,r3,n3,t3⟩:=Ry.out.bu.G5 HLe.out hS;have P4:=Ry.out.next t3 n3 r3;have yH:=Hd P4;have xg:=Hd n3;have eu:=Hd t3;clear P4 n3 t3 r3 d0 hS
   go_wp2_with fail
   go_roundw
   case rel =>
    refine ⟨k+1,by omega,by go_num,⟨K3,?_,?_,?_⟩⟩
    ·show bS w3 pb K3 (β.bW k).dw
     rw [yD.out];exact yH.out
    ·have s1:=HT1.out.size;have s2:=HT2.out.size;have s3:=HT3.out.size;exact (qJ.out.trans (K1:=K1) (K2:=K2) ⟨yQ.out.bb,yQ.out.sb,yQ.out.mb,fun i hi=>yQ.out.fresh i hi⟩ (by omega)).trans xg.out (by omega)
    ·have t12:=HT1.out.next qJ.out HT2.out;have t13:=t12.next qJ.out HT3.out;refine t13.next ?_ eu.out;exact qJ.out.trans ⟨yQ.out.bb,yQ.out.sb,yQ.out.mb,yQ.out.fresh⟩ (Nat.le_trans HT1.out.size HT2.out.size)
   case measure=>simp [intOf];omega
  ·obtain rfl:k=m:=by omega
   have hP:Calls Tryz.prog 201 #[.pointer (some ⟨K1.bb,0,none⟩)] wr fun e w'=>e=.returned (.int .i64 9)∧Touch Nothing wr w':=by
    by_cases hn:(β.bW k).σ.n=0
    ·exact P1.bu.M9 hn
    ·have hn':0<(β.bW k).σ.n:=by omega
     have hfull:=HZ.out.1.nums.full;have hge:2^(β.bW k).μ.order≤(β.bW k).μ.pages.length:=by rw [hfull];exact Nat.le_mul_of_pos_left _ hn'
     have p0:=fF (β.bW k).μ.order;have ht:(β.bW k).bg<(β.bW k).μ.pages.length:=by unfold Bu.bg;omega
     exact P1.bu.Uk hn' hfull (List.getElem?_eq_getElem ht) (fun h=>HZ.out.2 ⟨hn',_,List.getElem?_eq_getElem ht,h.1,h.2⟩) HZ.out.1.nums.so
   have HP:=Hd hP;have vP:=Hd P1;have qJ:=Hd N1;have HT1:=Hd T1;obtain ⟨c0,c1,c2⟩:=cl;clear hP P1 N1 T1;generalize Na:β.bW k=β1 at *;have yD:=Hd Na;clear Na
   go_wp2_with fail
   refine HP.out.mono ?_
   rintro e w1 ⟨rfl,T2⟩;have HT2:=Hd T2;clear T2
   go_wp2_with fail
   go_ret
   exact ⟨rfl,K1,vP.out.aj HT2.out,qJ.out,HT1.out.trans HT2.out.none_⟩
theorem ak.J8 {w:World} {hb s pb:Nat} {K:ay} {β β':Bu} {ps:List Int} (R:ak 0 w hb s pb K β ps) (m:Nat) (hσ:β'.σ.base=β.σ.base∧β'.σ.limit=β.σ.limit∧β'.μ.order=β.μ.order)
  (HT:∀ W,bS W pb K β→Calls Tryz.prog 145 #[.pointer (some ⟨pb,0,none⟩)] W (Needed W pb K β' (.int .i64 m))) :
  Calls Tryz.prog 98 #[.pointer (some ⟨hb,0,none⟩)] w (aK w hb s pb K β' ps (.int .i64 m)):=by
 obtain ⟨c0,-,-,-,-,f0⟩:=R.cells;have R1:=R.locked 1;have c5:=R1.cells.2.2.2.1;have fP:=Hd (HT _ R1.sl.po);have HR1:=Hd R1;have HS:=Hd hσ;clear R HT R1 hσ
 go_enter_defers Tryz.func98,Tryz.ntmps98
 go_wp2_with (go_at_call 58;refine (lock_free Tryz.muLib ⟨hb,0,none⟩ _ c0 f0).mono ?_;rintro e w' ⟨rfl,rfl⟩)
 generalize hw1:w.setCell ⟨hb,0,none⟩ (.int .i32 1)=w1 at *;refine fP.out.mono ?_
 rintro e w2 ⟨rfl,K',P2,N2,T2⟩;have HW1:=Hd hw1;have S2:=HR1.out.sl.next T2 N2 P2.bu;have R2:=HR1.out.next (T2.mono (fun b _ hb=>List.mem_cons_of_mem _ hb)) N2 S2 HS.out;have HR2:=Hd R2;have tF:=Hd N2;have HT2:=Hd (show Touch (·∈s::K.fp) w1 w2 from T2.mono (fun b _ hb=>List.mem_cons_of_mem _ hb));have hm:=R2.cells.1;have fm:=R2.cells.2.2.2.2.2;clear hw1 P2 N2 T2 S2 R2 c0 f0 c5
 go_wp2
 refine leaves_cons (f:=59) (args:=#[.pointer (some ⟨hb,0,none⟩)]) (by simp) (by simp [go_sem]) ?_
 refine (unlock_deferred Tryz.muLib ⟨hb,0,none⟩ .returning _ hm fm).mono ?_
 rintro e u' w'' ⟨rfl,rfl,rfl⟩;exact ⟨_,results_tmp rfl _ _ _,ak.unlocked HW1.out.symm HR2.out tF.out HT2.out⟩
theorem HS.trim {β:Bu} {ps:List Int} {F C L:Nat→List Nat} (I:HS β ps F C L) :
  ∃ m β' F',HS β' ps F' C L∧BR β β' m∧¬β'.mg∧(∀ i,i<m→(β.bW i).mg)∧β'=β.bW m∧m≤1024 ∧
   ∀ (w:World) (hb s pb:Nat) (K:ay),ak 0 w hb s pb K β ps→Calls Tryz.prog 98 #[.pointer (some ⟨hb,0,none⟩)] w (aK w hb s pb K β' ps (.int .i64 m)):=by
 obtain ⟨m,F',I',T,N,A⟩:=I.pops β.σ.n rfl
 have hm:m≤1024:=by
  have h1:=T.n;have h2:=I.nums.le;have h3:=I.nums.pages;have h4:β.σ.limit≤β.σ.limit*2^β.μ.order:=Nat.le_mul_of_pos_right _ (fF _);omega
 exact ⟨m,β.bW m,F',I',T,N,fun i hi=>(A i hi).1,rfl,hm,fun w hb s pb K R=>R.J8 m ⟨T.base,T.limit,T.order⟩ (fun W PW=>PW.J8 m I' hm N A)⟩
end Go.Proofs.YtnjcmcnjgdjbiaaGreatDoor
namespace Go.Proofs.YtnjcmcnjgdjbiaaGreatDoor
open Go.RowKit
def fQ (at_ wd:Nat) (p:Pg):Nat→List (Nat × Nat)
 | 0=>[]
 | m+1=>fQ at_ wd p m++(if p.bit m then [(at_+m*wd,wd)] else [])
def jK (at_:Nat) (p:Pg):List (Nat × Nat) :=
 if p.kind=2 then [(at_,4096*2^p.order.toNat)] else if p.kind=4 then fQ at_ (aB p.cls.toNat) p (aR p.cls) else []
def dI (β:Bu):Nat→List (Nat × Nat)
 | 0=>[]
 | m+1=>dI β m++jK (β.addr m) (β.μ.pages.getD m eH)
def nN (b:Nat × Nat):List Value:=[.int .u64 (b.1:Nat),.int .u64 (b.2:Nat)]
theorem vD (at_ wd:Nat) (p:Pg):∀ m,(fQ at_ wd p m).length≤m
 | 0=>Nat.le_refl _
 | m+1=>by
  unfold fQ;rw [List.length_append];have:=vD at_ wd p m;split <;> simp <;> omega
theorem Dm (c:Int):aR c≤256:=Nat.div_le_self _ _
theorem Nb (at_:Nat) (p:Pg):(jK at_ p).length≤256:=by
 unfold jK;split
 ·simp
 ·split
  ·exact Nat.le_trans (vD _ _ _ _) (Dm _)
  ·simp
theorem rY (β:Bu):∀ m,(dI β m).length≤256*m
 | 0=>Nat.le_refl _
 | m+1=>by
  unfold dI;rw [List.length_append];have:=rY β m;have:=Nb (β.addr m) (β.μ.pages.getD m eH);omega
structure Lv (w:World) (l:List (Nat × Nat)) (v:Value) (wr:World):Prop where
 own:wr.ownsRow w.heap.size 71 2 v l.length (l.flatMap nN)
 touch:Touch Nothing w wr
theorem Lv.still {w wr w':World} {l:List (Nat × Nat)} {v:Value} (H:Lv w l v wr) (T:Touch Nothing wr w'):Lv w l v w':=by
 refine ⟨?_,H.touch.trans T⟩;refine ⟨H.own.1,?_⟩;rcases H.own.2 with hn | ⟨g,cap,cur,rfl,hb,hgg,rest⟩
 ·exact .inl hn
 ·refine .inr ⟨g,cap,cur,rfl,hb,?_,rest⟩;rw [T.block g (Array.getElem?_eq_some_iff.1 hgg).1 (fun h=>h)];exact hgg
theorem Lv.push {w wr w1:World} {l:List (Nat × Nat)} {v v':Value} {o:Obj} {P S:Nat} (H:Lv w l v wr) (hown:w1.ownsRow w.heap.size 71 2 v' (l.length+1) (l.flatMap nN++[.int .u64 (P:Nat),.int .u64 (S:Nat)])) (hgrow:(wr.alloc o).grownBy w1 v.ownBlock):Lv w (l++[(P,S)]) v' w1:=by
 refine ⟨by simpa [nN] using hown,?_⟩;have T1:Touch (fun k=>some k=v.ownBlock) (wr.alloc o) w1:=Touch.bT hgrow (fun k hk=>hk.symm);have T0:Touch Nothing w (wr.alloc o):=H.touch.alloc o
 exact T0.trans' T1 (fun i hi e=>by
  have:=(World.ownsRow.lt H.own i e.symm).1;omega)
structure Lx (w:World) (l:List (Nat × Nat)) (v:Value) (X:Nat) (cs:List Value) (wr:World):Prop where
 lv:Lv w l v wr
 blk:aC wr X 128 cs
theorem Lx.push {w wr w1:World} {l:List (Nat × Nat)} {v v':Value} {o:Obj} {P S X:Nat} {cs:List Value} (H:Lx w l v X cs wr) (hown:w1.ownsRow w.heap.size 71 2 v' (l.length+1) (l.flatMap nN++[.int .u64 (P:Nat),.int .u64 (S:Nat)])) (hgrow:(wr.alloc o).grownBy w1 v.ownBlock):Lx w (l++[(P,S)]) v' X cs w1:=by
 refine ⟨H.lv.push hown hgrow,(H.blk.alloc o).touch (Touch.bT (S:=fun k=>some k=v.ownBlock) hgrow (fun k hk=>hk.symm)) (fun e=>?_)⟩;rcases H.lv.own.2 with ⟨hn,_⟩ | ⟨g1,cap,cur,hv,_,h1,_⟩
 ·rw [hn] at e;cases e
 ·rw [hv] at e;simp only [Value.ownBlock,Option.some.injEq] at e;have h2:wr.heap[X]? = _:=H.blk;rw [e,h1] at h2;cases h2
theorem Ws:(Tryz.prog.info? 71).map (fun i=>(i.zero,i.size,i.bytes))=some (some (.agg #[.int .u64 0,.int .u64 0]),2,16):=by kernel_rfl
def Ye (w:World) (l:List (Nat × Nat)) (e:Ending) (w':World):Prop:=∃ v,e=.returned v∧Lv w l v w'
theorem ak.xO {m:Int} {w:World} {hb s pb:Nat} {K:ay} {β:Bu} {ps:List Int} (R:ak m w hb s pb K β ps) :
  Calls Tryz.prog 62 #[.pointer (some ⟨hb,0,none⟩)] w (Ye w (dI β β.μ.pages.length)):=by
 obtain ⟨i0,hi0,hz0,hz1,hz2⟩:=info_parts Ws;have hlen:=R.sl.po.bu.mp.ok.len;have c5:=R.cells.2.2.2.1;have HM:=Hd R.sl.po.jQ;have HR:=Hd R;clear R
 go_enter Tryz.func62,Tryz.ntmps62
 go_wp2_with fail
 refine HM.out.mono ?_
 rintro e w1 ⟨rfl,rfl⟩
 go_wp2_with fail
 go_loopw [3,5] (fun v a wr=>∃ k:Nat,k≤β.μ.pages.length∧a=.int .i64 k∧Lv w (dI β k) v wr) (fun _ a _=>β.μ.pages.length-(intOf a).toNat)
 case atStart=>exact ⟨0,by omega,rfl,World.ownsRow_nil _ _ _ _,Touch.refl _ _⟩
 case round =>
  obtain ⟨k,hk,rfl,hL⟩:=hrel;have zZ:=Hd ((HR.out.aj hL.touch).sl.po.bu.mp.sU);have HL:=Hd hL;clear hL
  go_wp2_with fail
  refine zZ.out.mono ?_
  rintro e w2 ⟨rfl,rfl⟩;by_cases hlt:k<β.μ.pages.length
  ·have hp:β.μ.pages[k]? = some β.μ.pages[k]:=List.getElem?_eq_getElem hlt;generalize β.μ.pages[k]=p at hp;have hok:=HR.out.sl.po.bu.mp.ok.page p (List.mem_of_getElem? hp);have htop:β.σ.base+4096*k+4096≤18446744073709551615:=HR.out.sl.po.bu.ok.dZ HR.out.sl.po.bu.sp.ok hlt;have hat:=(HR.out.aj HL.out.touch).sl.po.bu.mp.at_ hp;have HP:=Hd hp
   have l9:=Hd (show dI β (k+1)=dI β k++jK (β.σ.base+4096*k) p by
    show dI β k++jK (β.addr k) (β.μ.pages.getD k eH)=_
    rw [List.getD_eq_getElem?_getD,hp];rfl)
   have acD:=rY β k;have hk3:k≤1023:=by omega
   have Wt:=Hd hok;have iW:=Hd hat;clear hat hp hok
   go_upto_block 1 with fail
   go_cut [3] (fun v wx=>Lv w (dI β k++jK (β.σ.base+4096*k) p) v wx)
   case first =>
    go_wp2_with fail
    refine iW.out.mono ?_
    rintro e w3 ⟨rfl,T3⟩;have jL:=Hd (HL.out.still T3);have d2:=(HR.out.aj jL.out.touch).cells.2.1;have pK:=(HR.out.aj jL.out.touch).blk.lt;clear T3;unfold Pg.val
    go_upto_block 2 with fail
    have T4:=(Touch.refl Nothing w3).alloc (.cells #[.int .i64 p.kind,.int .i64 p.order,.int .i64 p.cls,.int .i64 p.live,.int .i64 p.next,.int .i64 p.prev,.int .i64 p.first,.int .u64 p.b0,.int .u64 p.b1,.int .u64 p.b2,.int .u64 p.b3] 128);have B4:=aC.new w3 #[.int .i64 p.kind,.int .i64 p.order,.int .i64 p.cls,.int .i64 p.live,.int .i64 p.next,.int .i64 p.prev,.int .i64 p.first,.int .u64 p.b0,.int .u64 p.b1,.int .u64 p.b2,.int .u64 p.b3] 128;have FR:=Hd (show Lx w (dI β k) u3 w3.heap.size p.cells _ from ⟨jL.out.still T4,B4⟩);generalize hX:w3.heap.size=X at *;generalize w3.alloc (.cells #[.int .i64 p.kind,.int .i64 p.order,.int .i64 p.cls,.int .i64 p.live,.int .i64 p.next,.int .i64 p.prev,.int .i64 p.first,.int .u64 p.b0,.int .u64 p.b1,.int .u64 p.b2,.int .u64 p.b3] 128)=w4 at *;clear T4 B4 hX d2;have hok:=Wt.out;obtain ⟨o,ho⟩:=Int.eq_ofNat_of_zero_le hok.order.1;have qG:o≤8:=by have:=hok.order.2;omega
    obtain ⟨c,hc⟩:=Int.eq_ofNat_of_zero_le hok.cls.1;have hc8:c<8:=by have:=hok.cls.2;omega
    have hsz:w.heap.size≤w4.heap.size:=FR.out.lv.touch.size;by_cases h2:p.kind=2
    ·have rT:=Hd (show jK (β.σ.base+4096*k) p = [(β.σ.base+4096*k,4096*2^o)] by
      unfold jK;rw [if_pos h2,ho];rfl)
     have hws:=oK qG;have hmin:min o 64=o:=by omega
     have Fu:=fD qG;have x1:w4.cell? ⟨X,1,none⟩=some (.int .i64 (o:Int)):=by rw [←ho];exact FR.out.blk.cell 1
     have e2:(p.kind == 2)=true:=by rw [h2];rfl
     have qR:=Hd (fJ (aC.new w4 #[.int .u64 ((β.σ.base:Int)+(k:Int)*4096),.int .u64 (4096*2^o)] 71));clear hok ho hc h2
     go_wp2_with (at_builtin;refine wpList_append_own _ rfl _ _ 66 rfl w.heap.size 71 i0 _ 2 16 Tryz.underlying66 hi0 hz0 hz1 hz2 rfl (by decide) _ _ _ rfl (FR.out.lv.own.alloc _) ⟨w4.heap.size,0,none⟩ 1 1 [.int .u64 ((β.σ.base:Int)+(k:Int)*4096),.int .u64 (4096*2^o)] rfl rfl qR.out (by simp [Value.oneCell']) (by unfold maxLen;omega) (by omega) (by simp;omega) ?_;intro v' w5 hown hgrow _)
     have HO:=Hd hown;have HG:=Hd hgrow;clear hown hgrow
     go_wp2_with fail
     go_meet
     have ho:=HO.out;rw [show ((β.σ.base:Int)+(k:Int)*4096)=((β.σ.base+4096*k:Nat):Int) by omega,show ((4096:Int)*2^o)=((4096*2^o:Nat):Int) by simp] at ho;rw [rT.out];exact FR.out.lv.push ho HG.out
    ·have e2:(p.kind == 2)=false:=by rw [beq_eq_false_iff_ne];exact h2
     by_cases h4:p.kind=4
     ·have e4:(p.kind == 4)=true:=by rw [h4];rfl
      obtain ⟨u1,u2,u3',u4',u5',Zg⟩:=dK hc8
      have rT:=Hd (show jK (β.σ.base+4096*k) p=fQ (β.σ.base+4096*k) (aB c) p (aR c) by
       unfold jK;rw [if_neg (by omega),if_pos h4,hc];rfl)
      have hws:IntKind.u64.wrap (16*2^c)=(aB c:Int):=by
       have:(16*2^c:Int)=((aB c:Nat):Int):=by unfold aB;push_cast;rfl
       rw [this];exact IntWalk.u64_in _ (by omega)
      have hmin:min c 64=c:=by omega
      have hdv:(4096:Int)/(aB c:Int)=(aR c:Int):=by rw [←Zg];exact (Int.natCast_ediv 4096 (aB c)).symm
      have hw0:¬(aB c:Int)=0:=by omega
      have HW:=Hd (fun q (h:q<4)=>hok.word_lt q h);have HIn:=Hd (fun j (h:j<aR c)=>dO hc8 h);have acE:aR c≤256:=Dm _;have x2:w4.cell? ⟨X,2,none⟩=some (.int .i64 (c:Int)):=by rw [←show p.cls=(c:Int) from hc];exact FR.out.blk.cell 2
      clear hok ho hc h4 h2 u3' u4' u5' Zg;generalize hwd:aB c=wd at *;generalize hcn:aR c=n at *
      go_wp2_with fail
      go_loopw [3,58] (fun v a wr=>∃ j:Nat,j≤n∧a=.int .u64 j∧Lx w (dI β k++fQ (β.σ.base+4096*k) wd p j) v X p.cells wr) (fun _ a _=>n-(intOf a).toNat)
      case atStart=>exact ⟨0,by omega,rfl,by rw [show fQ (β.σ.base+4096*k) wd p 0 = [] from rfl,List.append_nil];exact FR.out⟩
      case round =>
       obtain ⟨j,hj,rfl,hL⟩:=hrel;have IV:=Hd hL;clear hL;have hkn:dI β k++fQ (β.σ.base+4096*k) wd p j=dI β k++fQ (β.σ.base+4096*k) wd p j:=rfl;have hcl:=vD (β.σ.base+4096*k) wd p j;have hll:(dI β k++fQ (β.σ.base+4096*k) wd p j).length≤256*k+j:=by rw [List.length_append];omega
       by_cases hjn:j<n
       ·obtain ⟨q,hq⟩:∃ q,q=j/64:=⟨_,rfl⟩;obtain ⟨r,hr⟩:∃ r,r=j%64:=⟨_,rfl⟩;have hq4:q<4:=by omega
        have r1:(j:Int)/64=(q:Int):=by omega
        have r2:(j:Int)%64=(r:Int):=by omega
        have r3:(j:Int).tmod 64=(r:Int):=by rw [Int.tmod_eq_emod_of_nonneg (by omega)];exact r2
        have hqi:(q:Int)<4:=by omega
        have acW:r<64:=by omega
        have xw:wr.cell? ⟨X,7+q,none⟩=some (.int .u64 (p.word q:Nat)):=(IV.out.blk.cell (7+q)).trans (Pg.mU p q hq4);have hbt:=uG (p.word q) r (HW.out q hq4);have pE:=Hd (show p.bit j=(p.word q).testBit r by unfold Pg.bit;rw [←hq,←hr]);have hin:=HIn.out j hjn;obtain ⟨d,hd⟩:∃ d,d=j*wd:=⟨_,rfl⟩;have hdi:(j:Int)*(wd:Int)=(d:Int):=by rw [hd];simp
        rw [←hd] at hin;have HD:=Hd hd;have acX:w.heap.size≤wr.heap.size:=IV.out.lv.touch.size;clear hd hq hr hkn hcl;generalize p.word q=xx at *;cases hb:xx.testBit r with
        | false =>
         rw [hb] at hbt
         have HE:=Hd (show fQ (β.σ.base+4096*k) wd p (j+1)=fQ (β.σ.base+4096*k) wd p j by
          show fQ _ _ _ j++_=_
          rw [pE.out,hb];simp)
         clear hb
         go_wp2_with fail
         go_roundw
         case rel=>exact ⟨j+1,by omega,by go_num,by rw [HE.out];exact IV.out⟩
         case measure=>simp [intOf];omega
        | true =>
         rw [hb] at hbt
         have HE:=Hd (show fQ (β.σ.base+4096*k) wd p (j+1)=fQ (β.σ.base+4096*k) wd p j++[(β.σ.base+4096*k+d,wd)] by
          show fQ _ _ _ j++_=_
          rw [pE.out,hb,HD.out];simp)
         have qR:=Hd (fJ (aC.new wr #[.int .u64 ((β.σ.base:Int)+(k:Int)*4096+(d:Int)),.int .u64 (wd:Int)] 71));clear hb
         go_wp2_with (at_builtin;refine wpList_append_own _ rfl _ _ 66 rfl w.heap.size 71 i0 _ 2 16 Tryz.underlying66 hi0 hz0 hz1 hz2 rfl (by decide) _ _ _ rfl (IV.out.lv.own.alloc _) ⟨wr.heap.size,0,none⟩ 1 1 [.int .u64 ((β.σ.base:Int)+(k:Int)*4096+(d:Int)),.int .u64 (wd:Int)] rfl rfl qR.out (by simp [Value.oneCell']) (by unfold maxLen;omega) (by omega) (by simp;omega) ?_;intro v' w5 hown hgrow _)
         have HO:=Hd hown;have HG:=Hd hgrow;clear hown hgrow
         go_wp2_with fail
         go_roundw
         case rel =>
          have ho:=HO.out;rw [show ((β.σ.base:Int)+(k:Int)*4096+(d:Int))=((β.σ.base+4096*k+d:Nat):Int) by omega] at ho;refine ⟨_,_,_,⟨j+1,by omega,rfl,?_⟩,rfl,rfl,by go_num⟩;rw [HE.out,←List.append_assoc];exact IV.out.push ho HG.out
         case measure=>simp [intOf];omega
       ·obtain rfl:j=n:=by omega
        go_wp2_with fail
        go_meet
        rw [rT.out];exact IV.out.lv
     ·have e4:(p.kind == 4)=false:=by rw [beq_eq_false_iff_ne];exact h4
      have rT:=Hd (show jK (β.σ.base+4096*k) p = [] by
       unfold jK;rw [if_neg h2,if_neg h4])
      clear hok ho hc h4 h2
      go_wp2_with fail
      go_meet
      rw [rT.out,List.append_nil];exact FR.out.lv
   case rest =>
    have HC:=Hd hcut;clear hcut
    go_wp2_with fail
    go_roundw
    case rel=>exact ⟨k+1,by omega,rfl,by rw [l9.out];exact HC.out⟩
    case measure=>simp [intOf];omega
  ·obtain rfl:k=β.μ.pages.length:=by omega
   go_wp2_with fail
   go_ret
   exact ⟨_,rfl,HL.out⟩
end Go.Proofs.YtnjcmcnjgdjbiaaGreatDoor
