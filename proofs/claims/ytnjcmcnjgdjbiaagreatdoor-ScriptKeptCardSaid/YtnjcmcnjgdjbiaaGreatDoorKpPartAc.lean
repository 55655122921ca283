/- The walks of package bits: IsPower, Log, Ceil of uint64. Conditions: as each theorem states. -/
import Derived.Test.YtnjcmcnjgdjbiaaGreatDoorKpPartAa
import Derived.Laws.StructEq
import Derived.ChangeKeysEq
set_option maxRecDepth 100000
set_option maxHeartbeats 1000000
namespace Go.Proofs.YtnjcmcnjgdjbiaaGreatDoor
open Go.RowKit
theorem yY (n:Nat):(((n:Nat):Int) == 0)=(n == 0):=by
 rw [Bool.eq_iff_iff];simp
def jc (x:Nat):Bool:=x != 0 && (x &&& (x-1)) == 0
theorem iD (x:Nat) (w:World) (h:x<18446744073709551616) :
  Calls Tryz.prog 185 #[.int .u64 x] w fun e w'=>e=.returned (.bool (jc x))∧w=w':=by
 by_cases h0:x=0
 ·subst h0
  go_enter Tryz.func185,Tryz.ntmps185
  go_wp2
  go_ret
  exact ⟨rfl,rfl⟩
 ·have hs:IntKind.u64.wrap ((x:Int)-1)=((x-1:Nat):Int):=by
   rw [show (x:Int)-1=((x-1:Nat):Int) from by omega];exact IntWalk.u64_in _ (by omega)
  have hb:bits .and .u64 (x:Int) ((x:Int)-1)=((x &&& (x-1):Nat):Int):=by
   rw [show (x:Int)-1=((x-1:Nat):Int) from by omega];exact bits_and_u64_nat x (x-1) h (by omega)
  have hp:jc x=((x &&& (x-1)) == 0):=by simp [jc,h0]
  have HP:=Hd hp;clear hp hs;have h0':((x:Int) != 0)=true:=by rw [bne_iff_ne];omega
  go_enter Tryz.func185,Tryz.ntmps185
  go_wp2
  go_ret
  refine ⟨congrArg Ending.returned (congrArg Value.bool ?_),rfl⟩;rw [HP.out];exact yY _
theorem Bw:∀ (f x:Nat),x<2^f→x<2^Lib.bitLenAux f x∧(x≠0→2^(Lib.bitLenAux f x-1)≤x)∧Lib.bitLenAux f x≤f:=by
 intro f
 induction f with
 | zero =>
  intro x h;have:x=0:=by simpa using h
  subst this;simp [Lib.bitLenAux]
 | succ f ih =>
  intro x h;unfold Lib.bitLenAux;by_cases h0:x=0
  ·simp [h0]
  ·rw [if_neg h0]
   have hx:x/2<2^f:=by
    rw [Nat.pow_succ] at h;omega
   obtain ⟨a,b,c⟩:=ih (x/2) hx;refine ⟨?_,fun _=>?_,by omega⟩
   ·rw [Nat.add_comm,Nat.pow_succ];omega
   ·by_cases h2:x/2=0
    ·have:x=1:=by omega
     subst this
     have e:Lib.bitLenAux f (1/2)=0:=by
      cases f <;> simp [Lib.bitLenAux]
     rw [e];simp
    ·have b':=b h2
     have hpos:1≤Lib.bitLenAux f (x/2):=by
      cases hz:Lib.bitLenAux f (x/2) with
      | zero=>rw [hz] at a;simp at a;omega
      | succ n=>omega
     have e:1+Lib.bitLenAux f (x/2)-1=(Lib.bitLenAux f (x/2)-1)+1:=by omega
     rw [e,Nat.pow_succ];omega
theorem kE (x:Nat) (h:x<18446744073709551616):x<2^Lib.bitLen x∧(x≠0→2^(Lib.bitLen x-1)≤x)∧Lib.bitLen x≤64 :=
 Bw 64 x h
theorem Ov (x:Nat) (w:World) (h:x<18446744073709551616) :
  Calls Tryz.prog 190 #[.int .u64 x] w fun e w'=>e=.returned (.int .i64 ((Lib.bitLen x:Int)-1))∧w=w':=by
 have hl:=(kE x h).2.2;have hc:=Hd (fun w=>Tryz.bits_Len64 (x:Int) w (by omega) (by omega));rw [Int.toNat_natCast] at hc
 go_enter Tryz.func190,Tryz.ntmps190
 go_wp2_with fail
 refine (hc.out _).mono ?_
 rintro e w' ⟨rfl,rfl⟩
 go_wp2
 go_ret
 exact ⟨rfl,rfl⟩
def kL (x:Nat):Nat:=if x≤1 then 1 else if Lib.bitLen (x-1)=64 then 0 else 2^Lib.bitLen (x-1)
theorem Tw (n:Nat) (h:n≤64):IntKind.u64.wrap (2^n)=((if n=64 then 0 else 2^n:Nat):Int):=by
 by_cases h1:n=64
 ·subst h1;rfl
 ·rw [if_neg h1];have h2:2^n≤2^63:=Nat.pow_le_pow_right (by omega) (by omega);have e:(2^n:Int)=((2^n:Nat):Int):=by simp
  rw [e];generalize 2^n=y at *;exact IntWalk.u64_in _ (by omega)
theorem XE (x:Nat) (w:World) (h:x<18446744073709551616) :
  Calls Tryz.prog 186 #[.int .u64 x] w fun e w'=>e=.returned (.tuple #[.int .u64 (kL x:Nat),.bool (kL x != 0)])∧w=w':=by
 by_cases h0:x≤1
 ·have e:kL x=1:=by simp [kL,h0]
  rw [e]
  go_enter Tryz.func186,Tryz.ntmps186
  go_wp2
  go_ret2
  exact ⟨rfl,rfl⟩
 ·have hx:((x:Int)-1)=((x-1:Nat):Int):=by omega
  have hc:=Ov (x-1) w (by omega);rw [←hx] at hc;have hs:=Tw (Lib.bitLen (x-1)) (kE (x-1) (by omega)).2.2;have hl:=(kE (x-1) (by omega)).2.2;have e:kL x=if Lib.bitLen (x-1)=64 then 0 else 2^Lib.bitLen (x-1):=by simp [kL,h0]
  rw [←e] at hs;have HC:=Hd hc;clear hc e hx;generalize Lib.bitLen (x-1)=n at *
  go_enter Tryz.func186,Tryz.ntmps186
  go_wp2_with fail
  refine HC.out.mono ?_
  rintro e w' ⟨rfl,rfl⟩;have HS:=Hd hs;clear hs
  go_wp2
  go_ret2
  rw [HS.out];refine ⟨?_,rfl⟩
  have e:(((kL x:Nat):Int) != 0)=(kL x != 0):=by
   rw [Bool.eq_iff_iff];simp
  rw [←e];rfl
def gQ (ws:List Nat):List Value:=ws.map fun (x:Nat)=>Value.int .u64 x
structure gT where
 n:Nat
 ws:List Nat
structure gT.ok (s:gT):Prop where
 len:s.ws.length=(s.n+63)/64
 top:s.n≤1048576
 word:∀ x∈s.ws,x<18446744073709551616
structure gL (w:World) (l:Nat × Nat) (s:gT):Prop where
 blk:aC w l.1 308 [.int .i64 (s.n:Nat),.slice (some ⟨l.2,0,none⟩) s.ws.length s.ws.length]
 words:aC w l.2 33 (gQ s.ws)
 ne:l.1≠l.2
 ok:s.ok
theorem gL.touch {w w':World} {l:Nat × Nat} {s:gT} {S:Nat→Prop} (R:gL w l s) (T:Touch S w w') (h1:¬S l.1) (h2:¬S l.2):gL w' l s :=
 ⟨R.blk.touch T h1,R.words.touch T h2,R.ne,R.ok⟩
theorem uE (ws:List Nat) (i:Nat) (h:i<ws.length):(gQ ws)[i]? = some (.int .u64 (ws.getD i 0:Nat)):=by
 simp [gQ,List.getElem?_map,List.getElem?_eq_getElem h]
theorem gT.ok.get {s:gT} (o:s.ok) (i:Nat):s.ws.getD i 0<18446744073709551616:=by
 rw [List.getD_eq_getElem?_getD];by_cases h:i<s.ws.length
 ·rw [List.getElem?_eq_getElem h];exact o.word _ (List.getElem_mem h)
 ·rw [List.getElem?_eq_none (by omega)];simp
theorem aac (n:Nat) (w:World) (h:n≤1048576) :
  Calls Tryz.prog 235 #[.int .i64 n] w fun e w'=>e=.returned (.tuple #[.int .i64 n,.int .i64 (((n+63)/64:Nat):Int)])∧w=w':=by
 go_enter Tryz.func235,Tryz.ntmps235
 go_wp2
 go_ret2
 have e:max (0:Int) (min (n:Int) 1048576)=n:=by omega
 rw [e];refine ⟨?_,rfl⟩;simp
theorem gL.U7 {w:World} {l:Nat × Nat} {s:gT} (R:gL w l s) (i:Nat) (h:i<s.n) :
  Calls Tryz.prog 294 #[.pointer (some ⟨l.1,0,none⟩),.int .i64 i] w fun e w'=>e=.returned (.bool true)∧w=w':=by
 have c0:=R.blk.cell 0;simp at c0;clear R
 go_enter Tryz.func294,Tryz.ntmps294
 go_wp2
 go_ret
 exact ⟨rfl,rfl⟩
theorem zN (i:Nat):2^(i%64)<18446744073709551616:=by
 have:i%64≤63:=by omega
 have h:2^(i%64)≤2^63:=Nat.pow_le_pow_right (by omega) this;omega
def eZ (ws:List Nat) (i:Nat):Bool:=(ws.getD (i/64) 0).testBit (i%64)
theorem rD (n:Nat):(((n:Nat):Int) == 1)=(n == 1):=by
 rw [Bool.eq_iff_iff];simp;omega
theorem yE (x k:Nat) (hx:x<18446744073709551616):bits .and .u64 ((x:Int)/2^k) 1=((x/2^k%2:Nat):Int):=by
 have h:x/2^k≤x:=Nat.div_le_self _ _;have e:((x:Int)/2^k)=((x/2^k:Nat):Int):=by simp
 rw [e,show (1:Int)=((1:Nat):Int) from rfl,bits_and_u64_nat _ _ (by omega) (by omega),Nat.and_one_is_mod]
theorem gL.El {w:World} {l:Nat × Nat} {s:gT} (R:gL w l s) (i:Nat) (h:i<s.n) :
  Calls Tryz.prog 295 #[.pointer (some ⟨l.1,0,none⟩),.int .i64 i] w fun e w'=>e=.returned (.bool (eZ s.ws i))∧w=w':=by
 have hh:=Hd (R.U7 i h);have c1:=R.blk.cell 1;have hl:=R.ok.len;have hi:i/64<s.ws.length:=by omega
 have cw:=R.words.cell (i/64);rw [uE _ _ hi] at cw;simp at c1;have hx:=R.ok.get (i/64);have htop:=R.ok.top
 have hb:eZ s.ws i=((s.ws.getD (i/64) 0/2^(i%64))%2 == 1):=by
  unfold eZ;rw [Nat.testBit_eq_decide_div_mod_eq];rfl
 have HB:=Hd hb;clear hb R hl;generalize s.ws.getD (i/64) 0=x at *;have hi':(0:Int)≤(i:Int)/64:=by omega
 have hi2:(i:Int)/64<(s.ws.length:Int):=by omega
 go_enter Tryz.func295,Tryz.ntmps295
 go_wp2_with fail
 refine hh.out.mono ?_
 rintro e w' ⟨rfl,rfl⟩
 go_wp2
 go_ret
 refine ⟨congrArg Ending.returned (congrArg Value.bool ?_),rfl⟩;rw [HB.out,yE x (i%64) hx];exact rD _
def rE (ws:List Nat) (i:Nat):List Nat:=ws.set (i/64) (ws.getD (i/64) 0 ^^^ 2^(i%64))
theorem zO (ws:List Nat) (i j:Nat) (hi:i/64<ws.length):eZ (rE ws i) j=(eZ ws j != decide (j=i)):=by
 unfold eZ rE;rw [List.getD_eq_getElem?_getD,List.getElem?_set];by_cases h:i/64=j/64
 ·rw [if_pos h,if_pos hi];simp only [Option.getD_some];rw [Nat.testBit_xor,Nat.testBit_two_pow,←h]
  have:decide (i%64=j%64)=decide (j=i):=by
   rw [decide_eq_decide];omega
  rw [this]
 ·rw [if_neg h]
  have:decide (j=i)=false:=by
   rw [decide_eq_false_iff_not];rintro rfl;exact h rfl
  rw [this,List.getD_eq_getElem?_getD];generalize (ws[j/64]?.getD 0).testBit (j%64)=a;cases a <;> rfl
def gT.flip (s:gT) (i:Nat):gT:={ s with ws:=rE s.ws i }
theorem gT.ok.flip {s:gT} (o:s.ok) (i:Nat):(s.flip i).ok:=by
 refine ⟨by simp [gT.flip,rE,o.len],o.top,?_⟩;intro x hx;simp only [gT.flip,rE] at hx;rcases List.mem_or_eq_of_mem_set hx with h | h
 ·exact o.word x h
 ·rw [h];exact Nat.xor_lt_two_pow (n:=64) (o.get _) (zN i)
theorem Eu (ws:List Nat) (i v:Nat):(gQ ws).set i (.int .u64 v)=gQ (ws.set i v):=by
 simp [gQ,List.map_set]
theorem Jo (b wb i n k q r x y z:Nat) (w:World)
  (hh:Calls Tryz.prog 294 #[.pointer (some ⟨b,0,none⟩),.int .i64 i] w fun e w'=>e=.returned (.bool true)∧w=w')
  (c1:w.cell? ⟨b,1,none⟩=some (.slice (some ⟨wb,0,none⟩) k k)) (cw:w.cell? ⟨wb,q,none⟩=some (.int .u64 x)) (fw:w.frozen? ⟨wb,q,none⟩=false)
  (hq:IntKind.i64.wrap ((i:Int)/64)=q) (hr:(i:Int).tmod 64=r) (hqk:q<k)
  (hs:IntKind.u64.wrap (2^min r 64)=y) (hx:bits .xor .u64 (x:Int) (y:Int)=z) (_hn:i<n) :
  Calls Tryz.prog 292 #[.pointer (some ⟨b,0,none⟩),.int .i64 i] w fun e w'=>e=.returned (.bool true)∧w'=(w.setCell ⟨wb,q,none⟩ (.int .u64 z)).drew:=by
 have HH:=Hd hh;clear hh
 go_enter Tryz.func292,Tryz.ntmps292
 go_wp2_with fail
 refine HH.out.mono ?_
 rintro e w' ⟨rfl,rfl⟩
 go_wp2_with fail
 refine wp_region_still_tail 13 (by kernel_rfl) (by kernel_rfl) ?_
 simp only [List.take_succ_cons,List.take_zero,List.drop_succ_cons,List.drop_zero,World.drew_eq]
 repeat still_step
 refine wpStill_nil ?_
 go_wp2_with fail
 go_ret
 exact ⟨rfl,rfl⟩
theorem uF (i:Nat):IntKind.u64.wrap (2^min (i%64) 64)=((2^(i%64):Nat):Int):=by
 have hp:=zN i;rw [show min (i%64) 64=i%64 from by omega];have e:(2^(i%64):Int)=((2^(i%64):Nat):Int):=by simp
 rw [e];generalize 2^(i%64)=y at *;exact IntWalk.u64_in _ (by omega)
theorem Lj (i:Nat) (h:i≤1048576):IntKind.i64.wrap ((i:Int)/64)=((i/64:Nat):Int):=by
 rw [show ((i:Int)/64)=((i/64:Nat):Int) from by omega];exact IntWalk.i64_in _ (by omega)
theorem zP (i:Nat):(i:Int).tmod 64=((i%64:Nat):Int):=(Int.ofNat_tmod i 64).symm
theorem gL.Jp {w:World} {l:Nat × Nat} {s:gT} (R:gL w l s) (i:Nat) (h:i<s.n) :
  Calls Tryz.prog 292 #[.pointer (some ⟨l.1,0,none⟩),.int .i64 i] w fun e w'=>e=.returned (.bool true)∧gL w' l (s.flip i)∧Touch (fun k=>k=l.2) w w':=by
 have hl:=R.ok.len;have htop:=R.ok.top;have hi:i/64<s.ws.length:=by omega
 have cw:=R.words.cell (i/64);rw [uE _ _ hi] at cw
 refine (Jo l.1 l.2 i s.n s.ws.length (i/64) (i%64) (s.ws.getD (i/64) 0) (2^(i%64)) (s.ws.getD (i/64) 0 ^^^ 2^(i%64)) w (R.U7 i h) (R.blk.cell 1) cw (R.words.free _)
  (Lj i (by omega)) (zP i) hi (uF i) (u64_xor_nat _ _ (R.ok.get _) (zN i)) h).mono ?_
 rintro e w' ⟨he,rfl⟩;have T:Touch (fun k=>k=l.2) w (w.setCell ⟨l.2,i/64,none⟩ (.int .u64 (s.ws.getD (i/64) 0 ^^^ 2^(i%64):Nat))).drew:=(Touch.cellAt _ _ _ _).drew;refine ⟨he,⟨?_,?_,R.ne,R.ok.flip i⟩,T⟩
 ·have:=R.blk.touch T R.ne;simpa [gT.flip,rE] using this
 ·have:=(R.words.set (i/64) (.int .u64 (s.ws.getD (i/64) 0 ^^^ 2^(i%64):Nat))).drew;rw [Eu] at this;exact this
def sJ (n:Nat) (ws:List Nat):List Nat:=if n%64=0 then ws else ws.set (ws.length-1) (ws.getD (ws.length-1) 0 &&& (2^(n%64)-1))
theorem Ll (b wb n k m r x y z:Nat) (w:World)
  (c0:w.cell? ⟨b,0,none⟩=some (.int .i64 n)) (c1:w.cell? ⟨b,1,none⟩=some (.slice (some ⟨wb,0,none⟩) m m)) (cw:w.cell? ⟨wb,k,none⟩=some (.int .u64 x)) (fw:w.frozen? ⟨wb,k,none⟩=false) (hkm:k<m) (hwk:IntKind.i64.wrap ((m:Int)-1)=k)
  (hr:(n:Int).tmod 64=r) (hr0:((r:Int) != 0)=true)
  (hs:IntKind.u64.wrap (IntKind.u64.wrap (2^min r 64)-1)=y) (hx:bits .and .u64 (x:Int) (y:Int)=z) :
  Calls Tryz.prog 236 #[.pointer (some ⟨b,0,none⟩)] w fun e w'=>e=.returned (.tuple #[])∧w'=(w.setCell ⟨wb,k,none⟩ (.int .u64 z)).drew:=by
 have hr':((n:Int).tmod 64 != 0)=true:=by rw [hr];exact hr0
 go_enter Tryz.func236,Tryz.ntmps236
 go_wp2_with fail
 refine wp_region_still_tail 21 (by kernel_rfl) (by kernel_rfl) ?_
 simp only [List.take_succ_cons,List.take_zero,List.drop_succ_cons,List.drop_zero,World.drew_eq]
 repeat still_step
 refine wpStill_nil ?_
 go_wp2_with fail
 go_end0
 exact ⟨rfl,rfl⟩
theorem Ow (b n:Nat) (w:World) (c0:w.cell? ⟨b,0,none⟩=some (.int .i64 n)) (h:n%64=0) :
  Calls Tryz.prog 236 #[.pointer (some ⟨b,0,none⟩)] w fun e w'=>e=.returned (.tuple #[])∧w'=w:=by
 have hr:(n:Int).tmod 64=((0:Nat):Int):=by rw [zP,h]
 have hr2:(n:Int)%64=0:=by omega
 go_enter Tryz.func236,Tryz.ntmps236
 go_wp2
 go_end0
 exact ⟨rfl,rfl⟩
structure Words (ws:List Nat) (n:Nat):Prop where
 len:ws.length=(n+63)/64
 top:n≤1048576
 word:∀ x∈ws,x<18446744073709551616
theorem Words.get {ws:List Nat} {n:Nat} (o:Words ws n) (i:Nat):ws.getD i 0<18446744073709551616:=gT.ok.get (s:=⟨n,ws⟩) ⟨o.len,o.top,o.word⟩ i
theorem Words.cut {ws:List Nat} {n:Nat} (o:Words ws n):Words (sJ n ws) n:=by
 unfold sJ;split
 ·exact o
 ·refine ⟨by simp [o.len],o.top,?_⟩;intro x hx;rcases List.mem_or_eq_of_mem_set hx with h | h
  ·exact o.word x h
  ·rw [h];exact Nat.lt_of_le_of_lt Nat.and_le_left (o.get _)
theorem Jq (b wb n:Nat) (ws:List Nat) (w:World) (o:Words ws n) (hb:aC w b 308 [.int .i64 n,.slice (some ⟨wb,0,none⟩) ws.length ws.length]) (hw:aC w wb 33 (gQ ws)) :
  Calls Tryz.prog 236 #[.pointer (some ⟨b,0,none⟩)] w fun e w'=>e=.returned (.tuple #[])∧aC w' wb 33 (gQ (sJ n ws))∧Touch (fun k=>k=wb) w w':=by
 by_cases h:n%64=0
 ·refine (Ow b n w (hb.cell 0) h).mono ?_
  rintro e w' ⟨he,rfl⟩;refine ⟨he,?_,Touch.refl _ _⟩;rw [sJ,if_pos h];exact hw
 ·have hl:=o.len;have htop:=o.top;have hpos:ws.length-1<ws.length:=by omega
  have cw:=hw.cell (ws.length-1);rw [uE _ _ hpos] at cw;have hp:=zN n;have h1:1≤2^(n%64):=Nat.pos_of_ne_zero (by simp)
  have hy:IntKind.u64.wrap (IntKind.u64.wrap (2^min (n%64) 64)-1)=((2^(n%64)-1:Nat):Int):=by
   rw [uF];generalize 2^(n%64)=y at *;rw [show (y:Int)-1=((y-1:Nat):Int) from by omega];exact IntWalk.u64_in _ (by omega)
  have hwk:IntKind.i64.wrap ((ws.length:Int)-1)=((ws.length-1:Nat):Int):=by
   rw [show (ws.length:Int)-1=((ws.length-1:Nat):Int) from by omega];exact IntWalk.i64_in _ (by omega)
  have hr0:(((n%64:Nat):Int) != 0)=true:=by rw [bne_iff_ne];omega
  refine (Ll b wb n (ws.length-1) ws.length (n%64) (ws.getD (ws.length-1) 0) (2^(n%64)-1) (ws.getD (ws.length-1) 0 &&& (2^(n%64)-1)) w (hb.cell 0) (hb.cell 1) cw (hw.free _) hpos hwk
   (zP n) hr0 hy (bits_and_u64_nat _ _ (o.get _) (by omega))).mono ?_
  rintro e w' ⟨he,rfl⟩;refine ⟨he,?_,(Touch.cellAt _ _ _ _).drew⟩;have:=(hw.set (ws.length-1) (.int .u64 (ws.getD (ws.length-1) 0 &&& (2^(n%64)-1):Nat))).drew;rw [Eu] at this;rw [sJ,if_neg h];exact this
def oN (cs:List Nat) (n:Nat):List Nat:=sJ n ((cs++List.replicate ((n+63)/64) 0).take ((n+63)/64))
theorem Lm {cs:List Nat} {n:Nat} (h:n≤1048576) (hc:∀ x∈cs,x<18446744073709551616):Words ((cs++List.replicate ((n+63)/64) 0).take ((n+63)/64)) n:=by
 refine ⟨by simp,h,?_⟩;intro x hx;rcases List.mem_append.1 (List.mem_of_mem_take hx) with h | h
 ·exact hc x h
 ·rw [(List.mem_replicate.1 h).2];omega
theorem U8:(Tryz.prog.info? 33).map (fun i=>(i.zero,i.size,i.bytes))=some (some (.int .u64 0),1,8):=by kernel_rfl
def jD (n:Nat):Obj:=.cells (madeCells (Value.int .u64 0).cells (n*1)) 33
theorem rF (w:World) (n:Nat):aC (w.alloc (jD n)) w.heap.size 33 (gQ (List.replicate n 0)):=by
 have:=aC.new w (madeCells (Value.int .u64 0).cells (n*1)) 33
 have e:(madeCells (Value.int .u64 0).cells (n*1)).toList=gQ (List.replicate n 0):=by
  rw [Nat.mul_one];refine (toList_madeCells_one _ _).trans ?_
  simp [gQ]
 rw [e] at this;exact this
theorem Ic (n:Nat) (h:n≤1048576) (w:World) :
  (Instr.makeSlice 201 (.int .i64 (n:Int)) (.int .i64 (n:Int))).run Tryz.prog w=.ok (.slice (some ⟨w.heap.size,0,none⟩) n n) (w.alloc (jD n)) :=
 vL 201 33 (.int .u64 0) 1 8 Tryz.underlying201 U8 .i64 .i64 n (by omega) (by omega) w
def Ie (w:World) (s:gT) (e:Ending) (w':World):Prop :=
 ∃ l,e=.returned (.pointer (some ⟨l.1,0,none⟩))∧w.heap.size≤l.1∧w.heap.size≤l.2∧gL w' l s∧Touch Nothing w w'
theorem Gv (cs:List Nat) (k:Nat):splice (gQ (List.replicate k 0)) 0 (gQ (cs.take k))=gQ ((cs++List.replicate k 0).take k):=by
 simp only [splice,gQ,List.take_zero,List.nil_append,Nat.zero_add,List.length_map,←List.map_drop,←List.map_append]
 congr 1
 rw [List.take_append,List.length_take,List.drop_replicate,List.take_replicate]
 congr 2
 omega
theorem Yr (cs:List Nat) (n:Nat) (sp:Option Addr) (c:Nat) (w:World) (h:n≤1048576) (hc:∀ x∈cs,x<18446744073709551616)
  (hsrc:0<cs.length→∃ ad,sp=some ad∧ad.block<w.heap.size∧∀ j v,(gQ cs)[j]? = some v→w.cell? (ad.add j)=some v) :
  Calls Tryz.prog 181 #[.slice sp cs.length c,.int .i64 n] w (Ie w ⟨n,oN cs n⟩):=by
 have hf:=Hd (aac n w h);obtain ⟨k,hk⟩:∃ k,k=(n+63)/64:=⟨_,rfl⟩;rw [←hk] at hf;have hmk:=fun W=>Ic k (by omega) W
 have T1:Touch Nothing w ((w.alloc (jD k)).alloc (.cells #[.int .i64 n,.slice (some ⟨w.heap.size,0,none⟩) k k] 308)):=((Touch.refl _ _).alloc _).alloc _;have hZ:aC ((w.alloc (jD k)).alloc (.cells #[.int .i64 n,.slice (some ⟨w.heap.size,0,none⟩) k k] 308)) w.heap.size 33 (gQ (List.replicate k 0)):=(rF w k).alloc _
 have hS:aC ((w.alloc (jD k)).alloc (.cells #[.int .i64 n,.slice (some ⟨w.heap.size,0,none⟩) k k] 308)) (w.heap.size+1) 308 [.int .i64 n,.slice (some ⟨w.heap.size,0,none⟩) k k]:=by
  simpa using aC.new (w.alloc (jD k)) #[.int .i64 n,.slice (some ⟨w.heap.size,0,none⟩) k k] 308
 have q1:(gQ (cs.take k)).length=Nat.min cs.length k:=by
  show _=min cs.length k
  simp [gQ];omega
 have q2:0<(gQ (cs.take k)).length→∃ ad,sp=some ad∧∀ j v,(gQ (cs.take k))[j]? = some v→((w.alloc (jD k)).alloc (.cells #[.int .i64 n,.slice (some ⟨w.heap.size,0,none⟩) k k] 308)).cell? (ad.add j)=some v:=by
  intro hp;obtain ⟨ad,rfl,hlt,had⟩:=hsrc (by simp [gQ] at hp;omega);refine ⟨ad,rfl,fun j v hj=>?_⟩;rw [T1.cell (by unfold Addr.add;split <;> exact hlt) (fun h=>h)];apply had;simp only [gQ,List.getElem?_map,List.getElem?_take] at hj ⊢;split at hj
  ·exact hj
  ·simp at hj
 have q3:0+(gQ (cs.take k)).length≤(gQ (List.replicate k 0)).length:=by simp [gQ];omega
 have q4:∀ v∈gQ (cs.take k),v.oneCell'=true:=by
  intro v hv;simp only [gQ,List.mem_map] at hv;obtain ⟨_,_,rfl⟩:=hv;rfl
 have HK:=Hd hk;have HS:=Hd hS;have HZ:=Hd hZ;have HC:=Hd hc;have HT:=Hd T1;have Q1:=Hd q1;have Q2:=Hd q2;have Q3:=Hd q3;have Q4:=Hd q4;clear hk hsrc hc hS hZ q1 q2 q3 q4 T1
 go_enter Tryz.func181,Tryz.ntmps181
 go_wp2_with fail
 refine hf.out.mono ?_
 rintro e w' ⟨rfl,rfl⟩
 go_wp2_with (refine ny rfl (.tmp 20) (.tmp 21) 201 201 rfl 33 Tryz.underlying201 (by kernel_rfl) _ _ _ _ _ _ rfl rfl w.heap.size 0 _ 33 HZ.out _ Q1.out (fun h=>⟨rfl,Q2.out h⟩) Q3.out Q4.out ?_;intro w1 HB Rp)
 have hB:=HB.out;rw [Gv] at hB;have hlen:((cs++List.replicate k 0).take k).length=k:=by simp
 have hS1:=HS.out.touch Rp (by omega)
 have hW:Words ((cs++List.replicate k 0).take k) n:=by
  have:=Lm (cs:=cs) h HC.out;rw [←HK.out] at this;exact this
 have hk:=HK.out;refine (Jq (w.heap.size+1) w.heap.size n ((cs++List.replicate k 0).take k) w1 hW (by rw [hlen];exact hS1) hB).mono ?_
 rintro e w2 ⟨rfl,hB2,T2⟩;have hS2:=Hd (hS1.touch T2 (by omega));have HB2:=Hd hB2;have HT2:=Hd T2;have Rp:=Hd Rp;have HW:=Hd hW;clear hB hB2 hS1 T2 hW hlen hk
 go_wp2_with fail
 go_ret
 have e1:oN cs n=sJ n ((cs++List.replicate k 0).take k):=by
  unfold oN;rw [←HK.out]
 have e2:(sJ n ((cs++List.replicate k 0).take k)).length=k:=by
  rw [HW.out.cut.len,←HK.out]
 refine ⟨(w.heap.size+1,w.heap.size),rfl,by simp,by simp,⟨?_,?_,by simp,⟨?_,h,?_⟩⟩,?_⟩
 ·rw [e1];simp only [e2];exact hS2.out
 ·rw [e1];exact HB2.out
 ·rw [e1];exact HW.out.cut.len
 ·rw [e1];exact HW.out.cut.word
 ·exact (HT.out.trans' Rp.out (fun i hi e=>by omega)).trans' HT2.out (fun i hi e=>by omega)
theorem Tx (n:Nat) (w:World) (h:n≤1048576) :
  Calls Tryz.prog 130 #[.int .i64 n] w (Ie w ⟨n,oN [] n⟩):=by
 have hc:=Hd (Yr [] n none 0 w h (by simp) (by simp))
 go_enter Tryz.func130,Tryz.ntmps130
 go_wp2_with fail
 refine hc.out.mono ?_
 rintro e w' ⟨l,rfl,h1,h2,hs,hT⟩;have HS:=Hd hs;have HT:=Hd hT;clear hs hT
 go_wp2
 go_ret
 exact ⟨l,rfl,h1,h2,HS.out,HT.out⟩
def Tz (w:World) (l:Nat × Nat) (s:gT) (e:Ending) (w':World):Prop :=
 ∃ b,e=.returned (.tuple #[])∧w.heap.size≤b∧gL w' (l.1,b) s∧Touch (fun k=>k=l.1) w w'
theorem gL.TA {w:World} {l:Nat × Nat} {s:gT} (R:gL w l s) (n:Nat) (h:n≤1048576) :
  Calls Tryz.prog 287 #[.pointer (some ⟨l.1,0,none⟩),.int .i64 n] w (Tz w l ⟨n,oN s.ws n⟩):=by
 have c0:=R.blk.cell 0;have c1:=R.blk.cell 1;simp at c0 c1
 have hc:=Hd (Yr s.ws n (some ⟨l.2,0,none⟩) s.ws.length w h R.ok.word (fun _=>⟨_,rfl,R.words.lt,by
  intro j v hj;have:(⟨l.2,0,none⟩:Addr).add j=⟨l.2,j,none⟩:=by unfold Addr.add;split <;> simp_all
  rw [this,R.words.cell];exact hj⟩))
 have HR:=Hd R;clear R
 go_enter Tryz.func287,Tryz.ntmps287
 go_wp2_with fail
 refine hc.out.mono ?_
 rintro e w' ⟨l',rfl,h1,h2,hs,hT⟩;have d0:=hs.blk.cell 0;have d1:=hs.blk.cell 1;simp at d0 d1;have hR:=HR.out.blk.touch hT (fun h=>h);have e0:=hR.cell 0;have e1:=hR.cell 1;have f0:=hR.free 0;have f1:=hR.free 1;simp at e0 e1;have hlt:=HR.out.blk.lt;have HS:=Hd hs;have HT:=Hd hT;have HB:=Hd hR;clear hs hT hR c0 c1
 go_wp2_with fail
 go_end0
 have T1:Touch (fun k=>k=l.1) w' (w'.setCell ⟨l.1,0,none⟩ (.int .i64 n)):=Touch.cellAt _ _ _ _;have T2:Touch (fun k=>k=l.1) (w'.setCell ⟨l.1,0,none⟩ (.int .i64 n)) ((w'.setCell ⟨l.1,0,none⟩ (.int .i64 n)).setCell ⟨l.1,1,none⟩ (.slice (some ⟨l'.2,0,none⟩) (oN s.ws n).length (oN s.ws n).length)):=Touch.cellAt _ _ _ _;refine ⟨l'.2,rfl,h2,⟨?_,?_,by simp;omega,HS.out.ok⟩,(HT.out.none_.trans T1).trans T2⟩
 ·have:=(HB.out.set 0 (.int .i64 n)).set 1 (.slice (some ⟨l'.2,0,none⟩) (oN s.ws n).length (oN s.ws n).length);simpa using this
 ·exact (HS.out.words.touch T1 (by omega)).touch T2 (by omega)
structure Pg where
 kind:Int
 order:Int
 cls:Int
 live:Int
 next:Int
 prev:Int
 first:Int
 b0:Nat
 b1:Nat
 b2:Nat
 b3:Nat
def Pg.cells (p:Pg):List Value:=[.int .i64 p.kind,.int .i64 p.order,.int .i64 p.cls,.int .i64 p.live,.int .i64 p.next,.int .i64 p.prev,.int .i64 p.first,.int .u64 p.b0,.int .u64 p.b1,.int .u64 p.b2,.int .u64 p.b3]
def Pg.val (p:Pg):Value:=.agg #[.int .i64 p.kind,.int .i64 p.order,.int .i64 p.cls,.int .i64 p.live,.int .i64 p.next,.int .i64 p.prev,.int .i64 p.first,.int .u64 p.b0,.int .u64 p.b1,.int .u64 p.b2,.int .u64 p.b3]
structure Pg.ok (p:Pg):Prop where
 kind:0≤p.kind∧p.kind≤4
 order:0≤p.order∧p.order≤8
 cls:0≤p.cls∧p.cls≤7
 live:0≤p.live∧p.live≤256
 next:-1≤p.next∧p.next≤1023
 prev:-1≤p.prev∧p.prev≤1023
 first:-1≤p.first∧p.first≤255
 w0:p.b0<18446744073709551616
 w1:p.b1<18446744073709551616
 w2:p.b2<18446744073709551616
 w3:p.b3<18446744073709551616
theorem Pg.size (p:Pg):p.cells.length=11:=rfl
theorem fD {o:Nat} (h:o≤8):1≤2^o∧2^o≤256:=⟨Nat.pos_of_ne_zero (by simp),Nat.pow_le_pow_right (n:=2) (by omega) h⟩
structure Mp where
 order:Nat
 pages:List Pg
 pairs:List gT
structure aT where
 mb:Nat
 gv:Value
 sv:Value
 sets:List (Nat × Nat)
def aT.fp (L:aT):List Nat:=L.mb::(L.gv.ownBlock.toList++L.sv.ownBlock.toList++L.sets.flatMap fun l=>[l.1,l.2])
structure Mp.ok (μ:Mp):Prop where
 order:μ.order≤8
 len:μ.pages.length≤1024
 pairs:μ.pairs.length=μ.order
 page:∀ p∈μ.pages,p.ok
structure aI (w:World) (L:aT) (μ:Mp):Prop where
 blk:aC w L.mb 194 [.int .i64 (μ.order:Nat),L.gv,L.sv]
 pages:Row w 128 11 L.gv μ.pages.length (μ.pages.flatMap Pg.cells)
 pairs:Row w 218 1 L.sv μ.pairs.length (L.sets.map fun l=>.pointer (some ⟨l.1,0,none⟩))
 sets:∀ (i:Nat) (l:Nat × Nat) (s:gT),L.sets[i]? = some l→μ.pairs[i]? = some s→gL w l s
 apart:L.fp.Nodup
 ok:μ.ok
theorem aI.touch {w w':World} {L:aT} {μ:Mp} {S:Nat→Prop} (R:aI w L μ) (T:Touch S w w') (h:∀ k,k∈L.fp→¬S k):aI w' L μ:=by
 refine ⟨R.blk.touch T (h _ (by simp [aT.fp])),R.pages.touch T (fun g hg=>h g (by simp [aT.fp,hg])),R.pairs.touch T (fun g hg=>h g (by simp [aT.fp,hg])),?_,R.apart,R.ok⟩;intro i l s hl hs;have hm:=List.mem_of_getElem? hl;have h1:l.1∈L.fp:=by simp only [aT.fp,List.mem_cons,List.mem_append,List.mem_flatMap];exact .inr (.inr ⟨l,hm,by simp⟩)
 have h2:l.2∈L.fp:=by simp only [aT.fp,List.mem_cons,List.mem_append,List.mem_flatMap];exact .inr (.inr ⟨l,hm,by simp⟩)
 exact (R.sets i l s hl hs).touch T (h _ h1) (h _ h2)
theorem aI.aj {w w':World} {L:aT} {μ:Mp} (R:aI w L μ) (T:Touch Nothing w w'):aI w' L μ:=R.touch T (fun _ _ h=>h)
theorem aI.Lp {w:World} {L:aT} {μ:Mp} (R:aI w L μ):L.sets.length=μ.pairs.length:=by
 have:=R.pairs.1;simpa using this
theorem aI.lt {w:World} {L:aT} {μ:Mp} (R:aI w L μ):∀ k∈L.fp,k<w.heap.size:=by
 intro k hk;simp only [aT.fp,List.mem_cons,List.mem_append,Option.mem_toList,List.mem_flatMap,List.not_mem_nil,or_false] at hk;rcases hk with rfl | (hk | hk) | ⟨l,hl,hk⟩
 ·exact R.blk.lt
 ·exact R.pages.lt hk
 ·exact R.pairs.lt hk
 ·obtain ⟨i,hi⟩:=List.mem_iff_getElem?.1 hl;have hlen:=R.Lp;have hi':=(List.getElem?_eq_some_iff.1 hi).1;have hs:=R.sets i l _ hi (List.getElem?_eq_getElem (by omega));rcases hk with rfl | rfl
  ·exact hs.blk.lt
  ·exact hs.words.lt
theorem flat_get (l:List Pg):∀ (i:Nat) (p:Pg),l[i]? = some p→∀ (j:Nat) (u:Value),p.cells[j]? = some u→(l.flatMap Pg.cells)[i*11+j]? = some u:=by
 induction l with
 | nil=>intro i p hp;simp at hp
 | cons q l ih =>
  intro i p hp j u hu;have hq:=q.size;rw [List.flatMap_cons];cases i with
  | zero =>
   simp only [List.getElem?_cons_zero,Option.some.injEq] at hp;subst hp;have hj:=(List.getElem?_eq_some_iff.1 hu).1;rw [Nat.zero_mul,Nat.zero_add,List.getElem?_append_left hj];exact hu
  | succ i =>
   rw [List.getElem?_append_right (by omega),hq];have:(i+1)*11+j-11=i*11+j:=by omega
   rw [this];exact ih i p (by simpa using hp) j u hu
theorem aI.page {w:World} {L:aT} {μ:Mp} (R:aI w L μ) {i:Nat} {p:Pg} (hi:μ.pages[i]? = some p) :
  ∃ g cap,L.gv=.slice (some ⟨g,0,none⟩) μ.pages.length cap∧μ.pages.length≤cap∧(∀ j u,p.cells[j]? = some u→w.cell? ⟨g,i*11+j,none⟩=some u)∧∀ j,w.frozen? ⟨g,j,none⟩=false:=by
 have hlt:=(List.getElem?_eq_some_iff.1 hi).1;obtain ⟨g,cap,hv,hc,_⟩:=R.pages.form (by omega);have hr:=R.pages;rw [hv] at hr;refine ⟨g,cap,hv,hc,fun j u hu=>?_,fun j=>hr.free j⟩;have hj:=(List.getElem?_eq_some_iff.1 hu).1;have hp:=p.size;rw [hr.cell _ (by omega)];exact flat_get _ i p hi j u hu
theorem aI.wB {w:World} {L:aT} {μ:Mp} (R:aI w L μ):∃ pa cap,L.gv=.slice pa μ.pages.length cap∧μ.pages.length≤cap:=by
 rcases R.pages.2 with ⟨h,h0⟩ | ⟨g,cap,cur,h,_,_,hc,_⟩
 ·exact ⟨none,0,by rw [h,h0],by omega⟩
 ·exact ⟨_,cap,h,hc⟩
theorem aI.sU {w:World} {L:aT} {μ:Mp} (R:aI w L μ) :
  Calls Tryz.prog 64 #[.pointer (some ⟨L.mb,0,none⟩)] w fun e w'=>e=.returned (.int .i64 (μ.pages.length:Nat))∧w=w':=by
 obtain ⟨pa,cap,hp,hc⟩:=R.wB;have c1:=R.blk.cell 1;simp [hp] at c1;clear R hc
 go_enter Tryz.func64,Tryz.ntmps64
 go_wp2
 go_ret
 exact ⟨rfl,rfl⟩
theorem aI.at_ {w:World} {L:aT} {μ:Mp} (R:aI w L μ) {i:Nat} {p:Pg} (hi:μ.pages[i]? = some p) :
  Calls Tryz.prog 65 #[.pointer (some ⟨L.mb,0,none⟩),.int .i64 i] w fun e w'=>e=.returned (.tuple #[p.val,.bool true])∧Touch Nothing w w':=by
 obtain ⟨g,cap,hv,hc,hcell,hfree⟩:=R.page hi;have hlt:=(List.getElem?_eq_some_iff.1 hi).1;have c1:=R.blk.cell 1;simp [hv] at c1;have d0:=hcell 0 _ rfl;have d1:=hcell 1 _ rfl;have d2:=hcell 2 _ rfl;have d3:=hcell 3 _ rfl;have d4:=hcell 4 _ rfl;have d5:=hcell 5 _ rfl;have d6:=hcell 6 _ rfl;have d7:=hcell 7 _ rfl;have d8:=hcell 8 _ rfl;have d9:=hcell 9 _ rfl;have zQ:=hcell 10 _ rfl;simp only [Nat.add_zero] at d0;have hl:=R.ok.len;have zR:=R.blk.lt;have lg:g<w.heap.size:=World.block_lt_of_cell? w _ d0;clear R hcell hfree hi hv;unfold Pg.val
 go_enter Tryz.func65,Tryz.ntmps65
 go_wp2
 exact bodyPost_ret (v:=.tuple #[p.val,.bool true]) (by simp [results,Tryz.results65,go_sem,Pg.val]) rfl ⟨rfl,(Touch.refl _ _).alloc _⟩
theorem lF {o:Nat} (h:o≤8):wrap64 (2^o)=((2^o:Nat):Int):=by
 have:=fD h;have e:(2^o:Int)=((2^o:Nat):Int):=by simp
 rw [e];exact IntWalk.wrap64_in _ ⟨by omega,by omega⟩
theorem aI.Jr {w:World} {L:aT} {μ:Mp} (R:aI w L μ) :
  Calls Tryz.prog 257 #[.pointer (some ⟨L.mb,0,none⟩)] w fun e w'=>e=.returned (.int .i64 (2^μ.order:Nat))∧w=w':=by
 have c0:=R.blk.cell 0;simp at c0;have ho:=R.ok.order;have hp:=fD ho;clear R
 go_enter Tryz.func257,Tryz.ntmps257
 go_wp2
 go_ret
 rw [lF ho];exact ⟨rfl,rfl⟩
theorem lG (v lo hi:Int) (w:World) :
  Calls Tryz.prog 277 #[.int .i64 v,.int .i64 lo,.int .i64 hi] w fun e w'=>e=.returned (.bool (decide (lo≤v∧v≤hi)))∧w=w':=by
 go_enter Tryz.func277,Tryz.ntmps277
 go_wp2
 all_goals
  go_ret
  refine ⟨congrArg Ending.returned (congrArg Value.bool ?_),rfl⟩;simp;omega
def aD (kind order:Int):Pg:=⟨kind,order,0,0,-1,-1,-1,0,0,0,0⟩
theorem wC (kind order:Int) (w:World) :
  Calls Tryz.prog 278 #[.int .i64 kind,.int .i64 order] w fun e w'=>e=.returned (aD kind order).val∧w'=w.alloc (.cells #[.int .i64 kind,.int .i64 order,.int .i64 0,.int .i64 0,.int .i64 (-1),.int .i64 (-1),.int .i64 (-1),.int .u64 0,.int .u64 0,.int .u64 0,.int .u64 0] 128):=by
 unfold Pg.val aD
 go_enter Tryz.func278,Tryz.ntmps278
 go_wp2
 exact bodyPost_ret (v:=(aD kind order).val) (by simp [results,Tryz.results278,go_sem,Pg.val,aD]) rfl ⟨rfl,rfl⟩
def aR (c:Int):Nat:=256/2^c.toNat
theorem Lr (a:Addr) (c:Int) (w:World) (hc:w.cell? ⟨a.block,a.off+2,none⟩=some (.int .i64 c)) (ha:a.spot=none) (h:0≤c∧c≤7) :
  Calls Tryz.prog 281 #[.pointer (some a)] w fun e w'=>e=.returned (.int .i64 (aR c))∧w=w':=by
 obtain ⟨b,o,s⟩:=a;obtain rfl:s=none:=ha;simp only at hc
 go_enter Tryz.func281,Tryz.ntmps281
 go_wp2
 go_ret
 refine ⟨?_,rfl⟩;simp [aR]
theorem aI.Js {w:World} {L:aT} {μ:Mp} (R:aI w L μ) {i:Nat} {p:Pg} (hi:μ.pages[i]? = some p) (hk:p.kind=4) :
  ∃ g cap,L.gv=.slice (some ⟨g,0,none⟩) μ.pages.length cap ∧
  Calls Tryz.prog 280 #[.pointer (some ⟨L.mb,0,none⟩),.int .i64 i] w fun e w'=>e=.returned (.tuple #[.pointer (some ⟨g,i*11,none⟩),.bool true])∧Touch Nothing w w':=by
 obtain ⟨g,cap,hv,hc,hcell,hfree⟩:=R.page hi;refine ⟨g,cap,hv,?_⟩;have hlt:=(List.getElem?_eq_some_iff.1 hi).1;have HA:=Hd (R.at_ hi);have c1:=R.blk.cell 1;simp [hv] at c1;have hl:=R.ok.len;have zR:=R.blk.lt;have HB:=Hd R.blk;clear R hcell hfree hi
 go_enter Tryz.func280,Tryz.ntmps280
 go_wp2_with fail
 refine HA.out.mono ?_
 rintro e w1 ⟨rfl,T1⟩;have c1':=(HB.out.touch T1 (fun h=>h)).cell 1;simp [hv] at c1';have sK:L.mb<w1.heap.size:=Nat.lt_of_lt_of_le zR T1.size;have HT:=Hd T1;clear T1 c1;unfold Pg.val
 go_wp2_with fail
 go_ret2
 exact ⟨rfl,HT.out.alloc _⟩
theorem aI.XF {w:World} {L:aT} {μ:Mp} (R:aI w L μ) {i:Nat} {p:Pg} (hi:μ.pages[i]? = some p) (o:Nat) (ho:p.order=o) :
  Calls Tryz.prog 168 #[.pointer (some ⟨L.mb,0,none⟩),.int .i64 i] w fun e w'=>e=.returned (.int .i64 (i/2^o*2^o:Nat))∧Touch Nothing w w':=by
 have hlt:=(List.getElem?_eq_some_iff.1 hi).1;have HA:=Hd (R.at_ hi);have hl:=R.ok.len;have h8:=(R.ok.page p (List.mem_of_getElem? hi)).order;have hpw:=fD (show o≤8 by omega);have hle:i/2^o*2^o≤i:=Nat.div_mul_le_self _ _;have qG:o≤8:=by omega
 have HO:=Hd ho;clear R hi ho
 go_enter Tryz.func168,Tryz.ntmps168
 go_wp2_with fail
 refine HA.out.mono ?_
 rintro e w1 ⟨rfl,T1⟩;have HT:=Hd T1;clear T1;unfold Pg.val;rw [HO.out];have h8':(0:Int)≤(o:Int):=by omega
 go_wp2_with fail
 go_quiet (fail)
 go_wp2
 go_ret
 refine ⟨congrArg Ending.returned (congrArg (Value.int .i64) ?_),(HT.out.alloc _).drewN _⟩;have e:((i:Int)/2^o*2^o)=((i/2^o*2^o:Nat):Int):=by simp
 rw [e];generalize i/2^o*2^o=y at *;exact IntWalk.wrap64_in _ ⟨by omega,by omega⟩
def Mp.aA (μ:Mp) (i:Nat) (p:Pg):Mp:={ μ with pages:=μ.pages.set i p }
theorem Ox (l:List Pg):∀ (i:Nat) (p p':Pg) (j:Nat) (u:Value),l[i]? = some p→j<11→p'.cells=p.cells.set j u→(l.flatMap Pg.cells).set (i*11+j) u=(l.set i p').flatMap Pg.cells:=by
 induction l with
 | nil=>intro i p p' j u hp;simp at hp
 | cons q l ih =>
  intro i p p' j u hp hj he;have hq:=q.size;cases i with
  | zero =>
   simp only [List.getElem?_cons_zero,Option.some.injEq] at hp;subst hp;rw [List.flatMap_cons,Nat.zero_mul,Nat.zero_add,List.set_append_left _ _ (by omega),List.set_cons_zero,List.flatMap_cons,he]
  | succ i =>
   rw [List.flatMap_cons,List.set_append_right _ _ (by omega),hq,List.set_cons_succ,List.flatMap_cons];have:(i+1)*11+j-11=i*11+j:=by omega
   rw [this,ih i p p' j u (by simpa using hp) hj he]
theorem aI.Rq {w:World} {L:aT} {μ:Mp} (R:aI w L μ) {g:Nat} (hg:L.gv.ownBlock=some g) :
  L.mb≠g∧L.sv.ownBlock≠some g∧∀ l∈L.sets,l.1≠g∧l.2≠g:=by
 have h:=R.apart;simp only [aT.fp,hg,Option.toList_some,List.nodup_cons,List.mem_append,List.mem_singleton,List.nodup_append,Option.mem_toList,List.mem_flatMap] at h;obtain ⟨h1,⟨_,_,h3⟩,_,h4⟩:=h;refine ⟨fun e=>h1 (.inl (.inl e)),fun e=>h3 g (by simp) g e rfl,fun l hl=>⟨fun e=>?_,fun e=>?_⟩⟩
 ·exact h4 g (.inl (by simp)) l.1 ⟨l,hl,by simp⟩ e.symm
 ·exact h4 g (.inl (by simp)) l.2 ⟨l,hl,by simp⟩ e.symm
theorem aI.store {w:World} {L:aT} {μ:Mp} (R:aI w L μ) {i g cap:Nat} {p p':Pg} (hi:μ.pages[i]? = some p) (hv:L.gv=.slice (some ⟨g,0,none⟩) μ.pages.length cap)
  {j:Nat} {u:Value} (hj:j<11) (he:p'.cells=p.cells.set j u) (ho:p'.ok) :
  aI (w.setCell ⟨g,i*11+j,none⟩ u) L (μ.aA i p')∧Touch (fun k=>k=g) w (w.setCell ⟨g,i*11+j,none⟩ u):=by
 have hg:L.gv.ownBlock=some g:=by rw [hv];rfl
 obtain ⟨n1,n2,n3⟩:=R.Rq hg;have T:Touch (fun k=>k=g) w (w.setCell ⟨g,i*11+j,none⟩ u):=Touch.cellAt _ _ _ _;refine ⟨⟨R.blk.touch T n1,?_,R.pairs.touch T (fun g' hg' e=>n2 (by rw [hg',e])),fun i l s hl hs=>?_,R.apart,?_⟩,T⟩
 ·have hr:=R.pages;rw [hv] at hr;have h1:=(World.ownsRow.stored hr (i*11+j) u).1;rw [Ox _ i p p' j u hi hj he] at h1
  show World.ownsRow _ 0 128 11 L.gv (μ.pages.set i p').length _
  rw [List.length_set,hv];exact h1
 ·have:=n3 l (List.mem_of_getElem? hl);exact (R.sets i l s hl hs).touch T this.1 this.2
 ·have o:=R.ok;refine ⟨o.order,by simpa [Mp.aA] using o.len,o.pairs,fun q hq=>?_⟩;rcases List.mem_or_eq_of_mem_set hq with h | h
  ·exact o.page q h
  ·rw [h];exact ho
theorem Mp.bQ {μ:Mp} {i:Nat} {p:Pg} (p':Pg) (h:μ.pages[i]? = some p):(μ.aA i p').pages[i]? = some p':=by
 have:=(List.getElem?_eq_some_iff.1 h).1;simp [Mp.aA,this]
theorem Mp.iG (μ:Mp) (i:Nat) (p p':Pg):(μ.aA i p).aA i p'=μ.aA i p':=by
 simp [Mp.aA,List.set_set]
theorem slice_inj {g g' n n' c c':Nat} (h:Value.slice (some ⟨g,0,none⟩) n c=.slice (some ⟨g',0,none⟩) n' c'):g'=g:=by
 simp at h;exact h.1.symm
theorem aI.qH {w:World} {L:aT} {μ:Mp} (R:aI w L μ) {i:Nat} {p:Pg} (hi:μ.pages[i]? = some p) (hk:p.kind=4) (c:Int) (h0:-1≤c) (h1:c<aR p.cls) :
  Calls Tryz.prog 245 #[.pointer (some ⟨L.mb,0,none⟩),.int .i64 i,.int .i64 c] w fun e w'=>e=.returned (.int .i64 0)∧aI w' L (μ.aA i { p with first:=c })∧Touch (fun k=>some k=L.gv.ownBlock) w w':=by
 obtain ⟨g,cap,hv,hS⟩:=R.Js hi hk;have hsl:=Hd hS;have o:=R.ok.page p (List.mem_of_getElem? hi);have hcl:=o.cls;have hcn:aR p.cls≤256:=Nat.div_le_self _ _;have HR:=Hd R;have HI:=Hd hi;have HV:=Hd hv;have HO:=Hd o;clear R hi hv hS o
 go_enter Tryz.func245,Tryz.ntmps245
 go_wp2_with fail
 refine hsl.out.mono ?_
 rintro e w1 ⟨rfl,T1⟩;have R1:=HR.out.aj T1;obtain ⟨g',cap',hv',hc',hcell,hfree⟩:=R1.page HI.out;obtain rfl:g'=g:=slice_inj (HV.out.symm.trans hv');have d2:=hcell 2 _ rfl;have d6:=hcell 6 _ rfl;have f6:=hfree (i*11+6);have HC:=Hd (Lr ⟨g',i*11,none⟩ p.cls w1 d2 rfl hcl);have HW:=Hd (lG c (-1) ((aR p.cls:Int)-1) w1);have HD:decide (-1≤c∧c≤(aR p.cls:Int)-1)=true:=by simp;omega
 rw [HD] at HW;have HR1:=Hd R1;have HT:=Hd T1;clear R1 T1 hcell hfree hv' hc' d2 HD
 go_wp2_with fail
 refine HC.out.mono ?_
 rintro e w2 ⟨rfl,rfl⟩
 go_wp2_with fail
 refine HW.out.mono ?_
 rintro e w2 ⟨rfl,rfl⟩
 go_wp2_with fail
 go_ret
 have oo:=HO.out
 obtain ⟨r1,r2⟩:=HR1.out.store (p':={ p with first:=c }) HI.out HV.out (j:=6) (u:=.int .i64 c) (by omega) rfl
  ⟨oo.kind,oo.order,oo.cls,oo.live,oo.next,oo.prev,⟨by show -1≤c;omega,by show c≤255;omega⟩,oo.w0,oo.w1,oo.w2,oo.w3⟩
 exact ⟨rfl,r1,HT.out.none_.trans (r2.mono (fun k _ e=>by rw [HV.out,e];rfl))⟩
theorem aI.kS {w:World} {L:aT} {μ:Mp} (R:aI w L μ) {i:Nat} {p:Pg} (hi:μ.pages[i]? = some p) (hk:p.kind=4) (a b:Int) (h0:-1≤a) (h1:a<μ.pages.length) (h2:-1≤b) (h3:b<μ.pages.length) :
  Calls Tryz.prog 282 #[.pointer (some ⟨L.mb,0,none⟩),.int .i64 i,.int .i64 a,.int .i64 b] w fun e w'=>e=.returned (.int .i64 0)∧aI w' L (μ.aA i { p with next:=a,prev:=b })∧Touch (fun k=>some k=L.gv.ownBlock) w w':=by
 obtain ⟨g,cap,hv,hS⟩:=R.Js hi hk;have hsl:=Hd hS;have o:=R.ok.page p (List.mem_of_getElem? hi);have hlen:=R.ok.len;have HR:=Hd R;have HI:=Hd hi;have HV:=Hd hv;have HO:=Hd o;clear R hi hv hS o
 go_enter Tryz.func282,Tryz.ntmps282
 go_wp2_with fail
 refine hsl.out.mono ?_
 rintro e w1 ⟨rfl,T1⟩;have R1:=HR.out.aj T1;obtain ⟨g',cap',hv',hc',hcell,hfree⟩:=R1.page HI.out;obtain rfl:g'=g:=slice_inj (HV.out.symm.trans hv');have d4:=hcell 4 _ rfl;have d5:=hcell 5 _ rfl;have f4:=hfree (i*11+4);have f5:=hfree (i*11+5);have c1:=R1.blk.cell 1;simp [HV.out] at c1;have HW:=Hd (lG a (-1) ((μ.pages.length:Int)-1) w1);have HD:decide (-1≤a∧a≤(μ.pages.length:Int)-1)=true:=by simp;omega
 rw [HD] at HW;have HW2:=Hd (lG b (-1) ((μ.pages.length:Int)-1) w1);have HD2:decide (-1≤b∧b≤(μ.pages.length:Int)-1)=true:=by simp;omega
 rw [HD2] at HW2;have HR1:=Hd R1;have HT:=Hd T1;clear R1 T1 hcell hfree hv' hc' HD HD2
 go_wp2_with fail
 refine HW.out.mono ?_
 rintro e w2 ⟨rfl,rfl⟩
 go_wp2_with fail
 refine HW2.out.mono ?_
 rintro e w2 ⟨rfl,rfl⟩
 go_wp2_with fail
 go_ret
 have oo:=HO.out;have hl:=hlen
 obtain ⟨r1,r2⟩:=HR1.out.store (p':={ p with next:=a }) HI.out HV.out (j:=4) (u:=.int .i64 a) (by omega) rfl
  ⟨oo.kind,oo.order,oo.cls,oo.live,⟨by show -1≤a;omega,by show a≤1023;omega⟩,oo.prev,oo.first,oo.w0,oo.w1,oo.w2,oo.w3⟩
 obtain ⟨r3,r4⟩:=r1.store (p':={ p with next:=a,prev:=b }) (Mp.bQ _ HI.out) (cap:=cap) (g:=g') (by rw [HV.out];simp [Mp.aA]) (j:=5) (u:=.int .i64 b) (by omega) rfl
  ⟨oo.kind,oo.order,oo.cls,oo.live,⟨by show -1≤a;omega,by show a≤1023;omega⟩,⟨by show -1≤b;omega,by show b≤1023;omega⟩,oo.first,oo.w0,oo.w1,oo.w2,oo.w3⟩
 rw [Mp.iG] at r3;exact ⟨rfl,r3,(HT.out.none_.trans (r2.mono (fun k _ e=>by rw [HV.out,e];rfl))).trans (r4.mono (fun k _ e=>by rw [HV.out,e];rfl))⟩
def Pg.word (p:Pg) (q:Nat):Nat:=match q with | 0=>p.b0 | 1=>p.b1 | 2=>p.b2 | _=>p.b3
def Pg.aQ (p:Pg) (q v:Nat):Pg:=match q with | 0=>{ p with b0:=v } | 1=>{ p with b1:=v } | 2=>{ p with b2:=v } | _=>{ p with b3:=v }
theorem Pg.mU (p:Pg) (q:Nat) (h:q<4):p.cells[7+q]? = some (.int .u64 (p.word q)):=by
 match q,h with
 | 0,_=>rfl
 | 1,_=>rfl
 | 2,_=>rfl
 | 3,_=>rfl
theorem Pg.DR (p:Pg) (q v:Nat) (h:q<4):(p.aQ q v).cells=p.cells.set (7+q) (.int .u64 v):=by
 match q,h with
 | 0,_=>rfl
 | 1,_=>rfl
 | 2,_=>rfl
 | 3,_=>rfl
theorem Pg.ok.word_lt {p:Pg} (o:p.ok) (q:Nat) (h:q<4):p.word q<18446744073709551616:=by
 match q,h with
 | 0,_=>exact o.w0
 | 1,_=>exact o.w1
 | 2,_=>exact o.w2
 | 3,_=>exact o.w3
theorem Pg.ok.aQ {p:Pg} (o:p.ok) (q v:Nat) (h:q<4) (hv:v<18446744073709551616):(p.aQ q v).ok:=by
 match q,h with
 | 0,_=>exact ⟨o.kind,o.order,o.cls,o.live,o.next,o.prev,o.first,hv,o.w1,o.w2,o.w3⟩
 | 1,_=>exact ⟨o.kind,o.order,o.cls,o.live,o.next,o.prev,o.first,o.w0,hv,o.w2,o.w3⟩
 | 2,_=>exact ⟨o.kind,o.order,o.cls,o.live,o.next,o.prev,o.first,o.w0,o.w1,hv,o.w3⟩
 | 3,_=>exact ⟨o.kind,o.order,o.cls,o.live,o.next,o.prev,o.first,o.w0,o.w1,o.w2,hv⟩
def Pg.bit (p:Pg) (c:Nat):Bool:=(p.word (c/64)).testBit (c%64)
def Pg.mV (p:Pg) (c:Nat):Pg:=p.aQ (c/64) (p.word (c/64) ^^^ 2^(c%64))
theorem uG (x r:Nat) (hx:x<18446744073709551616):(bits .and .u64 ((x:Int)/2^r) 1 == 1)=x.testBit r:=by
 rw [yE x r hx,rD,Nat.testBit_eq_decide_div_mod_eq];rfl
def XG (Q:World→Prop) (g o1 o2:Nat) (u1 u2:Value) (e:Ending) (w':World):Prop :=
 ∃ w1,Q w1∧e=.returned (.int .i64 0)∧w'=((w1.setCell ⟨g,o1,none⟩ u1).setCell ⟨g,o2,none⟩ u2).drew
theorem Ls (b g i c q r x y z:Nat) (n:Nat) (l:Int) (live:Bool) (w:World) (Q:World→Prop)
  (hsl:Calls Tryz.prog 280 #[.pointer (some ⟨b,0,none⟩),.int .i64 i] w fun e w'=>e=.returned (.tuple #[.pointer (some ⟨g,i*11,none⟩),.bool true])∧Q w')
  (hf:∀ w1,Q w1→(Calls Tryz.prog 281 #[.pointer (some ⟨g,i*11,none⟩)] w1 fun e w'=>e=.returned (.int .i64 n)∧w1=w') ∧
   (Calls Tryz.prog 277 #[.int .i64 c,.int .i64 0,.int .i64 ((n:Int)-1)] w1 fun e w'=>e=.returned (.bool true)∧w1=w') ∧
   w1.cell? ⟨g,i*11+7+q,none⟩=some (.int .u64 x)∧w1.frozen? ⟨g,i*11+7+q,none⟩=false ∧
   w1.cell? ⟨g,i*11+3,none⟩=some (.int .i64 l)∧w1.frozen? ⟨g,i*11+3,none⟩=false)
  (hn:n≤256) (hl:0≤l∧l≤256)
  (r1:(c:Int)/64=q) (r2:(c:Int)%64=r) (r3:(c:Int).tmod 64=r) (r4:IntKind.i64.wrap (q:Int)=q) (hq:q<4) (_hr:r<64) (_hc:c<256)
  (hb:(bits .and .u64 ((x:Int)/2^r) 1 == 1) = !live) (hy:IntKind.u64.wrap (2^r)=y) (hz:bits .xor .u64 (x:Int) (y:Int)=z) :
  Calls Tryz.prog 244 #[.pointer (some ⟨b,0,none⟩),.int .i64 i,.int .i64 c,.bool live] w (XG Q g (i*11+7+q) (i*11+3) (.int .u64 z) (.int .i64 (if live then l+1 else l-1))):=by
 have H1:=Hd hsl;have hF:=Hd hf;clear hsl hf;have hq':(q:Int)<4:=by omega
 have hne:¬(i*11+7+q=i*11+3):=by omega
 cases live with
 | true =>
  go_enter Tryz.func244,Tryz.ntmps244
  go_wp2_with fail
  refine H1.out.mono ?_
  rintro e w1 ⟨rfl,hQ⟩;obtain ⟨hce,hwi,cx,fx,cl,fl⟩:=hF.out w1 hQ;have H2:=Hd hce;have H3:=Hd hwi;have HQ:=Hd hQ;have cl':(w1.setCell ⟨g,i*11+7+q,none⟩ (.int .u64 z)).cell? ⟨g,i*11+3,none⟩=some (.int .i64 l):=(World.cell?_setCell_other _ _ _ _ (by simp)).trans cl;clear hce hwi hQ
  go_wp2_with fail
  refine H2.out.mono ?_
  rintro e w2 ⟨rfl,rfl⟩
  go_wp2_with fail
  refine H3.out.mono ?_
  rintro e w2 ⟨rfl,rfl⟩
  go_wp2_with fail
  refine wp_region_still_tail 14 (by kernel_rfl) (by kernel_rfl) ?_
  simp only [List.take_succ_cons,List.take_zero,List.drop_succ_cons,List.drop_zero,World.drew_eq]
  repeat still_step
  refine wpStill_nil ?_
  go_wp2_with fail
  go_ret
  exact ⟨_,HQ.out,rfl,rfl⟩
 | false =>
  go_enter Tryz.func244,Tryz.ntmps244
  go_wp2_with fail
  refine H1.out.mono ?_
  rintro e w1 ⟨rfl,hQ⟩;obtain ⟨hce,hwi,cx,fx,cl,fl⟩:=hF.out w1 hQ;have H2:=Hd hce;have H3:=Hd hwi;have HQ:=Hd hQ;have cl':(w1.setCell ⟨g,i*11+7+q,none⟩ (.int .u64 z)).cell? ⟨g,i*11+3,none⟩=some (.int .i64 l):=(World.cell?_setCell_other _ _ _ _ (by simp)).trans cl;clear hce hwi hQ
  go_wp2_with fail
  refine H2.out.mono ?_
  rintro e w2 ⟨rfl,rfl⟩
  go_wp2_with fail
  refine H3.out.mono ?_
  rintro e w2 ⟨rfl,rfl⟩
  go_wp2_with fail
  refine wp_region_still_tail 14 (by kernel_rfl) (by kernel_rfl) ?_
  simp only [List.take_succ_cons,List.take_zero,List.drop_succ_cons,List.drop_zero,World.drew_eq]
  repeat still_step
  refine wpStill_nil ?_
  go_wp2_with fail
  go_ret
  exact ⟨_,HQ.out,rfl,rfl⟩
def Pg.own (p:Pg) (c:Nat) (live:Bool):Pg:={ p.mV c with live:=if live then p.live+1 else p.live-1 }
theorem aI.yZ {w:World} {L:aT} {μ:Mp} (R:aI w L μ) {i:Nat} {p:Pg} (hi:μ.pages[i]? = some p) (hk:p.kind=4) (c:Nat) (live:Bool) (h1:c<aR p.cls) (hb:p.bit c = !live) (hl:0≤(if live then p.live+1 else p.live-1)∧(if live then p.live+1 else p.live-1)≤256) :
  Calls Tryz.prog 244 #[.pointer (some ⟨L.mb,0,none⟩),.int .i64 i,.int .i64 c,.bool live] w fun e w'=>e=.returned (.int .i64 0)∧aI w' L (μ.aA i (p.own c live))∧Touch (fun k=>some k=L.gv.ownBlock) w w':=by
 obtain ⟨g,cap,hv,hS⟩:=R.Js hi hk;have o:=R.ok.page p (List.mem_of_getElem? hi);have hcn:aR p.cls≤256:=Nat.div_le_self _ _;have hq:c/64<4:=by omega
 have hx:=o.word_lt (c/64) hq;have hpw:=zN c
 refine (Ls L.mb g i c (c/64) (c%64) (p.word (c/64)) (2^(c%64)) (p.word (c/64) ^^^ 2^(c%64)) (aR p.cls) p.live live w (fun w'=>Touch Nothing w w') hS ?_ hcn o.live
  (by omega) (by omega) (zP c) (IntWalk.i64_in _ (by omega)) hq (by omega) (by omega) ?_ ?_ (u64_xor_nat _ _ hx hpw)).mono ?_
 ·intro w1 T1;have R1:=R.aj T1;obtain ⟨g',cap',hv',hc',hcell,hfree⟩:=R1.page hi;obtain rfl:g'=g:=slice_inj (hv.symm.trans hv');have d7:=hcell (7+c/64) _ (p.mU _ hq);rw [←Nat.add_assoc] at d7;refine ⟨Lr ⟨g',i*11,none⟩ p.cls w1 (hcell 2 _ rfl) rfl o.cls,?_,d7,hfree _,hcell 3 _ rfl,hfree _⟩;have HW:=lG c 0 ((aR p.cls:Int)-1) w1;have HD:decide ((0:Int)≤c∧(c:Int)≤(aR p.cls:Int)-1)=true:=by simp;omega
  rw [HD] at HW;exact HW
 ·rw [uG _ _ hx];exact hb
 ·have:=uF c;rw [show min (c%64) 64=c%64 from by omega] at this;exact this
 ·rintro e w' ⟨w1,T1,rfl,rfl⟩;have R1:=R.aj T1
  obtain ⟨r1,r2⟩:=R1.store (p':=p.mV c) hi hv (j:=7+c/64) (u:=.int .u64 (p.word (c/64) ^^^ 2^(c%64):Nat)) (by omega) (p.DR _ _ hq)
   (o.aQ _ _ hq (Nat.xor_lt_two_pow (n:=64) hx hpw))
  have e2:(p.mV c).live=p.live:=by
   unfold Pg.mV Pg.aQ;split <;> rfl
  have o2:=o.aQ (c/64) (p.word (c/64) ^^^ 2^(c%64)) hq (Nat.xor_lt_two_pow (n:=64) hx hpw)
  obtain ⟨r3,r4⟩:=r1.store (p':=p.own c live) (Mp.bQ _ hi) (cap:=cap) (g:=g) (by rw [hv];simp [Mp.aA]) (j:=3) (u:=.int .i64 (if live then p.live+1 else p.live-1)) (by omega) rfl
   ⟨o2.kind,o2.order,o2.cls,hl,o2.next,o2.prev,o2.first,o2.w0,o2.w1,o2.w2,o2.w3⟩
  rw [Mp.iG] at r3;have hg:∀ k,k=g→some k=L.gv.ownBlock:=fun k e=>by rw [hv,e];rfl
  rw [←Nat.add_assoc] at r2 r3 r4;exact ⟨rfl,r3.aj ((Touch.refl _ _).drew),((T1.none_.trans (r2.mono (fun k _ e=>hg k e))).trans (r4.mono (fun k _ e=>hg k e))).drew⟩
theorem aI.setAt {w:World} {L:aT} {μ:Mp} (R:aI w L μ) {k:Nat} (hk:k<μ.order) :
  ∃ g cap l,L.sv=.slice (some ⟨g,0,none⟩) μ.pairs.length cap∧μ.pairs.length≤cap∧L.sets[k]? = some l∧w.cell? ⟨g,k,none⟩=some (.pointer (some ⟨l.1,0,none⟩))∧gL w l (μ.pairs.getD k ⟨0,[]⟩):=by
 have hl:=R.ok.pairs;have hsl:=R.Lp;obtain ⟨g,cap,hv,hc,_⟩:=R.pairs.form (by omega);have hr:=R.pairs;rw [hv] at hr;have hk':k<L.sets.length:=by omega
 refine ⟨g,cap,L.sets[k],hv,hc,List.getElem?_eq_getElem hk',?_,?_⟩
 ·rw [hr.cell _ (by simp;omega)];simp [hk']
 ·refine R.sets k _ _ (List.getElem?_eq_getElem hk') ?_
  rw [List.getD_eq_getElem?_getD,List.getElem?_eq_getElem (by omega)];rfl
theorem aI.XH {w:World} {L:aT} {μ:Mp} (R:aI w L μ) {i k:Nat} {p:Pg} (hi:μ.pages[i]? = some p) (hk:k<μ.order) (hn:i/2^(k+1)<(μ.pairs.getD k ⟨0,[]⟩).n) :
  Calls Tryz.prog 293 #[.pointer (some ⟨L.mb,0,none⟩),.int .i64 k,.int .i64 i] w fun e w'=>e=.returned (.bool (eZ (μ.pairs.getD k ⟨0,[]⟩).ws (i/2^(k+1))))∧Touch Nothing w w':=by
 have HA:=Hd (R.at_ hi);have hlt:=(List.getElem?_eq_some_iff.1 hi).1;have hl:=R.ok.len;have ho:=R.ok.order;have zR:=R.blk.lt;have HR:=Hd R;have HN:=Hd hn;clear R hi hn
 go_enter Tryz.func293,Tryz.ntmps293
 go_wp2_with fail
 refine HA.out.mono ?_
 rintro e w1 ⟨rfl,T1⟩;have T2:Touch Nothing w (w1.alloc (.cells #[.int .i64 p.kind,.int .i64 p.order,.int .i64 p.cls,.int .i64 p.live,.int .i64 p.next,.int .i64 p.prev,.int .i64 p.first,.int .u64 p.b0,.int .u64 p.b1,.int .u64 p.b2,.int .u64 p.b3] 128)):=T1.alloc _;have R1:=HR.out.aj T2;have c0:=R1.blk.cell 0;simp at c0;have HT2:=Hd T2;have HR1:=Hd R1;clear T1 T2 R1;unfold Pg.val
 go_wp2_with fail
 refine (lG k 0 _ _).mono ?_
 rintro e w2 ⟨rfl,rfl⟩;have HD:decide ((0:Int)≤(k:Int)∧(k:Int)≤(μ.order:Int)-1)=true:=by simp;omega
 rw [HD];obtain ⟨g,cap,l,hv,hc,hl,hg,hs⟩:=HR1.out.setAt hk;have c2:=HR1.out.blk.cell 2;simp [hv] at c2;have lg:=World.block_lt_of_cell? _ _ hg;have hk':(k:Int)<(μ.pairs.length:Int):=by have:=HR1.out.ok.pairs;omega
 have hsh:(i:Int)/2^(k+1)=((i/2^(k+1):Nat):Int):=by simp
 have hk1:((k:Int)+1).toNat=k+1:=by omega
 have HG:=Hd (fun n=>(hs.touch (S:=Nothing) ((Touch.refl Nothing _).drewN n) (fun h=>h) (fun h=>h)).El (i/2^(k+1)) HN.out);clear hv hs hl HD;generalize hq':i/2^(k+1)=q at *
 replace hq':=Hd hq'.symm
 go_wp2_with fail
 go_quiet (first | (go_at_call 295;refine Calls.quiet_of_same ((HG.out _).mono fun _ _ h=>⟨h.1,h.2.symm⟩)))
 go_wp2
 have HE:eZ (μ.pairs.getD k ⟨0,[]⟩).ws q=eZ (μ.pairs.getD k ⟨0,[]⟩).ws (i/2^(k+1)):=by rw [hq'.out]
 exact bodyPost_ret (v:=.bool (eZ (μ.pairs.getD k ⟨0,[]⟩).ws q)) (by simp [results,Tryz.results293,go_sem]) rfl ⟨by rw [HE],HT2.out.drewN _⟩
def Mp.flip (μ:Mp) (k i:Nat):Mp:={ μ with pairs:=μ.pairs.set k ((μ.pairs.getD k ⟨0,[]⟩).flip (i/2^(k+1))) }
def aT.words (L:aT):List Nat:=L.sets.map Prod.snd
theorem aT.Oy {L:aT}:∀ k∈L.words,k∈L.fp:=by
 intro k hk;simp only [aT.words,List.mem_map] at hk;obtain ⟨l,hl,rfl⟩:=hk;simp only [aT.fp,List.mem_cons,List.mem_append,List.mem_flatMap];exact .inr (.inr ⟨l,hl,by simp⟩)
theorem Gx {l:List (Nat × Nat)} (h:(l.flatMap fun p=>[p.1,p.2]).Nodup):∀ (i j:Nat) (a b:Nat × Nat),l[i]? = some a→l[j]? = some b→i≠j→a.1≠b.1∧a.1≠b.2∧a.2≠b.1∧a.2≠b.2:=by
 induction l with
 | nil=>intro i j a b ha;simp at ha
 | cons p l ih =>
  rw [List.flatMap_cons,List.nodup_append] at h;obtain ⟨_,h2,h3⟩:=h
  have key:∀ (j:Nat) (b:Nat × Nat),l[j]? = some b→p.1≠b.1∧p.1≠b.2∧p.2≠b.1∧p.2≠b.2:=by
   intro j b hb;have hm:=List.mem_of_getElem? hb;have m1:b.1∈l.flatMap fun p=>[p.1,p.2]:=List.mem_flatMap.2 ⟨b,hm,by simp⟩
   have m2:b.2∈l.flatMap fun p=>[p.1,p.2]:=List.mem_flatMap.2 ⟨b,hm,by simp⟩
   exact ⟨h3 _ (by simp) _ m1,h3 _ (by simp) _ m2,h3 _ (by simp) _ m1,h3 _ (by simp) _ m2⟩
  intro i j a b ha hb hij;cases i with
  | zero =>
   simp at ha;subst ha;cases j with
   | zero=>exact (hij rfl).elim
   | succ j=>exact key j b (by simpa using hb)
  | succ i =>
   cases j with
   | zero =>
    simp at hb;subst hb;have:=key i a (by simpa using ha);exact ⟨this.1.symm,this.2.2.1.symm,this.2.1.symm,this.2.2.2.symm⟩
   | succ j=>exact ih h2 i j a b (by simpa using ha) (by simpa using hb) (by omega)
theorem aI.Co {w:World} {L:aT} {μ:Mp} (R:aI w L μ) {k:Nat} {l:Nat × Nat} (hl:L.sets[k]? = some l) :
  L.mb≠l.2∧L.mb≠l.1∧L.gv.ownBlock≠some l.2∧L.gv.ownBlock≠some l.1∧L.sv.ownBlock≠some l.2∧L.sv.ownBlock≠some l.1∧∀ j a,L.sets[j]? = some a→j≠k→a.1≠l.1∧a.1≠l.2∧a.2≠l.1∧a.2≠l.2:=by
 have h:=R.apart;have hm:=List.mem_of_getElem? hl;have m1:l.1∈L.sets.flatMap fun p=>[p.1,p.2]:=List.mem_flatMap.2 ⟨l,hm,by simp⟩
 have m2:l.2∈L.sets.flatMap fun p=>[p.1,p.2]:=List.mem_flatMap.2 ⟨l,hm,by simp⟩
 simp only [aT.fp,List.nodup_cons,List.nodup_append,List.mem_append,not_or] at h;obtain ⟨⟨⟨_,_⟩,h3⟩,⟨_,_,_⟩,h5,h6⟩:=h;refine ⟨fun e=>h3 (e▸m2),fun e=>h3 (e▸m1),fun e=>?_,fun e=>?_,fun e=>?_,fun e=>?_,fun j a hj hne=>Gx h5 j k a l hj hl hne⟩
 ·exact h6 l.2 (.inl (by simp [e])) _ m2 rfl
 ·exact h6 l.1 (.inl (by simp [e])) _ m1 rfl
 ·exact h6 l.2 (.inr (by simp [e])) _ m2 rfl
 ·exact h6 l.1 (.inr (by simp [e])) _ m1 rfl
theorem aI.turned {w w':World} {L:aT} {μ:Mp} (R:aI w L μ) {k:Nat} {l:Nat × Nat} (hl:L.sets[k]? = some l) (hk:k<μ.order) (i:Nat)
  (h:gL w' l ((μ.pairs.getD k ⟨0,[]⟩).flip (i/2^(k+1)))) (T:Touch (fun b=>b=l.2) w w'):aI w' L (μ.flip k i):=by
 obtain ⟨a1,_,a2,_,a3,_,a4⟩:=R.Co hl;have hp:=R.ok.pairs;refine ⟨R.blk.touch T a1,R.pages.touch T (fun g hg e=>a2 (by rw [hg,e])),?_,?_,R.apart,⟨R.ok.order,R.ok.len,by simp [Mp.flip,hp],R.ok.page⟩⟩
 ·have:=R.pairs.touch T (fun g hg e=>a3 (by rw [hg,e]));simpa [Mp.flip] using this
 ·intro j a s ha hs;by_cases hj:j=k
  ·subst hj;rw [hl] at ha;cases ha;simp [Mp.flip,show j<μ.pairs.length from by omega] at hs;rw [←hs];rw [List.getD_eq_getElem?_getD,List.getElem?_eq_getElem (show j<μ.pairs.length by omega)] at h;simpa using h
  ·have:=a4 j a ha hj;refine (R.sets j a s ha ?_).touch T this.2.1 this.2.2.2;simpa [Mp.flip,List.getElem?_set,Ne.symm hj] using hs
theorem aI.Jp {w:World} {L:aT} {μ:Mp} (R:aI w L μ) {i k:Nat} {p:Pg} (hi:μ.pages[i]? = some p) (hk:k<μ.order) (hn:i/2^(k+1)<(μ.pairs.getD k ⟨0,[]⟩).n) :
  Calls Tryz.prog 276 #[.pointer (some ⟨L.mb,0,none⟩),.int .i64 k,.int .i64 i] w fun e w'=>e=.returned (.tuple #[.bool (!eZ (μ.pairs.getD k ⟨0,[]⟩).ws (i/2^(k+1))),.int .i64 0])∧aI w' L (μ.flip k i)∧Touch (·∈L.words) w w':=by
 have HA:=Hd (R.at_ hi);have hlt:=(List.getElem?_eq_some_iff.1 hi).1;have hl:=R.ok.len;have ho:=R.ok.order;have zR:=R.blk.lt;have HR:=Hd R;have HN:=Hd hn;have HI:=Hd hi;clear R hi hn
 go_enter Tryz.func276,Tryz.ntmps276
 go_wp2_with fail
 refine HA.out.mono ?_
 rintro e w1 ⟨rfl,T1⟩;have T2:Touch Nothing w (w1.alloc (.cells #[.int .i64 p.kind,.int .i64 p.order,.int .i64 p.cls,.int .i64 p.live,.int .i64 p.next,.int .i64 p.prev,.int .i64 p.first,.int .u64 p.b0,.int .u64 p.b1,.int .u64 p.b2,.int .u64 p.b3] 128)):=T1.alloc _;have R1:=HR.out.aj T2;have c0:=R1.blk.cell 0;simp at c0;have HT2:=Hd T2;have HR1:=Hd R1;clear T1 T2 R1;unfold Pg.val
 go_wp2_with fail
 refine (lG k 0 _ _).mono ?_
 rintro e w2 ⟨rfl,rfl⟩;have HD:decide ((0:Int)≤(k:Int)∧(k:Int)≤(μ.order:Int)-1)=true:=by simp;omega
 rw [HD];obtain ⟨g,cap,l,hv,hc,hl,hg,hs⟩:=HR1.out.setAt hk;have c2:=HR1.out.blk.cell 2;simp [hv] at c2;have lg:=World.block_lt_of_cell? _ _ hg;have hk':(k:Int)<(μ.pairs.length:Int):=by have:=HR1.out.ok.pairs;omega
 have hsh:(i:Int)/2^(k+1)=((i/2^(k+1):Nat):Int):=by simp
 have hk1:((k:Int)+1).toNat=k+1:=by omega
 have HG:=Hd ((hs.touch (S:=Nothing) (Touch.refl Nothing _).drew (fun h=>h) (fun h=>h)).Jp (i/2^(k+1)) HN.out);have hw1:IntKind.i64.wrap ((k:Int)+1)=(k:Int)+1:=IntWalk.i64_in _ (by omega);have HTU:=Hd (fun w' h T=>(HR1.out.aj (Touch.refl Nothing _).drew).turned (w':=w') hl hk i h T);have HL:=Hd hl;clear hv hs hl HD;generalize hq:i/2^(k+1)=q at *;have HQ:=Hd hq;clear hq
 go_wp2_with fail
 refine wp_region_still_tail 11 (by kernel_rfl) (by kernel_rfl) ?_
 simp only [List.take_succ_cons,List.take_zero,List.drop_succ_cons,List.drop_zero,World.drew_eq]
 repeat still_step
 refine wpStill_nil ?_
 go_wp2_with fail
 refine HG.out.mono ?_
 rintro e w2 ⟨rfl,r1,r2⟩;have R2:=HTU.out _ r1 r2;have hm:l.2∈L.words:=List.mem_map.2 ⟨l,List.mem_of_getElem? HL.out,rfl⟩;have T3:Touch (·∈L.words) w w2:=HT2.out.drew.none_.trans (r2.mono (fun b _ e=>by rw [e];exact hm));have hi2:(μ.flip k i).pages[i]? = some p:=HI.out;have hp:=HR1.out.ok.pairs;have hk2:k<μ.pairs.length:=by omega
 have e2:(μ.flip k i).pairs.getD k ⟨0,[]⟩=(μ.pairs.getD k ⟨0,[]⟩).flip (i/2^(k+1)):=by
  unfold Mp.flip;rw [List.getD_eq_getElem?_getD,List.getElem?_set_self hk2];rfl
 have HP:=Hd (R2.XH hi2 (show k<(μ.flip k i).order from hk) (by rw [e2];show i/2^(k+1)<(μ.pairs.getD k ⟨0,[]⟩).n;rw [HQ.out];exact HN.out));have HS:=HR1.out.setAt hk
 have HV:eZ ((μ.flip k i).pairs.getD k ⟨0,[]⟩).ws (i/2^(k+1)) = !eZ (μ.pairs.getD k ⟨0,[]⟩).ws (i/2^(k+1)):=by
  obtain ⟨_,_,_,_,_,_,_,hs⟩:=HS;rw [e2];have h1:=hs.ok.len;have h2:=HN.out;rw [←HQ.out] at h2;rw [gT.flip,zO _ _ _ (by omega)];simp
 rw [HV] at HP;clear HV HS e2;generalize hB:eZ (μ.pairs.getD k ⟨0,[]⟩).ws (i/2^(k+1))=B at *;have HB:=Hd hB;clear hB;have HR2:=Hd R2;have HT3:=Hd T3;clear R2 T3 r1 r2 hi2
 go_wp2_with fail
 refine HP.out.mono ?_
 rintro e w3 ⟨rfl,T4⟩
 go_wp2_with fail
 exact bodyPost_ret (v:=.tuple #[.bool (!B),.int .i64 0]) (by simp [results,Tryz.results276,go_sem]) rfl ⟨by rw [HB.out],HR2.out.aj T4,HT3.out.trans T4.none_⟩
def eG (c:Int):Pg:={ aD 4 0 with cls:=c }
def D7 (w:World) (g o:Nat) (q:Pg):World :=
 (((((((((((w.setCell ⟨g,o,none⟩ (.int .i64 q.kind)).setCell ⟨g,o+1,none⟩ (.int .i64 q.order)).setCell ⟨g,o+2,none⟩ (.int .i64 q.cls)).setCell ⟨g,o+3,none⟩ (.int .i64 q.live)).setCell ⟨g,o+4,none⟩ (.int .i64 q.next)).setCell ⟨g,o+5,none⟩ (.int .i64 q.prev)).setCell ⟨g,o+6,none⟩ (.int .i64 q.first)).setCell ⟨g,o+7,none⟩ (.int .u64 q.b0)).setCell ⟨g,o+8,none⟩ (.int .u64 q.b1)).setCell ⟨g,o+9,none⟩ (.int .u64 q.b2)).setCell ⟨g,o+10,none⟩ (.int .u64 q.b3))
theorem aI.step {w W:World} {L:aT} {μ:Mp} {i g cap:Nat} {p p':Pg} (h:aI W L (μ.aA i p)∧Touch (fun k=>k=g) w W) (hi:i<μ.pages.length) (hv:L.gv=.slice (some ⟨g,0,none⟩) μ.pages.length cap)
  {j:Nat} {u:Value} (hj:j<11) (he:p'.cells=p.cells.set j u) (ho:p'.ok) :
  aI (W.setCell ⟨g,i*11+j,none⟩ u) L (μ.aA i p')∧Touch (fun k=>k=g) w (W.setCell ⟨g,i*11+j,none⟩ u):=by
 obtain ⟨R,T⟩:=h;have:=R.store (i:=i) (g:=g) (cap:=cap) (p:=p) (p':=p') (by simp [Mp.aA,hi]) (by rw [hv];simp [Mp.aA]) hj he ho;rw [Mp.iG] at this;exact ⟨this.1,T.trans this.2⟩
theorem Mp.kT {μ:Mp} {i:Nat} {p:Pg} (h:μ.pages[i]? = some p):μ.aA i p=μ:=by
 obtain ⟨hi,he⟩:=List.getElem?_eq_some_iff.1 h;unfold Mp.aA;rw [←he,List.set_getElem_self]
theorem aI.sV {w:World} {L:aT} {μ:Mp} (R:aI w L μ) {i g cap:Nat} {p q:Pg} (hi:μ.pages[i]? = some p) (hv:L.gv=.slice (some ⟨g,0,none⟩) μ.pages.length cap) (o:q.ok) :
  aI (D7 w g (i*11) q) L (μ.aA i q)∧Touch (fun k=>k=g) w (D7 w g (i*11) q):=by
 have hlt:=(List.getElem?_eq_some_iff.1 hi).1;have po:=R.ok.page p (List.mem_of_getElem? hi);have h0:aI w L (μ.aA i p)∧Touch (fun k=>k=g) w w:=⟨by rw [Mp.kT hi];exact R,Touch.refl _ _⟩;have h1:=aI.step h0 hlt hv (j:=0) (u:=.int .i64 q.kind) (p':={ p with kind:=q.kind }) (by omega) rfl ⟨o.kind,po.order,po.cls,po.live,po.next,po.prev,po.first,po.w0,po.w1,po.w2,po.w3⟩;have h2:=aI.step h1 hlt hv (j:=1) (u:=.int .i64 q.order) (p':={ p with kind:=q.kind,order:=q.order }) (by omega) rfl ⟨o.kind,o.order,po.cls,po.live,po.next,po.prev,po.first,po.w0,po.w1,po.w2,po.w3⟩;have h3:=aI.step h2 hlt hv (j:=2) (u:=.int .i64 q.cls) (p':={ p with kind:=q.kind,order:=q.order,cls:=q.cls }) (by omega) rfl ⟨o.kind,o.order,o.cls,po.live,po.next,po.prev,po.first,po.w0,po.w1,po.w2,po.w3⟩;have h4:=aI.step h3 hlt hv (j:=3) (u:=.int .i64 q.live) (p':={ q with next:=p.next,prev:=p.prev,first:=p.first,b0:=p.b0,b1:=p.b1,b2:=p.b2,b3:=p.b3 }) (by omega) rfl ⟨o.kind,o.order,o.cls,o.live,po.next,po.prev,po.first,po.w0,po.w1,po.w2,po.w3⟩;have h5:=aI.step h4 hlt hv (j:=4) (u:=.int .i64 q.next) (p':={ q with prev:=p.prev,first:=p.first,b0:=p.b0,b1:=p.b1,b2:=p.b2,b3:=p.b3 }) (by omega) rfl ⟨o.kind,o.order,o.cls,o.live,o.next,po.prev,po.first,po.w0,po.w1,po.w2,po.w3⟩;have h6:=aI.step h5 hlt hv (j:=5) (u:=.int .i64 q.prev) (p':={ q with first:=p.first,b0:=p.b0,b1:=p.b1,b2:=p.b2,b3:=p.b3 }) (by omega) rfl ⟨o.kind,o.order,o.cls,o.live,o.next,o.prev,po.first,po.w0,po.w1,po.w2,po.w3⟩;have h7:=aI.step h6 hlt hv (j:=6) (u:=.int .i64 q.first) (p':={ q with b0:=p.b0,b1:=p.b1,b2:=p.b2,b3:=p.b3 }) (by omega) rfl ⟨o.kind,o.order,o.cls,o.live,o.next,o.prev,o.first,po.w0,po.w1,po.w2,po.w3⟩;have h8:=aI.step h7 hlt hv (j:=7) (u:=.int .u64 q.b0) (p':={ q with b1:=p.b1,b2:=p.b2,b3:=p.b3 }) (by omega) rfl ⟨o.kind,o.order,o.cls,o.live,o.next,o.prev,o.first,o.w0,po.w1,po.w2,po.w3⟩;have h9:=aI.step h8 hlt hv (j:=8) (u:=.int .u64 q.b1) (p':={ q with b2:=p.b2,b3:=p.b3 }) (by omega) rfl ⟨o.kind,o.order,o.cls,o.live,o.next,o.prev,o.first,o.w0,o.w1,po.w2,po.w3⟩;have h10:=aI.step h9 hlt hv (j:=9) (u:=.int .u64 q.b2) (p':={ q with b3:=p.b3 }) (by omega) rfl ⟨o.kind,o.order,o.cls,o.live,o.next,o.prev,o.first,o.w0,o.w1,o.w2,po.w3⟩;exact aI.step h10 hlt hv (j:=10) (u:=.int .u64 q.b3) (p':=q) (by omega) rfl o
theorem nE (kind order:Int) (h:0≤kind∧kind≤4) (ho:0≤order∧order≤8):(aD kind order).ok :=
 ⟨h,ho,by simp [aD],by simp [aD],by simp [aD],by simp [aD],by simp [aD],by simp [aD],by simp [aD],by simp [aD],by simp [aD]⟩
theorem Lu (c:Nat) (h:c<8):(eG c).ok :=
 ⟨by simp [eG,aD],by simp [eG,aD],⟨by show (0:Int)≤(c:Int);omega,by show (c:Int)≤7;omega⟩,by simp [eG,aD],by simp [eG,aD],by simp [eG,aD],by simp [eG,aD],by simp [eG,aD],by simp [eG,aD],by simp [eG,aD],by simp [eG,aD]⟩
theorem aI.Oz {w:World} {L:aT} {μ:Mp} (R:aI w L μ) {i:Nat} {p:Pg} (hi:μ.pages[i]? = some p) (c:Nat) (hc:c<8) :
  Calls Tryz.prog 279 #[.pointer (some ⟨L.mb,0,none⟩),.int .i64 i,.int .i64 c] w fun e w'=>e=.returned (.int .i64 0)∧aI w' L (μ.aA i (eG c))∧Touch (fun k=>some k=L.gv.ownBlock) w w':=by
 have HA:=Hd (R.at_ hi);have hlt:=(List.getElem?_eq_some_iff.1 hi).1;have hl:=R.ok.len;have zR:=R.blk.lt;have HR:=Hd R;have HI:=Hd hi;clear R hi
 go_enter Tryz.func279,Tryz.ntmps279
 go_wp2_with fail
 refine HA.out.mono ?_
 rintro e w1 ⟨rfl,T1⟩;have T2:Touch Nothing w (w1.alloc (.cells #[.int .i64 p.kind,.int .i64 p.order,.int .i64 p.cls,.int .i64 p.live,.int .i64 p.next,.int .i64 p.prev,.int .i64 p.first,.int .u64 p.b0,.int .u64 p.b1,.int .u64 p.b2,.int .u64 p.b3] 128)):=T1.alloc _;have HT2:=Hd T2;have R1:=HR.out.aj T2;obtain ⟨g,cap,hv,hcap,hcell,hfree⟩:=R1.page HI.out;have c1:=R1.blk.cell 1;simp [hv] at c1;have d0:=hcell 0 _ rfl;simp only [Nat.add_zero] at d0;have f0:=hfree (i*11);have f1:=hfree (i*11+1);have f2:=hfree (i*11+2);have f3:=hfree (i*11+3);have f4:=hfree (i*11+4);have f5:=hfree (i*11+5);have f6:=hfree (i*11+6);have f7:=hfree (i*11+7);have f8:=hfree (i*11+8);have f9:=hfree (i*11+9);have f10:=hfree (i*11+10);have d1:=hcell 1 _ rfl;have d2:=hcell 2 _ rfl;have d3:=hcell 3 _ rfl;have d4:=hcell 4 _ rfl;have d5:=hcell 5 _ rfl;have d6:=hcell 6 _ rfl;have d7:=hcell 7 _ rfl;have d8:=hcell 8 _ rfl;have d9:=hcell 9 _ rfl;have zQ:=hcell 10 _ rfl;have HR1:=Hd R1;have HC:=Hd hcell;have HF:=Hd hfree;have HV:=Hd hv;clear T1 T2 R1 hcell hfree hv;have lg:g<(w1.alloc (.cells #[.int .i64 p.kind,.int .i64 p.order,.int .i64 p.cls,.int .i64 p.live,.int .i64 p.next,.int .i64 p.prev,.int .i64 p.first,.int .u64 p.b0,.int .u64 p.b1,.int .u64 p.b2,.int .u64 p.b3] 128)).heap.size:=World.block_lt_of_cell? _ _ (HC.out 0 _ rfl);have sK:=HR1.out.blk.lt;simp at lg sK;unfold Pg.val
 go_wp2_with fail
 refine (lG c 0 _ _).mono ?_
 rintro e w2 ⟨rfl,rfl⟩;have HD:decide ((0:Int)≤(c:Int)∧(c:Int)≤7)=true:=by simp;omega
 rw [HD];clear HD
 go_wp2_with fail
 go_region_with (first | (go_at_call 278;refine (wC 4 0 _).mono ?_;rintro e w3 ⟨rfl,rfl⟩;unfold Pg.val aD))
 all_goals
  have hst:=(HR1.out.sV (q:=aD 4 0) HI.out HV.out (nE 4 0 (by decide) (by decide)));have Rs:((((((((((((w1.alloc (.cells #[.int .i64 p.kind,.int .i64 p.order,.int .i64 p.cls,.int .i64 p.live,.int .i64 p.next,.int .i64 p.prev,.int .i64 p.first,.int .u64 p.b0,.int .u64 p.b1,.int .u64 p.b2,.int .u64 p.b3] 128)).setCell ⟨g,i*11,none⟩ (.int .i64 4)).setCell ⟨g,i*11+1,none⟩ (.int .i64 0)).setCell ⟨g,i*11+2,none⟩ (.int .i64 0)).setCell ⟨g,i*11+3,none⟩ (.int .i64 0)).setCell ⟨g,i*11+4,none⟩ (.int .i64 (-1))).setCell ⟨g,i*11+5,none⟩ (.int .i64 (-1))).setCell ⟨g,i*11+6,none⟩ (.int .i64 (-1))).setCell ⟨g,i*11+7,none⟩ (.int .u64 0)).setCell ⟨g,i*11+8,none⟩ (.int .u64 0)).setCell ⟨g,i*11+9,none⟩ (.int .u64 0)).setCell ⟨g,i*11+10,none⟩ (.int .u64 0))=D7 (w1.alloc (.cells #[.int .i64 p.kind,.int .i64 p.order,.int .i64 p.cls,.int .i64 p.live,.int .i64 p.next,.int .i64 p.prev,.int .i64 p.first,.int .u64 p.b0,.int .u64 p.b1,.int .u64 p.b2,.int .u64 p.b3] 128)) g (i*11) (aD 4 0):=rfl;rw [Rs];clear Rs c1 d0 d1 d2 d3 d4 d5 d6 d7 d8 d9 zQ f0 f1 f2 f3 f4 f5 f6 f7 f8 f9 f10 sK lg;have oL:=(HT2.out.none_.trans (hst.2.mono (T:=fun k=>some k=L.gv.ownBlock) (fun k _ e=>by rw [HV.out,e];rfl)));have Yt:=hst.1;generalize D7 _ g (i*11) _=W at *;have zS:=Yt.aj (((Touch.refl Nothing W).alloc (.cells #[.int .i64 4,.int .i64 0,.int .i64 0,.int .i64 0,.int .i64 (-1),.int .i64 (-1),.int .i64 (-1),.int .u64 0,.int .u64 0,.int .u64 0,.int .u64 0] 128)).drew);have Cr:=(oL.alloc (.cells #[.int .i64 4,.int .i64 0,.int .i64 0,.int .i64 0,.int .i64 (-1),.int .i64 (-1),.int .i64 (-1),.int .u64 0,.int .u64 0,.int .u64 0,.int .u64 0] 128)).drew;clear Yt oL hst;generalize (World.alloc W _).drew=W2 at *;have c1:=zS.blk.cell 1;simp [HV.out] at c1;have hi4:(μ.aA i (aD 4 0)).pages[i]? = some (aD 4 0):=Mp.bQ _ HI.out;obtain ⟨g',cap',hv',pV,hcell',hfree'⟩:=zS.page hi4;obtain rfl:g'=g:=slice_inj (HV.out.symm.trans hv');have d2:=hcell' 2 _ rfl;have f2:=hfree' (i*11+2);have HR4:=Hd zS;have eu:=Hd Cr;clear zS Cr hcell' hfree' hv' pV hi4
  go_wp2_with fail
  go_ret
  obtain ⟨r1,r2⟩:=aI.step (w:=W2) ⟨HR4.out,Touch.refl _ _⟩ hlt HV.out (j:=2) (u:=.int .i64 c) (p':=eG c) (by omega) rfl (Lu c hc);exact ⟨rfl,r1,eu.out.trans (r2.mono (fun k _ e=>by rw [HV.out,e];rfl))⟩
def pq (p q:Pg):Bool:=p.kind == q.kind && (p.order == q.order && (p.cls == q.cls && (p.live == q.live && (p.next == q.next && (p.prev == q.prev && (p.first == q.first && ((p.b0:Int) == q.b0 && ((p.b1:Int) == q.b1 && ((p.b2:Int) == q.b2 && ((p.b3:Int) == q.b3))))))))))
theorem kU (p q:Pg):pq p q=true↔p=q:=by
 obtain ⟨a0,a1,a2,a3,a4,a5,a6,a7,a8,a9,a10⟩:=p;obtain ⟨b0,b1,b2,b3,b4,b5,b6,b7,b8,b9,b10⟩:=q;simp [pq,Int.natCast_inj]
theorem uH {P:Program} {t:TypeId} {k:IntKind} (h:P.underlying t=some (.int k)):P.plainKey t=true:=by
 unfold Program.plainKey;simp [h]
theorem je {P:Program} (w:World) (d:Nat) (xs ys:Array Value) (f:Field) (fs:List Field) (k k':IntKind) (a b:Int) (hn:f.name ≠ "_") (hu:P.underlying f.type=some (.int k'))
  (hx:xs[f.offset]? = some (.int k a)) (hy:ys[f.offset]? = some (.int k b)) {r:Bool} (ih:(Op.eqFields (d+1) xs ys fs).run P w=.ok r w) :
  (Op.eqFields (d+1) xs ys (f::fs)).run P w=.ok ((a == b) && r) w:=by
 rw [Op.eqFields,if_pos hn];simp only [Sem.run_bind,run_part_plain w (uH hu) hx,run_part_plain w (uH hu) hy,Result.andThen_ok,run_equalIn_int w d f.type k k' a b hu];cases h:(a == b) with
 | true=>simpa using ih
 | false=>simp
theorem oC {P:Program} (w:World) (d:Nat) (e:TypeId) (xs ys:Array Value) (i:Nat) (is:List Nat) (k k':IntKind) (a b:Int) (hu:P.underlying e=some (.int k'))
  (hx:xs[i*1]? = some (.int k a)) (hy:ys[i*1]? = some (.int k b)) {r:Bool} (ih:(Op.eqItems (d+1) e 1 xs ys is).run P w=.ok r w) :
  (Op.eqItems (d+1) e 1 xs ys (i::is)).run P w=.ok ((a == b) && r) w:=by
 rw [Op.eqItems];simp only [Sem.run_bind,run_part_plain w (uH hu) hx,run_part_plain w (uH hu) hy,Result.andThen_ok,run_equalIn_int w d e k k' a b hu];cases h:(a == b) with
 | true=>simpa using ih
 | false=>simp
theorem TD (p q:Pg) (w:World) (d:Nat):(Op.equalIn (d+2) 126 (.agg #[.int .u64 p.b0,.int .u64 p.b1,.int .u64 p.b2,.int .u64 p.b3]) (.agg #[.int .u64 q.b0,.int .u64 q.b1,.int .u64 q.b2,.int .u64 q.b3])).run Tryz.prog w=.ok ((p.b0:Int) == q.b0 && ((p.b1:Int) == q.b1 && ((p.b2:Int) == q.b2 && ((p.b3:Int) == q.b3 && true)))) w:=by
 obtain ⟨i,hi⟩:=info_of_underlying Tryz.underlying33;rw [run_equalIn_array w (d+1) _ _ Tryz.underlying126 hi];rw [show Tryz.prog.cellsOf 33=1 from by kernel_rfl]
 exact oC w d 33 _ _ 0 [1,2,3] .u64 .u64 _ _ Tryz.underlying33 rfl rfl
  (oC w d 33 _ _ 1 [2,3] .u64 .u64 _ _ Tryz.underlying33 rfl rfl
   (oC w d 33 _ _ 2 [3] .u64 .u64 _ _ Tryz.underlying33 rfl rfl
    (oC w d 33 _ _ 3 [] .u64 .u64 _ _ Tryz.underlying33 rfl rfl rfl)))
theorem oO (p q:Pg) (w:World):(binOp .neq 128 p.val q.val).run Tryz.prog w=.ok (.bool (!pq p q)) w:=by
 unfold Pg.val;rw [run_neq_struct,run_equalIn_agg w 9999 128 _ _ (by kernel_rfl) (by kernel_rfl)]
 have e0:(Op.eqFields 9999 #[.int .i64 p.kind,.int .i64 p.order,.int .i64 p.cls,.int .i64 p.live,.int .i64 p.next,.int .i64 p.prev,.int .i64 p.first,.int .u64 p.b0,.int .u64 p.b1,.int .u64 p.b2,.int .u64 p.b3] #[.int .i64 q.kind,.int .i64 q.order,.int .i64 q.cls,.int .i64 q.live,.int .i64 q.next,.int .i64 q.prev,.int .i64 q.first,.int .u64 q.b0,.int .u64 q.b1,.int .u64 q.b2,.int .u64 q.b3] [{ name := "Bits", type:=126,offset:=7,embedded:=false,tag := "", pkgPath := "", byteOffset:=56 }]).run Tryz.prog w=.ok ((p.b0:Int) == q.b0 && ((p.b1:Int) == q.b1 && ((p.b2:Int) == q.b2 && ((p.b3:Int) == q.b3 && true)))) w:=by
  rw [Op.eqFields,if_pos (by decide)]
  have XI:∀ (p:Pg),(part 126 #[.int .i64 p.kind,.int .i64 p.order,.int .i64 p.cls,.int .i64 p.live,.int .i64 p.next,.int .i64 p.prev,.int .i64 p.first,.int .u64 p.b0,.int .u64 p.b1,.int .u64 p.b2,.int .u64 p.b3] 7).run Tryz.prog w=.ok (.agg #[.int .u64 p.b0,.int .u64 p.b1,.int .u64 p.b2,.int .u64 p.b3]) w:=by
   intro p;simp [part,isAgg,run_underlying Tryz.underlying126,go_sem]
  simp only [Sem.run_bind,XI,Result.andThen_ok,TD p q w 9997];cases h:((p.b0:Int) == q.b0 && ((p.b1:Int) == q.b1 && ((p.b2:Int) == q.b2 && ((p.b3:Int) == q.b3 && true)))) with
  | true=>rfl
  | false=>rfl
 rw [show (Tryz.prog.fieldsOf 128).toList = [{ name := "Kind", type:=3,offset:=0,embedded:=false,tag := "", pkgPath := "", byteOffset:=0 },
    { name := "Order", type:=3,offset:=1,embedded:=false,tag := "", pkgPath := "", byteOffset:=8 },
    { name := "Class", type:=3,offset:=2,embedded:=false,tag := "", pkgPath := "", byteOffset:=16 },
    { name := "Live", type:=3,offset:=3,embedded:=false,tag := "", pkgPath := "", byteOffset:=24 },
    { name := "Next", type:=3,offset:=4,embedded:=false,tag := "", pkgPath := "", byteOffset:=32 },
    { name := "Prev", type:=3,offset:=5,embedded:=false,tag := "", pkgPath := "", byteOffset:=40 },
    { name := "First", type:=3,offset:=6,embedded:=false,tag := "", pkgPath := "", byteOffset:=48 },
    { name := "Bits", type:=126,offset:=7,embedded:=false,tag := "", pkgPath := "", byteOffset:=56 }] from by kernel_rfl]
 rw [je w 9998 _ _ _ _ .i64 .i64 p.kind q.kind (by decide) Tryz.underlying3 rfl rfl
  (je w 9998 _ _ _ _ .i64 .i64 p.order q.order (by decide) Tryz.underlying3 rfl rfl
   (je w 9998 _ _ _ _ .i64 .i64 p.cls q.cls (by decide) Tryz.underlying3 rfl rfl
    (je w 9998 _ _ _ _ .i64 .i64 p.live q.live (by decide) Tryz.underlying3 rfl rfl
     (je w 9998 _ _ _ _ .i64 .i64 p.next q.next (by decide) Tryz.underlying3 rfl rfl
      (je w 9998 _ _ _ _ .i64 .i64 p.prev q.prev (by decide) Tryz.underlying3 rfl rfl
       (je w 9998 _ _ _ _ .i64 .i64 p.first q.first (by decide) Tryz.underlying3 rfl rfl e0))))))]
 simp [pq]
end Go.Proofs.YtnjcmcnjgdjbiaaGreatDoor
