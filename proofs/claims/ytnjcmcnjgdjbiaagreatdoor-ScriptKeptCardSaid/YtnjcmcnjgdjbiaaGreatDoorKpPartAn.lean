/- Conditions: as each theorem states. -/
import Derived.Test.YtnjcmcnjgdjbiaaGreatDoorKpPartAm
import Derived.Deep.CutBlock
import Derived.Deep.DeepAppendRoom
import Derived.ArgAppend
set_option maxRecDepth 100000
set_option maxHeartbeats 16000000
namespace Go.Proofs.YtnjcmcnjgdjbiaaGreatDoor
open Go.RowKit
def nk:Array Value:=#[.string ⟨#[109,97,108,108,111,99]⟩,.string ⟨#[99,97,108,108,111,99]⟩,.string ⟨#[97,108,105,103,110,101,100]⟩,.string ⟨#[114,101,97,108,108,111,99]⟩,.string ⟨#[102,114,101,101]⟩,.string ⟨#[117,115,97,98,108,101]⟩,.string ⟨#[108,111,97,100]⟩,.string ⟨#[115,116,111,114,101]⟩,.string ⟨#[108,111,97,100,119,111,114,100]⟩,.string ⟨#[115,116,111,114,101,119,111,114,100]⟩,.string ⟨#[114,101,97,100]⟩,.string ⟨#[119,114,105,116,101]⟩,.string ⟨#[116,114,105,109]⟩,.string ⟨#[115,116,97,116,115]⟩]
def mq:Array Value:=#[.string ⟨#[110,33]⟩,.string ⟨#[110,110,33]⟩,.string ⟨#[110,110,33]⟩,.string ⟨#[97,110,33]⟩,.string ⟨#[97]⟩,.string ⟨#[97]⟩,.string ⟨#[97]⟩,.string ⟨#[97,110]⟩,.string ⟨#[97]⟩,.string ⟨#[97,110]⟩,.string ⟨#[97,110]⟩,.string ⟨#[97,100]⟩,.string ⟨#[]⟩,.string ⟨#[]⟩]
def jl (k:Nat):List UInt8:=Txt.sO.getD k []
theorem mU (k:Nat) (hk:k<14):nk.toList[k]? = some (.string ⟨(dJ k).toArray⟩):=by
 match k,hk with
 | 0,_=>rfl
 | 1,_=>rfl
 | 2,_=>rfl
 | 3,_=>rfl
 | 4,_=>rfl
 | 5,_=>rfl
 | 6,_=>rfl
 | 7,_=>rfl
 | 8,_=>rfl
 | 9,_=>rfl
 | 10,_=>rfl
 | 11,_=>rfl
 | 12,_=>rfl
 | 13,_=>rfl
theorem Ho (k:Nat) (hk:k<14):mq.toList[k]? = some (.string ⟨(jl k).toArray⟩):=by
 match k,hk with
 | 0,_=>rfl
 | 1,_=>rfl
 | 2,_=>rfl
 | 3,_=>rfl
 | 4,_=>rfl
 | 5,_=>rfl
 | 6,_=>rfl
 | 7,_=>rfl
 | 8,_=>rfl
 | 9,_=>rfl
 | 10,_=>rfl
 | 11,_=>rfl
 | 12,_=>rfl
 | 13,_=>rfl
def Listed (cs:Array Value) (w:World) (e:Ending) (w':World):Prop :=
 ∃ g,g=w.heap.size∧e=.returned (.slice (some ⟨g,0,none⟩) 14 14)∧aC w' g 9 cs.toList∧g<w'.heap.size∧Touch Nothing w w'
theorem WT (w:World):Calls Tryz.prog 78 #[] w (Listed nk w):=by
 have H:=Hd (aC.new w nk 9);have HS:=Hd (show w.heap.size<(w.alloc (.cells nk 9)).heap.size by simp);unfold nk at H HS
 go_enter Tryz.func78,Tryz.ntmps78
 go_wp2_with fail
 go_ret
 exact ⟨w.heap.size,rfl,rfl,H.out,HS.out,(Touch.refl _ _).alloc _⟩
theorem Uw (w:World):Calls Tryz.prog 79 #[] w (Listed mq w):=by
 have H:=Hd (aC.new w mq 9);have HS:=Hd (show w.heap.size<(w.alloc (.cells mq 9)).heap.size by simp);unfold mq at H HS
 go_enter Tryz.func79,Tryz.ntmps79
 go_wp2_with fail
 go_ret
 exact ⟨w.heap.size,rfl,rfl,H.out,HS.out,(Touch.refl _ _).alloc _⟩
def qA (s:ByteArray) (k:Nat):Prop:=k≤s.size∧(Txt.aL 32 s.data.toList).1=s.data.toList.take k++(Txt.aL 32 (s.data.toList.drop k)).1
theorem qA.more {s:ByteArray} {k:Nat} (H:qA s k) (h:k<s.size) (hx:s[k]'h≠32):qA s (k+1):=by
 refine ⟨h,?_⟩;have hz:s.data.toList.length=s.size:=by rw [Array.length_toList];rfl
 rw [H.2,dx s k h,List.take_add_one];have:s.data.toList[k]? = some (s[k]'h):=Lib.data_getElem? s k h;rw [this]
 conv=>lhs;unfold Txt.aL
 rw [if_neg hx];simp
theorem qA.stop {s:ByteArray} {k:Nat} (H:qA s k) (h:∀ h:k<s.size,s[k]'h=32):(Txt.aL 32 s.data.toList).1=s.data.toList.take k:=by
 rw [H.2];by_cases hk:k<s.size
 ·rw [dx s k hk];unfold Txt.aL;rw [if_pos (h hk)];simp
 ·rw [iV s k (by omega)];simp [Txt.aL]
def o8 (head:List UInt8) (k:Nat):Int:=match Txt.idx head (Txt.opWords.take k) with | none=>-1 | some i=>i
structure L0 (w wr:World):Prop where
 z2:aC wr w.heap.size 43 au.zero.cells
 z4:aC wr (w.heap.size+1) 43 au.zero.cells
 touch:Touch Nothing w wr
theorem L0.start (w:World):L0 w ((w.alloc (.cells #[.int .i64 0,.int .i64 0,.int .u64 0,.int .u64 0,.int .u64 0,.bool false,.slice none 0 0] 43)).alloc (.cells #[.int .i64 0,.int .i64 0,.int .u64 0,.int .u64 0,.int .u64 0,.bool false,.slice none 0 0] 43)):=by
 have B1:=aC.new w #[.int .i64 0,.int .i64 0,.int .u64 0,.int .u64 0,.int .u64 0,.bool false,.slice none 0 0] 43;have hz1:(w.alloc (.cells #[.int .i64 0,.int .i64 0,.int .u64 0,.int .u64 0,.int .u64 0,.bool false,.slice none 0 0] 43)).heap.size=w.heap.size+1:=by simp
 have B2:=aC.new (w.alloc (.cells #[.int .i64 0,.int .i64 0,.int .u64 0,.int .u64 0,.int .u64 0,.bool false,.slice none 0 0] 43)) #[.int .i64 0,.int .i64 0,.int .u64 0,.int .u64 0,.int .u64 0,.bool false,.slice none 0 0] 43;rw [hz1] at B2;exact ⟨B1.alloc _,B2,((Touch.refl _ w).alloc _).alloc _⟩
theorem L0.zzz {w wr:World} (L:L0 w wr):wr.cell? ⟨w.heap.size+1,0,none⟩=some (.int .i64 0)∧wr.cell? ⟨w.heap.size+1,1,none⟩=some (.int .i64 0)∧wr.cell? ⟨w.heap.size+1,2,none⟩=some (.int .u64 0)∧wr.cell? ⟨w.heap.size+1,3,none⟩=some (.int .u64 0)∧wr.cell? ⟨w.heap.size+1,4,none⟩=some (.int .u64 0)∧wr.cell? ⟨w.heap.size+1,5,none⟩=some (.bool false)∧wr.cell? ⟨w.heap.size+1,6,none⟩=some (.slice none 0 0)∧wr.cell? ⟨w.heap.size,0,none⟩=some (.int .i64 0)∧wr.cell? ⟨w.heap.size,1,none⟩=some (.int .i64 0)∧wr.cell? ⟨w.heap.size,2,none⟩=some (.int .u64 0)∧wr.cell? ⟨w.heap.size,3,none⟩=some (.int .u64 0)∧wr.cell? ⟨w.heap.size,4,none⟩=some (.int .u64 0)∧wr.cell? ⟨w.heap.size,5,none⟩=some (.bool false)∧wr.cell? ⟨w.heap.size,6,none⟩=some (.slice none 0 0)∧wr.frozen? ⟨w.heap.size,0,none⟩=false∧wr.frozen? ⟨w.heap.size,1,none⟩=false∧wr.frozen? ⟨w.heap.size,2,none⟩=false∧wr.frozen? ⟨w.heap.size,3,none⟩=false∧wr.frozen? ⟨w.heap.size,4,none⟩=false∧wr.frozen? ⟨w.heap.size,5,none⟩=false∧wr.frozen? ⟨w.heap.size,6,none⟩=false:=⟨L.z4.cell 0,L.z4.cell 1,L.z4.cell 2,L.z4.cell 3,L.z4.cell 4,L.z4.cell 5,L.z4.cell 6,L.z2.cell 0,L.z2.cell 1,L.z2.cell 2,L.z2.cell 3,L.z2.cell 4,L.z2.cell 5,L.z2.cell 6,L.z2.free 0,L.z2.free 1,L.z2.free 2,L.z2.free 3,L.z2.free 4,L.z2.free 5,L.z2.free 6⟩
theorem L0.still {w wr w':World} (L:L0 w wr) (T:Touch Nothing wr w'):L0 w w':=⟨L.z2.touch T (fun h=>h),L.z4.touch T (fun h=>h),L.touch.trans T⟩
theorem xB (s:ByteArray) (n:Nat):(s.extract 0 n).toList=s.data.toList.take n:=by
 rw [ByteArray.toList_eq];simp [ByteArray.data_extract]
theorem Qy (w v:List UInt8) (l:List (List UInt8)):Txt.idx w (l++[v])=match Txt.idx w l with | some i=>some i | none=>if v=w then some l.length else none:=by
 induction l with
 | nil=>simp [Txt.idx]
 | cons u l ih =>
  rw [List.cons_append];simp only [Txt.idx];by_cases hu:u=w
  ·simp [hu]
  ·simp only [if_neg hu,ih];cases Txt.idx w l with
   | some i=>rfl
   | none=>by_cases hv:v=w <;> simp [hv]
theorem KD (head:List UInt8) (k:Nat) (hk:k<14) (h:dJ k=head):o8 head (k+1)=k:=by
 subst h;have:∀ k:Fin 14,o8 (dJ k.val) (k.val+1)=(k.val:Int):=by decide +kernel
 exact this ⟨k,hk⟩
theorem Hq (head:List UInt8) (k:Nat) (hk:k<14) (h:dJ k≠head):o8 head (k+1)=o8 head k:=by
 unfold o8;have hl:Txt.opWords.length=14:=rfl
 have e:Txt.opWords.take (k+1)=Txt.opWords.take k++[dJ k]:=by
  rw [List.take_add_one]
  have:Txt.opWords[k]? = some (dJ k):=by
   unfold dJ;rw [List.getD_eq_getElem?_getD,List.getElem?_eq_getElem (by omega)];rfl
  rw [this];rfl
 rw [e,Qy];cases Txt.idx head (Txt.opWords.take k) with
 | some i=>rfl
 | none=>simp [h]
theorem Bo (head:List UInt8):o8 head 14=match Txt.idx head Txt.opWords with | none=>-1 | some i=>i:=rfl
theorem Gd (k:Nat):∀ x∈jl k,x=33∨x=97∨x=100∨x=110:=by
 by_cases h:k<14
 ·have:∀ k:Fin 14,∀ x∈jl k.val,x=33∨x=97∨x=100∨x=110:=by decide +kernel
  exact this ⟨k,h⟩
 ·have hl:Txt.sO.length=14:=rfl;unfold jl;rw [List.getD_eq_getElem?_getD,List.getElem?_eq_none (by omega)];intro x hx;cases hx
theorem Gf (k:Nat):(jl k).length≤3:=by
 by_cases h:k<14
 ·have:∀ k:Fin 14,(jl k.val).length≤3:=by decide +kernel
  exact this ⟨k,h⟩
 ·have hl:Txt.sO.length=14:=rfl;unfold jl;rw [List.getD_eq_getElem?_getD,List.getElem?_eq_none (by omega)];simp
structure LM (s:ByteArray) (w:World) (xb cb B i:Nat) (bad:Bool) (c:au) (x:Txt.Cd) (wr:World):Prop where
 l0:L0 w wr
 hi:i≤s.size
 at_:jM wr cb s i bad
 blk:aC wr xb 43 c.cells
 is:bn wr B c x
 lt:w.heap.size+1<xb∧xb<cb∧cb<B∧B≤wr.heap.size
theorem LM.cur {s:ByteArray} {w wr w':World} {xb cb B i:Nat} {bad:Bool} {c:au} {x:Txt.Cd} {q:Txt.Cu} (M:LM s w xb cb B i bad c x wr) (C:iJ s cb wr q w'):∃ i' bad',q=Proofs.YtnjcmcnjgdjbiaaGreatDoor.cur s i' bad'∧LM s w xb cb B i' bad' c x w':=by
 obtain ⟨i',bad',hi',hC,hq,T⟩:=C;have h:=M.lt;exact ⟨i',bad',hq,⟨⟨M.l0.z2.touch T (by omega),M.l0.z4.touch T (by omega),M.l0.touch.trans' T (fun j hj e=>by omega)⟩,hi',hC,M.blk.touch T (by omega),M.is.touch T (fun j h1 _ e=>by omega),⟨h.1,h.2.1,h.2.2.1,Nat.le_trans h.2.2.2 T.size⟩⟩⟩
theorem LM.mark {s:ByteArray} {w wr:World} {xb cb B i:Nat} {bad:Bool} {c:au} {x:Txt.Cd} (M:LM s w xb cb B i bad c x wr) (b:Bool):LM s w xb cb B i b c x (wr.setCell ⟨cb,2,none⟩ (.bool b)):=by
 have h:=M.lt;have T:=Touch.cellAt wr cb 2 (.bool b);exact ⟨⟨M.l0.z2.touch T (by omega),M.l0.z4.touch T (by omega),M.l0.touch.trans' T (fun j hj e=>by omega)⟩,M.hi,M.at_.set 2 _,M.blk.touch T (by omega),M.is.touch T (fun j h1 _ e=>by omega),⟨h.1,h.2.1,h.2.2.1,Nat.le_trans h.2.2.2 T.size⟩⟩
theorem LM.put {s:ByteArray} {w wr:World} {xb cb B i:Nat} {bad:Bool} {c:au} {x:Txt.Cd} (M:LM s w xb cb B i bad c x wr) (j:Nat) (v:Value) (c':au) (x':Txt.Cd) (hc:c.cells.set j v=c'.cells) (hx:bn wr B c x→bn wr B c' x') :
  LM s w xb cb B i bad c' x' (wr.setCell ⟨xb,j,none⟩ v):=by
 have h:=M.lt;have T:=Touch.cellAt wr xb j v;refine ⟨⟨M.l0.z2.touch T (by omega),M.l0.z4.touch T (by omega),M.l0.touch.trans' T (fun j hj e=>by omega)⟩,M.hi,M.at_.touch T (by omega),?_,(hx M.is).touch T (fun j h1 _ e=>by omega),⟨h.1,h.2.1,h.2.2.1,Nat.le_trans h.2.2.2 T.size⟩⟩;have:=M.blk.set j v;rwa [hc] at this
def lS (c:au) (b:Bool):au:={ c with deny:=b }
def qX (c:au) (v:Nat):au:={ c with ref:=v }
def zC (c:au) (v:Nat):au:={ c with p:=v }
def Qz (c:au) (v:Nat):au:={ c with a:=v }
def QA (c:au) (v:Nat):au:={ c with b:=v }
def Cc (c:au) (dp:Option Addr) (dn dc:Nat):au:={ c with dp:=dp,dn:=dn,dc:=dc }
theorem qD (ks:List UInt8) (st:Txt.St) (h:st.c.bad=true):Txt.iZ ks st=some st:=by
 cases ks with
 | nil=>rfl
 | cons k ks=>unfold Txt.iZ;rw [if_pos h]
theorem kQ (k:UInt8) (ks:List UInt8) (st:Txt.St) (h:st.c.bad=false):Txt.iZ (k::ks) st=match Txt.fB k st with | none=>none | some s'=>Txt.iZ ks s':=by
 conv=>lhs;unfold Txt.iZ
 rw [if_neg (by rw [h];simp)];cases Txt.fB k st <;> rfl
theorem vJ (s:ByteArray) (i:Nat) (b:Bool):(cur s i b).rest=s.data.toList.drop i:=rfl
theorem uh (s:ByteArray) (i:Nat) (b:Bool):(cur s i b).bad=b:=rfl
section
variable {s:ByteArray} {i:Nat} {x:Txt.Cd} {fst:Bool}
theorem KE (h:s.size≤i):Txt.fB 33 ⟨cur s i false,x,fst⟩=some ⟨cur s i false,x,fst⟩:=by
 unfold Txt.fB;rw [if_pos rfl,if_pos (by rw [vJ];exact iV s i h)]
theorem WU (h:i<s.size) {i1 i2:Nat} {b1 b2 dn:Bool} (h1:Txt.blank (cur s i false)=cur s i1 b1) (h2:Txt.sign 33 (cur s i1 b1)=(dn,cur s i2 b2)) :
  Txt.fB 33 ⟨cur s i false,x,fst⟩=some ⟨cur s i2 (b2 || !dn),{ x with deny:=dn },fst⟩:=by
 unfold Txt.fB;rw [if_pos rfl,if_neg (by rw [vJ,dx s i h];simp),h1,h2];rfl
theorem vK (k:UInt8) (hk:k≠33) {i1:Nat} (h1:Txt.blank (cur s i false)=cur s i1 true):Txt.fB k ⟨cur s i false,x,fst⟩=none:=by
 unfold Txt.fB;rw [if_neg hk,h1];simp only [uh,if_true]
theorem Ux {i1 i2:Nat} {b2:Bool} {d:List UInt8} (h1:Txt.blank (cur s i false)=cur s i1 false) (h2:Txt.fU (cur s i1 false)=(d,cur s i2 b2)) :
  Txt.fB 100 ⟨cur s i false,x,fst⟩=some ⟨cur s i2 b2,{ x with data:=d },fst⟩:=by
 unfold Txt.fB;rw [if_neg (by decide),h1];simp only [uh,Bool.false_eq_true,if_false];rw [if_neg (by decide),if_pos trivial,h2]
theorem Uy {i1 i2 v:Nat} {b2:Bool} (h1:Txt.blank (cur s i false)=cur s i1 false) (h2:Txt.number (cur s i1 false)=(v,cur s i2 b2)) :
  Txt.fB 110 ⟨cur s i false,x,fst⟩=some ⟨cur s i2 b2,if fst then { x with a:=v } else { x with b:=v },false⟩:=by
 unfold Txt.fB;rw [if_neg (by decide),h1];simp only [uh,Bool.false_eq_true,if_false];rw [if_neg (by decide),if_neg (by decide),h2]
theorem Bp {i1:Nat} (h1:Txt.blank (cur s i false)=cur s i1 false):Txt.fB 97 ⟨cur s i false,x,fst⟩=Txt.iN (cur s i1 false) x fst:=by
 unfold Txt.fB;rw [if_neg (by decide),h1];simp only [uh,Bool.false_eq_true,if_false];rw [if_pos trivial]
theorem KF {i1 i2 v:Nat} {b1 b2:Bool} (h1:Txt.sign 36 (cur s i false)=(false,cur s i1 b1)) (h2:Txt.number (cur s i1 b1)=(v,cur s i2 b2)) :
  Txt.iN (cur s i false) x fst=some ⟨cur s i2 b2,{ x with p:=v },fst⟩:=by
 unfold Txt.iN;rw [h1];simp only [Bool.false_eq_true,if_false,h2]
theorem QB {i1 i2 v:Nat} {b1 b2:Bool} (h1:Txt.sign 36 (cur s i false)=(true,cur s i1 b1)) (h2:Txt.number (cur s i1 b1)=(v,cur s i2 b2)) (hv:v<1∨4096<v) :
  Txt.iN (cur s i false) x fst=none:=by
 unfold Txt.iN;rw [h1];simp only [if_true,h2];rw [if_pos hv]
theorem QC {i1 i2 i3 v:Nat} {b1 b2 b3:Bool} (h1:Txt.sign 36 (cur s i false)=(true,cur s i1 b1)) (h2:Txt.number (cur s i1 b1)=(v,cur s i2 b2)) (hv:¬(v<1∨4096<v)) (h3:Txt.sign 43 (cur s i2 b2)=(false,cur s i3 b3)) :
  Txt.iN (cur s i false) x fst=some ⟨cur s i3 b3,{ x with ref:=v },fst⟩:=by
 unfold Txt.iN;rw [h1];simp only [if_true,h2];rw [if_neg hv,h3];simp only [Bool.false_eq_true,if_false]
theorem Nz {i1 i2 i3 i4 v p:Nat} {b1 b2 b3 b4:Bool} (h1:Txt.sign 36 (cur s i false)=(true,cur s i1 b1)) (h2:Txt.number (cur s i1 b1)=(v,cur s i2 b2)) (hv:¬(v<1∨4096<v)) (h3:Txt.sign 43 (cur s i2 b2)=(true,cur s i3 b3))
  (h4:Txt.number (cur s i3 b3)=(p,cur s i4 b4)):Txt.iN (cur s i false) x fst=some ⟨cur s i4 (b4 || decide (p=0)),{ x with ref:=v,p:=p },fst⟩:=by
 unfold Txt.iN;rw [h1];simp only [if_true,h2];rw [if_neg hv,h3];simp only [if_true,h4];rfl
end
def om (s:ByteArray) (ks:List UInt8) (st:Txt.St):Prop:=Txt.kK s.data.toList=Txt.lU (Txt.iZ ks st)
theorem om.step {s:ByteArray} {k:UInt8} {ks:List UInt8} {st st':Txt.St} (L:om s (k::ks) st) (hb:st.c.bad=false) (h:Txt.fB k st=some st'):om s ks st':=by
 unfold om at *;rw [L,kQ k ks st hb,h]
theorem om.none_ {s:ByteArray} {k:UInt8} {ks:List UInt8} {st:Txt.St} (L:om s (k::ks) st) (hb:st.c.bad=false) (h:Txt.fB k st=none):Txt.kK s.data.toList=none:=by
 unfold om at *;rw [L,kQ k ks st hb,h];rfl
theorem LM.start {s:ByteArray} {w wc w4:World} {n op:Nat} (L:L0 w wc) (hn:n≤s.size)
  (T:Touch Nothing ((wc.alloc (.cells #[.int .i64 ((op:Int)+1),.int .i64 0,.int .u64 0,.int .u64 0,.int .u64 0,.bool false,.slice none 0 0] 43)).alloc (.cells #[.string s,.int .i64 n,.bool false] 154)) w4) :
  LM s w wc.heap.size (wc.heap.size+1) w4.heap.size n false ⟨(op:Int)+1,0,0,0,0,false,none,0,0⟩ (Txt.Cd.none (op+1)) w4:=by
 have B1:=aC.new wc #[.int .i64 ((op:Int)+1),.int .i64 0,.int .u64 0,.int .u64 0,.int .u64 0,.bool false,.slice none 0 0] 43;have hz1:(wc.alloc (.cells #[.int .i64 ((op:Int)+1),.int .i64 0,.int .u64 0,.int .u64 0,.int .u64 0,.bool false,.slice none 0 0] 43)).heap.size=wc.heap.size+1:=by simp
 have T1:Touch Nothing wc (wc.alloc (.cells #[.int .i64 ((op:Int)+1),.int .i64 0,.int .u64 0,.int .u64 0,.int .u64 0,.bool false,.slice none 0 0] 43)):=(Touch.refl _ wc).alloc _;generalize wc.alloc (.cells #[.int .i64 ((op:Int)+1),.int .i64 0,.int .u64 0,.int .u64 0,.int .u64 0,.bool false,.slice none 0 0] 43)=wa at *;have B2:=aC.new wa #[.string s,.int .i64 n,.bool false] 154;rw [hz1] at B2;have hsz:=T.size;have hsa:(wa.alloc (.cells #[.string s,.int .i64 n,.bool false] 154)).heap.size=wc.heap.size+2:=by simp [hz1]
 have h4:=L.z4.lt;exact ⟨(L.still T1).still (((Touch.refl _ wa).alloc _).trans T),hn,B2.touch T (fun h=>h),(B1.alloc _).touch T (fun h=>h),⟨rfl,rfl,rfl,rfl,rfl,rfl,World.ownsRow_nil _ _ _ _⟩,by omega⟩
theorem qo {w:World} {B:Nat} {c:au} {x:Txt.Cd} (b:Bool) (h:bn w B c x):bn w B (lS c b) { x with deny:=b }:=⟨h.op,h.ref,h.p,h.a,h.b,rfl,h.own⟩
theorem NA {w:World} {B:Nat} {c:au} {x:Txt.Cd} (v:Nat) (h:bn w B c x):bn w B (qX c v) { x with ref:=v }:=⟨h.op,rfl,h.p,h.a,h.b,h.deny,h.own⟩
theorem Ce {w:World} {B:Nat} {c:au} {x:Txt.Cd} (v:Nat) (h:bn w B c x):bn w B (zC c v) { x with p:=v }:=⟨h.op,h.ref,rfl,h.a,h.b,h.deny,h.own⟩
theorem Uz {w:World} {B:Nat} {c:au} {x:Txt.Cd} (v:Nat) (h:bn w B c x):bn w B (Qz c v) { x with a:=v }:=⟨h.op,h.ref,h.p,rfl,h.b,h.deny,h.own⟩
theorem UA {w:World} {B:Nat} {c:au} {x:Txt.Cd} (v:Nat) (h:bn w B c x):bn w B (QA c v) { x with b:=v }:=⟨h.op,h.ref,h.p,h.a,rfl,h.deny,h.own⟩
theorem KG {w:World} {B B':Nat} {c:au} {x:Txt.Cd} {dp:Option Addr} {dn dc:Nat} {d:List UInt8} (hd:w.ownsRow B' 5 1 (.slice dp dn dc) d.length (byteCells d)) (hB:B≤B') (h:bn w B c x):bn w B (Cc c dp dn dc) { x with data:=d } :=
 ⟨h.op,h.ref,h.p,h.a,h.b,h.deny,fM hd hB⟩
theorem UC {s:ByteArray} {i:Nat} {x:Txt.Cd} {fst:Bool}:Txt.lU (some ⟨cur s i true,x,fst⟩)=none:=by
 show (if (cur s i true).bad=true∨(cur s i true).rest≠[] then none else some x)=none
 rw [if_pos (.inl rfl)]
theorem WV {s:ByteArray} {i:Nat} {x:Txt.Cd} {fst:Bool} (h:i=s.size):Txt.lU (some ⟨cur s i false,x,fst⟩)=some x:=by
 show (if (cur s i false).bad=true∨(cur s i false).rest≠[] then none else some x)=some x
 rw [if_neg];rw [vJ,iV s i (by omega),uh];simp
theorem QD {s:ByteArray} {i:Nat} {x:Txt.Cd} {fst:Bool} (h:i<s.size):Txt.lU (some ⟨cur s i false,x,fst⟩)=none:=by
 show (if (cur s i false).bad=true∨(cur s i false).rest≠[] then none else some x)=none
 rw [if_pos];rw [vJ,dx s i h];simp
theorem lu {α β:Type} {p:α × β} {a:α} {b:β} (h1:p.1=a) (h2:p.2=b):p=(a,b):=by rw [←h1,←h2]
theorem jN {s:ByteArray} {w w':World} (h:Txt.kK s.data.toList=none) (T:Touch Nothing w w'):xZ s w (.returned (.tuple #[au.zero.val,.bool false])) w':=by
 rw [Txt.sP] at h;exact ⟨au.zero,by rw [h];rfl,fun x hx=>(by rw [h] at hx;cases hx),T⟩
theorem KH {s:ByteArray} {w w':World} {c:au} {x:Txt.Cd} (h:Txt.kK s.data.toList=some x) (hc:bn w' w.heap.size c x) (T:Touch Nothing w w'):xZ s w (.returned (.tuple #[c.val,.bool true])) w':=by
 rw [Txt.sP] at h;exact ⟨c,by rw [h];rfl,fun y hy=>(by rw [h] at hy;cases hy;exact hc),T⟩
theorem bn.lower {w:World} {B B':Nat} {c:au} {x:Txt.Cd} (h:bn w B c x) (hB:B'≤B):bn w B' c x:=⟨h.op,h.ref,h.p,h.a,h.b,h.deny,fM h.own hB⟩
theorem NC (s:ByteArray) (n:Nat) (hd:(Txt.aL 32 s.data.toList).1=s.data.toList.take n) (hn:n≤s.size):Txt.kK s.data.toList=match Txt.idx (s.data.toList.take n) Txt.opWords with
  | none=>none
  | some i=>Txt.lU (Txt.iZ (jl i) ⟨cur s n false,Txt.Cd.none (i+1),true⟩):=by
 have hz:s.data.toList.length=s.size:=by rw [Array.length_toList];rfl
 unfold Txt.kK;rw [hd,List.length_take,Nat.min_eq_left (by omega)];rfl
theorem WW (s:ByteArray) (w:World) (hs:s.size≤1048576):Calls Tryz.prog 34 #[.string s] w (xZ s w):=by
 have WX:=Hd (L0.start w);have HW:=Hd (fun w1=>WT w1);have HBW:=Hd (fun w1=>Uw w1)
 go_enter Tryz.func34,Tryz.ntmps34
 go_upto_block 0 with fail
 generalize (w.alloc (.cells #[.int .i64 0,.int .i64 0,.int .u64 0,.int .u64 0,.int .u64 0,.bool false,.slice none 0 0] 43)).alloc (.cells #[.int .i64 0,.int .i64 0,.int .u64 0,.int .u64 0,.int .u64 0,.bool false,.slice none 0 0] 43)=w1 at *
 go_cut [5] (fun a wc=>∃ k:Nat,k≤s.size∧a=.int .i64 k∧(Txt.aL 32 s.data.toList).1=s.data.toList.take k∧L0 w wc)
 case first =>
  go_wp2_with fail
  go_loop [5] (fun a=>∃ k:Nat,a=.int .i64 k∧qA s k) (fun a=>s.size-(intOf a).toNat)
  case atStart=>exact ⟨0,rfl,Nat.zero_le _,by simp⟩
  case round =>
   obtain ⟨n,rfl,H⟩:=hrel;have HH:=Hd H;have hn:=H.1;clear H;by_cases hlt:n<s.size
   ·have hd0:decide (n<s.size)=true:=by simp;omega
    by_cases h32:s[n]'hlt=32
    ·have hx1:((((s[n]'hlt).toNat:Nat):Int) != 32)=false:=by rw [h32];rfl
     have HS:=Hd (HH.out.stop (fun _=>h32));clear h32
     go_wp2_with fail
     go_meet
     exact ⟨n,hn,rfl,HS.out,WX.out⟩
    ·have hx1:((((s[n]'hlt).toNat:Nat):Int) != 32)=true:=by have h:((((s[n]'hlt).toNat:Nat):Int) == 32)=false:=vF h32;rw [bne,h];rfl
     have HM:=Hd (HH.out.more hlt h32);clear h32
     go_wp2_with fail
     go_round
     case rel=>exact ⟨n+1,by go_num,HM.out⟩
     case measure=>simp [intOf];omega
   ·have hd0:decide (n<s.size)=false:=by simp;omega
    have HS:=Hd (HH.out.stop (fun h=>absurd h hlt))
    go_wp2_with fail
    go_meet
    exact ⟨n,hn,rfl,HS.out,WX.out⟩
 case rest =>
  obtain ⟨n,hn,rfl,hhead,hL⟩:=hcut;have HL:=Hd hL;have HD:=Hd (NC s n hhead hn);clear hL hhead WX
  go_wp2_with fail
  refine (HW.out _).mono ?_
  rintro e w2 ⟨gw,hgw,rfl,hB,hlt,T⟩;have HL2:=Hd (HL.out.still T);have HB:=Hd hB;clear hB T HL hgw
  go_upto_block 2 with fail
  go_cut [6] (fun a wx=>a=.int .i64 (o8 (s.data.toList.take n) 14)∧L0 w wx)
  case first =>
   go_wp2_with fail
   go_loopw [6,8] (fun a b wr=>∃ k:Nat,k≤14∧b=.int .i64 k∧a=.int .i64 (o8 (s.data.toList.take n) k)∧L0 w wr∧aC wr gw 9 nk.toList) (fun _ b _=>14-(intOf b).toNat)
   case atStart=>exact ⟨0,by omega,rfl,rfl,HL2.out,HB.out⟩
   case round =>
    obtain ⟨k,hk,rfl,rfl,hLk,WY⟩:=hrel;have jF:=Hd hLk;have Im:=Hd WY;have hg:=WY.lt;clear hLk WY;by_cases hlk:k<14
    ·have hc:wr.cell? ⟨gw,k,none⟩=some (.string ⟨(dJ k).toArray⟩):=by rw [Im.out.cell];exact mU k hlk
     by_cases he:dJ k=s.data.toList.take n
     ·have hq:(dJ k == (s.extract 0 n).toList)=true:=by rw [xB,he];simp
      have HS:=Hd (KD _ k hlk he);clear he
      go_wp2_with fail
      go_quiet (fail)
      go_wp2_with fail
      exact ⟨⟨k+1,by omega,by go_num,by rw [HS.out],jF.out.still ((Touch.refl _ _).drewN _),Im.out.drewN _⟩,by simp [intOf];omega⟩
     ·have hq:(dJ k == (s.extract 0 n).toList)=false:=by rw [xB,beq_eq_false_iff_ne];exact he
      have HS:=Hd (Hq _ k hlk he);clear he
      go_wp2_with fail
      go_quiet (fail)
      go_wp2_with fail
      exact ⟨⟨k+1,by omega,by go_num,by rw [HS.out],jF.out.still ((Touch.refl _ _).drewN _),Im.out.drewN _⟩,by simp [intOf];omega⟩
    ·obtain rfl:k=14:=by omega
     go_wp2_with fail
     go_meet
     exact ⟨rfl,jF.out⟩
  case rest =>
   obtain ⟨h1,hL3⟩:=hcut;subst h1;have jL:=Hd hL3;have aaJ:w.heap.size+1<wc.heap.size:=hL3.z4.lt;clear hL3 HL2;cases hix:Txt.idx (s.data.toList.take n) Txt.opWords with
   | none =>
    rw [Bo,hix];have HN:=Hd (show Txt.kK s.data.toList=none by rw [HD.out,hix]);clear hix;have ⟨u0,u1,u2,u3,u4,u5,u6,z0,z1,z2,z3,z4,z5,z6,y0,y1,y2,y3,y4,y5,y6⟩:=jL.out.zzz;have aO:=Hd (fI jL.out.z2 au.zero);have bI:=Hd (jL.out.touch.trans' (bY wc w.heap.size au.zero) (fun i hi h=>by omega));unfold jI au.zero at aO bI
    go_wp2_with fail
    have x0:=aO.out.cell 0;have x1:=aO.out.cell 1;have x2:=aO.out.cell 2;have x3:=aO.out.cell 3;have x4:=aO.out.cell 4;have x5:=aO.out.cell 5;have x6:=aO.out.cell 6;simp [au.cells] at x0 x1 x2 x3 x4 x5 x6;exact bodyPost_ret (v:=.tuple #[.agg #[.int .i64 0,.int .i64 0,.int .u64 0,.int .u64 0,.int .u64 0,.bool false,.slice none 0 0],.bool false]) (by simp [results,Tryz.results34,go_sem,x0,x1,x2,x3,x4,x5,x6]) rfl (jN HN.out bI.out)
   | some op =>
    have hop:op<14:=(Txt.I5 _ _ _ hix).1;rw [Bo,hix];have KI:=Hd (show om s (jl op) ⟨cur s n false,Txt.Cd.none (op+1),true⟩ by unfold om;rw [HD.out,hix]);clear hix;have ac0:(0:Int)≤(op:Int):=by omega
    obtain ⟨fb,Mt⟩:∃ fb:ByteArray,(⟨(jl op).toArray⟩:ByteArray)=fb:=⟨_,rfl⟩;have hfl:fb.data.toList=jl op:=by rw [←Mt]
    have HK:=Hd (show ∀ k (h:k<fb.size),fb[k]'h=33∨fb[k]'h=97∨fb[k]'h=100∨fb[k]'h=110 from fun k h=>Gd op _ (by rw [←hfl];exact List.mem_of_getElem? (Lib.data_getElem? fb k h)));rw [←hfl] at KI
    have hfs:fb.size≤3:=by
     have h1:fb.data.toList.length=fb.size:=by rw [Array.length_toList];rfl
     rw [←h1,hfl];exact Gf op
    go_wp2_with fail
    refine (HBW.out _).mono ?_
    rintro e w4 ⟨gb,hgb,rfl,hBb,aaK,Tb⟩;have WZ:gb=wc.heap.size+1+1:=by rw [hgb];simp
    have hcf:w4.cell? ⟨wc.heap.size+1+1,op,none⟩=some (.string fb):=by rw [←WZ,←Mt,hBb.cell];exact Ho op hop
    have ND:=Hd (LM.start (op:=op) jL.out hn Tb);obtain ⟨xb,hxb⟩:∃ xb,wc.heap.size=xb:=⟨_,rfl⟩;obtain ⟨cb,hcb⟩:∃ cb,xb+1=cb:=⟨_,rfl⟩;obtain ⟨B,hB⟩:∃ B,w4.heap.size=B:=⟨_,rfl⟩;rw [hxb,hcb,hB] at ND;rw [hxb] at aaJ hcf;rw [hcb] at hcf;have hxc:xb<cb:=by omega
    have hcB:cb<B:=ND.out.lt.2.2.1;subst WZ;clear hgb hBb aaK Tb jL hfl Mt
    go_upto_block 4 with fail
    clear hcb hB hxb
    go_cut [] (fun wx=>∃ fst i bad c x,LM s w xb cb B i bad c x wx∧Txt.kK s.data.toList=Txt.lU (some ⟨cur s i bad,x,fst⟩))
    case first =>
     clear hcf
     go_wp2_with fail
     go_loopw [12,13] (fun a b wr=>∃ k fst i bad c x,k≤fb.size∧b=.int .i64 (k:Nat)∧a=.bool fst∧LM s w xb cb B i bad c x wr∧om s (fb.data.toList.drop k) ⟨cur s i bad,x,fst⟩) (fun _ b _=>fb.size-(intOf b).toNat)
     case atStart=>exact ⟨0,true,n,false,_,_,by omega,rfl,rfl,ND.out,KI.out⟩
     case round =>
      obtain ⟨k,fst,i,bad,c,x,hk,rfl,rfl,hM,NG⟩:=hrel;have HM:=Hd hM;have Gg:=Hd NG;have c0:wr.cell? ⟨cb,0,none⟩=some (.string s):=hM.at_.cell 0;have c1:wr.cell? ⟨cb,1,none⟩=some (.int .i64 i):=hM.at_.cell 1;have c2:wr.cell? ⟨cb,2,none⟩=some (.bool bad):=hM.at_.cell 2;clear hM NG ND KI;by_cases hkl:k<fb.size
      ·have hd0:decide (k<fb.size)=true:=by simp;omega
       cases bad with
       | true =>
        go_wp2_with fail
        go_meet
        exact ⟨fst,i,true,c,x,HM.out,by have:=Gg.out;unfold om at this;rw [this,qD _ _ rfl]⟩
       | false =>
        have jF:=Hd (show om s (fb[k]'hkl::fb.data.toList.drop (k+1)) ⟨cur s i false,x,fst⟩ by rw [←dx fb k hkl];exact Gg.out);rcases HK.out k hkl with hq | hq | hq | hq
        ·rw [hq] at jF;have W9:((((fb[k]'hkl).toNat:Nat):Int) == 33)=true:=by rw [hq];rfl
         have Xa:((((fb[k]'hkl).toNat:Nat):Int) == 97)=false:=by rw [hq];rfl
         have QE:((((fb[k]'hkl).toNat:Nat):Int) == 100)=false:=by rw [hq];rfl
         clear hq;by_cases hlt:i<s.size
         ·have qY:=Hd (Bl s cb i false wr hs HM.out.hi HM.out.at_)
          go_wp2_with fail
          refine qY.out.mono ?_
          rintro e w5 ⟨rfl,xC⟩;obtain ⟨i1,b1,xD,xE⟩:=HM.out.cur xC;have bB:=Hd xE;have uj:=Hd xD;clear qY xC xE xD;have xG:=Hd (Ee s cb i1 b1 33 w5 hs bB.out.hi bB.out.at_)
          go_wp2_with fail
          refine xG.out.mono ?_
          rintro e w6 ⟨rfl,Dx⟩;obtain ⟨i2,b2,Dy,Dz⟩:=bB.out.cur Dx;have j6:=Hd Dz;obtain ⟨dn,hdn⟩:∃ dn,(Txt.sign 33 (cur s i1 b1)).1=dn:=⟨_,rfl⟩;rw [hdn];have HE2:=Hd (lu hdn Dy);clear hdn;clear xG Dx Dz Dy;have HST:=Hd (WU (x:=x) (fst:=fst) hlt uj.out HE2.out);have x5:w6.cell? ⟨xb,5,none⟩=some (.bool c.deny):=j6.out.blk.cell 5;have x5f:=j6.out.blk.free 5;have k2:w6.cell? ⟨cb,2,none⟩=some (.bool b2):=j6.out.at_.cell 2;have Xb:=j6.out.at_.free 2;cases dn with
          | true=>cases b2 with
           | true =>
            go_wp2_with fail
            exact ⟨⟨k+1,fst,i2,true,lS c true,_,by omega,by go_num,rfl,((j6.out.put 5 _ (lS c true) _ rfl (qo true)).mark true),jF.out.step rfl HST.out⟩,by simp [intOf];omega⟩
           | false =>
            go_wp2_with fail
            exact ⟨⟨k+1,fst,i2,false,lS c true,_,by omega,by go_num,rfl,((j6.out.put 5 _ (lS c true) _ rfl (qo true)).mark false),jF.out.step rfl HST.out⟩,by simp [intOf];omega⟩
          | false=>cases b2 with
           | true =>
            go_wp2_with fail
            exact ⟨⟨k+1,fst,i2,true,lS c false,_,by omega,by go_num,rfl,((j6.out.put 5 _ (lS c false) _ rfl (qo false)).mark true),jF.out.step rfl HST.out⟩,by simp [intOf];omega⟩
           | false =>
            go_wp2_with fail
            exact ⟨⟨k+1,fst,i2,true,lS c false,_,by omega,by go_num,rfl,((j6.out.put 5 _ (lS c false) _ rfl (qo false)).mark true),jF.out.step rfl HST.out⟩,by simp [intOf];omega⟩
         ·have HST:=Hd (KE (x:=x) (fst:=fst) (show s.size≤i by omega))
          go_wp2_with fail
          exact ⟨⟨k+1,fst,i,false,c,_,by omega,by go_num,rfl,HM.out,jF.out.step rfl HST.out⟩,by simp [intOf];omega⟩
        ·rw [hq] at jF;have W9:((((fb[k]'hkl).toNat:Nat):Int) == 33)=false:=by rw [hq];rfl
         have Xa:((((fb[k]'hkl).toNat:Nat):Int) == 97)=true:=by rw [hq];rfl
         have QE:((((fb[k]'hkl).toNat:Nat):Int) == 100)=false:=by rw [hq];rfl
         clear hq;have qY:=Hd (Bl s cb i false wr hs HM.out.hi HM.out.at_)
         go_wp2_with fail
         refine qY.out.mono ?_
         rintro e w5 ⟨rfl,xC⟩;obtain ⟨i1,b1,xD,xE⟩:=HM.out.cur xC;have bB:=Hd xE;have uj:=Hd xD;clear qY xC xE xD;have k2:w5.cell? ⟨cb,2,none⟩=some (.bool b1):=bB.out.at_.cell 2;have Xb:=bB.out.at_.free 2;cases b1 with
         | true =>
          have HN:=Hd (jF.out.none_ rfl (vK 97 (by decide) uj.out));have ⟨u0,u1,u2,u3,u4,u5,u6,z0,z1,z2,z3,z4,z5,z6,y0,y1,y2,y3,y4,y5,y6⟩:=bB.out.l0.zzz;have aO:=Hd (fI bB.out.l0.z2 au.zero);have bI:=Hd (bB.out.l0.touch.trans' (bY w5 w.heap.size au.zero) (fun i hi h=>by omega));unfold jI au.zero at aO bI
          go_wp2_with fail
          have x0:=aO.out.cell 0;have x1:=aO.out.cell 1;have x2:=aO.out.cell 2;have x3:=aO.out.cell 3;have x4:=aO.out.cell 4;have x5:=aO.out.cell 5;have x6:=aO.out.cell 6;simp [au.cells] at x0 x1 x2 x3 x4 x5 x6;exact bodyPost_ret (v:=.tuple #[.agg #[.int .i64 0,.int .i64 0,.int .u64 0,.int .u64 0,.int .u64 0,.bool false,.slice none 0 0],.bool false]) (by simp [results,Tryz.results34,go_sem,x0,x1,x2,x3,x4,x5,x6]) rfl (jN HN.out bI.out)
         | false =>
          have xG:=Hd (Ee s cb i1 false 36 w5 hs bB.out.hi bB.out.at_)
          go_wp2_with fail
          refine xG.out.mono ?_
          rintro e w6 ⟨rfl,Dx⟩;obtain ⟨i2,b2,Dy,Dz⟩:=bB.out.cur Dx;have j6:=Hd Dz;obtain ⟨sg,hsg⟩:∃ sg,(Txt.sign 36 (cur s i1 false)).1=sg:=⟨_,rfl⟩;rw [hsg];have HE2:=Hd (lu hsg Dy);clear hsg;clear xG Dx Dz Dy;cases sg with
          | false =>
           have Gh:=Hd (vG s cb i2 b2 w6 hs j6.out.hi j6.out.at_)
           go_wp2_with fail
           refine Gh.out.mono ?_
           rintro e w7 ⟨rfl,NH⟩;obtain ⟨i3,b3,NI,NJ⟩:=j6.out.cur NH;have dV:=Hd NJ;obtain ⟨v,hv⟩:∃ v,(Txt.number (cur s i2 b2)).1=v:=⟨_,rfl⟩;rw [hv];have NK:=Hd (lu hv NI);clear hv;clear Gh NH NJ NI;have HST:=Hd ((Bp (x:=x) (fst:=fst) uj.out).trans (KF HE2.out NK.out));have x2:w7.cell? ⟨xb,2,none⟩=some (.int .u64 c.p):=dV.out.blk.cell 2;have x2f:=dV.out.blk.free 2
           go_wp2_with fail
           exact ⟨⟨k+1,fst,i3,b3,zC c v,_,by omega,by go_num,rfl,(dV.out.put 2 _ (zC c v) _ rfl (Ce v)),jF.out.step rfl HST.out⟩,by simp [intOf];omega⟩
          | true =>
           have Gh:=Hd (vG s cb i2 b2 w6 hs j6.out.hi j6.out.at_)
           go_wp2_with fail
           refine Gh.out.mono ?_
           rintro e w7 ⟨rfl,NH⟩;obtain ⟨i3,b3,NI,NJ⟩:=j6.out.cur NH;have dV:=Hd NJ;obtain ⟨v,hv⟩:∃ v,(Txt.number (cur s i2 b2)).1=v:=⟨_,rfl⟩;rw [hv];have NK:=Hd (lu hv NI);clear hv;clear Gh NH NJ NI;by_cases hv:v<1∨4096<v
           ·have HN:=Hd (jF.out.none_ rfl ((Bp (x:=x) (fst:=fst) uj.out).trans (QB HE2.out NK.out hv)));rcases hv with hv | hv
            ·have hv1:(v:Int)<1:=by omega
             clear hv;have ⟨u0,u1,u2,u3,u4,u5,u6,z0,z1,z2,z3,z4,z5,z6,y0,y1,y2,y3,y4,y5,y6⟩:=dV.out.l0.zzz;have aO:=Hd (fI dV.out.l0.z2 au.zero);have bI:=Hd (dV.out.l0.touch.trans' (bY w7 w.heap.size au.zero) (fun i hi h=>by omega));unfold jI au.zero at aO bI
             go_wp2_with fail
             have x0:=aO.out.cell 0;have x1:=aO.out.cell 1;have x2:=aO.out.cell 2;have x3:=aO.out.cell 3;have x4:=aO.out.cell 4;have x5:=aO.out.cell 5;have x6:=aO.out.cell 6;simp [au.cells] at x0 x1 x2 x3 x4 x5 x6;exact bodyPost_ret (v:=.tuple #[.agg #[.int .i64 0,.int .i64 0,.int .u64 0,.int .u64 0,.int .u64 0,.bool false,.slice none 0 0],.bool false]) (by simp [results,Tryz.results34,go_sem,x0,x1,x2,x3,x4,x5,x6]) rfl (jN HN.out bI.out)
            ·have hv1:¬(v:Int)<1:=by omega
             have hv2:(4096:Int)<(v:Int):=by omega
             clear hv;have ⟨u0,u1,u2,u3,u4,u5,u6,z0,z1,z2,z3,z4,z5,z6,y0,y1,y2,y3,y4,y5,y6⟩:=dV.out.l0.zzz;have aO:=Hd (fI dV.out.l0.z2 au.zero);have bI:=Hd (dV.out.l0.touch.trans' (bY w7 w.heap.size au.zero) (fun i hi h=>by omega));unfold jI au.zero at aO bI
             go_wp2_with fail
             have x0:=aO.out.cell 0;have x1:=aO.out.cell 1;have x2:=aO.out.cell 2;have x3:=aO.out.cell 3;have x4:=aO.out.cell 4;have x5:=aO.out.cell 5;have x6:=aO.out.cell 6;simp [au.cells] at x0 x1 x2 x3 x4 x5 x6;exact bodyPost_ret (v:=.tuple #[.agg #[.int .i64 0,.int .i64 0,.int .u64 0,.int .u64 0,.int .u64 0,.bool false,.slice none 0 0],.bool false]) (by simp [results,Tryz.results34,go_sem,x0,x1,x2,x3,x4,x5,x6]) rfl (jN HN.out bI.out)
           ·have HV:=Hd hv;have hv1:(1:Int)≤(v:Int):=by omega
            have hv2:(v:Int)≤4096:=by omega
            have Sv:=Hd (dV.out.put 1 (.int .i64 v) (qX c v) _ rfl (NA v));clear hv;have x1:w7.cell? ⟨xb,1,none⟩=some (.int .i64 c.ref):=dV.out.blk.cell 1;have x1f:=dV.out.blk.free 1;obtain ⟨w8,hw8⟩:∃ w8,w7.setCell ⟨xb,1,none⟩ (.int .i64 v)=w8:=⟨_,rfl⟩;rw [hw8] at Sv
            go_wp2_with fail
            clear hw8;have Xc:=Hd (Ee s cb i3 b3 43 w8 hs Sv.out.hi Sv.out.at_);refine Xc.out.mono ?_
            rintro e w9 ⟨rfl,Zy⟩;obtain ⟨i4,b4,Zz,ZA⟩:=Sv.out.cur Zy;have Sw:=Hd ZA;obtain ⟨sh,hsh⟩:∃ sh,(Txt.sign 43 (cur s i3 b3)).1=sh:=⟨_,rfl⟩;rw [hsh];have ZB:=Hd (lu hsh Zz);clear hsh;clear Xc Zy ZA Zz;cases sh with
            | false =>
             have HST:=Hd ((Bp (x:=x) (fst:=fst) uj.out).trans (QC HE2.out NK.out HV.out ZB.out))
             go_wp2_with fail
             exact ⟨⟨k+1,fst,i4,b4,qX c v,_,by omega,by go_num,rfl,Sw.out,jF.out.step rfl HST.out⟩,by simp [intOf];omega⟩
            | true =>
             have Sy:=Hd (vG s cb i4 b4 w9 hs Sw.out.hi Sw.out.at_)
             go_wp2_with fail
             refine Sy.out.mono ?_
             rintro e IG ⟨rfl,Xd⟩;obtain ⟨i5,b5,Xe,Xf⟩:=Sw.out.cur Xd;have Cg:=Hd Xf;obtain ⟨p,hp⟩:∃ p,(Txt.number (cur s i4 b4)).1=p:=⟨_,rfl⟩;rw [hp];have HE5:=Hd (lu hp Xe);clear hp;clear Sy Xd Xf Xe;have HST:=Hd ((Bp (x:=x) (fst:=fst) uj.out).trans (Nz HE2.out NK.out HV.out ZB.out HE5.out));have x2:IG.cell? ⟨xb,2,none⟩=some (.int .u64 c.p):=Cg.out.blk.cell 2;have x2f:=Cg.out.blk.free 2;have k2b:IG.cell? ⟨cb,2,none⟩=some (.bool b5):=Cg.out.at_.cell 2;have ac1:=Cg.out.at_.free 2;by_cases hp:p=0
             ·have p1:((p:Int) == 0)=true:=by rw [hp];rfl
              have p2:(p == 0)=true:=by rw [hp];rfl
              have PY:=Hd (HST.out);rw [hp] at PY;have aaL:=Hd ((Cg.out.put 2 (.int .u64 p) (zC (qX c v) p) { x with ref:=v,p:=p } rfl (Ce p)).mark true);clear hp;cases b5
              all_goals
               go_wp2_with fail
               exact ⟨⟨k+1,fst,i5,true,zC (qX c v) p,_,by omega,by go_num,rfl,aaL.out,jF.out.step rfl (HST.out.trans (by rw [show decide (p=0)=true by simpa using p2];simp))⟩,by simp [intOf];omega⟩
             ·have p1:((p:Int) == 0)=false:=by rw [beq_eq_false_iff_ne];omega
              have p2:(p == 0)=false:=by rw [beq_eq_false_iff_ne];omega
              clear hp;cases b5
              all_goals
               go_wp2_with fail
               exact ⟨⟨k+1,fst,i5,_,zC (qX c v) p,_,by omega,by go_num,rfl,((Cg.out.put 2 (.int .u64 p) (zC (qX c v) p) { x with ref:=v,p:=p } rfl (Ce p)).mark _),jF.out.step rfl (HST.out.trans (by rw [show decide (p=0)=false by simpa using p2];simp))⟩,by simp [intOf];omega⟩
        ·rw [hq] at jF;have W9:((((fb[k]'hkl).toNat:Nat):Int) == 33)=false:=by rw [hq];rfl
         have Xa:((((fb[k]'hkl).toNat:Nat):Int) == 97)=false:=by rw [hq];rfl
         have QE:((((fb[k]'hkl).toNat:Nat):Int) == 100)=true:=by rw [hq];rfl
         clear hq;have qY:=Hd (Bl s cb i false wr hs HM.out.hi HM.out.at_)
         go_wp2_with fail
         refine qY.out.mono ?_
         rintro e w5 ⟨rfl,xC⟩;obtain ⟨i1,b1,xD,xE⟩:=HM.out.cur xC;have bB:=Hd xE;have uj:=Hd xD;clear qY xC xE xD;have k2:w5.cell? ⟨cb,2,none⟩=some (.bool b1):=bB.out.at_.cell 2;have Xb:=bB.out.at_.free 2;cases b1 with
         | true =>
          have HN:=Hd (jF.out.none_ rfl (vK 100 (by decide) uj.out));have ⟨u0,u1,u2,u3,u4,u5,u6,z0,z1,z2,z3,z4,z5,z6,y0,y1,y2,y3,y4,y5,y6⟩:=bB.out.l0.zzz;have aO:=Hd (fI bB.out.l0.z2 au.zero);have bI:=Hd (bB.out.l0.touch.trans' (bY w5 w.heap.size au.zero) (fun i hi h=>by omega));unfold jI au.zero at aO bI
          go_wp2_with fail
          have x0:=aO.out.cell 0;have x1:=aO.out.cell 1;have x2:=aO.out.cell 2;have x3:=aO.out.cell 3;have x4:=aO.out.cell 4;have x5:=aO.out.cell 5;have x6:=aO.out.cell 6;simp [au.cells] at x0 x1 x2 x3 x4 x5 x6;exact bodyPost_ret (v:=.tuple #[.agg #[.int .i64 0,.int .i64 0,.int .u64 0,.int .u64 0,.int .u64 0,.bool false,.slice none 0 0],.bool false]) (by simp [results,Tryz.results34,go_sem,x0,x1,x2,x3,x4,x5,x6]) rfl (jN HN.out bI.out)
         | false =>
          have ZC:=Hd (WO s cb i1 false w5 hs bB.out.hi bB.out.at_)
          go_wp2_with fail
          refine ZC.out.mono ?_
          rintro e w6 ⟨dp,dn,dc,rfl,hO,C6⟩;obtain ⟨i2,b2,e6,m6⟩:=bB.out.cur C6;have j6:=Hd m6;have HO:=Hd hO;have HST:=Hd (Ux (x:=x) (fst:=fst) uj.out (lu rfl e6));clear ZC hO C6 m6 e6;have x6:w6.cell? ⟨xb,6,none⟩=some (.slice c.dp c.dn c.dc):=j6.out.blk.cell 6;have x6f:=j6.out.blk.free 6
          go_wp2_with fail
          exact ⟨⟨k+1,fst,i2,b2,Cc c dp dn dc,_,by omega,by go_num,rfl,(j6.out.put 6 _ (Cc c dp dn dc) _ rfl (KG HO.out bB.out.lt.2.2.2)),jF.out.step rfl HST.out⟩,by simp [intOf];omega⟩
        ·rw [hq] at jF;have W9:((((fb[k]'hkl).toNat:Nat):Int) == 33)=false:=by rw [hq];rfl
         have Xa:((((fb[k]'hkl).toNat:Nat):Int) == 97)=false:=by rw [hq];rfl
         have QE:((((fb[k]'hkl).toNat:Nat):Int) == 100)=false:=by rw [hq];rfl
         clear hq;have qY:=Hd (Bl s cb i false wr hs HM.out.hi HM.out.at_)
         go_wp2_with fail
         refine qY.out.mono ?_
         rintro e w5 ⟨rfl,xC⟩;obtain ⟨i1,b1,xD,xE⟩:=HM.out.cur xC;have bB:=Hd xE;have uj:=Hd xD;clear qY xC xE xD;have k2:w5.cell? ⟨cb,2,none⟩=some (.bool b1):=bB.out.at_.cell 2;have Xb:=bB.out.at_.free 2;cases b1 with
         | true =>
          have HN:=Hd (jF.out.none_ rfl (vK 110 (by decide) uj.out));have ⟨u0,u1,u2,u3,u4,u5,u6,z0,z1,z2,z3,z4,z5,z6,y0,y1,y2,y3,y4,y5,y6⟩:=bB.out.l0.zzz;have aO:=Hd (fI bB.out.l0.z2 au.zero);have bI:=Hd (bB.out.l0.touch.trans' (bY w5 w.heap.size au.zero) (fun i hi h=>by omega));unfold jI au.zero at aO bI
          go_wp2_with fail
          have x0:=aO.out.cell 0;have x1:=aO.out.cell 1;have x2:=aO.out.cell 2;have x3:=aO.out.cell 3;have x4:=aO.out.cell 4;have x5:=aO.out.cell 5;have x6:=aO.out.cell 6;simp [au.cells] at x0 x1 x2 x3 x4 x5 x6;exact bodyPost_ret (v:=.tuple #[.agg #[.int .i64 0,.int .i64 0,.int .u64 0,.int .u64 0,.int .u64 0,.bool false,.slice none 0 0],.bool false]) (by simp [results,Tryz.results34,go_sem,x0,x1,x2,x3,x4,x5,x6]) rfl (jN HN.out bI.out)
         | false =>
          have xG:=Hd (vG s cb i1 false w5 hs bB.out.hi bB.out.at_)
          go_wp2_with fail
          refine xG.out.mono ?_
          rintro e w6 ⟨rfl,Dx⟩;obtain ⟨i2,b2,Dy,Dz⟩:=bB.out.cur Dx;have j6:=Hd Dz;obtain ⟨v,hv⟩:∃ v,(Txt.number (cur s i1 false)).1=v:=⟨_,rfl⟩;rw [hv];have HE2:=Hd (lu hv Dy);clear hv;clear xG Dx Dz Dy;have HST:=Hd (Uy (x:=x) (fst:=fst) uj.out HE2.out);have x3:w6.cell? ⟨xb,3,none⟩=some (.int .u64 c.a):=j6.out.blk.cell 3;have x3f:=j6.out.blk.free 3;have x4:w6.cell? ⟨xb,4,none⟩=some (.int .u64 c.b):=j6.out.blk.cell 4;have x4f:=j6.out.blk.free 4;cases fst with
          | true =>
           go_wp2_with fail
           exact ⟨⟨k+1,false,i2,b2,Qz c v,_,by omega,by go_num,rfl,(j6.out.put 3 _ (Qz c v) _ rfl (Uz v)),jF.out.step rfl HST.out⟩,by simp [intOf];omega⟩
          | false =>
           go_wp2_with fail
           exact ⟨⟨k+1,false,i2,b2,QA c v,_,by omega,by go_num,rfl,(j6.out.put 4 _ (QA c v) _ rfl (UA v)),jF.out.step rfl HST.out⟩,by simp [intOf];omega⟩
      ·have hd0:decide (k<fb.size)=false:=by simp;omega
       go_wp2_with fail
       go_meet
       exact ⟨fst,i,bad,c,x,HM.out,by have:=Gg.out;unfold om at this;rw [this,iV fb k (by omega)];rfl⟩
    case rest =>
     obtain ⟨fst,i,bad,c,x,hM,NG⟩:=hcut;have HM:=Hd hM;have Gg:=Hd NG;have c0:wc.cell? ⟨cb,0,none⟩=some (.string s):=hM.at_.cell 0;have c1:wc.cell? ⟨cb,1,none⟩=some (.int .i64 i):=hM.at_.cell 1;have c2:wc.cell? ⟨cb,2,none⟩=some (.bool bad):=hM.at_.cell 2;clear hM NG ND KI hcf;cases bad with
     | true =>
      have HN:=Hd (show Txt.kK s.data.toList=none by rw [Gg.out,UC]);have ⟨u0,u1,u2,u3,u4,u5,u6,z0,z1,z2,z3,z4,z5,z6,y0,y1,y2,y3,y4,y5,y6⟩:=HM.out.l0.zzz;have aO:=Hd (fI HM.out.l0.z2 au.zero);have bI:=Hd (HM.out.l0.touch.trans' (bY wc w.heap.size au.zero) (fun i hi h=>by omega));unfold jI au.zero at aO bI
      go_wp2_with fail
      have x0:=aO.out.cell 0;have x1:=aO.out.cell 1;have x2:=aO.out.cell 2;have x3:=aO.out.cell 3;have x4:=aO.out.cell 4;have x5:=aO.out.cell 5;have x6:=aO.out.cell 6;simp [au.cells] at x0 x1 x2 x3 x4 x5 x6;exact bodyPost_ret (v:=.tuple #[.agg #[.int .i64 0,.int .i64 0,.int .u64 0,.int .u64 0,.int .u64 0,.bool false,.slice none 0 0],.bool false]) (by simp [results,Tryz.results34,go_sem,x0,x1,x2,x3,x4,x5,x6]) rfl (jN HN.out bI.out)
     | false =>
      by_cases hend:i=s.size
      ·have HN:=Hd (show Txt.kK s.data.toList=some x by rw [Gg.out,WV hend]);have e1:(i != s.size)=false:=by rw [hend];simp
       have e2:((i:Int) != (s.size:Int))=false:=by rw [hend];simp
       clear hend;obtain ⟨cop,bN,cp,ca,NM,cd,dA,dB,dD⟩:=c;have u0:wc.cell? ⟨xb,0,none⟩=some (.int .i64 cop):=HM.out.blk.cell 0;have u1:wc.cell? ⟨xb,1,none⟩=some (.int .i64 bN):=HM.out.blk.cell 1;have u2:wc.cell? ⟨xb,2,none⟩=some (.int .u64 cp):=HM.out.blk.cell 2;have u3:wc.cell? ⟨xb,3,none⟩=some (.int .u64 ca):=HM.out.blk.cell 3;have u4:wc.cell? ⟨xb,4,none⟩=some (.int .u64 NM):=HM.out.blk.cell 4;have u5:wc.cell? ⟨xb,5,none⟩=some (.bool cd):=HM.out.blk.cell 5;have u6:wc.cell? ⟨xb,6,none⟩=some (.slice dA dB dD):=HM.out.blk.cell 6;have z0:wc.cell? ⟨w.heap.size,0,none⟩=some (.int .i64 0):=HM.out.l0.z2.cell 0;have z1:wc.cell? ⟨w.heap.size,1,none⟩=some (.int .i64 0):=HM.out.l0.z2.cell 1;have z2:wc.cell? ⟨w.heap.size,2,none⟩=some (.int .u64 0):=HM.out.l0.z2.cell 2;have z3:wc.cell? ⟨w.heap.size,3,none⟩=some (.int .u64 0):=HM.out.l0.z2.cell 3;have z4:wc.cell? ⟨w.heap.size,4,none⟩=some (.int .u64 0):=HM.out.l0.z2.cell 4;have z5:wc.cell? ⟨w.heap.size,5,none⟩=some (.bool false):=HM.out.l0.z2.cell 5;have z6:wc.cell? ⟨w.heap.size,6,none⟩=some (.slice none 0 0):=HM.out.l0.z2.cell 6;have y0:=HM.out.l0.z2.free 0;have y1:=HM.out.l0.z2.free 1;have y2:=HM.out.l0.z2.free 2;have y3:=HM.out.l0.z2.free 3;have y4:=HM.out.l0.z2.free 4;have y5:=HM.out.l0.z2.free 5;have y6:=HM.out.l0.z2.free 6;have aO:=Hd (fI HM.out.l0.z2 ⟨cop,bN,cp,ca,NM,cd,dA,dB,dD⟩);have bI:=Hd (HM.out.l0.touch.trans' (bY wc w.heap.size ⟨cop,bN,cp,ca,NM,cd,dA,dB,dD⟩) (fun i hi h=>by omega));have rM:=Hd (bn.lower (B':=w.heap.size) (bn.touch HM.out.is (bY wc w.heap.size ⟨cop,bN,cp,ca,NM,cd,dA,dB,dD⟩) (fun i h1 _ h=>by have:=HM.out.lt;omega)) (by have:=HM.out.lt;omega));unfold jI at aO bI rM
       go_wp2_with fail
       have x0:=aO.out.cell 0;have x1:=aO.out.cell 1;have x2:=aO.out.cell 2;have x3:=aO.out.cell 3;have x4:=aO.out.cell 4;have x5:=aO.out.cell 5;have x6:=aO.out.cell 6;simp [au.cells] at x0 x1 x2 x3 x4 x5 x6;exact bodyPost_ret (v:=.tuple #[.agg #[.int .i64 cop,.int .i64 bN,.int .u64 cp,.int .u64 ca,.int .u64 NM,.bool cd,.slice dA dB dD],.bool true]) (by simp [results,Tryz.results34,go_sem,x0,x1,x2,x3,x4,x5,x6]) rfl (KH HN.out rM.out bI.out)
      ·have HN:=Hd (show Txt.kK s.data.toList=none by
        rw [Gg.out,QD (by have:=HM.out.hi;omega)])
       have e1:(i != s.size)=true:=by simp [hend]
       have e2:((i:Int) != (s.size:Int))=true:=by simp;omega
       clear hend;have ⟨u0,u1,u2,u3,u4,u5,u6,z0,z1,z2,z3,z4,z5,z6,y0,y1,y2,y3,y4,y5,y6⟩:=HM.out.l0.zzz;have aO:=Hd (fI HM.out.l0.z2 au.zero);have bI:=Hd (HM.out.l0.touch.trans' (bY wc w.heap.size au.zero) (fun i hi h=>by omega));unfold jI au.zero at aO bI
       go_wp2_with fail
       have x0:=aO.out.cell 0;have x1:=aO.out.cell 1;have x2:=aO.out.cell 2;have x3:=aO.out.cell 3;have x4:=aO.out.cell 4;have x5:=aO.out.cell 5;have x6:=aO.out.cell 6;simp [au.cells] at x0 x1 x2 x3 x4 x5 x6;exact bodyPost_ret (v:=.tuple #[.agg #[.int .i64 0,.int .i64 0,.int .u64 0,.int .u64 0,.int .u64 0,.bool false,.slice none 0 0],.bool false]) (by simp [results,Tryz.results34,go_sem,x0,x1,x2,x3,x4,x5,x6]) rfl (jN HN.out bI.out)
/- the plain law of the counting and the parting -/
theorem oq (x:UInt8) (l:List UInt8):Txt.bO (x::l)=(if l = [] then 1 else (if x=10 then 1 else 0)+Txt.bO l):=by
 cases l with
 | nil=>rfl
 | cons y l=>simp [Txt.bO]
theorem DX (l:List UInt8) (h:l≠[]):Txt.bO l=1+Txt.bO (Txt.aL 10 l).2.1:=by
 induction l with
 | nil=>exact absurd rfl h
 | cons x l ih =>
  rw [oq];unfold Txt.aL;by_cases hx:x=10
  ·rw [if_pos hx,if_pos hx];by_cases hl:l = []
   ·subst hl;simp [Txt.bO]
   ·rw [if_neg hl]
  ·rw [if_neg hx,if_neg hx];by_cases hl:l = []
   ·subst hl;simp [Txt.bO,Txt.aL]
   ·rw [if_neg hl,Nat.zero_add];exact ih hl
structure kD (s:ByteArray) (k c:Nat):Prop where
 le:k≤s.size
 small:c≤k
 law:Txt.bO s.data.toList=c+Txt.bO (s.data.toList.drop k)
theorem kD.one {s:ByteArray} {k c:Nat} (R:kD s k c) (h:k<s.size) (hx:s[k]'h=10∨k+1=s.size):kD s (k+1) (c+1):=by
 refine ⟨h,by have:=R.small;omega,?_⟩;rw [R.law,dx s k h,oq];split
 ·rename_i hl
  rw [hl];simp [Txt.bO]
 ·rename_i hl
  have hk:k+1≠s.size:=fun e=>hl (iV s (k+1) (by omega))
  rw [if_pos (hx.resolve_right hk)];omega
theorem kD.none_ {s:ByteArray} {k c:Nat} (R:kD s k c) (h:k<s.size) (hx:s[k]'h≠10) (hk:k+1≠s.size):kD s (k+1) c:=by
 refine ⟨h,by have:=R.small;omega,?_⟩;rw [R.law,dx s k h,oq,if_neg,if_neg hx,Nat.zero_add];rw [dx s (k+1) (by omega)];simp
theorem kD.stop {s:ByteArray} {c:Nat} (R:kD s s.size c):Txt.bO s.data.toList=c:=by
 rw [R.law,iV s s.size (Nat.le_refl _)];rfl
def qB (s:ByteArray) (a k:Nat):Prop:=a≤k∧k≤s.size∧(Txt.aL 10 (s.data.toList.drop a)).1=(s.data.toList.drop a).take (k-a)++(Txt.aL 10 (s.data.toList.drop k)).1∧(Txt.aL 10 (s.data.toList.drop a)).2.1=(Txt.aL 10 (s.data.toList.drop k)).2.1
theorem qB.more {s:ByteArray} {a k:Nat} (H:qB s a k) (h:k<s.size) (hx:s[k]'h≠10):qB s a (k+1):=by
 obtain ⟨h1,h2,h3,h4⟩:=H;refine ⟨by omega,h,?_,?_⟩
 ·rw [h3,dx s k h,show k+1-a=(k-a)+1 by omega,List.take_add_one]
  have:(s.data.toList.drop a)[k-a]? = some (s[k]'h):=by
   rw [List.getElem?_drop,show a+(k-a)=k by omega];exact Lib.data_getElem? s k h
  rw [this]
  conv=>lhs;unfold Txt.aL
  rw [if_neg hx];simp
 ·rw [h4,dx s k h]
  conv=>lhs;unfold Txt.aL
  rw [if_neg hx]
theorem qB.stop {s:ByteArray} {a k:Nat} (H:qB s a k) (h:∀ h:k<s.size,s[k]'h=10):(Txt.aL 10 (s.data.toList.drop a)).1=(s.extract a k).data.toList∧(Txt.aL 10 (s.data.toList.drop a)).2.1=s.data.toList.drop (k+1):=by
 obtain ⟨h1,h2,h3,h4⟩:=H
 have he:(s.extract a k).data.toList=(s.data.toList.drop a).take (k-a):=by
  simp [ByteArray.data_extract]
 rw [h3,h4,he];by_cases hk:k<s.size
 ·rw [dx s k hk];unfold Txt.aL;rw [if_pos (h hk)];simp
 ·rw [iV s k (by omega),iV s (k+1) (by omega)];simp [Txt.aL]
structure xH (s:ByteArray) (w:World) (N k a:Nat) (v:Value) (cs:List au) (xs:List Txt.Cd) (wr:World):Prop where
 calls:fO wr w.heap.size v cs xs
 len:xs.length=k
 law:Txt.dU s.data.toList=Txt.qE (N-k) (s.data.toList.drop a) k xs
 left:Txt.bO (s.data.toList.drop a)=N-k
 touch:Touch Nothing w wr
theorem QF {n k:Nat} {l:List UInt8} {xs:List Txt.Cd} (h:Txt.dG (Txt.aL 10 l).1=none):Txt.qE (n+1) l k xs=([],k,7):=by
 rw [←Txt.sP] at h;simp only [Txt.qE,h]
theorem QG {n k:Nat} {l:List UInt8} {xs:List Txt.Cd} {x:Txt.Cd} (h:Txt.dG (Txt.aL 10 l).1=some x):Txt.qE (n+1) l k xs=Txt.qE n (Txt.aL 10 l).2.1 (k+1) (xs++[x]):=by
 rw [←Txt.sP] at h;simp only [Txt.qE,h]
theorem xH.more {s:ByteArray} {w wr w1 w2 w3:World} {N k a:Nat} {v v':Value} {cs:List au} {xs:List Txt.Cd} {c:au} {x:Txt.Cd} {bP:Nat} (R:xH s w N k a v cs xs wr) (hk:k<N) (hl:Txt.dG (Txt.aL 10 (s.data.toList.drop a)).1=some x)
  (ht:(Txt.aL 10 (s.data.toList.drop a)).2.1=s.data.toList.drop (bP+1))
  (T1:Touch Nothing wr w1) (hc:bn w1 wr.heap.size c x) (T2:Touch Nothing w1 w2) (hown:w3.ownsRow w.heap.size 43 7 v' (cs.length+1) (cs.flatMap au.cells++c.cells)) (hg:w2.grownBy w3 v.ownBlock) :
  xH s w N (k+1) (bP+1) v' (cs++[c]) (xs++[x]) w3:=by
 have TG:Touch (fun i=>v.ownBlock=some i) w2 w3:=Touch.bT hg (fun i hi=>hi);have T3:Touch (fun i=>v.ownBlock=some i) wr w3:=(T1.trans T2).none_.trans TG;have hne:s.data.toList.drop a≠[]:=fun e=>by have:=R.left;rw [e] at this;simp [Txt.bO] at this;omega
 refine ⟨R.calls.more R.touch.size T1 hc T2 hown hg,by simp [R.len],?_,?_,?_⟩
 ·rw [R.law,show N-k=(N-(k+1))+1 by omega,QG hl,ht]
 ·have:=R.left;rw [DX _ hne,ht] at this;omega
 ·exact R.touch.trans' T3 (fun i hi h=>by have:=(World.ownsRow.lt R.calls.own i h).1;omega)
theorem Hr (s:ByteArray) (w:World) (hs:1048576<s.size):Calls Tryz.prog 16 #[.string s] w (ku s w):=by
 have hz:s.data.toList.length=s.size:=by rw [Array.length_toList];rfl
 have HW:=Hd (show Txt.dU s.data.toList=([],0,6) by unfold Txt.dU;rw [if_pos (by omega)]);have hs':(1048576:Int)<(s.size:Int):=by omega
 clear hz hs
 go_enter Tryz.func16,Tryz.ntmps16
 go_wp2_with fail
 go_ret3
 exact ⟨none,0,0,[],by rw [HW.out];rfl,by rw [HW.out];exact .nil _ _,Touch.refl _ _⟩
theorem extract_size (s:ByteArray) (a b:Nat) (h:b≤s.size):(s.extract a b).size≤s.size:=by
 rw [ByteArray.size_extract];omega
theorem Ht (s:ByteArray) (w:World) (hs:s.size≤1048576):Calls Tryz.prog 16 #[.string s] w (ku s w):=by
 have hz:s.data.toList.length=s.size:=by rw [Array.length_toList];rfl
 have HP:=Hd (show Txt.dU s.data.toList=if 4096<Txt.bO s.data.toList then ([],4096,6) else Txt.qE (Txt.bO s.data.toList) s.data.toList 0 [] by
  rw [←Txt.N9];unfold Txt.Ej;rw [if_neg (by omega)])
 have HL:=Hd (fun (t:ByteArray) (W:World) (h:t.size≤1048576)=>WW t W h);obtain ⟨t0,hi0,hz0,hz1,hz2⟩:=info_parts Fy;clear hz
 go_enter Tryz.func16,Tryz.ntmps16
 go_upto_block 0 with fail
 go_cut [5] (fun a wc=>∃ c:Nat,a=.int .i64 c∧Txt.bO s.data.toList=c∧c≤s.size∧wc=w)
 case first =>
  go_wp2_with fail
  go_loop [5,6] (fun a b=>∃ k c:Nat,a=.int .i64 c∧b=.int .i64 k∧kD s k c) (fun _ b=>s.size-(intOf b).toNat)
  case atStart=>exact ⟨0,0,rfl,rfl,⟨by omega,by omega,by simp⟩⟩
  case round =>
   obtain ⟨k,c,rfl,rfl,R⟩:=hrel;have HR:=Hd R;have hk:=R.le;have hck:=R.small;clear R;by_cases hlt:k<s.size
   ·by_cases h10:s[k]'hlt=10
    ·have q:((((s[k]'hlt).toNat:Nat):Int) == 10)=true:=by rw [h10];rfl
     have HM:=Hd (HR.out.one hlt (.inl h10));clear h10
     go_wp2_with fail
     go_round
     case rel=>exact ⟨k+1,c+1,by go_num,by go_num,HM.out⟩
     case measure=>simp [intOf];omega
    ·have q:((((s[k]'hlt).toNat:Nat):Int) == 10)=false:=vF h10;by_cases hl:k+1=s.size
     ·have q2:((k:Int) == (s.size:Int)-1)=true:=by rw [beq_iff_eq];omega
      have HM:=Hd (HR.out.one hlt (.inr hl));clear h10 hl
      go_wp2_with fail
      go_round
      case rel=>exact ⟨k+1,c+1,by go_num,by go_num,HM.out⟩
      case measure=>simp [intOf];omega
     ·have q2:((k:Int) == (s.size:Int)-1)=false:=by rw [beq_eq_false_iff_ne];omega
      have HM:=Hd (HR.out.none_ hlt h10 hl);clear h10 hl
      go_wp2_with fail
      go_round
      case rel=>exact ⟨k+1,c,by go_num,by go_num,HM.out⟩
      case measure=>simp [intOf];omega
   ·obtain rfl:k=s.size:=by omega
    have HS:=Hd HR.out.stop
    go_wp2_with fail
    go_meet
    exact ⟨c,rfl,HS.out,hck,rfl⟩
 case rest =>
  obtain ⟨N,rfl,hN,hNs,hwc⟩:=hcut;subst hwc;obtain ⟨Gi,hw0⟩:∃ Gi,Gi=wc:=⟨_,rfl⟩;subst hw0;by_cases hbig:4096<N
  ·have HW:=Hd (show Txt.dU s.data.toList=([],4096,6) by rw [HP.out,hN,if_pos hbig]);have hb':(4096:Int)<(N:Int):=by omega
   clear hbig hN
   go_wp2_with fail
   go_ret3
   exact ⟨none,0,0,[],by rw [HW.out];rfl,by rw [HW.out];exact .nil _ _,Touch.refl _ _⟩
  ·have hb':(N:Int)≤4096:=by omega
   have bG:=Hd (show xH s Gi N 0 0 (.slice none 0 0) [] [] Gi from ⟨.nil _ _,rfl,by rw [HP.out,hN,if_neg hbig];rfl,by simpa using hN,Touch.refl _ _⟩);clear hbig hN
   go_wp2_with fail
   go_loopw [7,8,9] (fun v a b wr=>∃ k from_ cs xs,k≤N∧b=.int .i64 (k:Nat)∧a=.int .i64 (from_:Nat)∧from_≤s.size+1∧xH s Gi N k from_ v cs xs wr) (fun _ _ b _=>N-(intOf b).toNat)
   case atStart=>exact ⟨0,0,[],[],by omega,rfl,rfl,by omega,bG.out⟩
   case round =>
    obtain ⟨k,a,cs,xs,hk,rfl,rfl,ha,R⟩:=hrel;have HR:=Hd R;by_cases hlk:k<N
    ·have has:a<s.size:=by
      rcases Nat.lt_or_ge a s.size with h | h
      ·exact h
      ·have h2:=R.left;rw [iV s a h] at h2;simp [Txt.bO] at h2;omega
     clear R
     go_upto_block 4 with fail
     go_cut [10] (fun t wx=>∃ bP:Nat,t=.int .i64 bP∧a≤bP∧bP≤s.size∧(Txt.aL 10 (s.data.toList.drop a)).1=(s.extract a bP).data.toList∧(Txt.aL 10 (s.data.toList.drop a)).2.1=s.data.toList.drop (bP+1)∧wx=wr)
     case first =>
      go_wp2_with fail
      go_loop [10] (fun b=>∃ k:Nat,b=.int .i64 k∧qB s a k) (fun b=>s.size-(intOf b).toNat)
      case atStart=>exact ⟨a,rfl,Nat.le_refl _,by omega,by simp,rfl⟩
      case round =>
       obtain ⟨n,rfl,H⟩:=hrel;have HH:=Hd H;have hn:=H.2.1;have han:=H.1;clear H;by_cases hlt:n<s.size
       ·have hd0:decide (n<s.size)=true:=by simp;omega
        by_cases h10:s[n]'hlt=10
        ·have hx1:((((s[n]'hlt).toNat:Nat):Int) != 10)=false:=by rw [h10];rfl
         have HS:=Hd (HH.out.stop (fun _=>h10));clear h10
         go_wp2_with fail
         go_meet
         exact ⟨n,rfl,han,hn,HS.out.1,HS.out.2,rfl⟩
        ·have hx1:((((s[n]'hlt).toNat:Nat):Int) != 10)=true:=by have h:((((s[n]'hlt).toNat:Nat):Int) == 10)=false:=vF h10;rw [bne,h];rfl
         have HM:=Hd (HH.out.more hlt h10);clear h10
         go_wp2_with fail
         go_round
         case rel=>exact ⟨n+1,by go_num,HM.out⟩
         case measure=>simp [intOf];omega
       ·have hd0:decide (n<s.size)=false:=by simp;omega
        have HS:=Hd (HH.out.stop (fun h=>absurd h hlt))
        go_wp2_with fail
        go_meet
        exact ⟨n,rfl,han,hn,HS.out.1,HS.out.2,rfl⟩
     case rest =>
      obtain ⟨bP,rfl,hat,hts,hc1,hc2,hwx⟩:=hcut;subst hwx;have vO:=Hd hc1;have oP:=Hd hc2;have ZE:=Hd (HL.out (s.extract a bP) wc (Nat.le_trans (extract_size s a bP hts) hs));rw [show xZ (s.extract a bP) wc=fun e w'=>∃ c:au,e=.returned (.tuple #[c.val,.bool (Txt.dG (s.extract a bP).data.toList).isSome])∧(∀ y,Txt.dG (s.extract a bP).data.toList=some y→bn w' wc.heap.size c y)∧Touch Nothing wc w' from rfl] at ZE;clear hc1 hc2
      go_wp2_with fail
      refine ZE.out.mono ?_
      rintro e w2 ⟨c,rfl,hc,T2⟩;have HC:=Hd hc;have HT2:=Hd T2;clear hc T2;obtain ⟨cop,bN,cp,ca,cb,cd,dA,dB,dD⟩:=c;unfold au.val at *;cases pI:Txt.dG (s.extract a bP).data.toList with
      | none =>
       have kG:=Hd (show Txt.dU s.data.toList=([],k,7) by rw [HR.out.law,show N-k=(N-k-1)+1 by omega,QF (by rw [vO.out];exact pI)]);clear pI;simp only [Option.isSome_none]
       go_wp2_with fail
       go_ret3
       exact ⟨none,0,0,[],by rw [kG.out];rfl,by rw [kG.out];exact .nil _ _,(HR.out.touch.trans HT2.out).alloc _⟩
      | some y =>
       have kG:=Hd pI;clear pI;simp only [Option.isSome_some];have hkl:cs.length≤4096:=by have:=HR.out.calls.len;have:=HR.out.len;omega
       have HOW:=Hd (HR.out.calls.still HT2.out).own;have FC:(w2.alloc (.cells #[.int .i64 cop,.int .i64 bN,.int .u64 cp,.int .u64 ca,.int .u64 cb,.bool cd,.slice dA dB dD] 43)).heap.size=w2.heap.size+1:=by simp
       have hB2:=aC.new (w2.alloc (.cells #[.int .i64 cop,.int .i64 bN,.int .u64 cp,.int .u64 ca,.int .u64 cb,.bool cd,.slice dA dB dD] 43)) #[.int .i64 cop,.int .i64 bN,.int .u64 cp,.int .u64 ca,.int .u64 cb,.bool cd,.slice dA dB dD] 43;rw [FC] at hB2;have qR:=Hd (fJ hB2);have hbs:Gi.heap.size≤w2.heap.size:=Nat.le_trans HR.out.touch.size HT2.out.size;clear hB2 FC
       go_wp2_with (at_builtin;refine wpList_append_own _ rfl _ _ 25 rfl Gi.heap.size 43 t0 _ 7 72 Tryz.underlying25 hi0 hz0 hz1 hz2 rfl (by decide) _ _ _ rfl ((HOW.out.alloc _).alloc _) ⟨w2.heap.size+1,0,none⟩ 1 1 [.int .i64 cop,.int .i64 bN,.int .u64 cp,.int .u64 ca,.int .u64 cb,.bool cd,.slice dA dB dD] rfl rfl qR.out (by simp [Value.oneCell']) (by unfold maxLen;omega) (by omega) (by simp;omega) ?_;intro v' w3 hown hgrow _)
       have HO:=Hd hown;have HG:=Hd hgrow;clear hown hgrow
       go_wp2_with fail
       exact ⟨⟨k+1,bP+1,cs++[⟨cop,bN,cp,ca,cb,cd,dA,dB,dD⟩],xs++[y],by omega,by go_num,by go_num,by omega,HR.out.more (c:=⟨cop,bN,cp,ca,cb,cd,dA,dB,dD⟩) hlk (by rw [vO.out];exact kG.out) oP.out HT2.out (HC.out y kG.out) (((Touch.refl _ _).alloc _).alloc _) HO.out HG.out⟩,by simp [intOf];omega⟩
    ·obtain rfl:k=N:=by omega
     have ZF:=Hd (show Txt.dU s.data.toList=(xs,0,0) by rw [R.law,Nat.sub_self];rfl);have ⟨dp,dn,dc,hv⟩:=jC R.calls.own;clear R;subst hv
     go_wp2_with fail
     go_ret3
     exact ⟨dp,dn,dc,cs,by rw [ZF.out];rfl,by rw [ZF.out];exact HR.out.calls,HR.out.touch⟩
theorem UD (s:ByteArray) (w:World):Calls Tryz.prog 16 #[.string s] w (ku s w):=by
 by_cases hl:1048576<s.size
 ·exact Hr s w hl
 ·exact Ht s w (by omega)
/- owned rows of bytes -/
theorem QH {w:World} {B e n k g cap:Nat} {xs:List Value} (h:w.ownsRow B e 1 (.slice (some ⟨g,0,none⟩) n cap) n xs) (_hk:k<n) (u:Value):(w.setCell ⟨g,k,none⟩ u).ownsRow B e 1 (.slice (some ⟨g,0,none⟩) n cap) n (xs.set k u):=by
 obtain ⟨h1,h2⟩:=h;refine ⟨by simpa using h1,?_⟩;rcases h2 with ⟨h2,_⟩ | ⟨g',cap',cur,hv,hb,hg,hc,hm,hs,ht⟩
 ·cases h2
 ·cases hv;refine .inr ⟨g,cap,cur.set! k u,rfl,hb,?_,hc,hm,by simpa using hs,?_⟩
  ·show (World.setCell w ⟨g,k,none⟩ u).heap[g]? = _
   simp only [World.setCell,Array.getElem?_modify,hg];simp
  ·rw [←ht];simp only [Array.set!_eq_setIfInBounds,Array.toList_setIfInBounds];rw [List.take_set]
theorem DC (l:List au) (i j:Nat) (c:au) (u:Value) (hi:l[i]? = some c) (hu:c.cells[j]? = some u):(l.flatMap au.cells)[i*7+j]? = some u:=by
 have hj:=(List.getElem?_eq_some_iff.1 hu).1;have Df:j<7:=by simpa [au.cells] using hj
 induction l generalizing i with
 | nil=>simp at hi
 | cons d l ih =>
  cases i with
  | zero =>
   simp at hi;subst hi;rw [List.flatMap_cons,List.getElem?_append_left (by simpa [au.cells] using Df)];simpa using hu
  | succ i =>
   rw [List.flatMap_cons,List.getElem?_append_right (by simp [au.cells];omega)];rw [←ih i (by simpa using hi)]
   congr 1
   simp [au.cells];omega
theorem QI {w:World} {B:Nat} {dp:Option Addr} {dn dc:Nat} {d:List UInt8} (h:w.ownsRow B 5 1 (.slice dp dn dc) d.length (bR d)):EP w dp dn d:=by
 obtain ⟨p,c,hv⟩:=iy h;cases hv;refine ⟨rfl,fun e=>?_,fun a ha j x hj=>?_⟩
 ·subst e;rcases h.2 with ⟨_,h0⟩ | ⟨g,cap,cur,hv,_⟩
  ·exact List.eq_nil_of_length_eq_zero h0
  ·cases hv
 ·subst ha;rcases h.2 with ⟨h0,_⟩ | ⟨g,cap,cur,hv,_⟩
  ·cases h0
  ·cases hv;have hl:=(List.getElem?_eq_some_iff.1 hj).1;have e:(⟨g,0,none⟩:Addr).add j=⟨g,j,none⟩:=by unfold Addr.add;split <;> simp_all
   rw [e,World.ownsRow.cellAt h j (by omega)];unfold bR;rw [List.getElem?_map,hj];rfl
theorem fO.rd {w:World} {B:Nat} {dp:Option Addr} {dn dc:Nat} {cs:List au} {xs:List Txt.Cd} (h:fO w B (.slice dp dn dc) cs xs):dn=cs.length∧JC w dp dn cs (xs.map (·.data)):=by
 obtain ⟨p,c,hv⟩:=iy h.own;cases hv;refine ⟨rfl,⟨rfl,by simpa using h.len,fun h0=>?_⟩⟩;obtain ⟨g,cap,hv,-,-⟩:=World.ownsRow.form h.own h0;cases hv;refine ⟨g,0,rfl,fun i c d hc hd=>?_⟩;rw [List.getElem?_map,Option.map_eq_some_iff] at hd;obtain ⟨x,hx,rfl⟩:=hd;have hi:=(List.getElem?_eq_some_iff.1 hc).1;refine ⟨fun j v hj=>?_,QI (h.each i c x hc hx).own⟩;have Df:j<7:=by have:=(List.getElem?_eq_some_iff.1 hj).1;simpa [au.cells] using this
 rw [Nat.zero_add,World.ownsRow.cellAt h.own (i*7+j) (by omega)];exact DC cs i j c v hc hj
theorem QJ {w w':World} {B B':Nat} {c d:au} {x:Txt.Cd} (h:bn w B c x) (k:bn w' B' d x):pY c d :=
 ⟨h.op.trans k.op.symm,h.ref.trans k.ref.symm,h.p.trans k.p.symm,h.a.trans k.a.symm,h.b.trans k.b.symm,h.deny.trans k.deny.symm⟩
theorem Hu (s:List UInt8):(∀ x∈(Txt.dU s).1,x.data.length≤65536)∧(Txt.dU s).1.length≤4096:=by
 unfold Txt.dU;split
 ·exact ⟨fun x hx=>(by cases hx),by simp⟩
 ·split
  ·exact ⟨fun x hx=>(by cases hx),by simp⟩
  ·split
   ·exact ⟨fun x hx=>(by cases hx),by simp⟩
   ·rename_i h1 h2 h3
    have key:∀ (ls:List (List UInt8)) (i:Nat) (acc:List Txt.Cd),(∀ x∈acc,x.data.length≤65536)→(∀ x∈(Txt.nC ls i acc).1,x.data.length≤65536)∧(Txt.nC ls i acc).1.length≤acc.length+ls.length:=by
     intro ls
     induction ls with
     | nil=>intro i acc h;exact ⟨h,by simp [Txt.nC]⟩
     | cons l ls ih =>
      intro i acc h;unfold Txt.nC;split
      ·exact ⟨fun x hx=>(by cases hx),by simp⟩
      ·rename_i c hc
       obtain ⟨a,b⟩:=ih (i+1) (acc++[c]) (fun x hx=>by
        rcases List.mem_append.1 hx with hx | hx
        ·exact h x hx
        ·simp at hx;subst hx;have:=((Txt.zA _).1 (Txt.Ny hc).2.1).2.2.1;exact this)
       exact ⟨a,by simp at b ⊢;omega⟩
    obtain ⟨a,b⟩:=key (Txt.aW 10 (Txt.fC s)) 0 [] (fun x hx=>(by cases hx));exact ⟨a,by simp at b;omega⟩
theorem KJ {w:World} {B n g cap:Nat} {cs:List au} (h:w.ownsRow B 43 7 (.slice (some ⟨g,0,none⟩) n cap) cs.length (cs.flatMap au.cells)) (i:Nat) (c:au) (hc:cs[i]? = some c):w.cell? ⟨g,i*7+6,none⟩=some (.slice c.dp c.dn c.dc):=by
 obtain ⟨p,cp,hv⟩:=iy h;cases hv;have hi:=(List.getElem?_eq_some_iff.1 hc).1;rw [World.ownsRow.cellAt h (i*7+6) (by omega)];exact DC cs i 6 c _ hc rfl
theorem Yn {w:World} {B dn dc:Nat} {dp:Option Addr} {xs:List Value} (h:w.ownsRow B 5 1 (.slice dp dn dc) xs.length xs):dn=xs.length:=by
 obtain ⟨p,c,hv⟩:=iy h;injection hv
structure qZ (w wr:World) (D:Nat→Prop) (gx m:Nat):Prop where
 all:r9 w wr D gx 6 m
 blk:∃ C,aC wr gx 43 C∧m*7≤C.length
 own:D gx
theorem qZ.start {w1:World} {B gx n c:Nat} {cs:List au} {xs:List Txt.Cd} (h:fO w1 B (.slice (some ⟨gx,0,none⟩) n c) cs xs) (hsm:∀ x∈xs,x.data.length≤65536):qZ w1 w1 (B≤·) gx cs.length:=by
 have hlt:=World.ownsRow.lt h.own gx rfl;refine ⟨⟨Touch.refl _ _,hlt.2,fun i hi=>?_⟩,?_,hlt.1⟩
 ·obtain ⟨d,hd⟩:∃ d,cs[i]? = some d:=⟨_,List.getElem?_eq_getElem hi⟩;obtain ⟨x,hx⟩:∃ x,xs[i]? = some x:=⟨_,List.getElem?_eq_getElem (by rw [←h.len];exact hi)⟩;have hI:=h.each i d x hd hx;have hx2:=hsm x (List.mem_of_getElem? hx)
  have ho:w1.ownsRow B 5 1 (.slice d.dp d.dn d.dc) (bR x.data).length (bR x.data):=by
   have:=hI.own;rwa [show x.data.length=(bR x.data).length by simp [bR]] at this
  have hdn:d.dn=x.data.length:=by
   have:=Yn ho;simpa [bR] using this
  refine ⟨d.dp,d.dn,d.dc,KJ h.own i d hd,by omega,fun h0=>?_⟩;rcases ho.2 with ⟨hv,h1⟩ | ⟨g,cap,cur,hv,hB,hb,hcap,hmx,hs,ht⟩
  ·exfalso;have:(bR x.data).length=x.data.length:=by simp [bR]
   omega
  ·have e1:d.dp=some ⟨g,0,none⟩:=by injection hv
   refine ⟨g,e1,hB,?_,⟨cur,(0,0),hb,?_,.inl rfl⟩⟩
   ·rintro rfl;rcases h.own.2 with ⟨hv2,_⟩ | ⟨g2,cap2,KL,hv2,_,hb2,_⟩
    ·cases hv2
    ·cases hv2;rw [hb] at hb2;cases hb2
   ·have:(bR x.data).length=x.data.length:=by simp [bR]
    omega
 ·rcases h.own.2 with ⟨hv2,_⟩ | ⟨g2,cap2,KL,hv2,_,hb2,hcap,_,hs,_⟩
  ·cases hv2
  ·cases hv2;refine ⟨KL.toList,by unfold aC;rw [hb2],?_⟩;have h7:KL.toList.length=c*7:=(Array.length_toList (xs:=KL)).trans hs;rw [h7];exact Nat.mul_le_mul_right 7 hcap
theorem qZ.cell {w wr:World} {D:Nat→Prop} {gx m:Nat} (H:qZ w wr D gx m) (i:Nat) (hi:i<m):(∃ u,wr.cell? ⟨gx,i*7,none⟩=some u)∧wr.frozen? ⟨gx,i*7,none⟩=false:=by
 obtain ⟨C,hB,hl⟩:=H.blk;exact ⟨⟨C[i*7]'(by omega),by rw [hB.cell];exact List.getElem?_eq_getElem (by omega)⟩,hB.free _⟩
theorem qZ.op {w wr:World} {D:Nat→Prop} {gx m:Nat} (H:qZ w wr D gx m) (i:Nat) (u:Value):qZ w (wr.setCell ⟨gx,i*7,none⟩ u) D gx m:=by
 obtain ⟨C,hB,hl⟩:=H.blk;have hs:=hB.set (i*7) u;have TC:=Touch.cellAt wr gx (i*7) u;refine ⟨⟨H.all.touch.trans (TC.mono (fun j _ h=>by subst h;exact H.own)),Nat.lt_of_lt_of_le H.all.row TC.size,fun j hj=>?_⟩,⟨_,hs,by simpa using hl⟩,H.own⟩;obtain ⟨dp,dn,dc,h1,h2,h3⟩:=H.all.each j hj;refine ⟨dp,dn,dc,?_,h2,fun h=>?_⟩
 ·rw [hs.cell,List.getElem?_set_ne (by omega),←hB.cell];exact h1
 ·obtain ⟨g,e1,e2,e3,e4⟩:=h3 h;exact ⟨g,e1,e2,e3,e4.set gx (i*7) u⟩
structure ru (w wr:World) (D:Nat→Prop) (gx m i:Nat) (dp:Option Addr) (dn dc:Nat):Prop where
 at_:qy w wr D gx 6 m i dp dn dc
 blk:∃ C,aC wr gx 43 C∧m*7≤C.length
 own:D gx
theorem ru.back {w wr:World} {D:Nat→Prop} {gx m i dn dc:Nat} {dp:Option Addr} (H:ru w wr D gx m i dp dn dc):qZ w wr D gx m:=⟨H.at_.all,H.blk,H.own⟩
theorem ru.set {w wr:World} {D:Nat→Prop} {gx m i dn dc g:Nat} (H:ru w wr D gx m i (some ⟨g,0,none⟩) dn dc) (h0:0<dn) (k:Nat) (u:Value):ru w (wr.setCell ⟨g,k,none⟩ u) D gx m i (some ⟨g,0,none⟩) dn dc:=by
 obtain ⟨C,hB,hl⟩:=H.blk;obtain ⟨g',e,hD,hne,_⟩:=H.at_.room h0;cases e;exact ⟨H.at_.set h0 k u,⟨C,hB.touch (Touch.cellAt wr g k u) (fun e=>hne e.symm),hl⟩,H.own⟩
theorem QK {base limit order:Nat} (h:eF base limit order=true):HS (Bu.fresh base limit order) jA (fun _=>[]) (fun _=>[]) (fun _=>[]):=by
 unfold eF at h;have h:=of_decide_eq_true h;simp only [Int.toNat_natCast] at h;obtain ⟨-,h2,h3,h4,h5,h6,h7,h8,h9⟩:=h;have e5:((limit*2^order:Nat):Int)=(limit:Int)*2^order:=by rw [Int.natCast_mul,Int.natCast_pow];rfl
 have h5':limit*2^order≤1024:=by rw [←e5] at h5;omega
 have h9':4096*2^order*limit+base≤9223372036854775808:=by
  have e9:((4096*2^order*limit:Nat):Int)=4096*2^order*(limit:Int):=by rw [Int.natCast_mul,Int.natCast_mul,Int.natCast_pow];rfl
  rw [←e9] at h9;omega
 have hm:4096*(limit*2^order)=4096*2^order*limit:=by rw [Nat.mul_comm limit,Nat.mul_assoc]
 refine ⟨Mq (by omega) (by omega) (by omega),⟨rfl,?_,?_,fun _ _=>List.nodup_nil,?_⟩,⟨?_,rfl,Nat.zero_le _,h5',?_,rfl,h7⟩⟩
 ·intro i p hp;simp [Bu.fresh,lH] at hp
 ·intro c hc
  show jA.getD c 0 = -1
  unfold jA;rw [List.getD_eq_getElem?_getD,List.getElem?_replicate,if_pos hc];rfl
 ·intro c hc i;constructor
  ·intro h;simp at h
  ·rintro ⟨p,hp,_⟩;simp [Bu.fresh,lH] at hp
 ·show ([]:List Pg).length=0*_
  simp
 ·show base+4096*(limit*2^order)≤9223372036854775808
  omega
theorem I6 (base:Nat) (limit order:Int) (pa:Option Addr) (n ca:Nat) (s:ByteArray) (w:World) (G:bU w) (hb:base<18446744073709551616) (hm:eF base limit order=false∨4096<n) :
  Calls Tryz.prog 8 #[.agg #[.int .u64 base,.int .i64 limit,.int .i64 order,.slice pa n ca],.string s] w fun e w'=>e=.returned (.bool true)∧Touch Nothing w w':=by
 have hT0:=(Touch.refl Nothing w).alloc (.cells #[.int .u64 base,.int .i64 limit,.int .i64 order,.slice pa n ca] 48);have HT0:=Hd hT0;have HB0:=Hd (aC.new w #[.int .u64 base,.int .i64 limit,.int .i64 order,.slice pa n ca] 48);have HA:=Hd (M0 _ (G.aj hT0));have NN:=Hd (fun W=>IY base limit order W hb);have HM:=Hd hm;unfold dS at *;clear G hT0 hm
 go_enter Tryz.func8,Tryz.ntmps8
 go_wp2_with fail
 generalize w.alloc (.cells #[.int .u64 base,.int .i64 limit,.int .i64 order,.slice pa n ca] 48)=w0 at *;refine HA.out.mono ?_
 rintro e w1 ⟨rfl,T1⟩;have B1:=HB0.out.touch T1 (fun h=>h);have b0:=B1.cell 0;have b1:=B1.cell 1;have b2:=B1.cell 2;simp only [List.getElem?_cons_zero,List.getElem?_cons_succ] at b0 b1 b2;have HB1:=Hd B1;have HT1:=Hd (HT0.out.trans T1);clear B1 T1
 go_wp2_with fail
 refine (NN.out _).mono ?_
 rintro e w2 ⟨rfl,T2⟩;have B3:=HB1.out.touch T2 (fun h=>h);have HT2:=Hd (HT1.out.trans T2);clear b0 b1 b2;have b3:=B3.cell 3;simp only [List.getElem?_cons_zero,List.getElem?_cons_succ] at b3;clear B3 T2;cases hmb:eF base limit order with
 | false =>
  go_wp2_with fail
  go_ret
  exact ⟨rfl,HT2.out⟩
 | true =>
  have hbig:(4096:Int)<(n:Int):=by
   rcases HM.out with h | h
   ·rw [hmb] at h;cases h
   ·omega
  go_wp2_with fail
  go_ret
  exact ⟨rfl,HT2.out⟩
theorem QL (base limit order:Nat) (pa:Option Addr) (n ca:Nat) (cs:List au) (ds:List (List UInt8)) (s:ByteArray) (w:World) (G:bU w) (hb:base<18446744073709551616) (hm:eF base limit order=true) (qG:order≤8)
  (H1:Handed w pa n ca cs ds) (hnil:∀ c∈cs,c.dp=none→c.dn=0) (hsm:∀ d∈ds,d.length≤9223372036854775807) (hn:n≤4096) :
  Calls Tryz.prog 8 #[.agg #[.int .u64 base,.int .i64 limit,.int .i64 order,.slice pa n ca],.string s] w fun e w'=>e=.returned (.bool true)∧Touch Nothing w w':=by
 have hT0:=(Touch.refl Nothing w).alloc (.cells #[.int .u64 base,.int .i64 limit,.int .i64 order,.slice pa n ca] 48);have HT0:=Hd hT0;have HB0:=Hd (aC.new w #[.int .u64 base,.int .i64 limit,.int .i64 order,.slice pa n ca] 48);have HA:=Hd (M0 _ (G.aj hT0));have Xg:=Hd (fun W=>Uo base limit order W);have NN:=Hd (fun W=>IY base limit order W hb);have HN:=Hd (fun W (T:Touch Nothing w W)=>yK base limit order W hb hm qG (G.aj T));rw [hm] at NN;have HI:=Hd (QK hm);have Sz:=Hd H1;have Kq:=Hd hnil;have HG:=Hd G;have ZG:=Hd hsm;obtain ⟨i0,hi0,hz0,hz1,hz2'⟩:=info_parts Ns;unfold dS at *;clear G hT0 H1 hm hnil hsm
 go_enter Tryz.func8,Tryz.ntmps8
 go_wp2_with fail
 generalize w.alloc (.cells #[.int .u64 base,.int .i64 limit,.int .i64 order,.slice pa n ca] 48)=w0 at *;refine HA.out.mono ?_
 rintro e w1 ⟨rfl,T1⟩;have B1:=HB0.out.touch T1 (fun h=>h);have b0:=B1.cell 0;have b1:=B1.cell 1;have b2:=B1.cell 2;simp only [List.getElem?_cons_zero,List.getElem?_cons_succ] at b0 b1 b2;have HB1:=Hd B1;have HT1:=Hd (HT0.out.trans T1);clear B1 T1
 go_wp2_with fail
 refine (NN.out _).mono ?_
 rintro e w2 ⟨rfl,T2⟩;have B2:=HB1.out.touch T2 (fun h=>h);have HT2:=Hd (HT1.out.trans T2);clear b0 b1 b2;have b0:=B2.cell 0;have b1:=B2.cell 1;have b2:=B2.cell 2;have b3:=B2.cell 3;simp only [List.getElem?_cons_zero,List.getElem?_cons_succ] at b0 b1 b2 b3;have HB2:=Hd B2;clear B2 T2;have hnb:¬((4096:Int)<(n:Int)):=by omega
 go_wp2_with fail
 clear b3;refine (Xg.out _).mono ?_
 rintro e w3 ⟨rfl,T3⟩;have HT3:=Hd (HT2.out.trans T3);have HB3:=Hd (HB2.out.touch T3 (fun h=>h));clear T3
 go_wp2_with fail
 refine (HN.out _ HT3.out).mono ?_
 rintro e w4 ⟨hb1,s1,cB,K1,rfl,R1,T4,F1⟩;have B4:=HB3.out.touch T4 (fun h=>h);have eu:=Hd (HT3.out.trans T4);clear b0 b1 b2;have b0:=B4.cell 0;have b1:=B4.cell 1;have b2:=B4.cell 2;simp only [List.getElem?_cons_zero,List.getElem?_cons_succ] at b0 b1 b2;have jX:=Hd B4;have HR1:=Hd R1;have Ma:=Hd F1;clear B4 T4 R1 F1
 go_wp2_with fail
 refine (Xg.out _).mono ?_
 rintro e w5 ⟨rfl,T5⟩;have gG:=Hd (eu.out.trans T5);have Xh:=Hd T5;have aO:=Hd (jX.out.touch T5 (fun h=>h));clear T5
 go_wp2_with fail
 refine (HN.out _ gG.out).mono ?_
 rintro e w6 ⟨hb2,s2,dQ,K2,rfl,R2,T6,F2⟩;have B6:=aO.out.touch T6 (fun h=>h);have jY:=Hd (gG.out.trans T6);have QM:=Hd (Xh.out.trans T6);clear b0 b1 b2;have b3:=B6.cell 3;simp only [List.getElem?_cons_zero,List.getElem?_cons_succ] at b3;have AV:=Hd B6;have HR2:=Hd R2;have EA:=Hd F2;clear B6 T6 R2 F2;have IQ:=Hd (Qp pa n ca cs ds w6 (Sz.out.at_ (A:=fun k=>k<w6.heap.size) (fun k hk=>Nat.lt_of_lt_of_le hk jY.out.size) jY.out) (fun _ h=>h) Kq.out (by omega))
 go_wp2_with fail
 refine IQ.out.mono ?_
 rintro e w7 ⟨v7,rfl,C7⟩;obtain ⟨gx,cx,ks,rfl,hgx,hcx,hkl,Xi,T7,Xj,hxc,hx0,hx1⟩:=C7;have Xk:=QM.out.trans T7;have ac2:=HT2.out.size;have Xl:gx<w7.heap.size:=by obtain ⟨_,h⟩:=Xj;exact (Array.getElem?_eq_some_iff.1 h).1
 obtain ⟨ax,st,KP⟩:=Yg (ca:=ca) (cx:=cx) HI.out Sz.out (jY.out.trans T7) HG.out.size (HR1.out.aj Xk) (HR2.out.aj T7) T7.size jY.out.size
  (fun j hj=>⟨Nat.le_trans HT3.out.size (Ma.out j hj),Nat.lt_of_lt_of_le (HR1.out.lt j hj) QM.out.size⟩)
  (fun j hj=>⟨Nat.le_trans gG.out.size (EA.out j hj),HR2.out.lt j hj⟩) (fun j hj hj2=>by have:=HR1.out.lt j hj;have:=EA.out j hj2;have:=Xh.out.size;omega) hn hgx (fun _=>Xl) hkl Xi hxc
 have HK:=Hd KP;have b3:w7.cell? ⟨w.heap.size,3,none⟩=some (.slice pa n ca):=(AV.out.touch T7 (fun h=>h)).cell 3;have ZH:=Hd (AV.out.touch T7 (fun h=>h));have nT:=Hd (jY.out.trans T7);have ZI:=Hd (fun (S:Nat→Prop) W (T:Touch S w7 W) hS=>r9.copied (w8:=W) hkl Sz.out.rd.len.symm Sz.out.rd.len2.symm ZG.out hgx Xi Xj hxc hx0 hx1 T hS);have hlo1:=Ma.out
 have ZJ:=Hd (show ∀ j,w6.heap.size≤j→j∉hb1::s1::K1.fp from fun j hj h=>by
  have:=HR1.out.lt j (by simp only [List.mem_cons] at h ⊢;rcases h with h | h | h;exact .inl h;exact .inr (.inl h);exact .inr (.inr (.inr h)));have:=QM.out.size;omega)
 have Da:=Hd (show w.heap.size∉hb1::s1::K1.fp∧w.heap.size∉hb2::s2::K2.fp∧w.heap.size<w6.heap.size from ⟨fun h=>by
  have:=Ma.out w.heap.size (by simp only [List.mem_cons] at h ⊢;rcases h with h | h | h;exact .inl h;exact .inr (.inl h);exact .inr (.inr (.inr h)));have:=HB3.out.lt;omega,fun h=>by
  have:=EA.out w.heap.size (by simp only [List.mem_cons] at h ⊢;rcases h with h | h | h;exact .inl h;exact .inr (.inl h);exact .inr (.inr (.inr h)));have:=aO.out.lt;omega,AV.out.lt⟩)
 clear Xj hxc hx0 hx1 Xi hkl KP Xk hlo1 T7;clear b3;have b3:w7.cell? ⟨w.heap.size,3,none⟩=some (.slice pa n ca):=ZH.out.cell 3
 go_wp2_with fail
 refine HK.out.one.mono ?_
 rintro e w8 ⟨nQ,aa,ZK,dcA,rfl,PA⟩;have Xm:=Hd PA;have HD:=Hd (ZI.out _ w8 PA.touch (fun j h1 _ h=>ZJ.out j h1 h));have ac3:gx<w8.heap.size:=Nat.lt_of_lt_of_le Xl PA.touch.size;have ZL:=Hd (ZH.out.touch PA.touch Da.out.1);clear b3 PA ZI
 go_wp2_with fail
 go_loopw [12] (fun a wr=>∃ i:Nat,i≤n+2∧a=.int .i64 i∧r9 w8 wr (fun g=>w6.heap.size≤g∧g<w7.heap.size) gx 6 (n+2)) (fun a _=>n+2-(intOf a).toNat)
 case atStart=>exact ⟨0,by omega,rfl,HD.out⟩
 case round =>
  obtain ⟨i,hi,rfl,M⟩:=hrel;have HM:=Hd M;clear M;by_cases hlt:i<n+2
  ·have hlt':(i:Int)<(n:Int)+2:=by omega
   obtain ⟨dp,dn,dc,M,hdn⟩:=HM.out.at_ i hlt;have iL:=Hd M;have hgr:=M.all.row;clear M HM
   go_wp2_with fail
   go_loopw [13] (fun a wq=>∃ k:Nat,k≤dn∧a=.int .i64 k∧qy w8 wq (fun g=>w6.heap.size≤g∧g<w7.heap.size) gx 6 (n+2) i dp dn dc) (fun a _=>dn-(intOf a).toNat)
   case atStart=>exact ⟨0,by omega,rfl,iL.out⟩
   case round =>
    obtain ⟨k,hk,rfl,M⟩:=hrel;have aaM:=M.all.row;have hcell:=M.cell;by_cases hkl:k<dn
    ·obtain ⟨g,rfl,Xn,QN,hroom⟩:=M.room (by omega);obtain ⟨⟨old,hold⟩,hfree⟩:=hroom.cell k hkl;have aaN:=hroom.lt;have l9:=Hd (M.set (by omega) k (.int .u8 99));clear M hroom Xn QN
     go_wp2_with fail
     exact ⟨⟨k+1,by omega,by go_num,l9.out⟩,by simp [intOf];omega⟩
    ·obtain rfl:k=dn:=by omega
     have wX:=Hd M.all;clear M
     go_wp2_with fail
     exact ⟨⟨i+1,by omega,by go_num,wX.out⟩,by simp [intOf];omega⟩
  ·obtain rfl:i=n+2:=by omega
   have H8:=HM.out.touch;have ZM:=Hd (ZL.out.touch H8 (fun h=>by have:=Da.out.2.2;omega));have b3:wr.cell? ⟨w.heap.size,3,none⟩=some (.slice pa n ca):=ZM.out.cell 3;have wG:=Hd (HK.out.two Xm.out H8);have ZN:=Hd (fun vV bb v' W2 PB=>HK.out.three (vV:=vV) (bb:=bb) (v':=v') (W2:=W2) Xm.out H8 PB);have I7:=Hd HK.out.len;have ZO:=Hd HK.out.few;have ZP:=Hd HK.out.last;clear H8 HM HD HK Xm ZL ZJ Da IQ
   go_wp2_with fail
   refine wG.out.mono ?_
   rintro e IG ⟨vV,bb,ZQ,dcB,rfl,PB⟩;have ZR:=Hd (ZN.out _ _ _ _ PB);clear PB b3 ZM wG ZN
   go_wp2_with fail
   go_loopw [16] (fun a wq=>∃ i:Nat,i≤n∧a=.int .i64 i∧KS w wq w7.heap.size wr.heap.size hb1 s1 cB nQ hb2 s2 dQ vV (st n).1 (st n).2 (.slice ZK n dcA) (.slice ZQ n dcB) aa bb ax i) (fun a _=>n-(intOf a).toNat)
   case atStart=>exact ⟨0,by omega,rfl,ZR.out⟩
   case round =>
    obtain ⟨i,hi,rfl,S⟩:=hrel;have HS:=Hd S;clear S ZR;by_cases hlt:i<n
    ·have hlt':(i:Int)<(n:Int):=by omega
     obtain ⟨x,hx⟩:∃ x,ax[i]? = some x:=⟨_,List.getElem?_eq_getElem (by rw [I7.out];exact hlt)⟩;obtain ⟨a,ha⟩:∃ a,aa[i]? = some a:=⟨_,List.getElem?_eq_getElem (by rw [HS.out.la,I7.out];exact hlt)⟩;obtain ⟨b,hb'⟩:∃ b,bb[i]? = some b:=⟨_,List.getElem?_eq_getElem (by rw [HS.out.lb,I7.out];exact hlt)⟩;have SA:=Hd (HS.out.ea i a x (Nat.le_refl _) ha hx);have ZT:=Hd (HS.out.eb i b x hb' hx);obtain ⟨ga,cga,hga,-,Xo⟩:=World.ownsRow.form HS.out.F5 (by rw [HS.out.la,I7.out];omega);obtain ⟨gb,cgb,hgb,-,aaO⟩:=World.ownsRow.form HS.out.Kr (by rw [HS.out.lb,I7.out];omega);obtain rfl:ZK=some ⟨ga,0,none⟩:=by injection hga
     obtain rfl:ZQ=some ⟨gb,0,none⟩:=by injection hgb
     clear hga hgb;have sa:=fun j u hu=>zy HS.out.F5 i a ha j u hu
     have sb:=fun j u hu=>zy HS.out.Kr i b hb' j u hu
     have Nn:=Hd ha;have aaP:=ZO.out i x hx;obtain ⟨ae,av,fE,eB,adc,ah,al,gH,gI⟩:=a;obtain ⟨be,bv,WE,WG,WH,bh,bl,WI,WJ⟩:=b;have p0:wr.cell? ⟨ga,i*7,none⟩=some (.int .i64 ae):=sa 0 _ rfl;have p1:wr.cell? ⟨ga,i*7+1,none⟩=some (.int .u64 av):=sa 1 _ rfl;have p2:wr.cell? ⟨ga,i*7+2,none⟩=some (.slice fE eB adc):=sa 2 _ rfl;have p3:wr.cell? ⟨ga,i*7+3,none⟩=some (.int .u64 ah):=sa 3 _ rfl;have p4:wr.cell? ⟨ga,i*7+4,none⟩=some (.int .u64 al):=sa 4 _ rfl;have p5:wr.cell? ⟨ga,i*7+5,none⟩=some (.int .i64 gH):=sa 5 _ rfl;have p6:wr.cell? ⟨ga,i*7+6,none⟩=some (.int .i64 gI):=sa 6 _ rfl;have q0:wr.cell? ⟨gb,i*7,none⟩=some (.int .i64 be):=sb 0 _ rfl;have q1:wr.cell? ⟨gb,i*7+1,none⟩=some (.int .u64 bv):=sb 1 _ rfl;have q2:wr.cell? ⟨gb,i*7+2,none⟩=some (.slice WE WG WH):=sb 2 _ rfl;have q3:wr.cell? ⟨gb,i*7+3,none⟩=some (.int .u64 bh):=sb 3 _ rfl;have q4:wr.cell? ⟨gb,i*7+4,none⟩=some (.int .u64 bl):=sb 4 _ rfl;have q5:wr.cell? ⟨gb,i*7+5,none⟩=some (.int .i64 WI):=sb 5 _ rfl;have q6:wr.cell? ⟨gb,i*7+6,none⟩=some (.int .i64 WJ):=sb 6 _ rfl;have QO:=Hd (fun W (T:Touch Nothing wr W)=>G9 (SA.out.touch T (fun _ _ h=>h)) (ZT.out.touch T (fun _ _ h=>h)))
     have HDn:=Hd (show eB=x.data.length from (by
      rcases SA.out.own.2 with ⟨h,h0⟩ | ⟨g,cap,cur,h,_⟩
      ·cases h;exact h0.symm
      ·cases h;rfl))
     clear sa sb ha hb' hx
     go_upto_region 24 with fail
     unfold aG.val at QO;refine wp_region_still_tail 8 (by kernel_rfl) (by kernel_rfl) ?_
     simp only [List.take_succ_cons,List.take_zero,List.drop_succ_cons,List.drop_zero,World.drew_eq]
     repeat still_step
     refine wpStill_nil ?_
     go_wp2_with fail
     refine (QO.out _ ((Touch.refl Nothing wr).drew)).mono ?_
     rintro e yX ⟨rfl,ZU⟩;have QS:=Hd (((Touch.refl Nothing wr).drew).trans ZU);have Yo:ga<yX.heap.size:=Nat.lt_of_lt_of_le Xo QS.out.size;clear ZU p0 q0 p1 q1 p2 q2 p3 q3 p4 q4 p5 q5 p6 q6 QO ZT Xo aaO;have tq:=Hd (HS.out.still QS.out);have FM:=Hd (show ∃ xs,yX.ownsRow 0 5 1 (.slice fE eB adc) eB xs from ⟨_,by have:=aZ SA.out.own QS.out (fun _ _ _ h=>h);rw [←HDn.out] at this;exact this⟩);clear HS SA;have acG:eB≤65536:=by have:=HDn.out;omega
     clear aaP HDn
     go_wp2_with fail
     go_loopw [17] (fun a wz=>∃ k:Nat,k≤eB∧a=.int .i64 k∧Touch (fun g=>(aG.mk ae av fE eB adc ah al gH gI).block=some g) yX wz∧∃ xs,wz.ownsRow 0 5 1 (.slice fE eB adc) eB xs) (fun a _=>eB-(intOf a).toNat)
     case atStart=>exact ⟨0,by omega,rfl,Touch.refl _ _,FM.out⟩
     case round =>
      obtain ⟨k,hk,rfl,T,xs,hown⟩:=hrel;have HT:=Hd T;have ac4:ga<wr.heap.size:=Nat.lt_of_lt_of_le Yo T.size;have hcell:wr.cell? ⟨ga,i*7+2,none⟩=some (.slice fE eB adc):=zy (tq.out.turn Nn.out T).F5 i _ Nn.out 2 _ rfl;by_cases hkl:k<eB
      ·obtain ⟨gd,cgd,hgd,-,ac5⟩:=World.ownsRow.form hown (by omega);cases hgd;have hfree:wr.frozen? ⟨gd,k,none⟩=false:=World.ownsRow.frozenAt hown k
       obtain ⟨old,hold⟩:∃ old,wr.cell? ⟨gd,k,none⟩=some old:=by
        rw [World.ownsRow.cellAt hown k (by omega)];exact ⟨_,List.getElem?_eq_getElem (by have:=hown.1;omega)⟩
       have l9:=Hd (And.intro (T.trans ((Touch.cellAt wr gd k (.int .u8 98)).mono (fun j _ h=>by subst h;rfl))) (⟨_,QH hown hkl (.int .u8 98)⟩:∃ xs,(wr.setCell ⟨gd,k,none⟩ (.int .u8 98)).ownsRow 0 5 1 (.slice (some ⟨gd,0,none⟩) eB adc) eB xs));clear T hown
       go_wp2_with fail
       exact ⟨⟨k+1,by omega,by go_num,l9.out.1,l9.out.2⟩,by simp [intOf];omega⟩
      ·obtain rfl:k=eB:=by omega
       have HO:=Hd hown;have hz:yX.heap.size≤wr.heap.size:=T.size;have HOb:=Hd (show ∀ g,(Value.slice fE k adc).ownBlock=some g→g<yX.heap.size→(aG.mk ae av fE k adc ah al gH gI).block=some g from fun g h _=>h);clear T hown
       go_wp2_with fail
       clear hcell
       go_loopw [18,19] (fun v b wz=>∃ (j:Nat) (ys:List Value),j≤20∧b=.int .i64 j∧wz.ownsRow 0 5 1 v (k+j) ys∧Touch (fun g=>(aG.mk ae av fE k adc ah al gH gI).block=some g) yX wz∧∀ g,v.ownBlock=some g→g<yX.heap.size→(aG.mk ae av fE k adc ah al gH gI).block=some g) (fun _ b _=>20-(intOf b).toNat)
       case atStart=>exact ⟨0,_,by omega,rfl,HO.out,HT.out,HOb.out⟩
       case round =>
        obtain ⟨j,ys,hj,rfl,hown,T,ZV⟩:=hrel;have HT2:=Hd T;have Sl:=Hd hown;have Xp:=Hd ZV;have hz2:yX.heap.size≤wr.heap.size:=T.size;obtain ⟨p,cap,hv⟩:=iy hown;subst hv;clear T hown ZV;by_cases hj2:j<20
        ·go_wp2_with (at_builtin;refine wpList_append_lies _ rfl _ _ 34 rfl 0 5 i0 _ 1 1 Tryz.underlying34 hi0 hz0 hz1 hz2' rfl (by decide) _ _ _ rfl (Sl.out.alloc _) ⟨wr.heap.size,0,none⟩ 1 1 [.int .u8 97] rfl rfl (cell_one_new _ _ _) (by simp [Value.oneCell']) (by omega) (by unfold maxLen;omega) (by omega) (by omega) (wr.heap.size+1) (by simp) ?_;intro gg c' w1 hown1 hgrow1 Xq hlt1)
         have TG:Touch (fun i=>(Value.slice p (k+j) cap).ownBlock=some i) _ w1:=Touch.bT hgrow1 (fun i hi=>hi)
         have l9:=Hd (And.intro hown1 (And.intro ((HT2.out.alloc _).trans' TG (fun i hi h=>Xp.out i h hi)) (show ∀ g,(Value.slice (some ⟨gg,0,none⟩) (k+j+1) c').ownBlock=some g→g<yX.heap.size→(aG.mk ae av fE k adc ah al gH gI).block=some g from fun g hg hl=>by
          cases hg;rcases Xq with h | h
          ·exact Xp.out _ h hl
          ·have hl':gg<yX.heap.size:=hl;omega)))
         clear hown1 hgrow1 Xq TG
         go_wp2_with fail
         exact ⟨⟨j+1,_,by omega,by go_num,l9.out.1,l9.out.2.1,l9.out.2.2⟩,by simp [intOf];omega⟩
        ·obtain rfl:j=20:=by omega
         go_wp2_with fail
         exact ⟨⟨i+1,by omega,by go_num,tq.out.turn Nn.out HT2.out⟩,by simp [intOf];omega⟩
    ·obtain rfl:i=n:=by omega
     have nS:=Hd HS.out.h1.lived;obtain ⟨lv,hlv⟩:∃ lv,dI (st i).1 (st i).1.μ.pages.length=lv:=⟨_,rfl⟩;have rQ:=Hd hlv;clear hlv
     go_wp2_with fail
     refine nS.out.mono ?_
     rintro e w11 ⟨v1,⟨rfl,Xr,T1⟩,ZW⟩;have HL2:=Hd (HS.out.Qt (v1:=v1) (e:=.returned v1) ⟨rfl,Xr,T1⟩).lived;have jF:=Hd (show bC wr hb1 s1 cB nQ (st i).1 (st i).2 v1 (.returned v1) w11 from ⟨rfl,Xr,T1⟩);have FM:=Hd ZW;clear Xr T1 ZW nS
     go_wp2_with fail
     refine HL2.out.mono ?_
     rintro e w12 ⟨v2,L2,hO2⟩;obtain rfl:=L2.1;have hRS:=HS.out.WL jF.out FM.out L2 hO2;rw [rQ.out] at hRS;have ZX:=Hd hRS;obtain ⟨p1,c1,hv1⟩:=iy hRS.r1;subst hv1;obtain ⟨p2,c2,hv2⟩:=iy hRS.r2;subst hv2
     have hll:lv.length≤262144:=by
      have h1:=HS.out.h1.sl.po.bu.mp.ok.len;have h2:=rY (st i).1 (st i).1.μ.pages.length;have h3:=rQ.out;rw [h3] at h2;omega
     clear hRS L2 hO2 FM jF HL2 HS
     go_wp2_with fail
     go_loopw [22] (fun a wq=>∃ m:Nat,m≤lv.length∧a=.int .i64 m∧RS w wq hb1 s1 cB nQ hb2 s2 dQ vV (st i).1 (st i).2 (.slice p1 lv.length c1) (.slice p2 lv.length c2) lv) (fun a _=>lv.length-(intOf a).toNat)
     case atStart=>exact ⟨0,by omega,rfl,ZX.out⟩
     case round =>
      obtain ⟨m,hm,rfl,R⟩:=hrel;have HR:=Hd R;clear R ZX;by_cases hlt:m<lv.length
      ·have hlt':(m:Int)<(lv.length:Int):=by omega
       obtain ⟨⟨P,S⟩,SC⟩:∃ b,lv[m]? = some b:=⟨_,List.getElem?_eq_getElem hlt⟩;obtain ⟨F,C,L,I⟩:=ZP.out;obtain ⟨hS0,hrd⟩:=I.reads (i:=m) (P:=P) (S:=S) (by rw [rQ.out];exact SC);have pO:=Hd hrd;have Xt:=Hd SC;obtain ⟨g1,cg1,hg1,-,ac6⟩:=World.ownsRow.form HR.out.r1 (by omega);obtain ⟨g2,cg2,hg2,-,ac7⟩:=World.ownsRow.form HR.out.r2 (by omega);obtain rfl:p1=some ⟨g1,0,none⟩:=by injection hg1
       obtain rfl:p2=some ⟨g2,0,none⟩:=by injection hg2
       obtain ⟨q0,q1⟩:=su HR.out.r1 m P S SC;clear hg1 hg2 hrd SC I
       go_upto_region 42 with fail
       have kF:=Hd (show ∀ us W,(callFunc 28 us).run Tryz.prog W=.ok (.enter 28 us) W from fun us W=>by simp [go_sem])
       go_cut [23,24] (fun c d wx=>∃ gp,c=.slice (some ⟨gp,0,none⟩) S S∧d=.int .i64 0∧gp≠hb2∧aC wx gp 5 (bR (lQ (st i).1 P S))∧RS w wx hb1 s1 cB nQ hb2 s2 dQ vV (st i).1 (st i).2 (.slice (some ⟨g1,0,none⟩) lv.length c1) (.slice (some ⟨g2,0,none⟩) lv.length c2) lv)
       case first =>
        have HR1:=Hd (HR.out.still (Touch.refl Nothing wr).drew);have vO:=Hd (pO.out _ _ _ _ _ HR1.out.h1);clear HR
        go_region_law (refine lI _ (by rfl) 28 #[.tmp 185,.tmp 190,.tmp 195] #[28,33,33] (by rfl) #[.pointer (some ⟨hb1,0,none⟩),.int .u64 P,.int .u64 S] (by simp [Act.eval]) vO.out (kF.out _ _) ?_;rintro e w13 ⟨gp,NP,DF,L1⟩;refine ⟨_,L1.1,?_⟩;have nS:=Hd L1;have ZY:=Hd (And.intro NP DF);clear NP DF L1)
        all_goals
         go_wp2_with fail
         go_meet
         exact ⟨gp,rfl,rfl,fun e=>by have:=HR1.out.h2.lt hb2 (by simp);have:=ZY.out.1;omega,ZY.out.2,HR1.out.Yh nS.out⟩
       case rest =>
        obtain ⟨gp,rfl,rfl,NP,DF,hR⟩:=hcut;have HR2:=Hd hR;have Z0:=Hd (And.intro NP DF);clear q0 q1;obtain ⟨q0,q1⟩:=su hR.r2 m P S Xt.out;have acH:=(World.ownsRow.lt hR.r2 g2 rfl).2;clear hR NP DF HR
        go_upto_region 43 with fail
        go_cut [25,26] (fun c d wx=>∃ gq,c=.slice (some ⟨gq,0,none⟩) S S∧d=.int .i64 0∧aC wx gp 5 (bR (lQ (st i).1 P S))∧aC wx gq 5 (bR (lQ (st i).1 P S))∧RS w wx hb1 s1 cB nQ hb2 s2 dQ vV (st i).1 (st i).2 (.slice (some ⟨g1,0,none⟩) lv.length c1) (.slice (some ⟨g2,0,none⟩) lv.length c2) lv)
        case first =>
         have HR3:=Hd (HR2.out.still (Touch.refl Nothing wc).drew);have vO:=Hd (pO.out _ _ _ _ _ HR3.out.h2);clear HR2
         go_region_law (refine lI _ (by rfl) 28 #[.tmp 200,.tmp 205,.tmp 210] #[28,33,33] (by rfl) #[.pointer (some ⟨hb2,0,none⟩),.int .u64 P,.int .u64 S] (by simp [Act.eval]) vO.out (kF.out _ _) ?_;rintro e w13 ⟨gq,Z4,NQ,L1⟩;refine ⟨_,L1.1,?_⟩;have nS:=Hd L1;have HGq:=Hd (And.intro Z4 NQ);clear Z4 NQ L1)
         all_goals
          go_wp2_with fail
          go_meet
          exact ⟨gq,rfl,rfl,(Z0.out.2.touch (Touch.refl Nothing wc).drew (fun h=>h)).touch nS.out.2.2 (fun h=>Z0.out.1 h),HGq.out.2,HR3.out.Yi nS.out⟩
        case rest =>
         obtain ⟨gq,rfl,rfl,DF,NQ,hR⟩:=hcut;have HR4:=Hd hR;obtain ⟨q0,q1⟩:=su hR.r1 m P S Xt.out;obtain ⟨r0,r1⟩:=su hR.r2 m P S Xt.out;have acI:=(World.ownsRow.lt hR.r1 g1 rfl).2;have acJ:=(World.ownsRow.lt hR.r2 g2 rfl).2
         have hc1:∀ n:Nat,(convert 34 9 (.slice (some ⟨gp,0,none⟩) S S)).run Tryz.prog (wc.drewN n)=.ok (.string ⟨(lQ (st i).1 P S).toArray⟩) (wc.drewN n):=fun n=>by
          have:=F7 (DF.touch ((Touch.refl Nothing wc).drewN n) (fun h=>h));rwa [rZ] at this
         have hc2:∀ n:Nat,(convert 34 9 (.slice (some ⟨gq,0,none⟩) S S)).run Tryz.prog (wc.drewN n)=.ok (.string ⟨(lQ (st i).1 P S).toArray⟩) (wc.drewN n):=fun n=>by
          have:=F7 (NQ.touch ((Touch.refl Nothing wc).drewN n) (fun h=>h));rwa [rZ] at this
         clear hR DF NQ
         go_upto_region 44 with fail
         go_quiet (fail)
         go_wp2_with fail
         exact ⟨⟨m+1,by omega,by go_num,HR4.out.still ((Touch.refl Nothing wc).drewN nq)⟩,by simp [intOf];omega⟩
      ·obtain rfl:m=lv.length:=by omega
       rename World=>Gj
       obtain ⟨xs,hxs⟩:∃ xs,(Txt.dU s.data.toList).1=xs:=⟨_,rfl⟩;have KM:=Hd (Hu s.data.toList);have NR:=Hd (fun W G=>MU s W G);have SE:=Hd (fun W=>UD s W);have vP:=Hd (NR.out Gj HR.out.h1.ko);have HOv:=Hd HR.out.over;have h9:=HR.out.nine;have HGl:=Hd HR.out.h1.ko;have CQ:w.heap.size≤Gj.heap.size:=HR.out.over.size;unfold ku at NR SE vP;rw [hxs] at KM vP;simp only [hxs] at NR SE;clear hxs HR ZP ZO I7 rQ Kq ZG HI HN NN Xg
       go_wp2_with fail
       refine vP.out.mono ?_
       rintro e w16 ⟨dp,dn,dc,cs1,rfl,hc,T1⟩;have vO:=Hd hc;have HT1:=Hd T1;have hdn:dn=cs1.length:=hc.rd.1;subst hdn;have hcl:cs1.length≤4096:=by rw [hc.len];exact KM.out.2
       obtain ⟨gy,Xu⟩:∃ gy,0<cs1.length→dp=some ⟨gy,0,none⟩:=by
        by_cases h0:0<cs1.length
        ·obtain ⟨g,cap,hv,-,-⟩:=World.ownsRow.form hc.own h0;exact ⟨g,fun _=>by injection hv⟩
        ·exact ⟨0,fun h=>absurd h h0⟩
       have Z5:=Hd Xu
       have HD0:=Hd (show 0<cs1.length→qZ w16 w16 (Gj.heap.size≤·) gy cs1.length from fun h0=>by
        have h:=hc;rw [Xu h0] at h;exact qZ.start h KM.out.1)
       clear hc T1 Xu vP
       go_wp2_with fail
       go_loopw [29] (fun a wq=>∃ j:Nat,j≤cs1.length∧a=.int .i64 j∧Touch (Gj.heap.size≤·) w16 wq∧(0<cs1.length→qZ w16 wq (Gj.heap.size≤·) gy cs1.length)) (fun a _=>cs1.length-(intOf a).toNat)
       case atStart=>exact ⟨0,by omega,rfl,Touch.refl _ _,HD0.out⟩
       case round =>
        obtain ⟨j,hj,rfl,T,hD⟩:=hrel;have HT:=Hd T;have HD:=Hd hD;clear T hD HD0;by_cases hlt2:j<cs1.length
        ·obtain rfl:=Z5.out (by omega);have hD:=HD.out (by omega);obtain ⟨ep,en,ec,M,hen⟩:=hD.all.at_ j hlt2;have iL:=Hd (show ru w16 wr (Gj.heap.size≤·) gy cs1.length j ep en ec from ⟨M,hD.blk,hD.own⟩);have hgr:=M.all.row;clear M hD HD
         go_wp2_with fail
         go_loopw [30] (fun a wq=>∃ k:Nat,k≤en∧a=.int .i64 k∧ru w16 wq (Gj.heap.size≤·) gy cs1.length j ep en ec) (fun a _=>en-(intOf a).toNat)
         case atStart=>exact ⟨0,by omega,rfl,iL.out⟩
         case round =>
          obtain ⟨k,hk,rfl,M⟩:=hrel;have aaM:=M.at_.all.row;have hcell:=M.at_.cell;by_cases hkl:k<en
          ·obtain ⟨g,rfl,Xn,QN,hroom⟩:=M.at_.room (by omega);obtain ⟨⟨old,hold⟩,hfree⟩:=hroom.cell k hkl;have aaN:=hroom.lt;have l9:=Hd (M.set (by omega) k (.int .u8 96));clear M hroom Xn QN
           go_wp2_with fail
           exact ⟨⟨k+1,by omega,by go_num,l9.out⟩,by simp [intOf];omega⟩
          ·obtain rfl:k=en:=by omega
           obtain ⟨⟨old,hold⟩,hfree⟩:=M.back.cell j hlt2;have l9:=Hd (M.back.op j (.int .i64 9));clear M
           go_wp2_with fail
           exact ⟨⟨j+1,by omega,by go_num,l9.out.all.touch,fun _=>l9.out⟩,by simp [intOf];omega⟩
        ·obtain rfl:j=cs1.length:=by omega
         have wG:=Hd (NR.out wr ((HGl.out.aj HT1.out).touch HT.out (fun k hk h=>by omega)));clear HD Z5 NR
         go_wp2_with fail
         refine wG.out.mono ?_
         rintro e w18 ⟨dp2,dn2,dc2,cs2,rfl,hc2,T2⟩;have oP:=Hd hc2;have aaQ:=Hd T2;clear hc2 T2 wG
         go_wp2_with fail
         refine (SE.out w18).mono ?_
         rintro e w19 ⟨dp3,dn3,dc3,Z6,rfl,hc3,T3⟩;have oQ:=Hd hc3;have aaR:=Hd T3;obtain ⟨hn2,R2⟩:=(oP.out.still T3).rd;obtain ⟨Xv,R3⟩:=hc3.rd;have aaS:Z6.length=cs2.length:=by rw [hc3.len,oP.out.len]
         have hcs:cs2.length≤4096:=by rw [oP.out.len];exact KM.out.2
         rw [aaS] at Xv;rw [hn2] at R2;rw [Xv] at R3
         have HSame:=Hd (XV w19 dp2 dp3 cs2.length dc2 dc3 cs2 Z6 _ (by omega) R2 R3 (fun i c d hci hdi=>by
          obtain ⟨x,hx⟩:∃ x,xs[i]? = some x:=⟨_,List.getElem?_eq_getElem (by rw [←oP.out.len];exact (List.getElem?_eq_some_iff.1 hci).1)⟩;exact QJ (oP.out.each i c x hci hx) (oQ.out.each i d x hdi hx)))
         subst hn2 Xv;clear hc3 T3 R2 R3 SE oP oQ
         go_wp2_with fail
         refine HSame.out.mono ?_
         rintro e w20 ⟨rfl,T4⟩;have aaT:=Hd T4;clear T4 HSame
         go_wp2_with fail
         go_ret
         exact ⟨rfl,(((((HOv.out.trans HT1.out.none_).trans' HT.out (fun k hk h=>by omega)).trans aaQ.out.none_).trans aaR.out.none_).trans aaT.out.none_).mono (fun k hk h=>by omega)⟩
theorem Yp (base:Nat) (limit order:Int) (pa:Option Addr) (n ca:Nat) (cs:List au) (ds:List (List UInt8)) (s:ByteArray) (w:World) (G:bU w) (hb:base<18446744073709551616)
  (H1:Handed w pa n ca cs ds) :
  Calls Tryz.prog 8 #[.agg #[.int .u64 base,.int .i64 limit,.int .i64 order,.slice pa n ca],.string s] w fun e w'=>e=.returned (.bool true)∧Touch Nothing w w':=by
 cases hm:eF base limit order with
 | false=>exact I6 base limit order pa n ca s w G hb (.inl hm)
 | true =>
  by_cases hn:4096<n
  ·exact I6 base limit order pa n ca s w G hb (.inr hn)
  have h:=hm;unfold eF at h;have h:=of_decide_eq_true h;obtain ⟨o,rfl⟩:∃ o:Nat,order=o:=⟨order.toNat,by omega⟩;obtain ⟨l,rfl⟩:∃ l:Nat,limit=l:=⟨limit.toNat,by omega⟩;refine QL base l o pa n ca cs ds s w G hb hm (by omega) H1 (fun c hc=>(H1.fine c hc).1) (fun d hd=>?_) (by omega);obtain ⟨i,hi⟩:=List.mem_iff_getElem?.1 hd;obtain ⟨c,hc⟩:∃ c,cs[i]? = some c:=⟨_,List.getElem?_eq_getElem (by have:=(List.getElem?_eq_some_iff.1 hi).1;have:=H1.rd.len;have:=H1.rd.len2;omega)⟩;have h1:=(H1.rd.src i c d hc hi).len;have h2:=(H1.fine c (List.mem_of_getElem? hc)).2;have h3:maxLen=9223372036854775807:=rfl;omega
end Go.Proofs.YtnjcmcnjgdjbiaaGreatDoor
