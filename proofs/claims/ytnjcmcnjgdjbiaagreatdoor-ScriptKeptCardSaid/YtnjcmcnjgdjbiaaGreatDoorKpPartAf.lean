/- The numbers under which this program holds sync's lock, and that it holds it. Conditions: as each theorem states. -/
import Derived.Conc.MuLone
import Derived.KernelRfl
import Derived.Test.YtnjcmcnjgdjbiaaGreatDoorKpPartAe
import Derived.Maps.OwnSet
set_option maxRecDepth 100000
set_option maxHeartbeats 1000000
namespace Go.Proofs
abbrev Tryz.muLink:Go.Conc.Locks.MuLink:={ lock:=58,unlock:=59,ilock:=108,iunlock:=109,lockSlow:=164,unlockSlow:=167,disable:=160,enable:=162,acquire:=163,relMerge:=165,cas32:=161,add32:=166,tMutex:=95,tIMutex:=93,tPMutex:=186,tPIMutex:=248,tPI32:=250,tUP:=252,tNoCopy:=90,tU32:=91 }
theorem Tryz.muLib:Go.Conc.Locks.MuLib Tryz.prog Tryz.muLink :=
 ⟨Tryz.func58,Tryz.func59,Tryz.func108,Tryz.func109,Tryz.func160,Tryz.func162,Tryz.func163,Tryz.func165,Tryz.func161,Tryz.func166,Tryz.underlying93,Tryz.runUnderlying93,Tryz.sizeOf93,Tryz.isAgg93,Tryz.zeroValue93,Tryz.underlying95,Tryz.runUnderlying95,Tryz.sizeOf95,Tryz.isAgg95,Tryz.zeroValue95,Tryz.underlying186,Tryz.runUnderlying186,Tryz.sizeOf186,Tryz.isAgg186,Tryz.zeroValue186,Tryz.underlying248,Tryz.runUnderlying248,Tryz.sizeOf248,Tryz.isAgg248,Tryz.zeroValue248,Tryz.underlying250,Tryz.runUnderlying250,Tryz.sizeOf250,Tryz.isAgg250,Tryz.zeroValue250,Tryz.underlying252,Tryz.runUnderlying252,Tryz.sizeOf252,Tryz.isAgg252,Tryz.zeroValue252,Tryz.underlying90,Tryz.runUnderlying90,Tryz.sizeOf90,Tryz.isAgg90,Tryz.zeroValue90,Tryz.underlying21,Tryz.runUnderlying21,Tryz.sizeOf21,Tryz.isAgg21,Tryz.zeroValue21,(by kernel_rfl)⟩
end Go.Proofs
namespace Go.Proofs.YtnjcmcnjgdjbiaaGreatDoor
open Go.RowKit
structure ak (m:Int) (w:World) (hb s pb:Nat) (K:ay) (β:Bu) (ps:List Int):Prop where
 blk:aC w hb 97 [.int .i32 m,.int .u32 0,.int .u64 β.σ.base,.int .i64 β.σ.limit,.int .i64 β.μ.order,.pointer (some ⟨pb,0,none⟩),.pointer (some ⟨s,0,none⟩)]
 sl:aM w s pb K β ps
 apart:hb∉s::pb::K.fp
 ko:bU w
 far:∀ k∈hb::s::pb::K.fp,9≤k
theorem ak.touch {m:Int} {w w':World} {hb s pb:Nat} {K:ay} {β:Bu} {ps:List Int} {S:Nat→Prop} (R:ak m w hb s pb K β ps) (T:Touch S w w') (h:∀ k,k∈hb::s::pb::K.fp→¬S k) (hg:∀ k,k<9→¬S k):ak m w' hb s pb K β ps :=
 ⟨R.blk.touch T (h _ (by simp)),R.sl.touch T (fun k hk=>h k (List.mem_cons_of_mem _ hk)),R.apart,R.ko.touch T hg,R.far⟩
theorem ak.aj {m:Int} {w w':World} {hb s pb:Nat} {K:ay} {β:Bu} {ps:List Int} (R:ak m w hb s pb K β ps) (T:Touch Nothing w w'):ak m w' hb s pb K β ps:=R.touch T (fun _ _ h=>h) (fun _ _ h=>h)
theorem ak.lt {m:Int} {w:World} {hb s pb:Nat} {K:ay} {β:Bu} {ps:List Int} (R:ak m w hb s pb K β ps):∀ k∈hb::s::pb::K.fp,k<w.heap.size:=by
 intro k hk;rcases List.mem_cons.1 hk with rfl | hk
 ·exact R.blk.lt
 ·exact R.sl.lt k hk
theorem ak.cells {m:Int} {w:World} {hb s pb:Nat} {K:ay} {β:Bu} {ps:List Int} (R:ak m w hb s pb K β ps) :
  w.cell? ⟨hb,0,none⟩=some (.int .i32 m)∧w.cell? ⟨hb,2,none⟩=some (.int .u64 β.σ.base)∧w.cell? ⟨hb,4,none⟩=some (.int .i64 β.μ.order)∧w.cell? ⟨hb,5,none⟩=some (.pointer (some ⟨pb,0,none⟩))∧w.cell? ⟨hb,6,none⟩=some (.pointer (some ⟨s,0,none⟩))∧w.frozen? ⟨hb,0,none⟩=false :=
 ⟨R.blk.cell 0,R.blk.cell 2,R.blk.cell 4,R.blk.cell 5,R.blk.cell 6,R.blk.free 0⟩
theorem ak.locked {m:Int} {w:World} {hb s pb:Nat} {K:ay} {β:Bu} {ps:List Int} (R:ak m w hb s pb K β ps) (m':Int):ak m' (w.setCell ⟨hb,0,none⟩ (.int .i32 m')) hb s pb K β ps:=by
 have T:=Touch.cellAt w hb 0 (.int .i32 m');refine ⟨R.blk.set 0 _,R.sl.touch T (fun k hk e=>R.apart (e▸hk)),R.apart,R.ko.touch T (fun k hk e=>?_),R.far⟩;have:=R.far hb (by simp);omega
theorem ak.next {m:Int} {w w':World} {hb s pb:Nat} {K K':ay} {β β':Bu} {ps ps':List Int} (R:ak m w hb s pb K β ps) (T:Touch (·∈s::K.fp) w w') (N:K.Next w K') (R':aM w' s pb K' β' ps') (hσ:β'.σ.base=β.σ.base∧β'.σ.limit=β.σ.limit∧β'.μ.order=β.μ.order):ak m w' hb s pb K' β' ps':=by
 have hs:∀ k,k∈s::K.fp→k∈s::pb::K.fp:=fun k hk=>by
  rcases List.mem_cons.1 hk with h | h
  ·simp [h]
  ·simp [h]
 have hb0:hb∉s::K.fp:=fun h=>R.apart (hs _ h)
 refine ⟨?_,R',fun h=>?_,R.ko.touch T (fun k hk h=>?_),fun k hk=>?_⟩
 ·rw [hσ.1,hσ.2.1,hσ.2.2];exact R.blk.touch T hb0
 ·simp only [List.mem_cons] at h;rcases h with h | h | h
  ·exact R.apart (by simp [h])
  ·exact R.apart (by simp [h])
  ·rcases N.fresh hb h with h | h
   ·exact R.apart (by simp [h])
   ·have:=R.blk.lt;omega
 ·have:=R.far k (List.mem_cons_of_mem _ (hs k h));omega
 ·simp only [List.mem_cons] at hk;rcases hk with h | h | h | h
  ·exact R.far k (by simp [h])
  ·exact R.far k (by simp [h])
  ·exact R.far k (by simp [h])
  ·rcases N.fresh k h with h | h
   ·exact R.far k (by simp [h])
   ·have:=R.ko.size;omega
theorem ak.TM {m:Int} {w:World} {hb s pb:Nat} {K:ay} {β:Bu} {ps:List Int} (R:ak m w hb s pb K β ps) :
  Calls Tryz.prog 187 #[.pointer (some ⟨hb,0,none⟩)] w fun e w'=>e=.returned (.int .u64 (β.σ.size:Nat))∧w=w':=by
 obtain ⟨-,-,c4,-,-,-⟩:=R.cells;have ho:=R.sl.po.bu.mp.ok.order;have HW:=Hd (oK ho);have HZ:=Hd R.sl.po.bu.ok.size;have hmin:min β.μ.order 64=β.μ.order:=by omega
 clear R;generalize β.μ.order=o at *
 go_enter Tryz.func187,Tryz.ntmps187
 go_wp2_with fail
 go_ret
 refine ⟨?_,rfl⟩
 show Ending.returned (.int .u64 (IntKind.u64.wrap (4096*2^o)))=_
 rw [HW.out,HZ.out]
def bD (region size align:Nat):Nat × Int :=
 if jc align=false then (0,1) else if kL (max (max size align) 16)=0∨region<kL (max (max size align) 16) then (0,3) else (kL (max (max size align) 16),0)
def dL (w:World) (r:Nat × Int) (e:Ending) (w':World):Prop:=e=.returned (.tuple #[.int .u64 r.1,.int .i64 r.2])∧w=w'
theorem OQ {w:World} (hb:Nat) (size align:Nat) (h:align<18446744073709551616) (hp:jc align=false) :
  Calls Tryz.prog 135 #[.pointer (some ⟨hb,0,none⟩),.int .u64 size,.int .u64 align] w (dL w (0,1)):=by
 have HP:=Hd (iD align w h);rw [hp] at HP;clear hp h
 go_enter Tryz.func135,Tryz.ntmps135
 go_wp2_with fail
 refine HP.out.mono ?_
 rintro e w' ⟨rfl,rfl⟩
 go_wp2_with fail
 go_ret2
 exact ⟨rfl,rfl⟩
theorem OT {w:World} (hb size align r z:Nat) (b:Bool) (h:align<18446744073709551616) (hp:jc align=true) (q1:size<align) (q2:align<16) (hf:b=false)
  (HC:Hid (Calls Tryz.prog 186 #[.int .u64 16] w fun e w'=>e=.returned (.tuple #[.int .u64 r,.bool b])∧w=w'))
  (_HG:Hid (Calls Tryz.prog 187 #[.pointer (some ⟨hb,0,none⟩)] w fun e w'=>e=.returned (.int .u64 z)∧w=w')) :
  Calls Tryz.prog 135 #[.pointer (some ⟨hb,0,none⟩),.int .u64 size,.int .u64 align] w (dL w (0,3)):=by
 have HP:=Hd (iD align w h);rw [hp] at HP;subst hf;clear hp h
 go_enter Tryz.func135,Tryz.ntmps135
 go_wp2_with fail
 refine HP.out.mono ?_
 rintro e w' ⟨rfl,rfl⟩
 go_wp2_with fail
 refine HC.out.mono ?_
 rintro e w' ⟨rfl,rfl⟩
 go_wp2_with fail
 go_ret2
 exact ⟨rfl,rfl⟩
theorem OU {w:World} (hb size align r z:Nat) (b:Bool) (h:align<18446744073709551616) (hp:jc align=true) (q1:size<align) (q2:align<16) (hf:b=true) (hlt:z<r)
  (HC:Hid (Calls Tryz.prog 186 #[.int .u64 16] w fun e w'=>e=.returned (.tuple #[.int .u64 r,.bool b])∧w=w'))
  (HG:Hid (Calls Tryz.prog 187 #[.pointer (some ⟨hb,0,none⟩)] w fun e w'=>e=.returned (.int .u64 z)∧w=w')) :
  Calls Tryz.prog 135 #[.pointer (some ⟨hb,0,none⟩),.int .u64 size,.int .u64 align] w (dL w (0,3)):=by
 have HP:=Hd (iD align w h);rw [hp] at HP;subst hf;clear hp h
 go_enter Tryz.func135,Tryz.ntmps135
 go_wp2_with fail
 refine HP.out.mono ?_
 rintro e w' ⟨rfl,rfl⟩
 go_wp2_with fail
 refine HC.out.mono ?_
 rintro e w' ⟨rfl,rfl⟩
 go_wp2_with fail
 refine HG.out.mono ?_
 rintro e w' ⟨rfl,rfl⟩
 go_wp2_with fail
 go_ret2
 exact ⟨rfl,rfl⟩
theorem OV {w:World} (hb size align r z:Nat) (b:Bool) (h:align<18446744073709551616) (hp:jc align=true) (q1:size<align) (q2:align<16) (hf:b=true) (hlt:¬z<r)
  (HC:Hid (Calls Tryz.prog 186 #[.int .u64 16] w fun e w'=>e=.returned (.tuple #[.int .u64 r,.bool b])∧w=w'))
  (HG:Hid (Calls Tryz.prog 187 #[.pointer (some ⟨hb,0,none⟩)] w fun e w'=>e=.returned (.int .u64 z)∧w=w')) :
  Calls Tryz.prog 135 #[.pointer (some ⟨hb,0,none⟩),.int .u64 size,.int .u64 align] w (dL w (r,0)):=by
 have HP:=Hd (iD align w h);rw [hp] at HP;subst hf;clear hp h
 go_enter Tryz.func135,Tryz.ntmps135
 go_wp2_with fail
 refine HP.out.mono ?_
 rintro e w' ⟨rfl,rfl⟩
 go_wp2_with fail
 refine HC.out.mono ?_
 rintro e w' ⟨rfl,rfl⟩
 go_wp2_with fail
 refine HG.out.mono ?_
 rintro e w' ⟨rfl,rfl⟩
 go_wp2_with fail
 go_ret2
 exact ⟨rfl,rfl⟩
theorem OW {w:World} (hb size align r z:Nat) (b:Bool) (h:align<18446744073709551616) (hp:jc align=true) (q1:¬size<align) (q2:size<16) (hf:b=false)
  (HC:Hid (Calls Tryz.prog 186 #[.int .u64 16] w fun e w'=>e=.returned (.tuple #[.int .u64 r,.bool b])∧w=w'))
  (_HG:Hid (Calls Tryz.prog 187 #[.pointer (some ⟨hb,0,none⟩)] w fun e w'=>e=.returned (.int .u64 z)∧w=w')) :
  Calls Tryz.prog 135 #[.pointer (some ⟨hb,0,none⟩),.int .u64 size,.int .u64 align] w (dL w (0,3)):=by
 have HP:=Hd (iD align w h);rw [hp] at HP;subst hf;clear hp h
 go_enter Tryz.func135,Tryz.ntmps135
 go_wp2_with fail
 refine HP.out.mono ?_
 rintro e w' ⟨rfl,rfl⟩
 go_wp2_with fail
 refine HC.out.mono ?_
 rintro e w' ⟨rfl,rfl⟩
 go_wp2_with fail
 go_ret2
 exact ⟨rfl,rfl⟩
theorem OX {w:World} (hb size align r z:Nat) (b:Bool) (h:align<18446744073709551616) (hp:jc align=true) (q1:¬size<align) (q2:size<16) (hf:b=true) (hlt:z<r)
  (HC:Hid (Calls Tryz.prog 186 #[.int .u64 16] w fun e w'=>e=.returned (.tuple #[.int .u64 r,.bool b])∧w=w'))
  (HG:Hid (Calls Tryz.prog 187 #[.pointer (some ⟨hb,0,none⟩)] w fun e w'=>e=.returned (.int .u64 z)∧w=w')) :
  Calls Tryz.prog 135 #[.pointer (some ⟨hb,0,none⟩),.int .u64 size,.int .u64 align] w (dL w (0,3)):=by
 have HP:=Hd (iD align w h);rw [hp] at HP;subst hf;clear hp h
 go_enter Tryz.func135,Tryz.ntmps135
 go_wp2_with fail
 refine HP.out.mono ?_
 rintro e w' ⟨rfl,rfl⟩
 go_wp2_with fail
 refine HC.out.mono ?_
 rintro e w' ⟨rfl,rfl⟩
 go_wp2_with fail
 refine HG.out.mono ?_
 rintro e w' ⟨rfl,rfl⟩
 go_wp2_with fail
 go_ret2
 exact ⟨rfl,rfl⟩
theorem OY {w:World} (hb size align r z:Nat) (b:Bool) (h:align<18446744073709551616) (hp:jc align=true) (q1:¬size<align) (q2:size<16) (hf:b=true) (hlt:¬z<r)
  (HC:Hid (Calls Tryz.prog 186 #[.int .u64 16] w fun e w'=>e=.returned (.tuple #[.int .u64 r,.bool b])∧w=w'))
  (HG:Hid (Calls Tryz.prog 187 #[.pointer (some ⟨hb,0,none⟩)] w fun e w'=>e=.returned (.int .u64 z)∧w=w')) :
  Calls Tryz.prog 135 #[.pointer (some ⟨hb,0,none⟩),.int .u64 size,.int .u64 align] w (dL w (r,0)):=by
 have HP:=Hd (iD align w h);rw [hp] at HP;subst hf;clear hp h
 go_enter Tryz.func135,Tryz.ntmps135
 go_wp2_with fail
 refine HP.out.mono ?_
 rintro e w' ⟨rfl,rfl⟩
 go_wp2_with fail
 refine HC.out.mono ?_
 rintro e w' ⟨rfl,rfl⟩
 go_wp2_with fail
 refine HG.out.mono ?_
 rintro e w' ⟨rfl,rfl⟩
 go_wp2_with fail
 go_ret2
 exact ⟨rfl,rfl⟩
theorem OZ {w:World} (hb size align r z:Nat) (b:Bool) (h:align<18446744073709551616) (hp:jc align=true) (q1:size<align) (q2:¬align<16) (hf:b=false)
  (HC:Hid (Calls Tryz.prog 186 #[.int .u64 align] w fun e w'=>e=.returned (.tuple #[.int .u64 r,.bool b])∧w=w'))
  (_HG:Hid (Calls Tryz.prog 187 #[.pointer (some ⟨hb,0,none⟩)] w fun e w'=>e=.returned (.int .u64 z)∧w=w')) :
  Calls Tryz.prog 135 #[.pointer (some ⟨hb,0,none⟩),.int .u64 size,.int .u64 align] w (dL w (0,3)):=by
 have HP:=Hd (iD align w h);rw [hp] at HP;subst hf;clear hp h
 go_enter Tryz.func135,Tryz.ntmps135
 go_wp2_with fail
 refine HP.out.mono ?_
 rintro e w' ⟨rfl,rfl⟩
 go_wp2_with fail
 refine HC.out.mono ?_
 rintro e w' ⟨rfl,rfl⟩
 go_wp2_with fail
 go_ret2
 exact ⟨rfl,rfl⟩
theorem O0 {w:World} (hb size align r z:Nat) (b:Bool) (h:align<18446744073709551616) (hp:jc align=true) (q1:size<align) (q2:¬align<16) (hf:b=true) (hlt:z<r)
  (HC:Hid (Calls Tryz.prog 186 #[.int .u64 align] w fun e w'=>e=.returned (.tuple #[.int .u64 r,.bool b])∧w=w'))
  (HG:Hid (Calls Tryz.prog 187 #[.pointer (some ⟨hb,0,none⟩)] w fun e w'=>e=.returned (.int .u64 z)∧w=w')) :
  Calls Tryz.prog 135 #[.pointer (some ⟨hb,0,none⟩),.int .u64 size,.int .u64 align] w (dL w (0,3)):=by
 have HP:=Hd (iD align w h);rw [hp] at HP;subst hf;clear hp h
 go_enter Tryz.func135,Tryz.ntmps135
 go_wp2_with fail
 refine HP.out.mono ?_
 rintro e w' ⟨rfl,rfl⟩
 go_wp2_with fail
 refine HC.out.mono ?_
 rintro e w' ⟨rfl,rfl⟩
 go_wp2_with fail
 refine HG.out.mono ?_
 rintro e w' ⟨rfl,rfl⟩
 go_wp2_with fail
 go_ret2
 exact ⟨rfl,rfl⟩
theorem O1 {w:World} (hb size align r z:Nat) (b:Bool) (h:align<18446744073709551616) (hp:jc align=true) (q1:size<align) (q2:¬align<16) (hf:b=true) (hlt:¬z<r)
  (HC:Hid (Calls Tryz.prog 186 #[.int .u64 align] w fun e w'=>e=.returned (.tuple #[.int .u64 r,.bool b])∧w=w'))
  (HG:Hid (Calls Tryz.prog 187 #[.pointer (some ⟨hb,0,none⟩)] w fun e w'=>e=.returned (.int .u64 z)∧w=w')) :
  Calls Tryz.prog 135 #[.pointer (some ⟨hb,0,none⟩),.int .u64 size,.int .u64 align] w (dL w (r,0)):=by
 have HP:=Hd (iD align w h);rw [hp] at HP;subst hf;clear hp h
 go_enter Tryz.func135,Tryz.ntmps135
 go_wp2_with fail
 refine HP.out.mono ?_
 rintro e w' ⟨rfl,rfl⟩
 go_wp2_with fail
 refine HC.out.mono ?_
 rintro e w' ⟨rfl,rfl⟩
 go_wp2_with fail
 refine HG.out.mono ?_
 rintro e w' ⟨rfl,rfl⟩
 go_wp2_with fail
 go_ret2
 exact ⟨rfl,rfl⟩
theorem O3 {w:World} (hb size align r z:Nat) (b:Bool) (h:align<18446744073709551616) (hp:jc align=true) (q1:¬size<align) (q2:¬size<16) (hf:b=false)
  (HC:Hid (Calls Tryz.prog 186 #[.int .u64 size] w fun e w'=>e=.returned (.tuple #[.int .u64 r,.bool b])∧w=w'))
  (_HG:Hid (Calls Tryz.prog 187 #[.pointer (some ⟨hb,0,none⟩)] w fun e w'=>e=.returned (.int .u64 z)∧w=w')) :
  Calls Tryz.prog 135 #[.pointer (some ⟨hb,0,none⟩),.int .u64 size,.int .u64 align] w (dL w (0,3)):=by
 have HP:=Hd (iD align w h);rw [hp] at HP;subst hf;clear hp h
 go_enter Tryz.func135,Tryz.ntmps135
 go_wp2_with fail
 refine HP.out.mono ?_
 rintro e w' ⟨rfl,rfl⟩
 go_wp2_with fail
 refine HC.out.mono ?_
 rintro e w' ⟨rfl,rfl⟩
 go_wp2_with fail
 go_ret2
 exact ⟨rfl,rfl⟩
theorem O4 {w:World} (hb size align r z:Nat) (b:Bool) (h:align<18446744073709551616) (hp:jc align=true) (q1:¬size<align) (q2:¬size<16) (hf:b=true) (hlt:z<r)
  (HC:Hid (Calls Tryz.prog 186 #[.int .u64 size] w fun e w'=>e=.returned (.tuple #[.int .u64 r,.bool b])∧w=w'))
  (HG:Hid (Calls Tryz.prog 187 #[.pointer (some ⟨hb,0,none⟩)] w fun e w'=>e=.returned (.int .u64 z)∧w=w')) :
  Calls Tryz.prog 135 #[.pointer (some ⟨hb,0,none⟩),.int .u64 size,.int .u64 align] w (dL w (0,3)):=by
 have HP:=Hd (iD align w h);rw [hp] at HP;subst hf;clear hp h
 go_enter Tryz.func135,Tryz.ntmps135
 go_wp2_with fail
 refine HP.out.mono ?_
 rintro e w' ⟨rfl,rfl⟩
 go_wp2_with fail
 refine HC.out.mono ?_
 rintro e w' ⟨rfl,rfl⟩
 go_wp2_with fail
 refine HG.out.mono ?_
 rintro e w' ⟨rfl,rfl⟩
 go_wp2_with fail
 go_ret2
 exact ⟨rfl,rfl⟩
theorem O5 {w:World} (hb size align r z:Nat) (b:Bool) (h:align<18446744073709551616) (hp:jc align=true) (q1:¬size<align) (q2:¬size<16) (hf:b=true) (hlt:¬z<r)
  (HC:Hid (Calls Tryz.prog 186 #[.int .u64 size] w fun e w'=>e=.returned (.tuple #[.int .u64 r,.bool b])∧w=w'))
  (HG:Hid (Calls Tryz.prog 187 #[.pointer (some ⟨hb,0,none⟩)] w fun e w'=>e=.returned (.int .u64 z)∧w=w')) :
  Calls Tryz.prog 135 #[.pointer (some ⟨hb,0,none⟩),.int .u64 size,.int .u64 align] w (dL w (r,0)):=by
 have HP:=Hd (iD align w h);rw [hp] at HP;subst hf;clear hp h
 go_enter Tryz.func135,Tryz.ntmps135
 go_wp2_with fail
 refine HP.out.mono ?_
 rintro e w' ⟨rfl,rfl⟩
 go_wp2_with fail
 refine HC.out.mono ?_
 rintro e w' ⟨rfl,rfl⟩
 go_wp2_with fail
 refine HG.out.mono ?_
 rintro e w' ⟨rfl,rfl⟩
 go_wp2_with fail
 go_ret2
 exact ⟨rfl,rfl⟩
theorem ak.tJ {m:Int} {w:World} {hb s pb:Nat} {K:ay} {β:Bu} {ps:List Int} (R:ak m w hb s pb K β ps) (size align:Nat) (h1:size<18446744073709551616) (h2:align<18446744073709551616) :
  Calls Tryz.prog 135 #[.pointer (some ⟨hb,0,none⟩),.int .u64 size,.int .u64 align] w (dL w (bD β.σ.size size align)):=by
 unfold bD;cases hp:jc align with
 | false=>rw [if_pos rfl];exact OQ hb size align h2 hp
 | true =>
  rw [if_neg (by simp)];have HG:=Hd R.TM;have hM:max (max size align) 16<18446744073709551616:=by omega
  have HC:=XE (max (max size align) 16) w hM;obtain ⟨r,hr⟩:∃ r,kL (max (max size align) 16)=r:=⟨_,rfl⟩;rw [hr] at HC ⊢;rcases (show (size<align∧align<16)∨(¬size<align∧size<16)∨(size<align∧¬align<16)∨(¬size<align∧¬size<16) by omega) with ⟨q1,q2⟩ | ⟨q1,q2⟩ | ⟨q1,q2⟩ | ⟨q1,q2⟩
  ·rw [show max (max size align) 16=16 by omega] at HC;by_cases h0:r=0
   ·rw [if_pos (.inl h0)];exact OT hb size align r _ _ h2 hp q1 q2 (by simp [h0]) (Hd HC) HG
   ·by_cases hlt:β.σ.size<r
    ·rw [if_pos (.inr hlt)];exact OU hb size align r _ _ h2 hp q1 q2 (by simp [h0]) hlt (Hd HC) HG
    ·rw [if_neg (by simp [h0,hlt])];exact OV hb size align r _ _ h2 hp q1 q2 (by simp [h0]) hlt (Hd HC) HG
  ·rw [show max (max size align) 16=16 by omega] at HC;by_cases h0:r=0
   ·rw [if_pos (.inl h0)];exact OW hb size align r _ _ h2 hp q1 q2 (by simp [h0]) (Hd HC) HG
   ·by_cases hlt:β.σ.size<r
    ·rw [if_pos (.inr hlt)];exact OX hb size align r _ _ h2 hp q1 q2 (by simp [h0]) hlt (Hd HC) HG
    ·rw [if_neg (by simp [h0,hlt])];exact OY hb size align r _ _ h2 hp q1 q2 (by simp [h0]) hlt (Hd HC) HG
  ·rw [show max (max size align) 16=align by omega] at HC;by_cases h0:r=0
   ·rw [if_pos (.inl h0)];exact OZ hb size align r _ _ h2 hp q1 q2 (by simp [h0]) (Hd HC) HG
   ·by_cases hlt:β.σ.size<r
    ·rw [if_pos (.inr hlt)];exact O0 hb size align r _ _ h2 hp q1 q2 (by simp [h0]) hlt (Hd HC) HG
    ·rw [if_neg (by simp [h0,hlt])];exact O1 hb size align r _ _ h2 hp q1 q2 (by simp [h0]) hlt (Hd HC) HG
  ·rw [show max (max size align) 16=size by omega] at HC;by_cases h0:r=0
   ·rw [if_pos (.inl h0)];exact O3 hb size align r _ _ h2 hp q1 q2 (by simp [h0]) (Hd HC) HG
   ·by_cases hlt:β.σ.size<r
    ·rw [if_pos (.inr hlt)];exact O4 hb size align r _ _ h2 hp q1 q2 (by simp [h0]) hlt (Hd HC) HG
    ·rw [if_neg (by simp [h0,hlt])];exact O5 hb size align r _ _ h2 hp q1 q2 (by simp [h0]) hlt (Hd HC) HG
theorem TN (r q:Nat) (v:Int) (w:World) (e:IntKind.u64.wrap ((r:Int)/4096)=(q:Int)) (HL:Hid (Calls Tryz.prog 190 #[.int .u64 q] w fun e w'=>e=.returned (.int .i64 v)∧w=w')) :
  Calls Tryz.prog 138 #[.int .u64 r] w fun e w'=>e=.returned (.int .i64 v)∧w=w':=by
 go_enter Tryz.func138,Tryz.ntmps138
 go_wp2_with fail
 refine HL.out.mono ?_
 rintro e w' ⟨rfl,rfl⟩
 go_wp2_with fail
 go_ret
 exact ⟨rfl,rfl⟩
theorem TP (r q:Nat) (v:Int) (w:World) (e:IntKind.u64.wrap ((r:Int)/16)=(q:Int)) (HL:Hid (Calls Tryz.prog 190 #[.int .u64 q] w fun e w'=>e=.returned (.int .i64 v)∧w=w')) :
  Calls Tryz.prog 192 #[.int .u64 r] w fun e w'=>e=.returned (.int .i64 v)∧w=w':=by
 go_enter Tryz.func192,Tryz.ntmps192
 go_wp2_with fail
 refine HL.out.mono ?_
 rintro e w' ⟨rfl,rfl⟩
 go_wp2_with fail
 go_ret
 exact ⟨rfl,rfl⟩
theorem Ai (r:Nat) (w:World) (h:r<18446744073709551616) :
  Calls Tryz.prog 138 #[.int .u64 r] w fun e w'=>e=.returned (.int .i64 ((Lib.bitLen (r/4096):Int)-1))∧w=w' :=
 TN r (r/4096) _ w (by rw [show (r:Int)/4096=((r/4096:Nat):Int) by omega];exact IntWalk.u64_in _ (by omega)) (Hd (Ov (r/4096) w (by omega)))
theorem Vw (r:Nat) (w:World) (h:r<18446744073709551616) :
  Calls Tryz.prog 192 #[.int .u64 r] w fun e w'=>e=.returned (.int .i64 ((Lib.bitLen (r/16):Int)-1))∧w=w' :=
 TP r (r/16) _ w (by rw [show (r:Int)/16=((r/16:Nat):Int) by omega];exact IntWalk.u64_in _ (by omega)) (Hd (Ov (r/16) w (by omega)))
end Go.Proofs.YtnjcmcnjgdjbiaaGreatDoor
namespace Go.Proofs.YtnjcmcnjgdjbiaaGreatDoor
open Go.RowKit Go.MuLone
theorem eU {P:Program} (w:World) {ops:Array Oper} {o:Oper} {a:Act} {K:Act→World→Prop} {Q:Exit→Act→World→Prop} {E:Prop} (hgd:o.guard=none) (f:FuncId) (xs:Array Operand) (ts:Array TypeId)
  (ho:o.op=.call { callee:=.value (.func f),args:=xs,argTypes:=ts }) (us:Array Value) (hargs:xs.toList.map a.eval=us.toList) {Post:Ending→World→Prop}
  (hc:Calls P f us w Post) (hcf:(callFunc f us).run P w=.ok (.enter f us) w) (h:∀ e w',Post e w'→∃ r,e=.returned r∧K (a.put o.dst r) w') :
  if Region.wanted o (yielded ops a.tmps)=true then Oper.wp P o a w K Q else E :=
 lI w hgd f xs ts ho us (by
  apply Array.toList_inj.1;rw [Array.toList_map];exact hargs) hc hcf h
def nH (w:World) (p:Nat) (er:Int) (Q:World→World→Prop) (e:Ending) (w':World):Prop :=
 e=.returned (.tuple #[.int .u64 p,.int .i64 er])∧∃ W,Touch Nothing w W∧Q W w'
theorem uO {w:World} (hb s r c p:Nat) (g deny:Bool) (er:Int) (Q:World→World→Prop) (c6:w.cell? ⟨hb,6,none⟩=some (.pointer (some ⟨s,0,none⟩))) (hr:(r:Int)<4096) (hc:(Lib.bitLen (r/16):Int)-1=c)
  (HT:∀ W,Touch Nothing w W→Calls Tryz.prog 191 #[.pointer (some ⟨s,0,none⟩),.int .i64 c,.bool deny] W fun e w'=>e=.returned (.tuple #[.int .u64 p,.bool g,.int .i64 er])∧Q W w') :
  Calls Tryz.prog 139 #[.pointer (some ⟨hb,0,none⟩),.int .u64 r,.bool deny] w (nH w p er Q):=by
 have tK:=Hd (fun k=>HT (w.drewN k) ((Touch.refl Nothing w).drewN k));have HC:=Hd (fun W=>Vw r W (by omega));rw [hc] at HC;have hcf:∀ (us:Array Value) (W:World),(callFunc 191 us).run Tryz.prog W=.ok (.enter 191 us) W:=fun us W=>by simp [go_sem]
 have nI:∀ (us:Array Value) (W:World),(callFunc 192 us).run Tryz.prog W=.ok (.enter 192 us) W:=fun us W=>by simp [go_sem]
 have kF:=Hd hcf;have wI:=Hd nI;clear hcf nI HT hc
 go_enter Tryz.func139,Tryz.ntmps139
 go_wp2_with fail
 go_region_law (first | (refine eU _ (by rfl) 192 #[.tmp 21] #[33] (by rfl) #[.int .u64 r] (by rfl) (HC.out _) (wI.out _ _) ?_;rintro e w1 ⟨rfl,rfl⟩;refine ⟨_,rfl,?_⟩) | (refine eU _ (by rfl) 191 #[.tmp 20,.tmp 22,.tmp 23] #[87,3,4] (by rfl) #[.pointer (some ⟨s,0,none⟩),.int .i64 c,.bool deny] (by rfl) (tK.out 1) (kF.out _ _) ?_;rintro e w1 ⟨rfl,hQ⟩;refine ⟨_,rfl,?_⟩;have HQ:=Hd hQ;clear hQ))
 all_goals
  go_wp2_with fail
  go_ret2
  exact ⟨rfl,_,(Touch.refl Nothing w).drewN 1,HQ.out⟩
theorem EH {w:World} (hb pb r o p:Nat) (g deny:Bool) (er:Int) (Q:World→World→Prop) (c5:w.cell? ⟨hb,5,none⟩=some (.pointer (some ⟨pb,0,none⟩))) (hr:(4096:Int)≤r) (hr2:r≤1048576) (hc:(Lib.bitLen (r/4096):Int)-1=o)
  (HT:∀ W,Touch Nothing w W→Calls Tryz.prog 193 #[.pointer (some ⟨pb,0,none⟩),.int .i64 o,.bool deny] W fun e w'=>e=.returned (.tuple #[.int .u64 p,.bool g,.int .i64 er])∧Q W w') :
  Calls Tryz.prog 139 #[.pointer (some ⟨hb,0,none⟩),.int .u64 r,.bool deny] w (nH w p er Q):=by
 have tK:=Hd (fun k=>HT (w.drewN k) ((Touch.refl Nothing w).drewN k));have HC:=Hd (fun W=>Ai r W (by omega));rw [hc] at HC;have hcf:∀ (us:Array Value) (W:World),(callFunc 193 us).run Tryz.prog W=.ok (.enter 193 us) W:=fun us W=>by simp [go_sem]
 have nI:∀ (us:Array Value) (W:World),(callFunc 138 us).run Tryz.prog W=.ok (.enter 138 us) W:=fun us W=>by simp [go_sem]
 have kF:=Hd hcf;have wI:=Hd nI;clear hcf nI HT hc
 go_enter Tryz.func139,Tryz.ntmps139
 go_wp2_with fail
 go_region_law (first | (refine eU _ (by rfl) 138 #[.tmp 35] #[33] (by rfl) #[.int .u64 r] (by rfl) (HC.out _) (wI.out _ _) ?_;rintro e w1 ⟨rfl,rfl⟩;refine ⟨_,rfl,?_⟩) | (refine eU _ (by rfl) 193 #[.tmp 34,.tmp 36,.tmp 37] #[84,3,4] (by rfl) #[.pointer (some ⟨pb,0,none⟩),.int .i64 o,.bool deny] (by rfl) (tK.out 1) (kF.out _ _) ?_;rintro e w1 ⟨rfl,hQ⟩;refine ⟨_,rfl,?_⟩;have HQ:=Hd hQ;clear hQ))
 all_goals
  go_wp2_with fail
  go_ret2
  exact ⟨rfl,_,(Touch.refl Nothing w).drewN 1,HQ.out⟩
def Did (w:World) (v:Value) (Q:World→World→Prop) (e:Ending) (w':World):Prop :=
 e=.returned v∧∃ W W1 b,Touch Nothing w W∧Q W W1∧w.heap.size≤b∧b<W.heap.size∧Touch (· = b) W1 w'
theorem CB {w:World} (hb size align r p:Nat) (deny:Bool) (Q:World→World→Prop) (S:Nat→Prop) (hS:∀ k,S k→k<w.heap.size) (hQ:∀ W W1,Q W W1→Touch S W W1)
  (HR:Hid (∀ W,Touch Nothing w W→Calls Tryz.prog 135 #[.pointer (some ⟨hb,0,none⟩),.int .u64 size,.int .u64 align] W (dL W (r,0))))
  (HT:Hid (∀ W,Touch Nothing w W→Calls Tryz.prog 139 #[.pointer (some ⟨hb,0,none⟩),.int .u64 r,.bool deny] W (nH W p 0 Q))) :
  Calls Tryz.prog 133 #[.pointer (some ⟨hb,0,none⟩),.int .u64 size,.int .u64 align,.bool deny] w (Did w (.tuple #[.agg #[.int .u64 p,.int .u64 r],.int .i64 0]) Q):=by
 have T0:=Hd (show Touch Nothing w (w.alloc (.cells #[.int .u64 0,.int .u64 0] 71)) from (Touch.refl _ _).alloc _);have B0:=Hd (aC.new w #[.int .u64 0,.int .u64 0] 71);have HS:=Hd hS;have Vx:=Hd hQ;clear hS hQ
 go_enter Tryz.func133,Tryz.ntmps133
 go_wp2_with fail
 refine (HR.out _ T0.out).mono ?_
 rintro e w1 ⟨rfl,rfl⟩
 go_wp2_with fail
 refine (HT.out _ T0.out).mono ?_
 rintro e w2 ⟨rfl,W,T1,hQ⟩;have B2:=(B0.out.touch T1 (fun h=>h)).touch (Vx.out _ _ hQ) (fun h=>by have:=HS.out _ h;omega);have c0:=B2.cell 0;have c1:=B2.cell 1;have f0:=B2.free 0;have f1:=B2.free 1;have HB3:=Hd ((B2.set 0 (.int .u64 p)).set 1 (.int .u64 r));have hlt:=Hd ((B0.out.touch T1 (fun h=>h)).lt);have HT1:=Hd T1;have HQ:=Hd hQ;clear B2 T1 hQ;simp at c0 c1
 go_wp2_with fail
 have d0:=HB3.out.cell 0;have d1:=HB3.out.cell 1;simp at d0 d1;have T3:=(Touch.cellAt w2 w.heap.size 0 (.int .u64 p)).trans (Touch.cellAt (w2.setCell ⟨w.heap.size,0,none⟩ (.int .u64 p)) w.heap.size 1 (.int .u64 r));exact bodyPost_ret (v:=.tuple #[.agg #[.int .u64 p,.int .u64 r],.int .i64 0]) (by simp [results,Tryz.results133,go_sem,d0,d1]) rfl ⟨rfl,W,w2,w.heap.size,T0.out.trans HT1.out,HQ.out,Nat.le_refl _,hlt.out,T3⟩
theorem GD {w:World} (hb size align r:Nat) (er:Int) (deny:Bool) (her:er≠0) (Q:World→World→Prop) (S:Nat→Prop) (hS:∀ k,S k→k<w.heap.size) (hQ:∀ W W1,Q W W1→Touch S W W1)
  (HR:Hid (∀ W,Touch Nothing w W→Calls Tryz.prog 135 #[.pointer (some ⟨hb,0,none⟩),.int .u64 size,.int .u64 align] W (dL W (r,0))))
  (HT:Hid (∀ W,Touch Nothing w W→Calls Tryz.prog 139 #[.pointer (some ⟨hb,0,none⟩),.int .u64 r,.bool deny] W (nH W 0 er Q))) :
  Calls Tryz.prog 133 #[.pointer (some ⟨hb,0,none⟩),.int .u64 size,.int .u64 align,.bool deny] w (Did w (.tuple #[.agg #[.int .u64 0,.int .u64 0],.int .i64 er]) Q):=by
 have T0:=Hd (show Touch Nothing w (w.alloc (.cells #[.int .u64 0,.int .u64 0] 71)) from (Touch.refl _ _).alloc _);have B0:=Hd (aC.new w #[.int .u64 0,.int .u64 0] 71);have HS:=Hd hS;have Vx:=Hd hQ;have hne:(er != 0)=true:=by rw [bne_iff_ne];exact her
 clear hS hQ her
 go_enter Tryz.func133,Tryz.ntmps133
 go_wp2_with fail
 refine (HR.out _ T0.out).mono ?_
 rintro e w1 ⟨rfl,rfl⟩
 go_wp2_with fail
 refine (HT.out _ T0.out).mono ?_
 rintro e w2 ⟨rfl,W,T1,hQ⟩;have B2:=(B0.out.touch T1 (fun h=>h)).touch (Vx.out _ _ hQ) (fun h=>by have:=HS.out _ h;omega);have c0:=B2.cell 0;have c1:=B2.cell 1;have f0:=B2.free 0;have f1:=B2.free 1;have HB3:=Hd ((B2.set 0 (.int .u64 0)).set 1 (.int .u64 0));have hlt:=Hd ((B0.out.touch T1 (fun h=>h)).lt);have HT1:=Hd T1;have HQ:=Hd hQ;clear B2 T1 hQ;simp at c0 c1
 go_wp2_with fail
 have d0:=HB3.out.cell 0;have d1:=HB3.out.cell 1;simp at d0 d1;have T3:=(Touch.cellAt w2 w.heap.size 0 (.int .u64 0)).trans (Touch.cellAt (w2.setCell ⟨w.heap.size,0,none⟩ (.int .u64 0)) w.heap.size 1 (.int .u64 0));exact bodyPost_ret (v:=.tuple #[.agg #[.int .u64 0,.int .u64 0],.int .i64 er]) (by simp [results,Tryz.results133,go_sem,d0,d1]) rfl ⟨rfl,W,w2,w.heap.size,T0.out.trans HT1.out,HQ.out,Nat.le_refl _,hlt.out,T3⟩
def jR (s pb:Nat) (K:ay) (β':Bu) (ps':List Int) (W W1:World):Prop:=∃ K',aM W1 s pb K' β' ps'∧K.Next W K'∧Touch (·∈s::K.fp) W W1
theorem Did.hp {m:Int} {w w':World} {hb s pb:Nat} {K:ay} {β β':Bu} {ps ps':List Int} {v:Value} {e:Ending} (R:ak m w hb s pb K β ps) (D:Did w v (jR s pb K β' ps') e w') (hσ:β'.σ.base=β.σ.base∧β'.σ.limit=β.σ.limit∧β'.μ.order=β.μ.order) :
  ∃ K',ak m w' hb s pb K' β' ps'∧K.Next w K'∧Touch (·∈s::K.fp) w w':=by
 obtain ⟨rfl,W,W1,b,T0,⟨K',S1,N1,T1⟩,hb1,hb2,T2⟩:=D;have R1:=(R.aj T0).next T1 N1 S1 hσ;have hs:=T0.size
 have hne:∀ k∈hb::s::pb::K'.fp,¬k=b:=by
  intro k hk e;simp only [List.mem_cons] at hk;have hl:=R.lt;rcases hk with h | h | h | h
  ·have:=hl k (by simp [h]);omega
  ·have:=hl k (by simp [h]);omega
  ·have:=hl k (by simp [h]);omega
  ·rcases N1.fresh k h with h | h
   ·have:=hl k (by simp [h]);omega
   ·omega
 have hg:=R.ko.size;refine ⟨K',R1.touch T2 hne (fun k hk e=>by omega),⟨N1.bb,N1.sb,N1.mb,fun k hk=>?_⟩,(T0.none_.trans T1).trans' T2 (fun i hi e=>by omega)⟩;rcases N1.fresh k hk with h | h
 ·exact .inl h
 ·exact .inr (Nat.le_trans hs h)
def aK (w:World) (hb s pb:Nat) (K:ay) (β':Bu) (ps':List Int) (v:Value) (e:Ending) (w':World):Prop :=
 e=.returned v∧∃ K',ak 0 w' hb s pb K' β' ps'∧K.Next w K'∧Touch (·∈hb::s::K.fp) w w'
theorem ak.unlocked {w w1 w2:World} {hb s pb:Nat} {K K':ay} {β':Bu} {ps':List Int} {v:Value} (hw1:w1=w.setCell ⟨hb,0,none⟩ (.int .i32 1))
  (R2:ak 1 w2 hb s pb K' β' ps') (N:K.Next w1 K') (T:Touch (·∈s::K.fp) w1 w2) :
  aK w hb s pb K β' ps' v (.returned v) (w2.setCell ⟨hb,0,none⟩ (.int .i32 0)):=by
 subst hw1;refine ⟨rfl,K',R2.locked 0,⟨N.bb,N.sb,N.mb,fun k hk=>?_⟩,?_⟩
 ·rcases N.fresh k hk with h | h
  ·exact .inl h
  ·exact .inr (by simpa [World.setCell] using h)
 ·exact (((Touch.cellAt w hb 0 _).mono (fun k _ h=>by simp [h])).trans (T.mono (fun k _ h=>List.mem_cons_of_mem _ h))).trans ((Touch.cellAt w2 hb 0 _).mono (fun k _ h=>by simp [h]))
theorem ak.uP {w:World} {hb s pb:Nat} {K:ay} {β β':Bu} {ps ps':List Int} (R:ak 0 w hb s pb K β ps) (size align p r:Nat) (er:Int) (deny:Bool) (hσ:β'.σ.base=β.σ.base∧β'.σ.limit=β.σ.limit∧β'.μ.order=β.μ.order)
  (HM:∀ W,ak 1 W hb s pb K β ps→Calls Tryz.prog 133 #[.pointer (some ⟨hb,0,none⟩),.int .u64 size,.int .u64 align,.bool deny] W (Did W (.tuple #[.agg #[.int .u64 p,.int .u64 r],.int .i64 er]) (jR s pb K β' ps'))) :
  Calls Tryz.prog 90 #[.pointer (some ⟨hb,0,none⟩),.int .u64 align,.int .u64 size,.bool deny] w (aK w hb s pb K β' ps' (.tuple #[.int .u64 p,.int .i64 er])):=by
 obtain ⟨c0,-,-,-,-,f0⟩:=R.cells;have R1:=R.locked 1;have fP:=Hd (HM _ R1);have HR1:=Hd R1;have HS:=Hd hσ;clear R HM R1 hσ
 go_enter_defers Tryz.func90,Tryz.ntmps90
 go_wp2_with (go_at_call 58;refine (lock_free Tryz.muLib ⟨hb,0,none⟩ _ c0 f0).mono ?_;rintro e w' ⟨rfl,rfl⟩)
 generalize hw1:w.setCell ⟨hb,0,none⟩ (.int .i32 1)=w1 at *;refine fP.out.mono ?_
 rintro e w2 hD;obtain ⟨K',R2,N2,T2⟩:=Did.hp HR1.out hD HS.out;obtain ⟨rfl,-⟩:=hD;have HW1:=Hd hw1;have HR2:=Hd R2;have tF:=Hd N2;have HT2:=Hd T2;have hm:=R2.cells.1;have fm:=R2.cells.2.2.2.2.2;clear hw1 R2 N2 T2 c0 f0
 go_wp2
 have T3:Touch Nothing w2 (w2.alloc (.cells #[.int .u64 p,.int .u64 r] 71)):=(Touch.refl _ _).alloc _;have R3:=HR2.out.aj T3;refine leaves_cons (f:=59) (args:=#[.pointer (some ⟨hb,0,none⟩)]) (by simp) (by simp [go_sem]) ?_
 refine (unlock_deferred Tryz.muLib ⟨hb,0,none⟩ .returning _ ?_ ?_).mono ?_
 ·exact R3.cells.1
 ·exact R3.cells.2.2.2.2.2
 rintro e u' w'' ⟨rfl,rfl,rfl⟩;exact ⟨_,results_tmp2 rfl _ _ _,ak.unlocked HW1.out.symm R3 tF.out (HT2.out.trans T3.none_)⟩
theorem ak.xR {w:World} {hb s pb:Nat} {K:ay} {β β':Bu} {ps ps':List Int} (R:ak 0 w hb s pb K β ps) (size p r:Nat) (er:Int) (deny:Bool) (hσ:β'.σ.base=β.σ.base∧β'.σ.limit=β.σ.limit∧β'.μ.order=β.μ.order)
  (HM:∀ W,ak 1 W hb s pb K β ps→Calls Tryz.prog 133 #[.pointer (some ⟨hb,0,none⟩),.int .u64 size,.int .u64 1,.bool deny] W (Did W (.tuple #[.agg #[.int .u64 p,.int .u64 r],.int .i64 er]) (jR s pb K β' ps'))) :
  Calls Tryz.prog 88 #[.pointer (some ⟨hb,0,none⟩),.int .u64 size,.bool deny] w (aK w hb s pb K β' ps' (.tuple #[.int .u64 p,.int .i64 er])):=by
 have HA:=Hd (R.uP size 1 p r er deny hσ HM);clear R HM hσ
 go_enter Tryz.func88,Tryz.ntmps88
 go_wp2_with fail
 refine HA.out.mono ?_
 rintro e w1 ⟨rfl,hH⟩;have HH:=Hd hH;clear hH
 go_wp2_with fail
 go_ret2
 exact ⟨rfl,HH.out⟩
end Go.Proofs.YtnjcmcnjgdjbiaaGreatDoor
namespace Go.Proofs.YtnjcmcnjgdjbiaaGreatDoor
open Go.RowKit
def Blocked (w:World) (P size:Nat) (b:Bool) (e:Ending) (w':World):Prop :=
 e=.returned (.tuple #[.agg #[.int .u64 P,.int .u64 size],.bool b])∧Touch Nothing w w'
theorem ak.O6 {m:Int} {w:World} {hb s pb:Nat} {K:ay} {β:Bu} {ps:List Int} (R:ak m w hb s pb K β ps) (p:Nat) (h:p<β.σ.base) :
  Calls Tryz.prog 110 #[.pointer (some ⟨hb,0,none⟩),.int .u64 p] w (Blocked w 0 0 false):=by
 have T0:=Hd (show Touch Nothing w (w.alloc (.cells #[.int .u64 0,.int .u64 0] 71)) from (Touch.refl _ _).alloc _);obtain ⟨-,c2,-,-,-,-⟩:=R.cells;have hlt:hb<w.heap.size:=R.blk.lt;clear R
 go_enter Tryz.func110,Tryz.ntmps110
 go_wp2_with fail
 exact bodyPost_ret (v:=.tuple #[.agg #[.int .u64 0,.int .u64 0],.bool false]) (by simp [results,Tryz.results110,go_sem]) rfl ⟨rfl,T0.out⟩
theorem za (hb pb sb mb base p i c wd a P d o4 cell q r x:Nat) (b:Bool) (pg:Pg) (w:World)
  (c2:w.cell? ⟨hb,2,none⟩=some (.int .u64 base)) (c5:w.cell? ⟨hb,5,none⟩=some (.pointer (some ⟨pb,0,none⟩))) (pK:hb<w.heap.size) (E:Nat) (h1:¬(p<base)) (h2:p<E)
  (hS:∀ W,Touch Nothing w W→Calls Tryz.prog 60 #[.pointer (some ⟨pb,0,none⟩)] W fun e w'=>e=.returned (.pointer (some ⟨sb,0,none⟩))∧W=w')
  (hE:∀ W,Touch Nothing w W→Calls Tryz.prog 61 #[.pointer (some ⟨sb,0,none⟩)] W fun e w'=>e=.returned (.int .u64 E)∧∃ k,w'=W.drewN k)
  (hM:∀ W,Touch Nothing w W→Calls Tryz.prog 63 #[.pointer (some ⟨pb,0,none⟩)] W fun e w'=>e=.returned (.pointer (some ⟨mb,0,none⟩))∧W=w')
  (hA:∀ W,Touch Nothing w W→Calls Tryz.prog 65 #[.pointer (some ⟨mb,0,none⟩),.int .i64 i] W fun e w'=>e=.returned (.tuple #[pg.val,.bool true])∧Touch Nothing W w')
  (hk:pg.kind=4) (hc:pg.cls=c) (hmin:min c 64=c) (hwd:IntKind.u64.wrap (16*2^c)=(wd:Int)) (aaj:¬(wd:Int)=0)
  (e1:(p:Int)-base=(d:Nat)) (Aj:(d:Int)/4096=i) (hi:i≤1023) (hp:p≤18446744073709551615)
  (e2:(p:Int)/wd=a) (ha:a≤p) (e3:(a:Int)*wd=P) (hP:P≤p) (e4:(P:Int)%4096=o4) (_ho4:o4<4096) (e5:(o4:Int)/wd=cell) (hcell:cell<256)
  (r1:(cell:Int)/64=q) (r2:(cell:Int)%64=r) (r3:(cell:Int).tmod 64=r) (hq:(q:Int)<4) (_hr:r<64) (hx:pg.word q=x) (hbt:(bits .and .u64 ((x:Int)/2^r) 1 == 1)=b) :
  Calls Tryz.prog 110 #[.pointer (some ⟨hb,0,none⟩),.int .u64 p] w (Blocked w P wd b):=by
 have T0:=Hd (show Touch Nothing w (w.alloc (.cells #[.int .u64 0,.int .u64 0] 71)) from (Touch.refl _ _).alloc _);have HS:=Hd hS;have HE:=Hd hE;have HM:=Hd hM;have HA:=Hd hA;clear hS hE hM hA
 go_enter Tryz.func110,Tryz.ntmps110
 go_wp2_with fail
 refine (HS.out _ T0.out).mono ?_
 rintro e w1 ⟨rfl,rfl⟩
 go_wp2_with fail
 refine (HE.out _ T0.out).mono ?_
 rintro e w1 ⟨rfl,k1,rfl⟩
 go_wp2_with fail
 have T1:Touch Nothing w ((w.alloc (.cells #[.int .u64 0,.int .u64 0] 71)).drewN k1):=T0.out.drewN k1;have B1:=(aC.new w #[.int .u64 0,.int .u64 0] 71).drewN k1;have d5:((w.alloc (.cells #[.int .u64 0,.int .u64 0] 71)).drewN k1).cell? ⟨hb,5,none⟩=some (.pointer (some ⟨pb,0,none⟩)):=(T1.cell (p:=⟨hb,5,none⟩) pK (fun h=>h)).trans c5;refine (HM.out _ T1).mono ?_
 rintro e w2 ⟨rfl,rfl⟩;have HT1:=Hd T1;have HB1:=Hd B1;clear T1 B1
 go_wp2_with fail
 refine (HA.out _ HT1.out).mono ?_
 rintro e w2 ⟨rfl,T2⟩;have B2:=HB1.out.touch T2 (fun h=>h);have f0:=B2.free 0;have f1:=B2.free 1;have b0:=B2.cell 0;have b1:=B2.cell 1;have lb:w.heap.size<w2.heap.size:=B2.lt;have HB2:=Hd B2;have HT2:=Hd (HT1.out.trans T2);simp at b0 b1;clear B2 T2 d5;unfold Pg.val
 go_wp2_with fail
 have B3:=(aC.new w2 #[.int .i64 4,.int .i64 pg.order,.int .i64 c,.int .i64 pg.live,.int .i64 pg.next,.int .i64 pg.prev,.int .i64 pg.first,.int .u64 pg.b0,.int .u64 pg.b1,.int .u64 pg.b2,.int .u64 pg.b3] 128).alloc (.cells #[.int .u64 P,.int .u64 wd] 71);have B4:=aC.new (w2.alloc (.cells #[.int .i64 4,.int .i64 pg.order,.int .i64 c,.int .i64 pg.live,.int .i64 pg.next,.int .i64 pg.prev,.int .i64 pg.first,.int .u64 pg.b0,.int .u64 pg.b1,.int .u64 pg.b2,.int .u64 pg.b3] 128)) #[.int .u64 P,.int .u64 wd] 71;have T4:=((Touch.refl Nothing w2).alloc (.cells #[.int .i64 4,.int .i64 pg.order,.int .i64 c,.int .i64 pg.live,.int .i64 pg.next,.int .i64 pg.prev,.int .i64 pg.first,.int .u64 pg.b0,.int .u64 pg.b1,.int .u64 pg.b2,.int .u64 pg.b3] 128)).alloc (.cells #[.int .u64 P,.int .u64 wd] 71)
 have hxc:((w2.alloc (.cells #[.int .i64 4,.int .i64 pg.order,.int .i64 c,.int .i64 pg.live,.int .i64 pg.next,.int .i64 pg.prev,.int .i64 pg.first,.int .u64 pg.b0,.int .u64 pg.b1,.int .u64 pg.b2,.int .u64 pg.b3] 128)).alloc (.cells #[.int .u64 P,.int .u64 wd] 71)).cell? ⟨w2.heap.size,7+q,none⟩=some (.int .u64 x):=by
  rw [B3.cell];have:=pg.mU q (by omega);rw [hx] at this;simpa [Pg.cells,hk,hc] using this
 have hz1:(w2.alloc (.cells #[.int .i64 4,.int .i64 pg.order,.int .i64 c,.int .i64 pg.live,.int .i64 pg.next,.int .i64 pg.prev,.int .i64 pg.first,.int .u64 pg.b0,.int .u64 pg.b1,.int .u64 pg.b2,.int .u64 pg.b3] 128)).heap.size=w2.heap.size+1:=by simp
 have g0:((w2.alloc (.cells #[.int .i64 4,.int .i64 pg.order,.int .i64 c,.int .i64 pg.live,.int .i64 pg.next,.int .i64 pg.prev,.int .i64 pg.first,.int .u64 pg.b0,.int .u64 pg.b1,.int .u64 pg.b2,.int .u64 pg.b3] 128)).alloc (.cells #[.int .u64 P,.int .u64 wd] 71)).cell? ⟨w2.heap.size+1,0,none⟩=some (.int .u64 P):=by
  rw [←hz1];exact B4.cell 0
 have g1:((w2.alloc (.cells #[.int .i64 4,.int .i64 pg.order,.int .i64 c,.int .i64 pg.live,.int .i64 pg.next,.int .i64 pg.prev,.int .i64 pg.first,.int .u64 pg.b0,.int .u64 pg.b1,.int .u64 pg.b2,.int .u64 pg.b3] 128)).alloc (.cells #[.int .u64 P,.int .u64 wd] 71)).cell? ⟨w2.heap.size+1,1,none⟩=some (.int .u64 wd):=by
  rw [←hz1];exact B4.cell 1
 clear hz1;have z0:((w2.alloc (.cells #[.int .i64 4,.int .i64 pg.order,.int .i64 c,.int .i64 pg.live,.int .i64 pg.next,.int .i64 pg.prev,.int .i64 pg.first,.int .u64 pg.b0,.int .u64 pg.b1,.int .u64 pg.b2,.int .u64 pg.b3] 128)).alloc (.cells #[.int .u64 P,.int .u64 wd] 71)).cell? ⟨w.heap.size,0,none⟩=some (.int .u64 0):=(T4.cell (p:=⟨w.heap.size,0,none⟩) lb (fun h=>h)).trans b0;have z1:((w2.alloc (.cells #[.int .i64 4,.int .i64 pg.order,.int .i64 c,.int .i64 pg.live,.int .i64 pg.next,.int .i64 pg.prev,.int .i64 pg.first,.int .u64 pg.b0,.int .u64 pg.b1,.int .u64 pg.b2,.int .u64 pg.b3] 128)).alloc (.cells #[.int .u64 P,.int .u64 wd] 71)).cell? ⟨w.heap.size,1,none⟩=some (.int .u64 0):=(T4.cell (p:=⟨w.heap.size,1,none⟩) lb (fun h=>h)).trans b1;have y0:((w2.alloc (.cells #[.int .i64 4,.int .i64 pg.order,.int .i64 c,.int .i64 pg.live,.int .i64 pg.next,.int .i64 pg.prev,.int .i64 pg.first,.int .u64 pg.b0,.int .u64 pg.b1,.int .u64 pg.b2,.int .u64 pg.b3] 128)).alloc (.cells #[.int .u64 P,.int .u64 wd] 71)).frozen? ⟨w.heap.size,0,none⟩=false:=(T4.frozen (p:=⟨w.heap.size,0,none⟩) lb (fun h=>h)).trans f0;have y1:((w2.alloc (.cells #[.int .i64 4,.int .i64 pg.order,.int .i64 c,.int .i64 pg.live,.int .i64 pg.next,.int .i64 pg.prev,.int .i64 pg.first,.int .u64 pg.b0,.int .u64 pg.b1,.int .u64 pg.b2,.int .u64 pg.b3] 128)).alloc (.cells #[.int .u64 P,.int .u64 wd] 71)).frozen? ⟨w.heap.size,1,none⟩=false:=(T4.frozen (p:=⟨w.heap.size,1,none⟩) lb (fun h=>h)).trans f1;have eu:=Hd (HT2.out.trans T4);have aO:=Hd (((HB2.out.touch T4 (fun h=>h)).set 0 (.int .u64 P)).set 1 (.int .u64 wd));generalize hW:(w2.alloc (.cells #[.int .i64 4,.int .i64 pg.order,.int .i64 c,.int .i64 pg.live,.int .i64 pg.next,.int .i64 pg.prev,.int .i64 pg.first,.int .u64 pg.b0,.int .u64 pg.b1,.int .u64 pg.b2,.int .u64 pg.b3] 128)).alloc (.cells #[.int .u64 P,.int .u64 wd] 71)=w4 at *;clear hW B3 B4 T4 b0 b1 f0 f1 e2 e3 e4 e5 c2 c5
 go_region
 all_goals
  have d0:=aO.out.drew.cell 0;have d1:=aO.out.drew.cell 1;simp at d0 d1
  go_wp2_with fail
  have T5:Touch (· = w.heap.size) w4 ((w4.setCell ⟨w.heap.size,0,none⟩ (.int .u64 P)).setCell ⟨w.heap.size,1,none⟩ (.int .u64 wd)).drew:=((Touch.cellAt w4 w.heap.size 0 (.int .u64 P)).trans (Touch.cellAt _ w.heap.size 1 (.int .u64 wd))).drew;exact bodyPost_ret (v:=.tuple #[.agg #[.int .u64 P,.int .u64 wd],.bool b]) (by simp [results,Tryz.results110,go_sem,d0,d1]) rfl ⟨rfl,eu.out.trans' T5 (fun i hi e=>by omega)⟩
structure tL (β:Bu) (p i c:Nat) (pg:Pg):Prop where
 page:β.μ.pages[i]? = some pg
 kind:pg.kind=4
 cls:pg.cls=c
 lo:β.σ.base≤p
 at_:(p-β.σ.base)/4096=i
theorem tL.facts {β:Bu} {p i c:Nat} {pg:Pg} (h:tL β p i c pg) (o:β.ok) (so:β.σ.ok) (mo:β.μ.ok) :
  c≤7∧p<β.σ.base+β.σ.size*β.σ.n∧i≤1023∧p≤18446744073709551615∧p/aB c*aB c%4096/aB c<256∧p/aB c*aB c%4096/aB c<aR c:=by
 have hlt:=(List.getElem?_eq_some_iff.1 h.page).1;have hcl:=(mo.page pg (List.mem_of_getElem? h.page)).cls;rw [h.cls] at hcl;have hc:c≤7:=by omega
 have hH:=o.has (i:=i) (off:=(p-β.σ.base)%4096) (n:=1) hlt (by omega) (by omega)
 have hp:β.addr i+(p-β.σ.base)%4096=p:=by
  have:=h.at_;have:=h.lo;unfold Bu.addr;omega
 have ht:=hH.top so;rw [hp] at ht;have hl:=mo.len;have h64:=so.wo;obtain ⟨w1,w2,w3,w4,w5,w6⟩:=dK (show c<8 by omega)
 have hd:p/aB c*aB c%4096/aB c<4096/aB c:=by
  refine (Nat.div_lt_iff_lt_mul (by omega)).2 ?_
  rw [w3];exact Nat.mod_lt _ (by omega)
 exact ⟨hc,by omega,by omega,by omega,by omega,by rw [←w6];exact hd⟩
def cellAt (p c:Nat):Nat:=p/aB c*aB c%4096/aB c
theorem ak.uQ {m:Int} {w:World} {hb s pb:Nat} {K:ay} {β:Bu} {ps:List Int} (R:ak m w hb s pb K β ps) (p i c:Nat) {pg:Pg} (h:tL β p i c pg) :
  Calls Tryz.prog 110 #[.pointer (some ⟨hb,0,none⟩),.int .u64 p] w (Blocked w (p/aB c*aB c) (aB c) (pg.bit (cellAt p c))):=by
 obtain ⟨hc,hE,hi,hp,hcell,_⟩:=h.facts R.sl.po.bu.ok R.sl.po.bu.sp.ok R.sl.po.bu.mp.ok;obtain ⟨w1,w2,w3,w4,w5,w6⟩:=dK (show c<8 by omega);obtain ⟨-,c2,-,c5,-,-⟩:=R.cells;have hlo:=h.lo;have hat:=h.at_;have hle:p/aB c*aB c≤p:=Nat.div_mul_le_self _ _;have hal:p/aB c≤p:=Nat.div_le_self _ _;have po:=R.sl.po.bu.mp.ok.page pg (List.mem_of_getElem? h.page);have hq:cellAt p c/64<4:=by unfold cellAt;omega
 refine za hb pb K.L.sb K.M.mb β.σ.base p i c (aB c) (p/aB c) (p/aB c*aB c) (p-β.σ.base) (p/aB c*aB c%4096) (cellAt p c) (cellAt p c/64) (cellAt p c%64) (pg.word (cellAt p c/64)) (pg.bit (cellAt p c)) pg w c2 c5 R.blk.lt _ (by omega) hE
  ?_ ?_ ?_ ?_ h.kind h.cls (by omega) ?_ (by omega) (by omega) (by omega) hi hp ?_ hal (by push_cast;rfl) hle (by omega) (Nat.mod_lt _ (by omega)) ?_ hcell (by omega) (by omega) ?_ (by omega) (Nat.mod_lt _ (by omega)) rfl ?_
 ·intro W T;exact (R.sl.po.aj T).gM
 ·intro W T;exact (R.sl.po.aj T).bu.sp.end_
 ·intro W T;exact (R.sl.po.aj T).jQ
 ·intro W T;exact (R.sl.po.aj T).bu.mp.at_ h.page
 ·have:(16*2^c:Int)=((aB c:Nat):Int):=by unfold aB;push_cast;rfl
  rw [this];exact IntWalk.u64_in _ (by omega)
 ·exact (Int.natCast_ediv _ _).symm
 ·exact (Int.natCast_ediv _ _).symm
 ·exact (Int.ofNat_tmod _ _).symm
 ·exact uG _ _ (po.word_lt _ hq)
end Go.Proofs.YtnjcmcnjgdjbiaaGreatDoor
namespace Go.Proofs.YtnjcmcnjgdjbiaaGreatDoor
open Go.RowKit Go.MuLone
theorem CF {w:World} (hb p n P size:Nat)
  (HB:Calls Tryz.prog 110 #[.pointer (some ⟨hb,0,none⟩),.int .u64 p] w (Blocked w P size false)) :
  Calls Tryz.prog 66 #[.pointer (some ⟨hb,0,none⟩),.int .u64 p,.int .u64 n] w fun e w'=>e=.returned (.bool false)∧Touch Nothing w w':=by
 have H:=Hd HB;clear HB
 go_enter Tryz.func66,Tryz.ntmps66
 go_wp2_with fail
 refine H.out.mono ?_
 rintro e w1 ⟨rfl,T1⟩;have HT:=Hd T1;clear T1
 go_wp2_with fail
 go_ret
 exact ⟨rfl,HT.out.alloc _⟩
theorem Ak {w:World} (hb p n P size:Nat) (_h1:P≤p) (h2:p<P+size) (h3:P+size≤18446744073709551615)
  (HB:Calls Tryz.prog 110 #[.pointer (some ⟨hb,0,none⟩),.int .u64 p] w (Blocked w P size true)) :
  Calls Tryz.prog 66 #[.pointer (some ⟨hb,0,none⟩),.int .u64 p,.int .u64 n] w fun e w'=>e=.returned (.bool (decide (n≤P+size-p)))∧Touch Nothing w w':=by
 have H:=Hd HB;have hd:decide (n≤P+size-p)=decide ((n:Int)≤(P:Int)+size-p):=by rw [decide_eq_decide];omega
 rw [hd];clear HB hd
 go_enter Tryz.func66,Tryz.ntmps66
 go_wp2_with fail
 refine H.out.mono ?_
 rintro e w1 ⟨rfl,T1⟩;have HT:=Hd T1;clear T1
 go_wp2_with fail
 go_ret
 exact ⟨by simp,HT.out.alloc _⟩
theorem ak.yJ {m:Int} {w:World} {hb s pb:Nat} {K:ay} {β:Bu} {ps:List Int} (R:ak m w hb s pb K β ps) (p n i c:Nat) {pg:Pg} (h:tL β p i c pg) :
  Calls Tryz.prog 66 #[.pointer (some ⟨hb,0,none⟩),.int .u64 p,.int .u64 n] w fun e w'=>e=.returned (.bool (pg.bit (cellAt p c) && decide (n≤p/aB c*aB c+aB c-p)))∧Touch Nothing w w':=by
 have HB:=R.uQ p i c h;obtain ⟨hc,hE,hi,hp,hcell,_⟩:=h.facts R.sl.po.bu.ok R.sl.po.bu.sp.ok R.sl.po.bu.mp.ok;obtain ⟨w1,w2,w3,w4,w5,w6⟩:=dK (show c<8 by omega);cases hbit:pg.bit (cellAt p c) with
 | false =>
  rw [hbit] at HB;exact CF hb p n _ _ HB
 | true =>
  rw [hbit] at HB;have h1:=Nat.div_mul_le_self p (aB c);have h2:=Nat.div_add_mod p (aB c);have h3:=Nat.mod_lt p (show 0<aB c by omega);rw [Nat.mul_comm] at h2;have hlt:=(List.getElem?_eq_some_iff.1 h.page).1;have htop:=R.sl.po.bu.ok.dZ R.sl.po.bu.sp.ok hlt;have hat:=h.at_;have hlo:=h.lo;have hbase:=R.sl.po.bu.ok.base;refine (Ak hb p n _ _ h1 (by omega) ?_ HB).mono ?_
  ·unfold Bu.addr at htop;have hm:p<β.σ.base+4096*i+4096:=by omega
   omega
  ·rintro e w' ⟨rfl,T⟩;exact ⟨by simp,T⟩
def bC (w:World) (hb s pb:Nat) (K:ay) (β:Bu) (ps:List Int) (v:Value) (e:Ending) (w':World):Prop :=
 e=.returned v∧ak 0 w' hb s pb K β ps∧Touch (· = hb) w w'
theorem ak.iX {w w1 w2:World} {hb s pb:Nat} {K:ay} {β:Bu} {ps:List Int} {v:Value} (hw1:w1=w.setCell ⟨hb,0,none⟩ (.int .i32 1)) (R1:ak 1 w1 hb s pb K β ps) (T:Touch Nothing w1 w2) :
  bC w hb s pb K β ps v (.returned v) (w2.setCell ⟨hb,0,none⟩ (.int .i32 0)):=by
 subst hw1;exact ⟨rfl,(R1.aj T).locked 0,((Touch.cellAt w hb 0 _).trans T.none_).trans (Touch.cellAt w2 hb 0 _)⟩
theorem ak.Al {w:World} {hb s pb:Nat} {K:ay} {β:Bu} {ps:List Int} (R:ak 0 w hb s pb K β ps) (p n:Nat) (hn:n≠0)
  (HW:∀ W,ak 1 W hb s pb K β ps→Calls Tryz.prog 66 #[.pointer (some ⟨hb,0,none⟩),.int .u64 p,.int .u64 n] W fun e w'=>e=.returned (.bool false)∧Touch Nothing W w') :
  Calls Tryz.prog 28 #[.pointer (some ⟨hb,0,none⟩),.int .u64 p,.int .u64 n] w (bC w hb s pb K β ps (.tuple #[.slice none 0 0,.int .i64 4])):=by
 obtain ⟨c0,-,-,-,-,f0⟩:=R.cells;have R1:=R.locked 1;have fP:=Hd (HW _ R1);have HR1:=Hd R1;have hne:=jy hn;clear R HW R1 hn
 go_enter_defers Tryz.func28,Tryz.ntmps28
 go_wp2_with (go_at_call 58;refine (lock_free Tryz.muLib ⟨hb,0,none⟩ _ c0 f0).mono ?_;rintro e w' ⟨rfl,rfl⟩)
 generalize hw1:w.setCell ⟨hb,0,none⟩ (.int .i32 1)=w1 at *;refine fP.out.mono ?_
 rintro e w2 ⟨rfl,T2⟩;have HW1:=Hd hw1;have HT2:=Hd T2;have R2:=HR1.out.aj T2;have hm:=R2.cells.1;have fm:=R2.cells.2.2.2.2.2;clear hw1 R2 T2 c0 f0
 go_wp2
 refine leaves_cons (f:=59) (args:=#[.pointer (some ⟨hb,0,none⟩)]) (by simp) (by simp [go_sem]) ?_
 refine (unlock_deferred Tryz.muLib ⟨hb,0,none⟩ .returning _ hm fm).mono ?_
 rintro e u' w'' ⟨rfl,rfl,rfl⟩;exact ⟨_,results_tmp2 rfl _ _ _,ak.iX HW1.out.symm HR1.out HT2.out⟩
def Am (w:World) (hb s pb:Nat) (K:ay) (β:Bu) (ps:List Int) (n:Nat) (bs:List Value) (e:Ending) (w':World):Prop :=
 ∃ g,w.heap.size≤g∧aC w' g 5 bs∧bC w hb s pb K β ps (.tuple #[.slice (some ⟨g,0,none⟩) n n,.int .i64 0]) e w'
theorem ak.Io {w:World} {hb s pb:Nat} {K:ay} {β:Bu} {ps:List Int} (R:ak 0 w hb s pb K β ps) (p n:Nat) (H:β.σ.has p n)
  (HW:∀ W,ak 1 W hb s pb K β ps→Calls Tryz.prog 66 #[.pointer (some ⟨hb,0,none⟩),.int .u64 p,.int .u64 n] W fun e w'=>e=.returned (.bool true)∧Touch Nothing W w') :
  Calls Tryz.prog 28 #[.pointer (some ⟨hb,0,none⟩),.int .u64 p,.int .u64 n] w (Am w hb s pb K β ps n (β.σ.bytes p n)):=by
 obtain ⟨c0,-,-,-,-,f0⟩:=R.cells;have R1:=R.locked 1;have fP:=Hd (HW _ R1);have HR1:=Hd R1;have hne:=jy (show n≠0 by have:=H.pos;omega);have HH:=Hd H;have HL:=Hd R.lt;clear R HW R1 H
 go_enter_defers Tryz.func28,Tryz.ntmps28
 go_wp2_with (go_at_call 58;refine (lock_free Tryz.muLib ⟨hb,0,none⟩ _ c0 f0).mono ?_;rintro e w' ⟨rfl,rfl⟩)
 generalize hw1:w.setCell ⟨hb,0,none⟩ (.int .i32 1)=w1 at *;refine fP.out.mono ?_
 rintro e w2 ⟨rfl,T2⟩;have HW1:=Hd hw1;have HT2:=Hd T2;have R2:=HR1.out.aj T2;have hm:=R2.cells.1;have fm:=R2.cells.2.2.2.2.2;have c5:=R2.cells.2.2.2.1;have jg:=Hd R2.sl.po.gM;have pO:=Hd (R2.sl.po.bu.sp.XB p n HH.out);clear hw1 R2 T2 c0 f0 hm fm
 go_wp2_with fail
 refine jg.out.mono ?_
 rintro e w3 ⟨rfl,rfl⟩
 go_wp2_with fail
 refine pO.out.mono ?_
 rintro e w3 ⟨g,rfl,hg,hB,T3⟩;have HT3:=Hd (HT2.out.trans T3);have R3:=HR1.out.aj HT3.out;have HG:=Hd hg;have HB:=Hd hB;have hm:=R3.cells.1;have fm:=R3.cells.2.2.2.2.2;clear R3 T3 c5 hB hg
 go_wp2
 refine leaves_cons (f:=59) (args:=#[.pointer (some ⟨hb,0,none⟩)]) (by simp) (by simp [go_sem]) ?_
 refine (unlock_deferred Tryz.muLib ⟨hb,0,none⟩ .returning _ hm fm).mono ?_
 rintro e u' w'' ⟨rfl,rfl,rfl⟩
 have hsz:w.heap.size≤w2.heap.size:=by
  have h1:=HT2.out.size;have h2:=HW1.out;subst h2;simpa [World.setCell] using h1
 have hne2:¬hb=g:=by
  have:=HL.out hb (by simp);have:=HG.out;omega
 exact ⟨_,results_tmp2 rfl _ _ _,g,Nat.le_trans hsz HG.out,HB.out.touch (Touch.cellAt w3 hb 0 _) (fun e=>hne2 e.symm),ak.iX HW1.out.symm HR1.out HT3.out⟩
theorem ak.LY {w:World} {hb s pb:Nat} {K:ay} {β:Bu} {ps:List Int} (R:ak 0 w hb s pb K β ps) (p:Nat) :
  Calls Tryz.prog 28 #[.pointer (some ⟨hb,0,none⟩),.int .u64 p,.int .u64 0] w (bC w hb s pb K β ps (.tuple #[.slice none 0 0,.int .i64 0])):=by
 obtain ⟨c0,-,-,-,-,f0⟩:=R.cells;have R1:=R.locked 1;have HR1:=Hd R1;have hm:=R1.cells.1;have fm:=R1.cells.2.2.2.2.2;clear R R1
 go_enter_defers Tryz.func28,Tryz.ntmps28
 go_wp2_with (go_at_call 58;refine (lock_free Tryz.muLib ⟨hb,0,none⟩ _ c0 f0).mono ?_;rintro e w' ⟨rfl,rfl⟩)
 refine leaves_cons (f:=59) (args:=#[.pointer (some ⟨hb,0,none⟩)]) (by simp) (by simp [go_sem]) ?_
 refine (unlock_deferred Tryz.muLib ⟨hb,0,none⟩ .returning _ hm fm).mono ?_
 rintro e u' w'' ⟨rfl,rfl,rfl⟩;exact ⟨_,results_tmp2 rfl _ _ _,ak.iX rfl HR1.out (Touch.refl _ _)⟩
theorem ak.EI {w:World} {hb s pb:Nat} {K:ay} {β:Bu} {ps:List Int} (R:ak 0 w hb s pb K β ps) (p n c:Nat) (bs:List Nat) (ad:Addr) (H:β.σ.has p n) (hn:bs.length=n) (hnc:n≤c) (hbs:∀ x∈bs,x<256)
  (had:ad.block<w.heap.size) (hne:ad.block≠hb) (hsrc:∀ j v,(mP bs)[j]? = some v→w.cell? (ad.add j)=some v)
  (HW:∀ W,ak 1 W hb s pb K β ps→Calls Tryz.prog 66 #[.pointer (some ⟨hb,0,none⟩),.int .u64 p,.int .u64 n] W fun e w'=>e=.returned (.bool true)∧Touch Nothing W w') :
  Calls Tryz.prog 97 #[.pointer (some ⟨hb,0,none⟩),.int .u64 p,.slice (some ad) n c] w (aK w hb s pb K { β with σ:=β.σ.put p bs } ps (.int .i64 0)):=by
 obtain ⟨c0,-,-,-,-,f0⟩:=R.cells;have R1:=R.locked 1;have fP:=Hd (HW _ R1);have HR1:=Hd R1;have abm:=H.le R.sl.po.bu.sp.ok;have hne0:=jy (show n≠0 by have:=H.pos;omega);have HH:=Hd H;have HN:=Hd (And.intro hn (And.intro hnc hbs));have hT1:Touch (· = hb) w (w.setCell ⟨hb,0,none⟩ (.int .i32 1)):=Touch.cellAt _ _ _ _;have jZ:=Hd (show ad.block<(w.setCell ⟨hb,0,none⟩ (.int .i32 1)).heap.size from Nat.lt_of_lt_of_le had hT1.size);have hadd:∀ j,(ad.add j).block=ad.block:=fun j=>by unfold Addr.add;split <;> rfl
 have HSr:=Hd (show ∀ j v,(mP bs)[j]? = some v→(w.setCell ⟨hb,0,none⟩ (.int .i32 1)).cell? (ad.add j)=some v from fun j v hj=>by
  rw [hT1.cell (p:=ad.add j) (by rw [hadd];exact had) (by rw [hadd];exact hne)];exact hsrc j v hj)
 have HA:=Hd hadd;clear R HW R1 H hn hnc hbs had hne hsrc hT1 hadd
 go_enter_defers Tryz.func97,Tryz.ntmps97
 go_wp2_with (go_at_call 58;refine (lock_free Tryz.muLib ⟨hb,0,none⟩ _ c0 f0).mono ?_;rintro e w' ⟨rfl,rfl⟩)
 generalize hw1:w.setCell ⟨hb,0,none⟩ (.int .i32 1)=w1 at *;refine fP.out.mono ?_
 rintro e w2 ⟨rfl,T2⟩;have HW1:=Hd hw1;have HT2:=Hd T2;have R2:=HR1.out.aj T2;have c5:=R2.cells.2.2.2.1;have jg:=Hd R2.sl.po.gM;have RF:∀ j v,(mP bs)[j]? = some v→w2.cell? (ad.add j)=some v:=fun j v hj=>(T2.cell (by rw [HA.out];exact jZ.out) (fun h=>h)).trans (HSr.out j v hj)
 have LZ:=Hd (R2.sl.po.bu.sp.UU p n c bs ad HH.out HN.out.1 HN.out.2.1 HN.out.2.2 (Nat.lt_of_lt_of_le jZ.out T2.size) RF);have HR2:=Hd R2;clear hw1 R2 T2 c0 f0 RF
 go_wp2_with fail
 refine jg.out.mono ?_
 rintro e w3 ⟨rfl,rfl⟩
 go_wp2_with fail
 refine LZ.out.mono ?_
 rintro e w3 ⟨rfl,r3,t3⟩;obtain ⟨b3,T3⟩:=HR2.out.sl.po.bu.bytes r3 t3 (Sp.kV _ _ _);have S3:=HR2.out.sl.next T3 (ay.Next.refl _ _) b3;have R3:=HR2.out.next (T3.mono (fun b _ hb=>List.mem_cons_of_mem _ hb)) (ay.Next.refl _ _) S3 ⟨rfl,rfl,rfl⟩;have HR3:=Hd R3;have HT3:=Hd T3;have hm:=R3.cells.1;have fm:=R3.cells.2.2.2.2.2;clear r3 t3 b3 T3 S3 R3 c5
 go_wp2
 refine leaves_cons (f:=59) (args:=#[.pointer (some ⟨hb,0,none⟩)]) (by simp) (by simp [go_sem]) ?_
 refine (unlock_deferred Tryz.muLib ⟨hb,0,none⟩ .returning _ hm fm).mono ?_
 rintro e u' w'' ⟨rfl,rfl,rfl⟩;exact ⟨_,results_tmp rfl _ _ _,ak.unlocked HW1.out.symm HR3.out (ay.Next.refl _ _) (HT2.out.none_.trans (HT3.out.mono (fun b _ hb=>List.mem_cons_of_mem _ hb)))⟩
theorem ak.Ao {w:World} {hb s pb:Nat} {K:ay} {β:Bu} {ps:List Int} (R:ak 0 w hb s pb K β ps) (p:Nat)
  (HW:∀ W,ak 1 W hb s pb K β ps→Calls Tryz.prog 66 #[.pointer (some ⟨hb,0,none⟩),.int .u64 p,.int .u64 1] W fun e w'=>e=.returned (.bool false)∧Touch Nothing W w') :
  Calls Tryz.prog 93 #[.pointer (some ⟨hb,0,none⟩),.int .u64 p] w (bC w hb s pb K β ps (.tuple #[.int .u8 0,.int .i64 4])):=by
 have HR:=Hd (R.Al p 1 (by omega) HW);clear R HW
 go_enter Tryz.func93,Tryz.ntmps93
 go_wp2_with fail
 refine HR.out.mono ?_
 rintro e w1 ⟨rfl,hR,hT⟩;have H1:=Hd hR;have H2:=Hd hT;clear hR hT
 go_wp2_with fail
 go_ret2
 exact ⟨rfl,H1.out,H2.out⟩
theorem ak.Ip {w:World} {hb s pb:Nat} {K:ay} {β:Bu} {ps:List Int} (R:ak 0 w hb s pb K β ps) (p:Nat) (H:β.σ.has p 1)
  (HW:∀ W,ak 1 W hb s pb K β ps→Calls Tryz.prog 66 #[.pointer (some ⟨hb,0,none⟩),.int .u64 p,.int .u64 1] W fun e w'=>e=.returned (.bool true)∧Touch Nothing W w') :
  Calls Tryz.prog 93 #[.pointer (some ⟨hb,0,none⟩),.int .u64 p] w (bC w hb s pb K β ps (.tuple #[.int .u8 (β.σ.mem p:Nat),.int .i64 0])):=by
 have HR:=Hd (R.Io p 1 H HW);clear R HW
 go_enter Tryz.func93,Tryz.ntmps93
 go_wp2_with fail
 refine HR.out.mono ?_
 rintro e w1 ⟨g,hg,hB,rfl,hR,hT⟩;have c0:=hB.cell 0;simp [Sp.bytes] at c0;have H1:=Hd hR;have H2:=Hd hT;clear hR hT hB hg
 go_wp2_with fail
 go_ret2
 exact ⟨rfl,H1.out,H2.out⟩
theorem ak.EJ {w:World} {hb s pb:Nat} {K:ay} {β:Bu} {ps:List Int} (R:ak 0 w hb s pb K β ps) (p v:Nat) (hv:v<256) (H:β.σ.has p 1)
  (HW:∀ W,ak 1 W hb s pb K β ps→Calls Tryz.prog 66 #[.pointer (some ⟨hb,0,none⟩),.int .u64 p,.int .u64 1] W fun e w'=>e=.returned (.bool true)∧Touch Nothing W w') :
  Calls Tryz.prog 94 #[.pointer (some ⟨hb,0,none⟩),.int .u64 p,.int .u8 v] w (aK w hb s pb K { β with σ:=β.σ.put p [v] } ps (.int .i64 0)):=by
 have T0:Touch Nothing w (w.alloc (.cells #[.int .u8 v] 5)):=(Touch.refl _ _).alloc _;have B0:=aC.new w #[.int .u8 v] 5;have hlt:=R.blk.lt;have LZ:=Hd ((R.aj T0).EI p 1 1 [v] ⟨w.heap.size,0,none⟩ H rfl (by omega) (by simpa using hv) B0.lt (by simp;omega) (fJ B0) HW);have HT0:=Hd T0;clear R HW T0 B0 hlt hv H
 go_enter Tryz.func94,Tryz.ntmps94
 go_wp2_with fail
 refine LZ.out.mono ?_
 rintro e w1 ⟨rfl,K',hR,hN,hT⟩;have H1:=Hd hR;have H2:=Hd hT;have H3:=Hd hN;clear hR hT hN
 go_wp2_with fail
 go_ret
 refine ⟨rfl,K',H1.out,⟨H3.out.bb,H3.out.sb,H3.out.mb,fun k hk=>?_⟩,HT0.out.none_.trans H2.out⟩;rcases H3.out.fresh k hk with h | h
 ·exact .inl h
 ·exact .inr (Nat.le_trans HT0.out.size h)
theorem O7 {w:World} (hb p P size:Nat)
  (HB:∀ W,Touch Nothing w W→Calls Tryz.prog 110 #[.pointer (some ⟨hb,0,none⟩),.int .u64 p] W (Blocked W P size false)) :
  Calls Tryz.prog 99 #[.pointer (some ⟨hb,0,none⟩),.int .u64 p] w fun e w'=>e=.returned (.tuple #[.agg #[.int .u64 0,.int .u64 0],.int .i64 1])∧Touch Nothing w w':=by
 have T0:=Hd (show Touch Nothing w (w.alloc (.cells #[.int .u64 0,.int .u64 0] 71)) from (Touch.refl _ _).alloc _);have B0:=Hd (aC.new w #[.int .u64 0,.int .u64 0] 71);have H:=Hd (HB _ T0.out);clear HB
 go_enter Tryz.func99,Tryz.ntmps99
 go_wp2_with fail
 refine H.out.mono ?_
 rintro e w1 ⟨rfl,T1⟩;have B1:=B0.out.touch T1 (fun h=>h);have c0:=B1.cell 0;have c1:=B1.cell 1;have f0:=B1.free 0;have f1:=B1.free 1;have YH:w.heap.size<w1.heap.size:=B1.lt;have HT:=Hd (T0.out.trans T1);have HB3:=Hd (((B1.set 0 (.int .u64 0)).set 1 (.int .u64 0)).alloc (.cells #[.int .u64 P,.int .u64 size] 71));simp at c0 c1;clear B1 T1
 go_wp2_with fail
 have d0:=HB3.out.cell 0;have d1:=HB3.out.cell 1;simp at d0 d1;have T5:Touch (· = w.heap.size) w1 (((w1.setCell ⟨w.heap.size,0,none⟩ (.int .u64 0)).setCell ⟨w.heap.size,1,none⟩ (.int .u64 0)).alloc (.cells #[.int .u64 P,.int .u64 size] 71)):=((Touch.cellAt w1 w.heap.size 0 (.int .u64 0)).trans (Touch.cellAt _ w.heap.size 1 (.int .u64 0))).alloc _;exact bodyPost_ret (v:=.tuple #[.agg #[.int .u64 0,.int .u64 0],.int .i64 1]) (by simp [results,Tryz.results99,go_sem,d0,d1]) rfl ⟨rfl,HT.out.trans' T5 (fun i hi e=>by omega)⟩
theorem ak.L6 {w:World} {hb s pb:Nat} {K:ay} {β:Bu} {ps:List Int} (R:ak 0 w hb s pb K β ps) :
  Calls Tryz.prog 92 #[.pointer (some ⟨hb,0,none⟩),.int .u64 0] w (bC w hb s pb K β ps (.int .i64 0)):=by
 obtain ⟨c0,-,-,-,-,f0⟩:=R.cells;have R1:=R.locked 1;have HR1:=Hd R1;have hm:=R1.cells.1;have fm:=R1.cells.2.2.2.2.2;clear R R1
 go_enter_defers Tryz.func92,Tryz.ntmps92
 go_wp2_with (go_at_call 58;refine (lock_free Tryz.muLib ⟨hb,0,none⟩ _ c0 f0).mono ?_;rintro e w' ⟨rfl,rfl⟩)
 refine leaves_cons (f:=59) (args:=#[.pointer (some ⟨hb,0,none⟩)]) (by simp) (by simp [go_sem]) ?_
 refine (unlock_deferred Tryz.muLib ⟨hb,0,none⟩ .returning _ hm fm).mono ?_
 rintro e u' w'' ⟨rfl,rfl,rfl⟩;exact ⟨_,results_tmp rfl _ _ _,ak.iX rfl HR1.out (Touch.refl _ _)⟩
theorem ak.L8 {w:World} {hb s pb:Nat} {K:ay} {β β':Bu} {ps ps':List Int} (R:ak 0 w hb s pb K β ps) (n size p r:Nat) (deny:Bool) (hσ:β'.σ.base=β.σ.base∧β'.σ.limit=β.σ.limit∧β'.μ.order=β.μ.order) (_hm:n*size<18446744073709551616)
  (hMul:∀ W,Calls Tryz.prog 132 #[.int .u64 n,.int .u64 size] W fun e w'=>e=.returned (.tuple #[.int .u64 0,.int .u64 (n*size:Nat)])∧w'=W)
  (H:β'.σ.has p r)
  (HM:∀ W,ak 1 W hb s pb K β ps→Calls Tryz.prog 133 #[.pointer (some ⟨hb,0,none⟩),.int .u64 (n*size:Nat),.int .u64 1,.bool deny] W (Did W (.tuple #[.agg #[.int .u64 p,.int .u64 r],.int .i64 0]) (jR s pb K β' ps'))) :
  Calls Tryz.prog 89 #[.pointer (some ⟨hb,0,none⟩),.int .u64 n,.int .u64 size,.bool deny] w (aK w hb s pb K { β' with σ:=β'.σ.put p (List.replicate r 0) } ps' (.tuple #[.int .u64 p,.int .i64 0])):=by
 obtain ⟨c0,-,-,-,-,f0⟩:=R.cells;have R1:=R.locked 1;have fP:=Hd (HM _ R1);have HR1:=Hd R1;have HS:=Hd hσ;have L9:=Hd hMul;have HH:=Hd H;clear R HM R1 hσ hMul H _hm;generalize n*size=low at *
 go_enter_defers Tryz.func89,Tryz.ntmps89
 go_wp2_with (go_at_call 58;refine (lock_free Tryz.muLib ⟨hb,0,none⟩ _ c0 f0).mono ?_;rintro e w' ⟨rfl,rfl⟩)
 generalize hw1:w.setCell ⟨hb,0,none⟩ (.int .i32 1)=w1 at *;refine (L9.out _).mono ?_
 rintro e w2 ⟨rfl,rfl⟩
 go_wp2_with fail
 refine fP.out.mono ?_
 rintro e w2 hD;obtain ⟨K',R2,N2,T2⟩:=Did.hp HR1.out hD HS.out;obtain ⟨rfl,-⟩:=hD;have HW1:=Hd hw1;have HR2:=Hd R2;have tF:=Hd N2;have HT2:=Hd T2;have c5:=R2.cells.2.2.2.1;have jg:=Hd (fun W (T:Touch Nothing w2 W)=>(R2.aj T).sl.po.gM);have qK:=Hd (fun W (T:Touch Nothing w2 W)=>(R2.aj T).sl.po.bu.sp.XC p r 0 HH.out (by omega));have hlt2:hb<w2.heap.size:=R2.blk.lt;have hlt3:pb<w2.heap.size:=R2.sl.po.blk.lt;have hcf:∀ (us:Array Value) (W:World),(callFunc 134 us).run Tryz.prog W=.ok (.enter 134 us) W:=fun us W=>by simp [go_sem]
 have nI:∀ (us:Array Value) (W:World),(callFunc 60 us).run Tryz.prog W=.ok (.enter 60 us) W:=fun us W=>by simp [go_sem]
 have kF:=Hd hcf;have wI:=Hd nI;clear hw1 R2 N2 T2 c0 f0 hcf nI
 go_wp2_with fail
 have T3:Touch Nothing w2 (w2.alloc (.cells #[.int .u64 p,.int .u64 r] 71)).drew:=((Touch.refl _ _).alloc _).drew;have B3:=(aC.new w2 #[.int .u64 p,.int .u64 r] 71);have d5:(w2.alloc (.cells #[.int .u64 p,.int .u64 r] 71)).cell? ⟨hb,5,none⟩=some (.pointer (some ⟨pb,0,none⟩)):=(HR2.out.aj ((Touch.refl _ _).alloc _)).cells.2.2.2.1;have b0:=B3.cell 0;have b1:=B3.cell 1;have HB3:=Hd B3;have HT3:=Hd T3;have aak:=Hd (jg.out _ T3);have aal:=Hd (qK.out _ T3);clear T3 B3 c5;simp only [List.getElem?_cons_zero,List.getElem?_cons_succ] at b0 b1;generalize (w2.alloc (.cells #[.int .u64 p,.int .u64 r] 71))=w3 at *;refine wp_region_still_tail 11 (by kernel_rfl) (by kernel_rfl) ?_
 simp only [List.take_succ_cons,List.take_zero,List.drop_succ_cons,List.drop_zero,World.drew_eq]
 repeat still_step
 still_call (aak.out.mono fun _ _ h=>⟨h.1,h.2.symm⟩)
 repeat still_step
 refine wpStill_nil ?_
 go_wp2_with fail
 refine aal.out.mono ?_
 rintro e w4 ⟨rfl,r4,t4⟩;have R3:=HR2.out.aj HT3.out;obtain ⟨b4,T4⟩:=R3.sl.po.bu.bytes r4 t4 (Sp.kV _ _ _);have S4:=R3.sl.next T4 (ay.Next.refl _ _) b4;have R4:=R3.next (T4.mono (fun b _ hb=>List.mem_cons_of_mem _ hb)) (ay.Next.refl _ _) S4 ⟨rfl,rfl,rfl⟩
 have hnot:¬w2.heap.size∈K'.fp:=fun hm=>by
  have:=HR2.out.lt w2.heap.size (by simp [hm]);omega
 have e0:w4.cell? ⟨w2.heap.size,0,none⟩=some (.int .u64 p):=by
  have:=((HB3.out.drew).touch T4 hnot).cell 0;simpa using this
 have HR4:=Hd R4;have eu:=Hd T4;have hm:=R4.cells.1;have fm:=R4.cells.2.2.2.2.2;clear r4 t4 R3 b4 S4 R4 T4 hnot d5 b0 b1
 go_wp2
 refine leaves_cons (f:=59) (args:=#[.pointer (some ⟨hb,0,none⟩)]) (by simp) (by simp [go_sem]) ?_
 refine (unlock_deferred Tryz.muLib ⟨hb,0,none⟩ .returning _ hm fm).mono ?_
 rintro e u' w'' ⟨rfl,rfl,rfl⟩;have N:=tF.out
 have TT:Touch (·∈s::K.fp) _ w4:=(HT2.out.trans HT3.out.none_).trans' eu.out (fun i hi hm=>by
  rcases N.fresh i hm with h | h
  ·exact List.mem_cons_of_mem _ h
  ·omega)
 exact ⟨_,results_tmp2 rfl _ _ _,ak.unlocked HW1.out.symm HR4.out N TT⟩
end Go.Proofs.YtnjcmcnjgdjbiaaGreatDoor
namespace Go.Proofs.YtnjcmcnjgdjbiaaGreatDoor
open Go.RowKit
def jA:List Int:=List.replicate 8 (-1)
def Iq (w:World) (base limit order:Nat) (e:Ending) (w':World):Prop :=
 ∃ hb s pb K,e=.returned (.tuple #[.pointer (some ⟨hb,0,none⟩),.int .i64 0])∧ak 0 w' hb s pb K (Bu.fresh base limit order) jA∧Touch Nothing w w'∧∀ k∈hb::s::pb::K.fp,w.heap.size≤k
theorem O8 {w w0 w1 w2:World} {base limit order pb s:Nat} {K:ay} (G:bU w) (T0:Touch Nothing w w0)
  (P1:bS w1 pb K (Bu.fresh base limit order)) (T1:Touch Nothing w0 w1) (F1:∀ k∈pb::K.fp,w0.heap.size≤k)
  (hs:w1.heap.size≤s) (B2:aC w2 s 163 (.pointer (some ⟨pb,0,none⟩)::jA.map fun x=>.int .i64 x)) (T2:Touch Nothing w1 w2) :
  Iq w base limit order (.returned (.tuple #[.pointer (some ⟨w2.heap.size,0,none⟩),.int .i64 0]))
   (w2.alloc (.cells #[.int .i32 0,.int .u32 0,.int .u64 base,.int .i64 limit,.int .i64 order,.pointer (some ⟨pb,0,none⟩),.pointer (some ⟨s,0,none⟩)] 97)):=by
 have hl1:=P1.lt;have g:=G.size;have s0:=T0.size;have s1:=T1.size;have s2:=T2.size;have hs2:s<w2.heap.size:=B2.lt;have T3:Touch Nothing w2 (w2.alloc (.cells #[.int .i32 0,.int .u32 0,.int .u64 base,.int .i64 limit,.int .i64 order,.pointer (some ⟨pb,0,none⟩),.pointer (some ⟨s,0,none⟩)] 97)):=(Touch.refl _ _).alloc _;have TT:=((T0.trans T1).trans T2).trans T3;have hns:s∉pb::K.fp:=fun h=>by have:=hl1 s h;omega
 have S3:aM (w2.alloc (.cells #[.int .i32 0,.int .u32 0,.int .u64 base,.int .i64 limit,.int .i64 order,.pointer (some ⟨pb,0,none⟩),.pointer (some ⟨s,0,none⟩)] 97)) s pb K (Bu.fresh base limit order) jA :=
  ⟨B2.touch T3 (fun h=>h),(P1.aj T2).aj T3,hns,rfl⟩
 have iK:∀ k∈w2.heap.size::s::pb::K.fp,w.heap.size≤k:=by
  intro k hk;rcases List.mem_cons.1 hk with h | h
  ·omega
  ·rcases List.mem_cons.1 h with h | h
   ·omega
   ·have:=F1 k h;omega
 refine ⟨w2.heap.size,s,pb,K,rfl,⟨aC.new w2 _ 97,S3,?_,G.aj TT,fun k hk=>?_⟩,TT,iK⟩
 ·intro h;rcases List.mem_cons.1 h with h | h
  ·omega
  ·have:=hl1 _ h;omega
 ·have:=iK k hk;omega
theorem yK (base limit order:Nat) (w:World) (hb:base<18446744073709551616) (h:eF base limit order=true) (ho:order≤8) (G:bU w) :
  Calls Tryz.prog 18 #[dS base limit order] w (Iq w base limit order):=by
 have HP:=Hd (fun w=>GA base limit order w hb h ho);have Vr:=Hd (fun pb w=>OO pb w);have T0:=Hd (show Touch Nothing w (w.alloc (.cells #[.int .u64 base,.int .i64 limit,.int .i64 order] 51)) from (Touch.refl _ _).alloc _);have B0:=Hd (aC.new w #[.int .u64 base,.int .i64 limit,.int .i64 order] 51);have hsz:w.heap.size<(w.alloc (.cells #[.int .u64 base,.int .i64 limit,.int .i64 order] 51)).heap.size:=by simp
 have HG:=Hd G;have hcf:∀ (us:Array Value) (W:World),(callFunc 36 us).run Tryz.prog W=.ok (.enter 36 us) W:=fun us W=>by simp [go_sem]
 have kF:=Hd hcf;unfold dS at *;clear h hb G hcf
 go_enter Tryz.func18,Tryz.ntmps18
 go_wp2_with fail
 generalize w.alloc (.cells #[.int .u64 base,.int .i64 limit,.int .i64 order] 51)=w0 at *;refine (HP.out _).mono ?_
 rintro e w1 ⟨pb,K,rfl,P1,T1,F1⟩;have b1:=B0.out.touch T1 (fun h=>h);have d0:=b1.cell 0;have d1:=b1.cell 1;have d2:=b1.cell 2;simp at d0 d1 d2;have HB1:=Hd (b1.drew);have vP:=Hd P1;have HT1:=Hd T1;have Ma:=Hd F1;have aam:=Hd (Vr.out pb w1.drew);clear P1 T1 F1 b1
 go_wp2_with fail
 go_region_law (refine eU _ (by rfl) 36 #[.tmp 16] #[84] (by rfl) #[.pointer (some ⟨pb,0,none⟩)] (by rfl) aam.out (kF.out _ _) ?_;rintro e w2 ⟨s,rfl,hs,hB,hT⟩;refine ⟨_,rfl,?_⟩;have hb2:=HB1.out.touch hT (fun h=>h);have z0:w2.cell? ⟨w.heap.size,0,none⟩=some (.int .u64 base):=hb2.cell 0;have z1:w2.cell? ⟨w.heap.size,1,none⟩=some (.int .i64 limit):=hb2.cell 1;have z2:w2.cell? ⟨w.heap.size,2,none⟩=some (.int .i64 order):=hb2.cell 2;have HS:=Hd hs;have HB2:=Hd hB;have HT2:=Hd hT;clear hs hB hT hb2)
 all_goals
  go_wp2_with fail
  go_ret2
  exact O8 HG.out T0.out vP.out HT1.out Ma.out HS.out HB2.out ((Touch.refl Nothing w1).drew.trans HT2.out)
def jT:Bu:=Bu.fresh 65536 2 1
def β1:Bu:=jT.fed.took 0 1 0 0
def fV:Bu:=β1.eT 0 0
theorem aan:eF 65536 2 1=true:=by decide +kernel
theorem XP:tC jT.fed 0 1 0 0:=by
 refine ⟨by decide,by decide +kernel,?_,by decide +kernel,by decide +kernel,by decide +kernel,by decide +kernel,fun h=>absurd rfl h,fun h=>absurd h (by decide +kernel),?_,by decide +kernel,by decide +kernel,by decide +kernel⟩
 ·intro k h1 h2;obtain rfl:k=0:=by omega
  decide +kernel
 ·intro m hm;obtain rfl:m=0:=by omega
  exact ⟨by decide +kernel,by decide +kernel,by decide +kernel,fun h=>absurd (by decide +kernel) h,by decide +kernel⟩
theorem JB:∀ k,k≤jT.μ.order→jT.heads.getD k 0=0:=by
 intro k hk;have:k≤1:=hk
 match k,this with
 | 0,_=>decide
 | 1,_=>decide
 | k+2,h=>omega
theorem XQ:∃ p,β1.μ.pages[0]? = some p:=by
 have:0<β1.μ.pages.length:=by decide +kernel
 exact ⟨_,List.getElem?_eq_getElem this⟩
theorem len1:β1.μ.pages.length=β1.σ.n*2^β1.μ.order:=by decide +kernel
theorem XR:β1.σ.base=jT.fed.σ.base:=by decide +kernel
theorem XT:fV.σ.base=jT.σ.base∧fV.σ.limit=jT.σ.limit∧fV.μ.order=jT.μ.order:=by
 refine ⟨by decide +kernel,by decide +kernel,by decide +kernel⟩
theorem XU:jT.fed.addr 0=65536:=by decide +kernel
theorem TQ (size:Nat) (h:size≤16):bD jT.σ.size size 1=(16,0):=by
 have h1:max (max size 1) 16=16:=by omega
 unfold bD;rw [h1];decide +kernel
def tN:List Int:=jA.set 0 (0:Nat)
theorem ak.Vy {m:Int} {w:World} {hb s pb:Nat} {K:ay} (R:ak m w hb s pb K jT jA) :
  Calls Tryz.prog 139 #[.pointer (some ⟨hb,0,none⟩),.int .u64 16,.bool false] w (nH w 65536 0 (jR s pb K fV tN)):=by
 obtain ⟨p,hp⟩:=XQ;refine uO hb s 16 0 65536 true false 0 (jR s pb K fV tN) R.cells.2.2.2.2.1 (by omega) (by decide) (fun W T=>?_);have RW:=R.aj T;have h:=RW.sl.OP RW.ko (fun k hk=>RW.far k (List.mem_cons_of_mem _ hk)) 0 0 0 1 (by omega) (by decide) JB (by decide) (by decide) (by decide) XP hp len1 XR;refine h.mono ?_
 rintro e w' ⟨rfl,K',S,N,T'⟩;rw [XU];exact ⟨rfl,K',S,N,T'⟩
theorem jR.touch {s pb:Nat} {K:ay} {β':Bu} {ps':List Int} (W W1:World) (h:jR s pb K β' ps' W W1):Touch (·∈s::K.fp) W W1:=by
 obtain ⟨_,_,_,T⟩:=h;exact T
theorem ak.O9 {m:Int} {w:World} {hb s pb:Nat} {K:ay} (R:ak m w hb s pb K jT jA) (size:Nat) (h:size≤16) :
  Calls Tryz.prog 133 #[.pointer (some ⟨hb,0,none⟩),.int .u64 size,.int .u64 1,.bool false] w (Did w (.tuple #[.agg #[.int .u64 65536,.int .u64 16],.int .i64 0]) (jR s pb K fV tN)):=by
 refine CB hb size 1 16 65536 false _ (·∈s::K.fp) (fun k hk=>?_) jR.touch (Hd fun W T=>?_) (Hd fun W T=>(R.aj T).Vy)
 ·refine R.lt k ?_
  rcases List.mem_cons.1 hk with h | h
  ·simp [h]
  ·simp [h]
 ·have:=(R.aj T).tJ size 1 (by omega) (by omega);rw [TQ size h] at this;exact this
theorem ak.EK {w:World} {hb s pb:Nat} {K:ay} (R:ak 0 w hb s pb K jT jA) (size:Nat) (h:size≤16) :
  Calls Tryz.prog 88 #[.pointer (some ⟨hb,0,none⟩),.int .u64 size,.bool false] w (aK w hb s pb K fV tN (.tuple #[.int .u64 65536,.int .i64 0])) :=
 R.xR size 65536 16 0 false XT (fun _ RW=>RW.O9 size h)
end Go.Proofs.YtnjcmcnjgdjbiaaGreatDoor
namespace Go.Proofs.YtnjcmcnjgdjbiaaGreatDoor
open Go.RowKit Go.Maps
def oV (v:Value):Option (DataW Value × List MemPlace):=some (.held v,[])
theorem Vz:Keyed Tryz.prog 3:=int_keyed Tryz.underlying3
theorem yj {w:World} {ops:Array Oper} {rest:List Oper} {o:Oper} {a:Act} {Q:Exit→Act→World→Prop}
  (hg:o.guard=none) (m x v:Operand) (hop:o.op=Op.insert 106 m x v) (b n:Nat) (D:DataW Value)
  (hm:a.eval m=.map (some b)) (hown:w.ownsMap Tryz.prog 3 oV b n D) (hn:n≤100) (k:Int) (val:Value) (hx:a.eval x=.int .i64 k) (hk:(Lit.int .i64 k).wf=true) (hv:a.eval v=val)
  (hK:∀ w',w'.ownsMap Tryz.prog 3 oV b (n+1) (D.put (.int .i64 k) (.held val))→w.grownBy w' (some b)→wpList Tryz.prog ops Q rest (a.put o.dst undef) w') :
  wpList Tryz.prog ops Q (o::rest) a w:=by
 refine wpList_plain hg fun K' hK'=>?_
 obtain ⟨w',hrun,r1,r2⟩:=hown.update Vz Tryz.underlying106 (show n<maxLen by unfold maxLen;omega) (keyOf_int_mk Tryz.underlying3 hk) (rfl:oV val=some (.held val,[]));unfold Oper.wp;simp [execOp,hop,hm,hx,hv,hrun,Result.andThen];exact hK' _ _ (hK w' r1 r2)
theorem qM {w:World} {ops:Array Oper} {rest:List Oper} {o:Oper} {a:Act} {Q:Exit→Act→World→Prop}
  (hg:o.guard=none) (m x:Operand) (hop:o.op=Op.lookup 106 m x true) (b n:Nat) (D:DataW Value)
  (hm:a.eval m=.map (some b)) (hown:w.ownsMap Tryz.prog 3 oV b n D) (k:Int) (hx:a.eval x=.int .i64 k) (hk:(Lit.int .i64 k).wf=true) (z:Value) (hz:(zeroValue 104).run Tryz.prog w=.ok z w)
  (val:Value) (ok:Bool) (hval:D.atKey (.int .i64 k) (.held z)=.held val) (hok:Maps.has D (.int .i64 k)=ok)
  (hK:wpList Tryz.prog ops Q rest (a.put o.dst (.tuple #[val,.bool ok])) w) :
  wpList Tryz.prog ops Q (o::rest) a w:=by
 refine wpList_lookup_own_ok w hg m x 106 hop 3 104 Vz Tryz.underlying106 oV hz (.held z) [] rfl b n D hm hown _ _ hx (keyOf_int_mk Tryz.underlying3 hk) ?_
 intro v ps hv;rw [hval] at hv
 have:v=val:=by
  simp only [oV,Option.some.injEq,Prod.mk.injEq,DataW.held.injEq] at hv;exact hv.1
 rw [this,hok];exact hK
def CG (dv:Value) (ks:List (Int × Nat)):DataW Value:=ks.foldl (fun D p=>D.put (.int .i64 p.1) (.held (.func (.func p.2) #[dv] #[]))) (.map [])
def nJ (w:World) (b:Nat) (dv:Value) (ks:List (Int × Nat)):Prop:=w.ownsMap Tryz.prog 3 oV b ks.length (CG dv ks)
theorem nJ.made (w:World) (dv:Value):nJ (w.alloc (.map #[] 0)) w.heap.size dv []:=World.ownsMap_made w Tryz.prog 3 oV
theorem kr {w:World} {ops:Array Oper} {rest:List Oper} {o:Oper} {a:Act} {Q:Exit→Act→World→Prop}
  (hg:o.guard=none) (m x v:Operand) (hop:o.op=Op.insert 106 m x v) (b:Nat) (dv:Value) (ks:List (Int × Nat))
  (hm:a.eval m=.map (some b)) (hown:nJ w b dv ks) (hn:ks.length≤100) (k:Int) (f:Nat) (hx:a.eval x=.int .i64 k) (hk:(Lit.int .i64 k).wf=true) (hv:a.eval v=.func (.func f) #[dv] #[])
  (hK:∀ w',nJ w' b dv (ks++[(k,f)])→w.grownBy w' (some b)→wpList Tryz.prog ops Q rest (a.put o.dst undef) w') :
  wpList Tryz.prog ops Q (o::rest) a w:=by
 refine yj hg m x v hop b ks.length _ hm hown hn k _ hx hk hv ?_
 intro w' h1 h2;refine hK w' ?_ h2;unfold nJ CG;rw [List.foldl_append,List.length_append];exact h1
theorem EL (dv:Value) (l:List (Int × Nat)) (p:Int × Nat):CG dv (p::l).reverse=(CG dv l.reverse).put (.int .i64 p.1) (.held (.func (.func p.2) #[dv] #[])):=by
 unfold CG;rw [List.reverse_cons,List.foldl_append];rfl
theorem CJ (dv:Value) (l:List (Int × Nat)):IsMap (CG dv l.reverse):=by
 induction l with
 | nil=>exact ⟨_,rfl⟩
 | cons p l ih=>rw [EL];exact ih.put _ _
theorem Mc (dv:Value) (z:DataW Value) (k:Int):∀ (l:List (Int × Nat)),(CG dv l.reverse).atKey (.int .i64 k) z=(match l.find? (fun p=>p.1 == k) with | some p=>.held (.func (.func p.2) #[dv] #[]) | none=>z)∧has (CG dv l.reverse) (.int .i64 k)=(l.find? (fun p=>p.1 == k)).isSome:=by
 intro l
 induction l with
 | nil=>exact ⟨rfl,rfl⟩
 | cons p l ih =>
  rw [EL,List.find?_cons];by_cases h:p.1=k
  ·subst h;rw [beq_self_eq_true];exact ⟨atKey_put_same (k:=.int .i64 p.1) (CJ dv l) (by trivial) _ _,has_put_same (k:=.int .i64 p.1) (CJ dv l) (by trivial) _⟩
  ·have hne:(Lit.int .i64 k)≠(Lit.int .i64 p.1):=fun e=>by cases e;exact h rfl
   have hb:(p.1 == k)=false:=by simpa using h
   rw [hb,atKey_put_other hne,has_put_other hne];exact ih
theorem nU {w:World} {ops:Array Oper} {rest:List Oper} {o:Oper} {a:Act} {Q:Exit→Act→World→Prop}
  (hg:o.guard=none) (m x:Operand) (hop:o.op=Op.lookup 106 m x true) (b:Nat) (dv:Value) (ks:List (Int × Nat))
  (hm:a.eval m=.map (some b)) (hown:nJ w b dv ks) (k:Int) (hx:a.eval x=.int .i64 k) (hk:(Lit.int .i64 k).wf=true) (f:Nat) (hf:(ks.reverse.find? (fun p=>p.1 == k)).map Prod.snd=some f)
  (hK:wpList Tryz.prog ops Q rest (a.put o.dst (.tuple #[.func (.func f) #[dv] #[],.bool true])) w) :
  wpList Tryz.prog ops Q (o::rest) a w:=by
 obtain ⟨p,hp,rfl⟩:=Option.map_eq_some_iff.1 hf;obtain ⟨h1,h2⟩:=Mc dv (.held .nilFunc) k ks.reverse;rw [List.reverse_reverse,hp] at h1 h2;exact qM hg m x hop b ks.length _ hm hown k hx hk _ (Tryz.zeroValue104 _) _ true h1 h2 hK
theorem oW {w:World} {ops:Array Oper} {rest:List Oper} {o:Oper} {a:Act} {Q:Exit→Act→World→Prop}
  (hg:o.guard=none) (m x:Operand) (hop:o.op=Op.lookup 106 m x true) (b:Nat) (dv:Value) (ks:List (Int × Nat))
  (hm:a.eval m=.map (some b)) (hown:nJ w b dv ks) (k:Int) (hx:a.eval x=.int .i64 k) (hk:(Lit.int .i64 k).wf=true) (hf:ks.reverse.find? (fun p=>p.1 == k)=none)
  (hK:wpList Tryz.prog ops Q rest (a.put o.dst (.tuple #[.nilFunc,.bool false])) w) :
  wpList Tryz.prog ops Q (o::rest) a w:=by
 obtain ⟨h1,h2⟩:=Mc dv (.held .nilFunc) k ks.reverse;rw [List.reverse_reverse,hf] at h1 h2;exact qM hg m x hop b ks.length _ hm hown k hx hk _ (Tryz.zeroValue104 _) _ false h1 h2 hK
end Go.Proofs.YtnjcmcnjgdjbiaaGreatDoor
namespace Go.Proofs.YtnjcmcnjgdjbiaaGreatDoor
open Go.RowKit
structure au where
 op:Int
 ref:Int
 p:Nat
 a:Nat
 b:Nat
 deny:Bool
 dp:Option Addr
 dn:Nat
 dc:Nat
structure aG where
 e:Int
 v:Nat
 dp:Option Addr
 dn:Nat
 dc:Nat
 h:Nat
 l:Nat
 bl:Int
 fr:Int
def aG.val (a:aG):Value:=.agg #[.int .i64 a.e,.int .u64 a.v,.slice a.dp a.dn a.dc,.int .u64 a.h,.int .u64 a.l,.int .i64 a.bl,.int .i64 a.fr]
def Done (w:World) (Q:aG→World→World→Prop) (e:Ending) (w':World):Prop :=
 ∃ an:aG,e=.returned an.val∧∃ W W1 b,Touch Nothing w W∧Q an W W1∧w.heap.size≤b∧b<W.heap.size∧Touch (· = b) W1 w'
def au.val (c:au):Value:=.agg #[.int .i64 c.op,.int .i64 c.ref,.int .u64 c.p,.int .u64 c.a,.int .u64 c.b,.bool c.deny,(.slice c.dp c.dn c.dc)]
def au.doer (c:au) (hb q:Nat):Value:=.agg #[.pointer (some ⟨hb,0,none⟩),.int .u64 q,.int .i64 c.op,.int .i64 c.ref,.int .u64 c.p,.int .u64 c.a,.int .u64 c.b,.bool c.deny,(.slice c.dp c.dn c.dc)]
def aG.cells (a:aG):List Value:=[.int .i64 a.e,.int .u64 a.v,.slice a.dp a.dn a.dc,.int .u64 a.h,.int .u64 a.l,.int .i64 a.bl,.int .i64 a.fr]
abbrev uR (w:World) (v:Value) (aa:List aG):Prop:=Row w 38 7 v aa.length (aa.flatMap aG.cells)
theorem oZ (l:List aG):∀ (i:Nat) (p:aG),l[i]? = some p→∀ (j:Nat) (u:Value),p.cells[j]? = some u→(l.flatMap aG.cells)[i*7+j]? = some u:=by
 induction l with
 | nil=>intro i p h;simp at h
 | cons a l ih =>
  intro i p h j u hu;cases i with
  | zero =>
   simp at h;subst h;have hj:j<7:=by have:=(List.getElem?_eq_some_iff.1 hu).1;simpa [aG.cells] using this
   rw [List.flatMap_cons,Nat.zero_mul,Nat.zero_add,List.getElem?_append_left (by simpa [aG.cells] using hj)];exact hu
  | succ i =>
   simp at h;rw [List.flatMap_cons,List.getElem?_append_right (by simp [aG.cells];omega)];have:(i+1)*7+j-a.cells.length=i*7+j:=by simp [aG.cells];omega
   rw [this];exact ih i p h j u hu
def Addressed (w:World) (q:Nat) (e:Ending) (w':World):Prop:=e=.returned (.tuple #[.int .u64 q,.bool true])∧Touch Nothing w w'
theorem wJ {w:World} (c:au) (av:Value) (h:c.ref=0):Calls Tryz.prog 38 #[c.val,av] w (Addressed w c.p):=by
 obtain ⟨op,ref,p,a,b,deny,dp,dn,dc⟩:=c;simp only at h;subst h;unfold au.val
 go_enter Tryz.func38,Tryz.ntmps38
 go_wp2_with fail
 go_ret2
 exact ⟨rfl,(Touch.refl Nothing w).alloc _⟩
theorem GH {w:World} (c:au) (av:Value) (aa:List aG) (A:uR w av aa) (j:Nat) (x:aG) (h:c.ref=(j:Int)+1) (hx:aa[j]? = some x) (he:x.e≠0):Calls Tryz.prog 38 #[c.val,av] w (Addressed w c.p):=by
 have hj:j<aa.length:=(List.getElem?_eq_some_iff.1 hx).1;obtain ⟨g,cap,hv,hcap,hg⟩:=A.form (by omega);rw [hv] at A;subst hv
 have hcell:∀ k u,x.cells[k]? = some u→w.cell? ⟨g,j*7+k,none⟩=some u:=fun k u hu=>by
  have hk:k<7:=by have:=(List.getElem?_eq_some_iff.1 hu).1;simpa [aG.cells] using this
  rw [A.cell _ (by omega)];exact oZ aa j x hx k u hu
 have d0:=hcell 0 _ rfl;have d1:=hcell 1 _ rfl;have d2:=hcell 2 _ rfl;have d3:=hcell 3 _ rfl;have d4:=hcell 4 _ rfl;have d5:=hcell 5 _ rfl;have d6:=hcell 6 _ rfl;simp only [Nat.add_zero] at d0
 have hmx:aa.length≤9223372036854775807:=by
  rcases A.2 with ⟨h0,_⟩ | ⟨g',cap',cur,hv',_,_,hc',hm,_⟩
  ·cases h0
  ·unfold maxLen at hm;omega
 obtain ⟨op,ref,p,a,b,deny,dp,dn,dc⟩:=c;obtain ⟨e,v,xp,xn,xc,xh,xl,xb,xf⟩:=x;simp only at h he;subst h;have hne:(e != 0)=true:=by rw [bne_iff_ne];exact he
 have hlt:(j:Int)<(aa.length:Int):=by omega
 have hr0:(((j:Int)+1) == 0)=false:=by rw [beq_eq_false_iff_ne];omega
 unfold au.val;clear hcell A hx he hcap
 go_enter Tryz.func38,Tryz.ntmps38
 go_wp2_with fail
 go_ret2
 exact ⟨rfl,((Touch.refl Nothing w).alloc _).alloc _⟩
theorem Ap {w:World} (c:au) (av:Value) (aa:List aG) (A:uR w av aa) (j:Nat) (x:aG) (h:c.ref=(j:Int)+1) (hx:aa[j]? = some x) (he:x.e=0) (hs:x.v+c.p≤18446744073709551615):Calls Tryz.prog 38 #[c.val,av] w (Addressed w (x.v+c.p)):=by
 have hj:j<aa.length:=(List.getElem?_eq_some_iff.1 hx).1;obtain ⟨g,cap,hv,hcap,hg⟩:=A.form (by omega);rw [hv] at A;subst hv
 have hcell:∀ k u,x.cells[k]? = some u→w.cell? ⟨g,j*7+k,none⟩=some u:=fun k u hu=>by
  have hk:k<7:=by have:=(List.getElem?_eq_some_iff.1 hu).1;simpa [aG.cells] using this
  rw [A.cell _ (by omega)];exact oZ aa j x hx k u hu
 have d0:=hcell 0 _ rfl;have d1:=hcell 1 _ rfl;have d2:=hcell 2 _ rfl;have d3:=hcell 3 _ rfl;have d4:=hcell 4 _ rfl;have d5:=hcell 5 _ rfl;have d6:=hcell 6 _ rfl;simp only [Nat.add_zero] at d0
 have hmx:aa.length≤9223372036854775807:=by
  rcases A.2 with ⟨h0,_⟩ | ⟨g',cap',cur,hv',_,_,hc',hm,_⟩
  ·cases h0
  ·unfold maxLen at hm;omega
 obtain ⟨op,ref,p,a,b,deny,dp,dn,dc⟩:=c;obtain ⟨e,v,xp,xn,xc,xh,xl,xb,xf⟩:=x;simp only at h he hs;subst h;subst he;have hlt:(j:Int)<(aa.length:Int):=by omega
 have hr0:(((j:Int)+1) == 0)=false:=by rw [beq_eq_false_iff_ne];omega
 have hs':(v:Int)+(p:Int)≤18446744073709551615:=by omega
 unfold au.val;clear hcell A hx hcap hs
 go_enter Tryz.func38,Tryz.ntmps38
 go_wp2_with fail
 go_ret2
 exact ⟨by simp,((Touch.refl Nothing w).alloc _).alloc _⟩
def bV (v:Nat) (e:Int):aG:=if e=0 then ⟨0,v,none,0,0,0,0,0,0⟩ else ⟨e,0,none,0,0,0,0,0,0⟩
def aY (e:Int):aG:=⟨e,0,none,0,0,0,0,0,0⟩
theorem qN (v:Nat) (er:Int) (w:World):Calls Tryz.prog 87 #[.int .u64 v,.int .i64 er] w fun e w'=>e=.returned (bV v er).val∧Touch Nothing w w':=by
 have T0:=Hd (show Touch Nothing w (w.alloc (.cells #[.int .i64 0,.int .u64 0,.slice none 0 0,.int .u64 0,.int .u64 0,.int .i64 0,.int .i64 0] 38)) from (Touch.refl _ _).alloc _);by_cases h:er=0
 ·subst h
  go_enter Tryz.func87,Tryz.ntmps87
  go_wp2_with fail
  exact bodyPost_ret (v:=(bV v 0).val) (by simp [results,Tryz.results87,go_sem,bV,aG.val]) rfl ⟨rfl,(Touch.refl _ _).alloc _⟩
 ·have hne:(er != 0)=true:=by rw [bne_iff_ne];exact h
  have hN:bV v er=aY er:=by unfold bV aY;rw [if_neg h]
  rw [hN];have H:=Hd h;clear h hN
  go_enter Tryz.func87,Tryz.ntmps87
  go_wp2_with fail
  exact bodyPost_ret (v:=(aY er).val) (by simp [results,Tryz.results87,go_sem,aY,aG.val]) rfl ⟨rfl,(Touch.refl _ _).alloc _⟩
def jU (hb s pb:Nat) (K:ay) (β':Bu) (ps':List Int) (a0 an:aG) (W W1:World):Prop :=
 an=a0∧∃ K',ak 0 W1 hb s pb K' β' ps'∧K.Next W K'∧Touch (·∈hb::s::K.fp) W W1
theorem aK.out {w W w1 w2:World} {hb s pb b:Nat} {K:ay} {β β':Bu} {ps ps':List Int} {v:Value} {e:Ending} (R:ak 0 w hb s pb K β ps) (T0:Touch Nothing w W) (H:aK W hb s pb K β' ps' v e w1) (hb1:w.heap.size≤b) (hb2:b<W.heap.size) (T2:Touch (· = b) w1 w2) :
  ∃ K',ak 0 w2 hb s pb K' β' ps'∧K.Next w K'∧Touch (·∈hb::s::K.fp) w w2:=by
 obtain ⟨-,K',R1,N1,T1⟩:=H;have hl:=R.lt
 have hne:∀ k∈hb::s::pb::K'.fp,¬k=b:=by
  intro k hk e;simp only [List.mem_cons] at hk;rcases hk with h | h | h | h
  ·have:=hl k (by simp [h]);omega
  ·have:=hl k (by simp [h]);omega
  ·have:=hl k (by simp [h]);omega
  ·rcases N1.fresh k h with h | h
   ·have:=hl k (by simp [h]);omega
   ·omega
 have hg:=R.ko.size;refine ⟨K',R1.touch T2 hne (fun k hk e=>by omega),⟨N1.bb,N1.sb,N1.mb,fun k hk=>?_⟩,(T0.none_.trans T1).trans' T2 (fun i hi e=>by omega)⟩;rcases N1.fresh k hk with h | h
 ·exact .inl h
 ·exact .inr (Nat.le_trans T0.size h)
theorem bC.gB {w w':World} {hb s pb:Nat} {K:ay} {β:Bu} {ps:List Int} {v:Value} {e:Ending} (H:bC w hb s pb K β ps v e w'):aK w hb s pb K β ps v e w' :=
 ⟨H.1,K,H.2.1,ay.Next.refl _ _,H.2.2.mono (fun k _ h=>by simp [h])⟩
theorem aC.jq {w:World} {b:Nat} {t:TypeId} {z0 z1 z2 z3 z4 z5 z6:Value} (h:aC w b t [z0,z1,z2,z3,z4,z5,z6]):w.cell? ⟨b,0,none⟩=some z0∧w.frozen? ⟨b,0,none⟩=false∧w.cell? ⟨b,1,none⟩=some z1∧w.frozen? ⟨b,1,none⟩=false∧w.cell? ⟨b,2,none⟩=some z2∧w.frozen? ⟨b,2,none⟩=false∧w.cell? ⟨b,3,none⟩=some z3∧w.frozen? ⟨b,3,none⟩=false∧w.cell? ⟨b,4,none⟩=some z4∧w.frozen? ⟨b,4,none⟩=false∧w.cell? ⟨b,5,none⟩=some z5∧w.frozen? ⟨b,5,none⟩=false∧w.cell? ⟨b,6,none⟩=some z6∧w.frozen? ⟨b,6,none⟩=false :=
 ⟨h.cell 0,h.free 0,h.cell 1,h.free 1,h.cell 2,h.free 2,h.cell 3,h.free 3,h.cell 4,h.free 4,h.cell 5,h.free 5,h.cell 6,h.free 6⟩
theorem jr {w:World} {b:Nat} {t:TypeId} {e bl fr:Int} {v n c h l:Nat} {p:Option Addr} (H:Hid (aC w b t [.int .i64 e,.int .u64 v,.slice p n c,.int .u64 h,.int .u64 l,.int .i64 bl,.int .i64 fr])):w.cell? ⟨b,0,none⟩=some (.int .i64 e)∧w.cell? ⟨b,1,none⟩=some (.int .u64 v)∧w.cell? ⟨b,2,none⟩=some (.slice p n c)∧w.cell? ⟨b,3,none⟩=some (.int .u64 h)∧w.cell? ⟨b,4,none⟩=some (.int .u64 l)∧w.cell? ⟨b,5,none⟩=some (.int .i64 bl)∧w.cell? ⟨b,6,none⟩=some (.int .i64 fr) :=
 ⟨H.out.cell 0,H.out.cell 1,H.out.cell 2,H.out.cell 3,H.out.cell 4,H.out.cell 5,H.out.cell 6⟩
def iQ (w:World) (b:Nat) (an:aG):World :=
 ((((((w.setCell ⟨b,0,none⟩ (.int .i64 an.e)).setCell ⟨b,1,none⟩ (.int .u64 an.v)).setCell ⟨b,2,none⟩ (.slice an.dp an.dn an.dc)).setCell ⟨b,3,none⟩ (.int .u64 an.h)).setCell ⟨b,4,none⟩ (.int .u64 an.l)).setCell ⟨b,5,none⟩ (.int .i64 an.bl)).setCell ⟨b,6,none⟩ (.int .i64 an.fr)
theorem bJ (w:World) (b:Nat) (an:aG):Touch (· = b) w (iQ w b an) :=
 ((((((Touch.cellAt w b 0 _).trans (Touch.cellAt _ b 1 _)).trans (Touch.cellAt _ b 2 _)).trans (Touch.cellAt _ b 3 _)).trans (Touch.cellAt _ b 4 _)).trans (Touch.cellAt _ b 5 _)).trans (Touch.cellAt _ b 6 _)
theorem dz {w:World} {b:Nat} {z0 z1 z2 z3 z4 z5 z6:Value} (h:aC w b 38 [z0,z1,z2,z3,z4,z5,z6]) (an:aG):aC (iQ w b an) b 38 an.cells :=
 ((((((h.set 0 _).set 1 _).set 2 _).set 3 _).set 4 _).set 5 _).set 6 _
theorem oF {w:World} {hb s pb:Nat} {K:ay} {β β':Bu} {ps ps':List Int} (R:ak 0 w hb s pb K β ps) (c:au) (q p:Nat) (er:Int)
  (HM:∀ W,ak 0 W hb s pb K β ps→Calls Tryz.prog 88 #[.pointer (some ⟨hb,0,none⟩),.int .u64 c.a,.bool c.deny] W (aK W hb s pb K β' ps' (.tuple #[.int .u64 p,.int .i64 er]))) :
  Calls Tryz.prog 39 #[c.doer hb q] w fun e w'=>∃ an:aG,e=.returned an.val∧jU hb s pb K β' ps' (bV p er) an w w':=by
 obtain ⟨op,ref,pp,a,b,deny,dp,dn,dc⟩:=c;unfold au.doer at *;have T0:Touch Nothing w ((w.alloc (.cells #[.pointer (some ⟨hb,0,none⟩),.int .u64 q,.int .i64 op,.int .i64 ref,.int .u64 pp,.int .u64 a,.int .u64 b,.bool deny,.slice dp dn dc] 103)).alloc (.cells #[.int .i64 0,.int .u64 0,.slice none 0 0,.int .u64 0,.int .u64 0,.int .i64 0,.int .i64 0] 38)):=((Touch.refl _ w).alloc _).alloc _;have hsz:(w.alloc (.cells #[.pointer (some ⟨hb,0,none⟩),.int .u64 q,.int .i64 op,.int .i64 ref,.int .u64 pp,.int .u64 a,.int .u64 b,.bool deny,.slice dp dn dc] 103)).heap.size=w.heap.size+1:=by simp
 have R0:=aC.new (w.alloc (.cells #[.pointer (some ⟨hb,0,none⟩),.int .u64 q,.int .i64 op,.int .i64 ref,.int .u64 pp,.int .u64 a,.int .u64 b,.bool deny,.slice dp dn dc] 103)) #[.int .i64 0,.int .u64 0,.slice none 0 0,.int .u64 0,.int .u64 0,.int .i64 0,.int .i64 0] 38;rw [hsz] at R0;have iL:=Hd (HM _ (R.aj T0));have bG:=Hd R0;have HT0:=Hd T0;have HV:=Hd (qN p er);have HR:=Hd R;have hlt:=R.lt;have HL:=Hd hlt;clear R HM T0 R0 hsz hlt
 go_enter Tryz.func39,Tryz.ntmps39
 go_wp2_with fail
 generalize (w.alloc (.cells #[.pointer (some ⟨hb,0,none⟩),.int .u64 q,.int .i64 op,.int .i64 ref,.int .u64 pp,.int .u64 a,.int .u64 b,.bool deny,.slice dp dn dc] 103)).alloc (.cells #[.int .i64 0,.int .u64 0,.slice none 0 0,.int .u64 0,.int .u64 0,.int .i64 0,.int .i64 0] 38)=w1 at *;refine iL.out.mono ?_
 rintro e w2 hH;have HH:=Hd hH;obtain ⟨rfl,K',R2,N2,T2⟩:=hH
 have hnot:¬(w.heap.size+1∈hb::s::K.fp):=fun h=>by
  simp only [List.mem_cons] at h;rcases h with h | h | h
  ·have:=HL.out hb (by simp);omega
  ·have:=HL.out s (by simp);omega
  ·have:=HL.out (w.heap.size+1) (by simp [h]);omega
 have B2:=Hd (bG.out.touch T2 hnot);clear R2 N2 T2 hnot
 go_wp2_with fail
 refine (HV.out _).mono ?_
 rintro e w3 ⟨rfl,T3⟩;have R3:=B2.out.touch T3 (fun h=>h);have HT3:=Hd T3;obtain ⟨z0,f0,z1,f1,z2,f2,z3,f3,z4,f4,z5,f5,z6,f6⟩:=R3.jq;generalize hN:bV p er=an at *;have HN:=Hd hN;have HB:=Hd (dz R3 an);have bI:=Hd (bJ w3 (w.heap.size+1) an);clear R3 T3 hN;obtain ⟨ae,kM,fE,eB,adc,ah,al,gH,gI⟩:=an;unfold iQ at *;unfold aG.val at *
 go_wp2_with fail
 obtain ⟨y0,y1,y2,y3,y4,y5,y6⟩:=jr HB.out;exact bodyPost_ret (v:=.agg #[.int .i64 ae,.int .u64 kM,.slice fE eB adc,.int .u64 ah,.int .u64 al,.int .i64 gH,.int .i64 gI]) (by simp [results,Tryz.results39,go_sem,y0,y1,y2,y3,y4,y5,y6]) rfl ⟨⟨ae,kM,fE,eB,adc,ah,al,gH,gI⟩,rfl,HN.out.symm,aK.out HR.out HT0.out HH.out (by omega) bG.out.lt (HT3.out.none_.trans bI.out)⟩
end Go.Proofs.YtnjcmcnjgdjbiaaGreatDoor
