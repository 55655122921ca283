/- The numbers under which this program holds sync's lock, and that it holds it. Conditions: as each theorem states. -/
import Derived.Test.YtnjcmcnjgdjbiaaGreatDoorProg
import Derived.Conc.MuLone
import Derived.KernelRfl
import Derived.Test.YtnjcmcnjgdjbiaaGreatDoorCutPartAf
set_option maxRecDepth 100000
set_option maxHeartbeats 1000000
namespace Go.Proofs
abbrev Tryz.muLink : Go.Conc.Locks.MuLink := { lock := 58, unlock := 59, ilock := 108, iunlock := 109, lockSlow := 164, unlockSlow := 167, disable := 160, enable := 162, acquire := 163, relMerge := 165, cas32 := 161, add32 := 166, tMutex := 95, tIMutex := 93, tPMutex := 186, tPIMutex := 248, tPI32 := 250, tUP := 252, tNoCopy := 90, tU32 := 91 }
theorem Tryz.muLib : Go.Conc.Locks.MuLib Tryz.prog Tryz.muLink :=
 ⟨Tryz.func58, Tryz.func59, Tryz.func108, Tryz.func109, Tryz.func160, Tryz.func162, Tryz.func163, Tryz.func165, Tryz.func161, Tryz.func166, Tryz.underlying93, Tryz.runUnderlying93, Tryz.sizeOf93, Tryz.isAgg93, Tryz.zeroValue93, Tryz.underlying95, Tryz.runUnderlying95, Tryz.sizeOf95, Tryz.isAgg95, Tryz.zeroValue95, Tryz.underlying186, Tryz.runUnderlying186, Tryz.sizeOf186, Tryz.isAgg186, Tryz.zeroValue186, Tryz.underlying248, Tryz.runUnderlying248, Tryz.sizeOf248, Tryz.isAgg248, Tryz.zeroValue248, Tryz.underlying250, Tryz.runUnderlying250, Tryz.sizeOf250, Tryz.isAgg250, Tryz.zeroValue250, Tryz.underlying252, Tryz.runUnderlying252, Tryz.sizeOf252, Tryz.isAgg252, Tryz.zeroValue252, Tryz.underlying90, Tryz.runUnderlying90, Tryz.sizeOf90, Tryz.isAgg90, Tryz.zeroValue90, Tryz.underlying21, Tryz.runUnderlying21, Tryz.sizeOf21, Tryz.isAgg21, Tryz.zeroValue21, (by kernel_rfl)⟩
end Go.Proofs
namespace Go.Proofs.YtnjcmcnjgdjbiaaGreatDoor
open Go.RowKit
structure HpRep (m : Int) (w : World) (hb s pb : Nat) (K : BuL) (β : Bu) (ps : List Int) : Prop where
 blk : Blk w hb 97 [.int .i32 m, .int .u32 0, .int .u64 β.σ.base, .int .i64 β.σ.limit, .int .i64 β.μ.order, .pointer (some ⟨pb, 0, none⟩), .pointer (some ⟨s, 0, none⟩)]
 sl : SlRep w s pb K β ps
 apart : hb ∉ s :: pb :: K.fp
 glob : Glob w
 far : ∀ k ∈ hb :: s :: pb :: K.fp, 9 ≤ k
theorem HpRep.touch {m : Int} {w w' : World} {hb s pb : Nat} {K : BuL} {β : Bu} {ps : List Int} {S : Nat → Prop} (R : HpRep m w hb s pb K β ps) (T : Touch S w w') (h : ∀ k, k ∈ hb :: s :: pb :: K.fp → ¬ S k) (hg : ∀ k, k < 9 → ¬ S k) : HpRep m w' hb s pb K β ps :=
 ⟨R.blk.touch T (h _ (by simp)), R.sl.touch T (fun k hk => h k (List.mem_cons_of_mem _ hk)), R.apart, R.glob.touch T hg, R.far⟩
theorem HpRep.touch0 {m : Int} {w w' : World} {hb s pb : Nat} {K : BuL} {β : Bu} {ps : List Int} (R : HpRep m w hb s pb K β ps) (T : Touch Nothing w w') : HpRep m w' hb s pb K β ps := R.touch T (fun _ _ h => h) (fun _ _ h => h)
theorem HpRep.lt {m : Int} {w : World} {hb s pb : Nat} {K : BuL} {β : Bu} {ps : List Int} (R : HpRep m w hb s pb K β ps) : ∀ k ∈ hb :: s :: pb :: K.fp, k < w.heap.size := by
 intro k hk
 rcases List.mem_cons.1 hk with rfl | hk
 ·exact R.blk.lt
 ·exact R.sl.lt k hk
theorem HpRep.cells {m : Int} {w : World} {hb s pb : Nat} {K : BuL} {β : Bu} {ps : List Int} (R : HpRep m w hb s pb K β ps) :
  w.cell? ⟨hb, 0, none⟩ = some (.int .i32 m) ∧ w.cell? ⟨hb, 2, none⟩ = some (.int .u64 β.σ.base) ∧ w.cell? ⟨hb, 4, none⟩ = some (.int .i64 β.μ.order) ∧ w.cell? ⟨hb, 5, none⟩ = some (.pointer (some ⟨pb, 0, none⟩)) ∧ w.cell? ⟨hb, 6, none⟩ = some (.pointer (some ⟨s, 0, none⟩)) ∧ w.frozen? ⟨hb, 0, none⟩ = false :=
 ⟨R.blk.cell 0, R.blk.cell 2, R.blk.cell 4, R.blk.cell 5, R.blk.cell 6, R.blk.free 0⟩
theorem HpRep.locked {m : Int} {w : World} {hb s pb : Nat} {K : BuL} {β : Bu} {ps : List Int} (R : HpRep m w hb s pb K β ps) (m' : Int) : HpRep m' (w.setCell ⟨hb, 0, none⟩ (.int .i32 m')) hb s pb K β ps := by
 have T := Touch.cellAt w hb 0 (.int .i32 m')
 refine ⟨R.blk.set 0 _, R.sl.touch T (fun k hk e => R.apart (e ▸ hk)), R.apart, R.glob.touch T (fun k hk e => ?_), R.far⟩
 have := R.far hb (by simp)
 omega
theorem HpRep.next {m : Int} {w w' : World} {hb s pb : Nat} {K K' : BuL} {β β' : Bu} {ps ps' : List Int} (R : HpRep m w hb s pb K β ps) (T : Touch (· ∈ s :: K.fp) w w') (N : K.Next w K') (R' : SlRep w' s pb K' β' ps') (hσ : β'.σ.base = β.σ.base ∧ β'.σ.limit = β.σ.limit ∧ β'.μ.order = β.μ.order) : HpRep m w' hb s pb K' β' ps' := by
 have hs : ∀ k, k ∈ s :: K.fp → k ∈ s :: pb :: K.fp := fun k hk => by
  rcases List.mem_cons.1 hk with h | h
  ·simp [h]
  ·simp [h]
 have hb0 : hb ∉ s :: K.fp := fun h => R.apart (hs _ h)
 refine ⟨?_, R', fun h => ?_, R.glob.touch T (fun k hk h => ?_), fun k hk => ?_⟩
 ·rw [hσ.1, hσ.2.1, hσ.2.2]
  exact R.blk.touch T hb0
 ·simp only [List.mem_cons] at h
  rcases h with h | h | h
  ·exact R.apart (by simp [h])
  ·exact R.apart (by simp [h])
  ·rcases N.fresh hb h with h | h
   ·exact R.apart (by simp [h])
   ·have := R.blk.lt; omega
 ·have := R.far k (List.mem_cons_of_mem _ (hs k h))
  omega
 ·simp only [List.mem_cons] at hk
  rcases hk with h | h | h | h
  ·exact R.far k (by simp [h])
  ·exact R.far k (by simp [h])
  ·exact R.far k (by simp [h])
  ·rcases N.fresh k h with h | h
   ·exact R.far k (by simp [h])
   ·have := R.glob.size; omega
theorem HpRep.region_ {m : Int} {w : World} {hb s pb : Nat} {K : BuL} {β : Bu} {ps : List Int} (R : HpRep m w hb s pb K β ps) :
  Calls Tryz.prog 187 #[.pointer (some ⟨hb, 0, none⟩)] w fun e w' => e = .returned (.int .u64 (β.σ.size : Nat)) ∧ w = w' := by
 obtain ⟨-, -, c4, -, -, -⟩ := R.cells
 have ho := R.sl.po.bu.mp.ok.order
 have HW := Hd (wrap_size ho)
 have HZ := Hd R.sl.po.bu.ok.size
 have hmin : min β.μ.order 64 = β.μ.order := by omega
 clear R
 generalize β.μ.order = o at *
 go_enter Tryz.func187, Tryz.ntmps187
 go_wp2_with fail
 go_ret
 refine ⟨?_, rfl⟩
 show Ending.returned (.int .u64 (IntKind.u64.wrap (4096 * 2 ^ o))) = _
 rw [HW.out, HZ.out]
def roundN (region size align : Nat) : Nat × Int :=
 if isPow align = false then (0, 1) else if ceilN (max (max size align) 16) = 0 ∨ region < ceilN (max (max size align) 16) then (0, 3) else (ceilN (max (max size align) 16), 0)
def Rounded (w : World) (r : Nat × Int) (e : Ending) (w' : World) : Prop := e = .returned (.tuple #[.int .u64 r.1, .int .i64 r.2]) ∧ w = w'
theorem round_no {w : World} (hb : Nat) (size align : Nat) (h : align < 18446744073709551616) (hp : isPow align = false) :
  Calls Tryz.prog 135 #[.pointer (some ⟨hb, 0, none⟩), .int .u64 size, .int .u64 align] w (Rounded w (0, 1)) := by
 have HP := Hd (isPower_ align w h)
 rw [hp] at HP
 clear hp h
 go_enter Tryz.func135, Tryz.ntmps135
 go_wp2_with fail
 refine HP.out.mono ?_
 rintro e w' ⟨rfl, rfl⟩
 go_wp2_with fail
 go_ret2
 exact ⟨rfl, rfl⟩
theorem round_a0 {w : World} (hb size align r z : Nat) (b : Bool) (h : align < 18446744073709551616) (hp : isPow align = true) (q1 : size < align) (q2 : align < 16) (hf : b = false)
  (HC : Hid (Calls Tryz.prog 186 #[.int .u64 16] w fun e w' => e = .returned (.tuple #[.int .u64 r, .bool b]) ∧ w = w'))
  (_HG : Hid (Calls Tryz.prog 187 #[.pointer (some ⟨hb, 0, none⟩)] w fun e w' => e = .returned (.int .u64 z) ∧ w = w')) :
  Calls Tryz.prog 135 #[.pointer (some ⟨hb, 0, none⟩), .int .u64 size, .int .u64 align] w (Rounded w (0, 3)) := by
 have HP := Hd (isPower_ align w h)
 rw [hp] at HP
 subst hf
 clear hp h
 go_enter Tryz.func135, Tryz.ntmps135
 go_wp2_with fail
 refine HP.out.mono ?_
 rintro e w' ⟨rfl, rfl⟩
 go_wp2_with fail
 refine HC.out.mono ?_
 rintro e w' ⟨rfl, rfl⟩
 go_wp2_with fail
 go_ret2
 exact ⟨rfl, rfl⟩
theorem round_a1 {w : World} (hb size align r z : Nat) (b : Bool) (h : align < 18446744073709551616) (hp : isPow align = true) (q1 : size < align) (q2 : align < 16) (hf : b = true) (hlt : z < r)
  (HC : Hid (Calls Tryz.prog 186 #[.int .u64 16] w fun e w' => e = .returned (.tuple #[.int .u64 r, .bool b]) ∧ w = w'))
  (HG : Hid (Calls Tryz.prog 187 #[.pointer (some ⟨hb, 0, none⟩)] w fun e w' => e = .returned (.int .u64 z) ∧ w = w')) :
  Calls Tryz.prog 135 #[.pointer (some ⟨hb, 0, none⟩), .int .u64 size, .int .u64 align] w (Rounded w (0, 3)) := by
 have HP := Hd (isPower_ align w h)
 rw [hp] at HP
 subst hf
 clear hp h
 go_enter Tryz.func135, Tryz.ntmps135
 go_wp2_with fail
 refine HP.out.mono ?_
 rintro e w' ⟨rfl, rfl⟩
 go_wp2_with fail
 refine HC.out.mono ?_
 rintro e w' ⟨rfl, rfl⟩
 go_wp2_with fail
 refine HG.out.mono ?_
 rintro e w' ⟨rfl, rfl⟩
 go_wp2_with fail
 go_ret2
 exact ⟨rfl, rfl⟩
theorem round_a2 {w : World} (hb size align r z : Nat) (b : Bool) (h : align < 18446744073709551616) (hp : isPow align = true) (q1 : size < align) (q2 : align < 16) (hf : b = true) (hlt : ¬ z < r)
  (HC : Hid (Calls Tryz.prog 186 #[.int .u64 16] w fun e w' => e = .returned (.tuple #[.int .u64 r, .bool b]) ∧ w = w'))
  (HG : Hid (Calls Tryz.prog 187 #[.pointer (some ⟨hb, 0, none⟩)] w fun e w' => e = .returned (.int .u64 z) ∧ w = w')) :
  Calls Tryz.prog 135 #[.pointer (some ⟨hb, 0, none⟩), .int .u64 size, .int .u64 align] w (Rounded w (r, 0)) := by
 have HP := Hd (isPower_ align w h)
 rw [hp] at HP
 subst hf
 clear hp h
 go_enter Tryz.func135, Tryz.ntmps135
 go_wp2_with fail
 refine HP.out.mono ?_
 rintro e w' ⟨rfl, rfl⟩
 go_wp2_with fail
 refine HC.out.mono ?_
 rintro e w' ⟨rfl, rfl⟩
 go_wp2_with fail
 refine HG.out.mono ?_
 rintro e w' ⟨rfl, rfl⟩
 go_wp2_with fail
 go_ret2
 exact ⟨rfl, rfl⟩
theorem round_d0 {w : World} (hb size align r z : Nat) (b : Bool) (h : align < 18446744073709551616) (hp : isPow align = true) (q1 : ¬ size < align) (q2 : size < 16) (hf : b = false)
  (HC : Hid (Calls Tryz.prog 186 #[.int .u64 16] w fun e w' => e = .returned (.tuple #[.int .u64 r, .bool b]) ∧ w = w'))
  (_HG : Hid (Calls Tryz.prog 187 #[.pointer (some ⟨hb, 0, none⟩)] w fun e w' => e = .returned (.int .u64 z) ∧ w = w')) :
  Calls Tryz.prog 135 #[.pointer (some ⟨hb, 0, none⟩), .int .u64 size, .int .u64 align] w (Rounded w (0, 3)) := by
 have HP := Hd (isPower_ align w h)
 rw [hp] at HP
 subst hf
 clear hp h
 go_enter Tryz.func135, Tryz.ntmps135
 go_wp2_with fail
 refine HP.out.mono ?_
 rintro e w' ⟨rfl, rfl⟩
 go_wp2_with fail
 refine HC.out.mono ?_
 rintro e w' ⟨rfl, rfl⟩
 go_wp2_with fail
 go_ret2
 exact ⟨rfl, rfl⟩
theorem round_d1 {w : World} (hb size align r z : Nat) (b : Bool) (h : align < 18446744073709551616) (hp : isPow align = true) (q1 : ¬ size < align) (q2 : size < 16) (hf : b = true) (hlt : z < r)
  (HC : Hid (Calls Tryz.prog 186 #[.int .u64 16] w fun e w' => e = .returned (.tuple #[.int .u64 r, .bool b]) ∧ w = w'))
  (HG : Hid (Calls Tryz.prog 187 #[.pointer (some ⟨hb, 0, none⟩)] w fun e w' => e = .returned (.int .u64 z) ∧ w = w')) :
  Calls Tryz.prog 135 #[.pointer (some ⟨hb, 0, none⟩), .int .u64 size, .int .u64 align] w (Rounded w (0, 3)) := by
 have HP := Hd (isPower_ align w h)
 rw [hp] at HP
 subst hf
 clear hp h
 go_enter Tryz.func135, Tryz.ntmps135
 go_wp2_with fail
 refine HP.out.mono ?_
 rintro e w' ⟨rfl, rfl⟩
 go_wp2_with fail
 refine HC.out.mono ?_
 rintro e w' ⟨rfl, rfl⟩
 go_wp2_with fail
 refine HG.out.mono ?_
 rintro e w' ⟨rfl, rfl⟩
 go_wp2_with fail
 go_ret2
 exact ⟨rfl, rfl⟩
theorem round_d2 {w : World} (hb size align r z : Nat) (b : Bool) (h : align < 18446744073709551616) (hp : isPow align = true) (q1 : ¬ size < align) (q2 : size < 16) (hf : b = true) (hlt : ¬ z < r)
  (HC : Hid (Calls Tryz.prog 186 #[.int .u64 16] w fun e w' => e = .returned (.tuple #[.int .u64 r, .bool b]) ∧ w = w'))
  (HG : Hid (Calls Tryz.prog 187 #[.pointer (some ⟨hb, 0, none⟩)] w fun e w' => e = .returned (.int .u64 z) ∧ w = w')) :
  Calls Tryz.prog 135 #[.pointer (some ⟨hb, 0, none⟩), .int .u64 size, .int .u64 align] w (Rounded w (r, 0)) := by
 have HP := Hd (isPower_ align w h)
 rw [hp] at HP
 subst hf
 clear hp h
 go_enter Tryz.func135, Tryz.ntmps135
 go_wp2_with fail
 refine HP.out.mono ?_
 rintro e w' ⟨rfl, rfl⟩
 go_wp2_with fail
 refine HC.out.mono ?_
 rintro e w' ⟨rfl, rfl⟩
 go_wp2_with fail
 refine HG.out.mono ?_
 rintro e w' ⟨rfl, rfl⟩
 go_wp2_with fail
 go_ret2
 exact ⟨rfl, rfl⟩
theorem round_b0 {w : World} (hb size align r z : Nat) (b : Bool) (h : align < 18446744073709551616) (hp : isPow align = true) (q1 : size < align) (q2 : ¬ align < 16) (hf : b = false)
  (HC : Hid (Calls Tryz.prog 186 #[.int .u64 align] w fun e w' => e = .returned (.tuple #[.int .u64 r, .bool b]) ∧ w = w'))
  (_HG : Hid (Calls Tryz.prog 187 #[.pointer (some ⟨hb, 0, none⟩)] w fun e w' => e = .returned (.int .u64 z) ∧ w = w')) :
  Calls Tryz.prog 135 #[.pointer (some ⟨hb, 0, none⟩), .int .u64 size, .int .u64 align] w (Rounded w (0, 3)) := by
 have HP := Hd (isPower_ align w h)
 rw [hp] at HP
 subst hf
 clear hp h
 go_enter Tryz.func135, Tryz.ntmps135
 go_wp2_with fail
 refine HP.out.mono ?_
 rintro e w' ⟨rfl, rfl⟩
 go_wp2_with fail
 refine HC.out.mono ?_
 rintro e w' ⟨rfl, rfl⟩
 go_wp2_with fail
 go_ret2
 exact ⟨rfl, rfl⟩
theorem round_b1 {w : World} (hb size align r z : Nat) (b : Bool) (h : align < 18446744073709551616) (hp : isPow align = true) (q1 : size < align) (q2 : ¬ align < 16) (hf : b = true) (hlt : z < r)
  (HC : Hid (Calls Tryz.prog 186 #[.int .u64 align] w fun e w' => e = .returned (.tuple #[.int .u64 r, .bool b]) ∧ w = w'))
  (HG : Hid (Calls Tryz.prog 187 #[.pointer (some ⟨hb, 0, none⟩)] w fun e w' => e = .returned (.int .u64 z) ∧ w = w')) :
  Calls Tryz.prog 135 #[.pointer (some ⟨hb, 0, none⟩), .int .u64 size, .int .u64 align] w (Rounded w (0, 3)) := by
 have HP := Hd (isPower_ align w h)
 rw [hp] at HP
 subst hf
 clear hp h
 go_enter Tryz.func135, Tryz.ntmps135
 go_wp2_with fail
 refine HP.out.mono ?_
 rintro e w' ⟨rfl, rfl⟩
 go_wp2_with fail
 refine HC.out.mono ?_
 rintro e w' ⟨rfl, rfl⟩
 go_wp2_with fail
 refine HG.out.mono ?_
 rintro e w' ⟨rfl, rfl⟩
 go_wp2_with fail
 go_ret2
 exact ⟨rfl, rfl⟩
theorem round_b2 {w : World} (hb size align r z : Nat) (b : Bool) (h : align < 18446744073709551616) (hp : isPow align = true) (q1 : size < align) (q2 : ¬ align < 16) (hf : b = true) (hlt : ¬ z < r)
  (HC : Hid (Calls Tryz.prog 186 #[.int .u64 align] w fun e w' => e = .returned (.tuple #[.int .u64 r, .bool b]) ∧ w = w'))
  (HG : Hid (Calls Tryz.prog 187 #[.pointer (some ⟨hb, 0, none⟩)] w fun e w' => e = .returned (.int .u64 z) ∧ w = w')) :
  Calls Tryz.prog 135 #[.pointer (some ⟨hb, 0, none⟩), .int .u64 size, .int .u64 align] w (Rounded w (r, 0)) := by
 have HP := Hd (isPower_ align w h)
 rw [hp] at HP
 subst hf
 clear hp h
 go_enter Tryz.func135, Tryz.ntmps135
 go_wp2_with fail
 refine HP.out.mono ?_
 rintro e w' ⟨rfl, rfl⟩
 go_wp2_with fail
 refine HC.out.mono ?_
 rintro e w' ⟨rfl, rfl⟩
 go_wp2_with fail
 refine HG.out.mono ?_
 rintro e w' ⟨rfl, rfl⟩
 go_wp2_with fail
 go_ret2
 exact ⟨rfl, rfl⟩
theorem round_c0 {w : World} (hb size align r z : Nat) (b : Bool) (h : align < 18446744073709551616) (hp : isPow align = true) (q1 : ¬ size < align) (q2 : ¬ size < 16) (hf : b = false)
  (HC : Hid (Calls Tryz.prog 186 #[.int .u64 size] w fun e w' => e = .returned (.tuple #[.int .u64 r, .bool b]) ∧ w = w'))
  (_HG : Hid (Calls Tryz.prog 187 #[.pointer (some ⟨hb, 0, none⟩)] w fun e w' => e = .returned (.int .u64 z) ∧ w = w')) :
  Calls Tryz.prog 135 #[.pointer (some ⟨hb, 0, none⟩), .int .u64 size, .int .u64 align] w (Rounded w (0, 3)) := by
 have HP := Hd (isPower_ align w h)
 rw [hp] at HP
 subst hf
 clear hp h
 go_enter Tryz.func135, Tryz.ntmps135
 go_wp2_with fail
 refine HP.out.mono ?_
 rintro e w' ⟨rfl, rfl⟩
 go_wp2_with fail
 refine HC.out.mono ?_
 rintro e w' ⟨rfl, rfl⟩
 go_wp2_with fail
 go_ret2
 exact ⟨rfl, rfl⟩
theorem round_c1 {w : World} (hb size align r z : Nat) (b : Bool) (h : align < 18446744073709551616) (hp : isPow align = true) (q1 : ¬ size < align) (q2 : ¬ size < 16) (hf : b = true) (hlt : z < r)
  (HC : Hid (Calls Tryz.prog 186 #[.int .u64 size] w fun e w' => e = .returned (.tuple #[.int .u64 r, .bool b]) ∧ w = w'))
  (HG : Hid (Calls Tryz.prog 187 #[.pointer (some ⟨hb, 0, none⟩)] w fun e w' => e = .returned (.int .u64 z) ∧ w = w')) :
  Calls Tryz.prog 135 #[.pointer (some ⟨hb, 0, none⟩), .int .u64 size, .int .u64 align] w (Rounded w (0, 3)) := by
 have HP := Hd (isPower_ align w h)
 rw [hp] at HP
 subst hf
 clear hp h
 go_enter Tryz.func135, Tryz.ntmps135
 go_wp2_with fail
 refine HP.out.mono ?_
 rintro e w' ⟨rfl, rfl⟩
 go_wp2_with fail
 refine HC.out.mono ?_
 rintro e w' ⟨rfl, rfl⟩
 go_wp2_with fail
 refine HG.out.mono ?_
 rintro e w' ⟨rfl, rfl⟩
 go_wp2_with fail
 go_ret2
 exact ⟨rfl, rfl⟩
theorem round_c2 {w : World} (hb size align r z : Nat) (b : Bool) (h : align < 18446744073709551616) (hp : isPow align = true) (q1 : ¬ size < align) (q2 : ¬ size < 16) (hf : b = true) (hlt : ¬ z < r)
  (HC : Hid (Calls Tryz.prog 186 #[.int .u64 size] w fun e w' => e = .returned (.tuple #[.int .u64 r, .bool b]) ∧ w = w'))
  (HG : Hid (Calls Tryz.prog 187 #[.pointer (some ⟨hb, 0, none⟩)] w fun e w' => e = .returned (.int .u64 z) ∧ w = w')) :
  Calls Tryz.prog 135 #[.pointer (some ⟨hb, 0, none⟩), .int .u64 size, .int .u64 align] w (Rounded w (r, 0)) := by
 have HP := Hd (isPower_ align w h)
 rw [hp] at HP
 subst hf
 clear hp h
 go_enter Tryz.func135, Tryz.ntmps135
 go_wp2_with fail
 refine HP.out.mono ?_
 rintro e w' ⟨rfl, rfl⟩
 go_wp2_with fail
 refine HC.out.mono ?_
 rintro e w' ⟨rfl, rfl⟩
 go_wp2_with fail
 refine HG.out.mono ?_
 rintro e w' ⟨rfl, rfl⟩
 go_wp2_with fail
 go_ret2
 exact ⟨rfl, rfl⟩
theorem HpRep.round_ {m : Int} {w : World} {hb s pb : Nat} {K : BuL} {β : Bu} {ps : List Int} (R : HpRep m w hb s pb K β ps) (size align : Nat) (h1 : size < 18446744073709551616) (h2 : align < 18446744073709551616) :
  Calls Tryz.prog 135 #[.pointer (some ⟨hb, 0, none⟩), .int .u64 size, .int .u64 align] w (Rounded w (roundN β.σ.size size align)) := by
 unfold roundN
 cases hp : isPow align with
 | false => rw [if_pos rfl]; exact round_no hb size align h2 hp
 | true =>
  rw [if_neg (by simp)]
  have HG := Hd R.region_
  have hM : max (max size align) 16 < 18446744073709551616 := by omega
  have HC := ceil_ (max (max size align) 16) w hM
  obtain ⟨r, hr⟩ : ∃ r, ceilN (max (max size align) 16) = r := ⟨_, rfl⟩
  rw [hr] at HC ⊢
  rcases (show (size < align ∧ align < 16) ∨ (¬ size < align ∧ size < 16) ∨ (size < align ∧ ¬ align < 16) ∨ (¬ size < align ∧ ¬ size < 16) by omega) with ⟨q1, q2⟩ | ⟨q1, q2⟩ | ⟨q1, q2⟩ | ⟨q1, q2⟩
  ·rw [show max (max size align) 16 = 16 by omega] at HC
   by_cases h0 : r = 0
   ·rw [if_pos (.inl h0)]
    exact round_a0 hb size align r _ _ h2 hp q1 q2 (by simp [h0]) (Hd HC) HG
   ·by_cases hlt : β.σ.size < r
    ·rw [if_pos (.inr hlt)]
     exact round_a1 hb size align r _ _ h2 hp q1 q2 (by simp [h0]) hlt (Hd HC) HG
    ·rw [if_neg (by simp [h0, hlt])]
     exact round_a2 hb size align r _ _ h2 hp q1 q2 (by simp [h0]) hlt (Hd HC) HG
  ·rw [show max (max size align) 16 = 16 by omega] at HC
   by_cases h0 : r = 0
   ·rw [if_pos (.inl h0)]
    exact round_d0 hb size align r _ _ h2 hp q1 q2 (by simp [h0]) (Hd HC) HG
   ·by_cases hlt : β.σ.size < r
    ·rw [if_pos (.inr hlt)]
     exact round_d1 hb size align r _ _ h2 hp q1 q2 (by simp [h0]) hlt (Hd HC) HG
    ·rw [if_neg (by simp [h0, hlt])]
     exact round_d2 hb size align r _ _ h2 hp q1 q2 (by simp [h0]) hlt (Hd HC) HG
  ·rw [show max (max size align) 16 = align by omega] at HC
   by_cases h0 : r = 0
   ·rw [if_pos (.inl h0)]
    exact round_b0 hb size align r _ _ h2 hp q1 q2 (by simp [h0]) (Hd HC) HG
   ·by_cases hlt : β.σ.size < r
    ·rw [if_pos (.inr hlt)]
     exact round_b1 hb size align r _ _ h2 hp q1 q2 (by simp [h0]) hlt (Hd HC) HG
    ·rw [if_neg (by simp [h0, hlt])]
     exact round_b2 hb size align r _ _ h2 hp q1 q2 (by simp [h0]) hlt (Hd HC) HG
  ·rw [show max (max size align) 16 = size by omega] at HC
   by_cases h0 : r = 0
   ·rw [if_pos (.inl h0)]
    exact round_c0 hb size align r _ _ h2 hp q1 q2 (by simp [h0]) (Hd HC) HG
   ·by_cases hlt : β.σ.size < r
    ·rw [if_pos (.inr hlt)]
     exact round_c1 hb size align r _ _ h2 hp q1 q2 (by simp [h0]) hlt (Hd HC) HG
    ·rw [if_neg (by simp [h0, hlt])]
     exact round_c2 hb size align r _ _ h2 hp q1 q2 (by simp [h0]) hlt (Hd HC) HG
theorem order_q (r q : Nat) (v : Int) (w : World) (e : IntKind.u64.wrap ((r : Int) / 4096) = (q : Int)) (HL : Hid (Calls Tryz.prog 190 #[.int .u64 q] w fun e w' => e = .returned (.int .i64 v) ∧ w = w')) :
  Calls Tryz.prog 138 #[.int .u64 r] w fun e w' => e = .returned (.int .i64 v) ∧ w = w' := by
 go_enter Tryz.func138, Tryz.ntmps138
 go_wp2_with fail
 refine HL.out.mono ?_
 rintro e w' ⟨rfl, rfl⟩
 go_wp2_with fail
 go_ret
 exact ⟨rfl, rfl⟩
theorem class_q (r q : Nat) (v : Int) (w : World) (e : IntKind.u64.wrap ((r : Int) / 16) = (q : Int)) (HL : Hid (Calls Tryz.prog 190 #[.int .u64 q] w fun e w' => e = .returned (.int .i64 v) ∧ w = w')) :
  Calls Tryz.prog 192 #[.int .u64 r] w fun e w' => e = .returned (.int .i64 v) ∧ w = w' := by
 go_enter Tryz.func192, Tryz.ntmps192
 go_wp2_with fail
 refine HL.out.mono ?_
 rintro e w' ⟨rfl, rfl⟩
 go_wp2_with fail
 go_ret
 exact ⟨rfl, rfl⟩
theorem order_ (r : Nat) (w : World) (h : r < 18446744073709551616) :
  Calls Tryz.prog 138 #[.int .u64 r] w fun e w' => e = .returned (.int .i64 ((Lib.bitLen (r / 4096) : Int) - 1)) ∧ w = w' :=
 order_q r (r / 4096) _ w (by rw [show (r : Int) / 4096 = ((r / 4096 : Nat) : Int) by omega]; exact IntWalk.u64_in _ (by omega)) (Hd (log_ (r / 4096) w (by omega)))
theorem class_ (r : Nat) (w : World) (h : r < 18446744073709551616) :
  Calls Tryz.prog 192 #[.int .u64 r] w fun e w' => e = .returned (.int .i64 ((Lib.bitLen (r / 16) : Int) - 1)) ∧ w = w' :=
 class_q r (r / 16) _ w (by rw [show (r : Int) / 16 = ((r / 16 : Nat) : Int) by omega]; exact IntWalk.u64_in _ (by omega)) (Hd (log_ (r / 16) w (by omega)))
end Go.Proofs.YtnjcmcnjgdjbiaaGreatDoor
namespace Go.Proofs.YtnjcmcnjgdjbiaaGreatDoor
open Go.RowKit Go.MuLone
theorem step_call_list {P : Program} (w : World) {ops : Array Oper} {o : Oper} {a : Act} {K : Act → World → Prop} {Q : Exit → Act → World → Prop} {E : Prop} (hgd : o.guard = none) (f : FuncId) (xs : Array Operand) (ts : Array TypeId)
  (ho : o.op = .call { callee := .value (.func f), args := xs, argTypes := ts }) (us : Array Value) (hargs : xs.toList.map a.eval = us.toList) {Post : Ending → World → Prop}
  (hc : Calls P f us w Post) (hcf : (callFunc f us).run P w = .ok (.enter f us) w) (h : ∀ e w', Post e w' → ∃ r, e = .returned r ∧ K (a.put o.dst r) w') :
  if Region.wanted o (yielded ops a.tmps) = true then Oper.wp P o a w K Q else E :=
 step_call_post w hgd f xs ts ho us (by
  apply Array.toList_inj.1
  rw [Array.toList_map]
  exact hargs) hc hcf h
def TookAs (w : World) (p : Nat) (er : Int) (Q : World → World → Prop) (e : Ending) (w' : World) : Prop :=
 e = .returned (.tuple #[.int .u64 p, .int .i64 er]) ∧ ∃ W, Touch Nothing w W ∧ Q W w'
theorem take_small {w : World} (hb s r c p : Nat) (g deny : Bool) (er : Int) (Q : World → World → Prop) (c6 : w.cell? ⟨hb, 6, none⟩ = some (.pointer (some ⟨s, 0, none⟩))) (hr : (r : Int) < 4096) (hc : (Lib.bitLen (r / 16) : Int) - 1 = c)
  (HT : ∀ W, Touch Nothing w W → Calls Tryz.prog 191 #[.pointer (some ⟨s, 0, none⟩), .int .i64 c, .bool deny] W fun e w' => e = .returned (.tuple #[.int .u64 p, .bool g, .int .i64 er]) ∧ Q W w') :
  Calls Tryz.prog 139 #[.pointer (some ⟨hb, 0, none⟩), .int .u64 r, .bool deny] w (TookAs w p er Q) := by
 have HTk := Hd (fun k => HT (w.drewN k) ((Touch.refl Nothing w).drewN k))
 have HC := Hd (fun W => class_ r W (by omega))
 rw [hc] at HC
 have hcf : ∀ (us : Array Value) (W : World), (callFunc 191 us).run Tryz.prog W = .ok (.enter 191 us) W := fun us W => by simp [go_sem]
 have hcf2 : ∀ (us : Array Value) (W : World), (callFunc 192 us).run Tryz.prog W = .ok (.enter 192 us) W := fun us W => by simp [go_sem]
 have HCF := Hd hcf
 have HCF2 := Hd hcf2
 clear hcf hcf2 HT hc
 go_enter Tryz.func139, Tryz.ntmps139
 go_wp2_with fail
 go_region_law (first | (refine step_call_list _ (by rfl) 192 #[.tmp 21] #[33] (by rfl) #[.int .u64 r] (by rfl) (HC.out _) (HCF2.out _ _) ?_; rintro e w1 ⟨rfl, rfl⟩; refine ⟨_, rfl, ?_⟩) | (refine step_call_list _ (by rfl) 191 #[.tmp 20, .tmp 22, .tmp 23] #[87, 3, 4] (by rfl) #[.pointer (some ⟨s, 0, none⟩), .int .i64 c, .bool deny] (by rfl) (HTk.out 1) (HCF.out _ _) ?_; rintro e w1 ⟨rfl, hQ⟩; refine ⟨_, rfl, ?_⟩; have HQ := Hd hQ; clear hQ))
 all_goals
  go_wp2_with fail
  go_ret2
  exact ⟨rfl, _, (Touch.refl Nothing w).drewN 1, HQ.out⟩
theorem take_big {w : World} (hb pb r o p : Nat) (g deny : Bool) (er : Int) (Q : World → World → Prop) (c5 : w.cell? ⟨hb, 5, none⟩ = some (.pointer (some ⟨pb, 0, none⟩))) (hr : (4096 : Int) ≤ r) (hr2 : r ≤ 1048576) (hc : (Lib.bitLen (r / 4096) : Int) - 1 = o)
  (HT : ∀ W, Touch Nothing w W → Calls Tryz.prog 193 #[.pointer (some ⟨pb, 0, none⟩), .int .i64 o, .bool deny] W fun e w' => e = .returned (.tuple #[.int .u64 p, .bool g, .int .i64 er]) ∧ Q W w') :
  Calls Tryz.prog 139 #[.pointer (some ⟨hb, 0, none⟩), .int .u64 r, .bool deny] w (TookAs w p er Q) := by
 have HTk := Hd (fun k => HT (w.drewN k) ((Touch.refl Nothing w).drewN k))
 have HC := Hd (fun W => order_ r W (by omega))
 rw [hc] at HC
 have hcf : ∀ (us : Array Value) (W : World), (callFunc 193 us).run Tryz.prog W = .ok (.enter 193 us) W := fun us W => by simp [go_sem]
 have hcf2 : ∀ (us : Array Value) (W : World), (callFunc 138 us).run Tryz.prog W = .ok (.enter 138 us) W := fun us W => by simp [go_sem]
 have HCF := Hd hcf
 have HCF2 := Hd hcf2
 clear hcf hcf2 HT hc
 go_enter Tryz.func139, Tryz.ntmps139
 go_wp2_with fail
 go_region_law (first | (refine step_call_list _ (by rfl) 138 #[.tmp 35] #[33] (by rfl) #[.int .u64 r] (by rfl) (HC.out _) (HCF2.out _ _) ?_; rintro e w1 ⟨rfl, rfl⟩; refine ⟨_, rfl, ?_⟩) | (refine step_call_list _ (by rfl) 193 #[.tmp 34, .tmp 36, .tmp 37] #[84, 3, 4] (by rfl) #[.pointer (some ⟨pb, 0, none⟩), .int .i64 o, .bool deny] (by rfl) (HTk.out 1) (HCF.out _ _) ?_; rintro e w1 ⟨rfl, hQ⟩; refine ⟨_, rfl, ?_⟩; have HQ := Hd hQ; clear hQ))
 all_goals
  go_wp2_with fail
  go_ret2
  exact ⟨rfl, _, (Touch.refl Nothing w).drewN 1, HQ.out⟩
def Did (w : World) (v : Value) (Q : World → World → Prop) (e : Ending) (w' : World) : Prop :=
 e = .returned v ∧ ∃ W W1 b, Touch Nothing w W ∧ Q W W1 ∧ w.heap.size ≤ b ∧ b < W.heap.size ∧ Touch (· = b) W1 w'
theorem malloc_ok {w : World} (hb size align r p : Nat) (deny : Bool) (Q : World → World → Prop) (S : Nat → Prop) (hS : ∀ k, S k → k < w.heap.size) (hQ : ∀ W W1, Q W W1 → Touch S W W1)
  (HR : Hid (∀ W, Touch Nothing w W → Calls Tryz.prog 135 #[.pointer (some ⟨hb, 0, none⟩), .int .u64 size, .int .u64 align] W (Rounded W (r, 0))))
  (HT : Hid (∀ W, Touch Nothing w W → Calls Tryz.prog 139 #[.pointer (some ⟨hb, 0, none⟩), .int .u64 r, .bool deny] W (TookAs W p 0 Q))) :
  Calls Tryz.prog 133 #[.pointer (some ⟨hb, 0, none⟩), .int .u64 size, .int .u64 align, .bool deny] w (Did w (.tuple #[.agg #[.int .u64 p, .int .u64 r], .int .i64 0]) Q) := by
 have T0 := Hd (show Touch Nothing w (w.alloc (.cells #[.int .u64 0, .int .u64 0] 71)) from (Touch.refl _ _).alloc _)
 have B0 := Hd (Blk.new w #[.int .u64 0, .int .u64 0] 71)
 have HS := Hd hS
 have HQS := Hd hQ
 clear hS hQ
 go_enter Tryz.func133, Tryz.ntmps133
 go_wp2_with fail
 refine (HR.out _ T0.out).mono ?_
 rintro e w1 ⟨rfl, rfl⟩
 go_wp2_with fail
 refine (HT.out _ T0.out).mono ?_
 rintro e w2 ⟨rfl, W, T1, hQ⟩
 have B2 := (B0.out.touch T1 (fun h => h)).touch (HQS.out _ _ hQ) (fun h => by have := HS.out _ h; omega)
 have c0 := B2.cell 0
 have c1 := B2.cell 1
 have f0 := B2.free 0
 have f1 := B2.free 1
 have HB3 := Hd ((B2.set 0 (.int .u64 p)).set 1 (.int .u64 r))
 have hlt := Hd ((B0.out.touch T1 (fun h => h)).lt)
 have HT1 := Hd T1
 have HQ := Hd hQ
 clear B2 T1 hQ
 simp at c0 c1
 go_wp2_with fail
 have d0 := HB3.out.cell 0
 have d1 := HB3.out.cell 1
 simp at d0 d1
 have T3 := (Touch.cellAt w2 w.heap.size 0 (.int .u64 p)).trans (Touch.cellAt (w2.setCell ⟨w.heap.size, 0, none⟩ (.int .u64 p)) w.heap.size 1 (.int .u64 r))
 exact bodyPost_ret (v := .tuple #[.agg #[.int .u64 p, .int .u64 r], .int .i64 0]) (by simp [results, Tryz.results133, go_sem, d0, d1]) rfl ⟨rfl, W, w2, w.heap.size, T0.out.trans HT1.out, HQ.out, Nat.le_refl _, hlt.out, T3⟩
theorem malloc_take {w : World} (hb size align r : Nat) (er : Int) (deny : Bool) (her : er ≠ 0) (Q : World → World → Prop) (S : Nat → Prop) (hS : ∀ k, S k → k < w.heap.size) (hQ : ∀ W W1, Q W W1 → Touch S W W1)
  (HR : Hid (∀ W, Touch Nothing w W → Calls Tryz.prog 135 #[.pointer (some ⟨hb, 0, none⟩), .int .u64 size, .int .u64 align] W (Rounded W (r, 0))))
  (HT : Hid (∀ W, Touch Nothing w W → Calls Tryz.prog 139 #[.pointer (some ⟨hb, 0, none⟩), .int .u64 r, .bool deny] W (TookAs W 0 er Q))) :
  Calls Tryz.prog 133 #[.pointer (some ⟨hb, 0, none⟩), .int .u64 size, .int .u64 align, .bool deny] w (Did w (.tuple #[.agg #[.int .u64 0, .int .u64 0], .int .i64 er]) Q) := by
 have T0 := Hd (show Touch Nothing w (w.alloc (.cells #[.int .u64 0, .int .u64 0] 71)) from (Touch.refl _ _).alloc _)
 have B0 := Hd (Blk.new w #[.int .u64 0, .int .u64 0] 71)
 have HS := Hd hS
 have HQS := Hd hQ
 have hne : (er != 0) = true := by rw [bne_iff_ne]; exact her
 clear hS hQ her
 go_enter Tryz.func133, Tryz.ntmps133
 go_wp2_with fail
 refine (HR.out _ T0.out).mono ?_
 rintro e w1 ⟨rfl, rfl⟩
 go_wp2_with fail
 refine (HT.out _ T0.out).mono ?_
 rintro e w2 ⟨rfl, W, T1, hQ⟩
 have B2 := (B0.out.touch T1 (fun h => h)).touch (HQS.out _ _ hQ) (fun h => by have := HS.out _ h; omega)
 have c0 := B2.cell 0
 have c1 := B2.cell 1
 have f0 := B2.free 0
 have f1 := B2.free 1
 have HB3 := Hd ((B2.set 0 (.int .u64 0)).set 1 (.int .u64 0))
 have hlt := Hd ((B0.out.touch T1 (fun h => h)).lt)
 have HT1 := Hd T1
 have HQ := Hd hQ
 clear B2 T1 hQ
 simp at c0 c1
 go_wp2_with fail
 have d0 := HB3.out.cell 0
 have d1 := HB3.out.cell 1
 simp at d0 d1
 have T3 := (Touch.cellAt w2 w.heap.size 0 (.int .u64 0)).trans (Touch.cellAt (w2.setCell ⟨w.heap.size, 0, none⟩ (.int .u64 0)) w.heap.size 1 (.int .u64 0))
 exact bodyPost_ret (v := .tuple #[.agg #[.int .u64 0, .int .u64 0], .int .i64 er]) (by simp [results, Tryz.results133, go_sem, d0, d1]) rfl ⟨rfl, W, w2, w.heap.size, T0.out.trans HT1.out, HQ.out, Nat.le_refl _, hlt.out, T3⟩
def QSl (s pb : Nat) (K : BuL) (β' : Bu) (ps' : List Int) (W W1 : World) : Prop := ∃ K', SlRep W1 s pb K' β' ps' ∧ K.Next W K' ∧ Touch (· ∈ s :: K.fp) W W1
theorem Did.hp {m : Int} {w w' : World} {hb s pb : Nat} {K : BuL} {β β' : Bu} {ps ps' : List Int} {v : Value} {e : Ending} (R : HpRep m w hb s pb K β ps) (D : Did w v (QSl s pb K β' ps') e w') (hσ : β'.σ.base = β.σ.base ∧ β'.σ.limit = β.σ.limit ∧ β'.μ.order = β.μ.order) :
  ∃ K', HpRep m w' hb s pb K' β' ps' ∧ K.Next w K' ∧ Touch (· ∈ s :: K.fp) w w' := by
 obtain ⟨rfl, W, W1, b, T0, ⟨K', S1, N1, T1⟩, hb1, hb2, T2⟩ := D
 have R1 := (R.touch0 T0).next T1 N1 S1 hσ
 have hs := T0.size
 have hne : ∀ k ∈ hb :: s :: pb :: K'.fp, ¬ k = b := by
  intro k hk e
  simp only [List.mem_cons] at hk
  have hl := R.lt
  rcases hk with h | h | h | h
  ·have := hl k (by simp [h]); omega
  ·have := hl k (by simp [h]); omega
  ·have := hl k (by simp [h]); omega
  ·rcases N1.fresh k h with h | h
   ·have := hl k (by simp [h]); omega
   ·omega
 have hg := R.glob.size
 refine ⟨K', R1.touch T2 hne (fun k hk e => by omega), ⟨N1.bb, N1.sb, N1.mb, fun k hk => ?_⟩, (T0.none_.trans T1).trans' T2 (fun i hi e => by omega)⟩
 rcases N1.fresh k hk with h | h
 ·exact .inl h
 ·exact .inr (Nat.le_trans hs h)
def Heaped (w : World) (hb s pb : Nat) (K : BuL) (β' : Bu) (ps' : List Int) (v : Value) (e : Ending) (w' : World) : Prop :=
 e = .returned v ∧ ∃ K', HpRep 0 w' hb s pb K' β' ps' ∧ K.Next w K' ∧ Touch (· ∈ hb :: s :: K.fp) w w'
theorem HpRep.unlocked {w w1 w2 : World} {hb s pb : Nat} {K K' : BuL} {β' : Bu} {ps' : List Int} {v : Value} (hw1 : w1 = w.setCell ⟨hb, 0, none⟩ (.int .i32 1))
  (R2 : HpRep 1 w2 hb s pb K' β' ps') (N : K.Next w1 K') (T : Touch (· ∈ s :: K.fp) w1 w2) :
  Heaped w hb s pb K β' ps' v (.returned v) (w2.setCell ⟨hb, 0, none⟩ (.int .i32 0)) := by
 subst hw1
 refine ⟨rfl, K', R2.locked 0, ⟨N.bb, N.sb, N.mb, fun k hk => ?_⟩, ?_⟩
 ·rcases N.fresh k hk with h | h
  ·exact .inl h
  ·exact .inr (by simpa [World.setCell] using h)
 ·exact (((Touch.cellAt w hb 0 _).mono (fun k _ h => by simp [h])).trans (T.mono (fun k _ h => List.mem_cons_of_mem _ h))).trans ((Touch.cellAt w2 hb 0 _).mono (fun k _ h => by simp [h]))
theorem HpRep.aligned_ {w : World} {hb s pb : Nat} {K : BuL} {β β' : Bu} {ps ps' : List Int} (R : HpRep 0 w hb s pb K β ps) (size align p r : Nat) (er : Int) (deny : Bool) (hσ : β'.σ.base = β.σ.base ∧ β'.σ.limit = β.σ.limit ∧ β'.μ.order = β.μ.order)
  (HM : ∀ W, HpRep 1 W hb s pb K β ps → Calls Tryz.prog 133 #[.pointer (some ⟨hb, 0, none⟩), .int .u64 size, .int .u64 align, .bool deny] W (Did W (.tuple #[.agg #[.int .u64 p, .int .u64 r], .int .i64 er]) (QSl s pb K β' ps'))) :
  Calls Tryz.prog 90 #[.pointer (some ⟨hb, 0, none⟩), .int .u64 align, .int .u64 size, .bool deny] w (Heaped w hb s pb K β' ps' (.tuple #[.int .u64 p, .int .i64 er])) := by
 obtain ⟨c0, -, -, -, -, f0⟩ := R.cells
 have R1 := R.locked 1
 have HM1 := Hd (HM _ R1)
 have HR1 := Hd R1
 have HS := Hd hσ
 clear R HM R1 hσ
 go_enter_defers Tryz.func90, Tryz.ntmps90
 go_wp2_with (go_at_call 58; refine (lock_free Tryz.muLib ⟨hb, 0, none⟩ _ c0 f0).mono ?_; rintro e w' ⟨rfl, rfl⟩)
 generalize hw1 : w.setCell ⟨hb, 0, none⟩ (.int .i32 1) = w1 at *
 refine HM1.out.mono ?_
 rintro e w2 hD
 obtain ⟨K', R2, N2, T2⟩ := Did.hp HR1.out hD HS.out
 obtain ⟨rfl, -⟩ := hD
 have HW1 := Hd hw1
 have HR2 := Hd R2
 have HN2 := Hd N2
 have HT2 := Hd T2
 have hm := R2.cells.1
 have fm := R2.cells.2.2.2.2.2
 clear hw1 R2 N2 T2 c0 f0
 go_wp2
 have T3 : Touch Nothing w2 (w2.alloc (.cells #[.int .u64 p, .int .u64 r] 71)) := (Touch.refl _ _).alloc _
 have R3 := HR2.out.touch0 T3
 refine leaves_cons (f := 59) (args := #[.pointer (some ⟨hb, 0, none⟩)]) (by simp) (by simp [go_sem]) ?_
 refine (unlock_deferred Tryz.muLib ⟨hb, 0, none⟩ .returning _ ?_ ?_).mono ?_
 ·exact R3.cells.1
 ·exact R3.cells.2.2.2.2.2
 rintro e u' w'' ⟨rfl, rfl, rfl⟩
 exact ⟨_, results_tmp2 rfl _ _ _, HpRep.unlocked HW1.out.symm R3 HN2.out (HT2.out.trans T3.none_)⟩
theorem HpRep.malloc_ {w : World} {hb s pb : Nat} {K : BuL} {β β' : Bu} {ps ps' : List Int} (R : HpRep 0 w hb s pb K β ps) (size p r : Nat) (er : Int) (deny : Bool) (hσ : β'.σ.base = β.σ.base ∧ β'.σ.limit = β.σ.limit ∧ β'.μ.order = β.μ.order)
  (HM : ∀ W, HpRep 1 W hb s pb K β ps → Calls Tryz.prog 133 #[.pointer (some ⟨hb, 0, none⟩), .int .u64 size, .int .u64 1, .bool deny] W (Did W (.tuple #[.agg #[.int .u64 p, .int .u64 r], .int .i64 er]) (QSl s pb K β' ps'))) :
  Calls Tryz.prog 88 #[.pointer (some ⟨hb, 0, none⟩), .int .u64 size, .bool deny] w (Heaped w hb s pb K β' ps' (.tuple #[.int .u64 p, .int .i64 er])) := by
 have HA := Hd (R.aligned_ size 1 p r er deny hσ HM)
 clear R HM hσ
 go_enter Tryz.func88, Tryz.ntmps88
 go_wp2_with fail
 refine HA.out.mono ?_
 rintro e w1 ⟨rfl, hH⟩
 have HH := Hd hH
 clear hH
 go_wp2_with fail
 go_ret2
 exact ⟨rfl, HH.out⟩
end Go.Proofs.YtnjcmcnjgdjbiaaGreatDoor
namespace Go.Proofs.YtnjcmcnjgdjbiaaGreatDoor
open Go.RowKit
def Blocked (w : World) (P size : Nat) (b : Bool) (e : Ending) (w' : World) : Prop :=
 e = .returned (.tuple #[.agg #[.int .u64 P, .int .u64 size], .bool b]) ∧ Touch Nothing w w'
theorem HpRep.block_lo {m : Int} {w : World} {hb s pb : Nat} {K : BuL} {β : Bu} {ps : List Int} (R : HpRep m w hb s pb K β ps) (p : Nat) (h : p < β.σ.base) :
  Calls Tryz.prog 110 #[.pointer (some ⟨hb, 0, none⟩), .int .u64 p] w (Blocked w 0 0 false) := by
 have T0 := Hd (show Touch Nothing w (w.alloc (.cells #[.int .u64 0, .int .u64 0] 71)) from (Touch.refl _ _).alloc _)
 obtain ⟨-, c2, -, -, -, -⟩ := R.cells
 have hlt : hb < w.heap.size := R.blk.lt
 clear R
 go_enter Tryz.func110, Tryz.ntmps110
 go_wp2_with fail
 exact bodyPost_ret (v := .tuple #[.agg #[.int .u64 0, .int .u64 0], .bool false]) (by simp [results, Tryz.results110, go_sem]) rfl ⟨rfl, T0.out⟩
theorem block_slab_cells (hb pb sb mb base p i c wd a P d o4 cell q r x : Nat) (b : Bool) (pg : Pg) (w : World)
  (c2 : w.cell? ⟨hb, 2, none⟩ = some (.int .u64 base)) (c5 : w.cell? ⟨hb, 5, none⟩ = some (.pointer (some ⟨pb, 0, none⟩))) (lhb : hb < w.heap.size) (E : Nat) (h1 : ¬ (p < base)) (h2 : p < E)
  (hS : ∀ W, Touch Nothing w W → Calls Tryz.prog 60 #[.pointer (some ⟨pb, 0, none⟩)] W fun e w' => e = .returned (.pointer (some ⟨sb, 0, none⟩)) ∧ W = w')
  (hE : ∀ W, Touch Nothing w W → Calls Tryz.prog 61 #[.pointer (some ⟨sb, 0, none⟩)] W fun e w' => e = .returned (.int .u64 E) ∧ ∃ k, w' = W.drewN k)
  (hM : ∀ W, Touch Nothing w W → Calls Tryz.prog 63 #[.pointer (some ⟨pb, 0, none⟩)] W fun e w' => e = .returned (.pointer (some ⟨mb, 0, none⟩)) ∧ W = w')
  (hA : ∀ W, Touch Nothing w W → Calls Tryz.prog 65 #[.pointer (some ⟨mb, 0, none⟩), .int .i64 i] W fun e w' => e = .returned (.tuple #[pg.val, .bool true]) ∧ Touch Nothing W w')
  (hk : pg.kind = 4) (hc : pg.cls = c) (hmin : min c 64 = c) (hwd : IntKind.u64.wrap (16 * 2 ^ c) = (wd : Int)) (hwd0 : ¬ (wd : Int) = 0)
  (e1 : (p : Int) - base = (d : Nat)) (e1' : (d : Int) / 4096 = i) (hi : i ≤ 1023) (hp : p ≤ 18446744073709551615)
  (e2 : (p : Int) / wd = a) (ha : a ≤ p) (e3 : (a : Int) * wd = P) (hP : P ≤ p) (e4 : (P : Int) % 4096 = o4) (_ho4 : o4 < 4096) (e5 : (o4 : Int) / wd = cell) (hcell : cell < 256)
  (r1 : (cell : Int) / 64 = q) (r2 : (cell : Int) % 64 = r) (r3 : (cell : Int).tmod 64 = r) (hq : (q : Int) < 4) (_hr : r < 64) (hx : pg.word q = x) (hbt : (bits .and .u64 ((x : Int) / 2 ^ r) 1 == 1) = b) :
  Calls Tryz.prog 110 #[.pointer (some ⟨hb, 0, none⟩), .int .u64 p] w (Blocked w P wd b) := by
 have T0 := Hd (show Touch Nothing w (w.alloc (.cells #[.int .u64 0, .int .u64 0] 71)) from (Touch.refl _ _).alloc _)
 have HS := Hd hS
 have HE := Hd hE
 have HM := Hd hM
 have HA := Hd hA
 clear hS hE hM hA
 go_enter Tryz.func110, Tryz.ntmps110
 go_wp2_with fail
 refine (HS.out _ T0.out).mono ?_
 rintro e w1 ⟨rfl, rfl⟩
 go_wp2_with fail
 refine (HE.out _ T0.out).mono ?_
 rintro e w1 ⟨rfl, k1, rfl⟩
 go_wp2_with fail
 have T1 : Touch Nothing w ((w.alloc (.cells #[.int .u64 0, .int .u64 0] 71)).drewN k1) := T0.out.drewN k1
 have B1 := (Blk.new w #[.int .u64 0, .int .u64 0] 71).drewN k1
 have d5 : ((w.alloc (.cells #[.int .u64 0, .int .u64 0] 71)).drewN k1).cell? ⟨hb, 5, none⟩ = some (.pointer (some ⟨pb, 0, none⟩)) := (T1.cell (p := ⟨hb, 5, none⟩) lhb (fun h => h)).trans c5
 refine (HM.out _ T1).mono ?_
 rintro e w2 ⟨rfl, rfl⟩
 have HT1 := Hd T1
 have HB1 := Hd B1
 clear T1 B1
 go_wp2_with fail
 refine (HA.out _ HT1.out).mono ?_
 rintro e w2 ⟨rfl, T2⟩
 have B2 := HB1.out.touch T2 (fun h => h)
 have f0 := B2.free 0
 have f1 := B2.free 1
 have b0 := B2.cell 0
 have b1 := B2.cell 1
 have lb : w.heap.size < w2.heap.size := B2.lt
 have HB2 := Hd B2
 have HT2 := Hd (HT1.out.trans T2)
 simp at b0 b1
 clear B2 T2 d5
 unfold Pg.val
 go_wp2_with fail
 have B3 := (Blk.new w2 #[.int .i64 4, .int .i64 pg.order, .int .i64 c, .int .i64 pg.live, .int .i64 pg.next, .int .i64 pg.prev, .int .i64 pg.first, .int .u64 pg.b0, .int .u64 pg.b1, .int .u64 pg.b2, .int .u64 pg.b3] 128).alloc (.cells #[.int .u64 P, .int .u64 wd] 71)
 have B4 := Blk.new (w2.alloc (.cells #[.int .i64 4, .int .i64 pg.order, .int .i64 c, .int .i64 pg.live, .int .i64 pg.next, .int .i64 pg.prev, .int .i64 pg.first, .int .u64 pg.b0, .int .u64 pg.b1, .int .u64 pg.b2, .int .u64 pg.b3] 128)) #[.int .u64 P, .int .u64 wd] 71
 have T4 := ((Touch.refl Nothing w2).alloc (.cells #[.int .i64 4, .int .i64 pg.order, .int .i64 c, .int .i64 pg.live, .int .i64 pg.next, .int .i64 pg.prev, .int .i64 pg.first, .int .u64 pg.b0, .int .u64 pg.b1, .int .u64 pg.b2, .int .u64 pg.b3] 128)).alloc (.cells #[.int .u64 P, .int .u64 wd] 71)
 have hxc : ((w2.alloc (.cells #[.int .i64 4, .int .i64 pg.order, .int .i64 c, .int .i64 pg.live, .int .i64 pg.next, .int .i64 pg.prev, .int .i64 pg.first, .int .u64 pg.b0, .int .u64 pg.b1, .int .u64 pg.b2, .int .u64 pg.b3] 128)).alloc (.cells #[.int .u64 P, .int .u64 wd] 71)).cell? ⟨w2.heap.size, 7 + q, none⟩ = some (.int .u64 x) := by
  rw [B3.cell]
  have := pg.word_cell q (by omega)
  rw [hx] at this
  simpa [Pg.cells, hk, hc] using this
 have hz1 : (w2.alloc (.cells #[.int .i64 4, .int .i64 pg.order, .int .i64 c, .int .i64 pg.live, .int .i64 pg.next, .int .i64 pg.prev, .int .i64 pg.first, .int .u64 pg.b0, .int .u64 pg.b1, .int .u64 pg.b2, .int .u64 pg.b3] 128)).heap.size = w2.heap.size + 1 := by simp
 have g0 : ((w2.alloc (.cells #[.int .i64 4, .int .i64 pg.order, .int .i64 c, .int .i64 pg.live, .int .i64 pg.next, .int .i64 pg.prev, .int .i64 pg.first, .int .u64 pg.b0, .int .u64 pg.b1, .int .u64 pg.b2, .int .u64 pg.b3] 128)).alloc (.cells #[.int .u64 P, .int .u64 wd] 71)).cell? ⟨w2.heap.size + 1, 0, none⟩ = some (.int .u64 P) := by
  rw [← hz1]
  exact B4.cell 0
 have g1 : ((w2.alloc (.cells #[.int .i64 4, .int .i64 pg.order, .int .i64 c, .int .i64 pg.live, .int .i64 pg.next, .int .i64 pg.prev, .int .i64 pg.first, .int .u64 pg.b0, .int .u64 pg.b1, .int .u64 pg.b2, .int .u64 pg.b3] 128)).alloc (.cells #[.int .u64 P, .int .u64 wd] 71)).cell? ⟨w2.heap.size + 1, 1, none⟩ = some (.int .u64 wd) := by
  rw [← hz1]
  exact B4.cell 1
 clear hz1
 have z0 : ((w2.alloc (.cells #[.int .i64 4, .int .i64 pg.order, .int .i64 c, .int .i64 pg.live, .int .i64 pg.next, .int .i64 pg.prev, .int .i64 pg.first, .int .u64 pg.b0, .int .u64 pg.b1, .int .u64 pg.b2, .int .u64 pg.b3] 128)).alloc (.cells #[.int .u64 P, .int .u64 wd] 71)).cell? ⟨w.heap.size, 0, none⟩ = some (.int .u64 0) := (T4.cell (p := ⟨w.heap.size, 0, none⟩) lb (fun h => h)).trans b0
 have z1 : ((w2.alloc (.cells #[.int .i64 4, .int .i64 pg.order, .int .i64 c, .int .i64 pg.live, .int .i64 pg.next, .int .i64 pg.prev, .int .i64 pg.first, .int .u64 pg.b0, .int .u64 pg.b1, .int .u64 pg.b2, .int .u64 pg.b3] 128)).alloc (.cells #[.int .u64 P, .int .u64 wd] 71)).cell? ⟨w.heap.size, 1, none⟩ = some (.int .u64 0) := (T4.cell (p := ⟨w.heap.size, 1, none⟩) lb (fun h => h)).trans b1
 have y0 : ((w2.alloc (.cells #[.int .i64 4, .int .i64 pg.order, .int .i64 c, .int .i64 pg.live, .int .i64 pg.next, .int .i64 pg.prev, .int .i64 pg.first, .int .u64 pg.b0, .int .u64 pg.b1, .int .u64 pg.b2, .int .u64 pg.b3] 128)).alloc (.cells #[.int .u64 P, .int .u64 wd] 71)).frozen? ⟨w.heap.size, 0, none⟩ = false := (T4.frozen (p := ⟨w.heap.size, 0, none⟩) lb (fun h => h)).trans f0
 have y1 : ((w2.alloc (.cells #[.int .i64 4, .int .i64 pg.order, .int .i64 c, .int .i64 pg.live, .int .i64 pg.next, .int .i64 pg.prev, .int .i64 pg.first, .int .u64 pg.b0, .int .u64 pg.b1, .int .u64 pg.b2, .int .u64 pg.b3] 128)).alloc (.cells #[.int .u64 P, .int .u64 wd] 71)).frozen? ⟨w.heap.size, 1, none⟩ = false := (T4.frozen (p := ⟨w.heap.size, 1, none⟩) lb (fun h => h)).trans f1
 have HT4 := Hd (HT2.out.trans T4)
 have HB5 := Hd (((HB2.out.touch T4 (fun h => h)).set 0 (.int .u64 P)).set 1 (.int .u64 wd))
 generalize hW : (w2.alloc (.cells #[.int .i64 4, .int .i64 pg.order, .int .i64 c, .int .i64 pg.live, .int .i64 pg.next, .int .i64 pg.prev, .int .i64 pg.first, .int .u64 pg.b0, .int .u64 pg.b1, .int .u64 pg.b2, .int .u64 pg.b3] 128)).alloc (.cells #[.int .u64 P, .int .u64 wd] 71) = w4 at *
 clear hW B3 B4 T4 b0 b1 f0 f1 e2 e3 e4 e5 c2 c5
 go_region
 all_goals
  have d0 := HB5.out.drew.cell 0
  have d1 := HB5.out.drew.cell 1
  simp at d0 d1
  go_wp2_with fail
  have T5 : Touch (· = w.heap.size) w4 ((w4.setCell ⟨w.heap.size, 0, none⟩ (.int .u64 P)).setCell ⟨w.heap.size, 1, none⟩ (.int .u64 wd)).drew := ((Touch.cellAt w4 w.heap.size 0 (.int .u64 P)).trans (Touch.cellAt _ w.heap.size 1 (.int .u64 wd))).drew
  exact bodyPost_ret (v := .tuple #[.agg #[.int .u64 P, .int .u64 wd], .bool b]) (by simp [results, Tryz.results110, go_sem, d0, d1]) rfl ⟨rfl, HT4.out.trans' T5 (fun i hi e => by omega)⟩
structure InSlab (β : Bu) (p i c : Nat) (pg : Pg) : Prop where
 page : β.μ.pages[i]? = some pg
 kind : pg.kind = 4
 cls : pg.cls = c
 lo : β.σ.base ≤ p
 at_ : (p - β.σ.base) / 4096 = i
theorem InSlab.facts {β : Bu} {p i c : Nat} {pg : Pg} (h : InSlab β p i c pg) (o : β.ok) (so : β.σ.ok) (mo : β.μ.ok) :
  c ≤ 7 ∧ p < β.σ.base + β.σ.size * β.σ.n ∧ i ≤ 1023 ∧ p ≤ 18446744073709551615 ∧ p / wdOf c * wdOf c % 4096 / wdOf c < 256 ∧ p / wdOf c * wdOf c % 4096 / wdOf c < cellsN c := by
 have hlt := (List.getElem?_eq_some_iff.1 h.page).1
 have hcl := (mo.page pg (List.mem_of_getElem? h.page)).cls
 rw [h.cls] at hcl
 have hc : c ≤ 7 := by omega
 have hH := o.has (i := i) (off := (p - β.σ.base) % 4096) (n := 1) hlt (by omega) (by omega)
 have hp : β.addr i + (p - β.σ.base) % 4096 = p := by
  have := h.at_
  have := h.lo
  unfold Bu.addr
  omega
 have ht := hH.top so
 rw [hp] at ht
 have hl := mo.len
 have h64 := so.le64
 obtain ⟨w1, w2, w3, w4, w5, w6⟩ := wd_facts (show c < 8 by omega)
 have hd : p / wdOf c * wdOf c % 4096 / wdOf c < 4096 / wdOf c := by
  refine (Nat.div_lt_iff_lt_mul (by omega)).2 ?_
  rw [w3]
  exact Nat.mod_lt _ (by omega)
 exact ⟨hc, by omega, by omega, by omega, by omega, by rw [← w6]; exact hd⟩
def cellAt (p c : Nat) : Nat := p / wdOf c * wdOf c % 4096 / wdOf c
theorem HpRep.block_slab {m : Int} {w : World} {hb s pb : Nat} {K : BuL} {β : Bu} {ps : List Int} (R : HpRep m w hb s pb K β ps) (p i c : Nat) {pg : Pg} (h : InSlab β p i c pg) :
  Calls Tryz.prog 110 #[.pointer (some ⟨hb, 0, none⟩), .int .u64 p] w (Blocked w (p / wdOf c * wdOf c) (wdOf c) (pg.bit (cellAt p c))) := by
 obtain ⟨hc, hE, hi, hp, hcell, _⟩ := h.facts R.sl.po.bu.ok R.sl.po.bu.sp.ok R.sl.po.bu.mp.ok
 obtain ⟨w1, w2, w3, w4, w5, w6⟩ := wd_facts (show c < 8 by omega)
 obtain ⟨-, c2, -, c5, -, -⟩ := R.cells
 have hlo := h.lo
 have hat := h.at_
 have hle : p / wdOf c * wdOf c ≤ p := Nat.div_mul_le_self _ _
 have hal : p / wdOf c ≤ p := Nat.div_le_self _ _
 have po := R.sl.po.bu.mp.ok.page pg (List.mem_of_getElem? h.page)
 have hq : cellAt p c / 64 < 4 := by unfold cellAt; omega
 refine block_slab_cells hb pb K.L.sb K.M.mb β.σ.base p i c (wdOf c) (p / wdOf c) (p / wdOf c * wdOf c) (p - β.σ.base) (p / wdOf c * wdOf c % 4096) (cellAt p c) (cellAt p c / 64) (cellAt p c % 64) (pg.word (cellAt p c / 64)) (pg.bit (cellAt p c)) pg w c2 c5 R.blk.lt _ (by omega) hE
  ?_ ?_ ?_ ?_ h.kind h.cls (by omega) ?_ (by omega) (by omega) (by omega) hi hp ?_ hal (by push_cast; rfl) hle (by omega) (Nat.mod_lt _ (by omega)) ?_ hcell (by omega) (by omega) ?_ (by omega) (Nat.mod_lt _ (by omega)) rfl ?_
 ·intro W T
  exact (R.sl.po.touch0 T).space_
 ·intro W T
  exact (R.sl.po.touch0 T).bu.sp.end_
 ·intro W T
  exact (R.sl.po.touch0 T).map_
 ·intro W T
  exact (R.sl.po.touch0 T).bu.mp.at_ h.page
 ·have : (16 * 2 ^ c : Int) = ((wdOf c : Nat) : Int) := by unfold wdOf; push_cast; rfl
  rw [this]
  exact IntWalk.u64_in _ (by omega)
 ·exact (Int.natCast_ediv _ _).symm
 ·exact (Int.natCast_ediv _ _).symm
 ·exact (Int.ofNat_tmod _ _).symm
 ·exact bit_test _ _ (po.word_lt _ hq)
end Go.Proofs.YtnjcmcnjgdjbiaaGreatDoor
namespace Go.Proofs.YtnjcmcnjgdjbiaaGreatDoor
open Go.RowKit Go.MuLone
theorem within_no {w : World} (hb p n P size : Nat)
  (HB : Calls Tryz.prog 110 #[.pointer (some ⟨hb, 0, none⟩), .int .u64 p] w (Blocked w P size false)) :
  Calls Tryz.prog 66 #[.pointer (some ⟨hb, 0, none⟩), .int .u64 p, .int .u64 n] w fun e w' => e = .returned (.bool false) ∧ Touch Nothing w w' := by
 have H := Hd HB
 clear HB
 go_enter Tryz.func66, Tryz.ntmps66
 go_wp2_with fail
 refine H.out.mono ?_
 rintro e w1 ⟨rfl, T1⟩
 have HT := Hd T1
 clear T1
 go_wp2_with fail
 go_ret
 exact ⟨rfl, HT.out.alloc _⟩
theorem within_yes {w : World} (hb p n P size : Nat) (_h1 : P ≤ p) (h2 : p < P + size) (h3 : P + size ≤ 18446744073709551615)
  (HB : Calls Tryz.prog 110 #[.pointer (some ⟨hb, 0, none⟩), .int .u64 p] w (Blocked w P size true)) :
  Calls Tryz.prog 66 #[.pointer (some ⟨hb, 0, none⟩), .int .u64 p, .int .u64 n] w fun e w' => e = .returned (.bool (decide (n ≤ P + size - p))) ∧ Touch Nothing w w' := by
 have H := Hd HB
 have hd : decide (n ≤ P + size - p) = decide ((n : Int) ≤ (P : Int) + size - p) := by rw [decide_eq_decide]; omega
 rw [hd]
 clear HB hd
 go_enter Tryz.func66, Tryz.ntmps66
 go_wp2_with fail
 refine H.out.mono ?_
 rintro e w1 ⟨rfl, T1⟩
 have HT := Hd T1
 clear T1
 go_wp2_with fail
 go_ret
 exact ⟨by simp, HT.out.alloc _⟩
theorem HpRep.within_slab {m : Int} {w : World} {hb s pb : Nat} {K : BuL} {β : Bu} {ps : List Int} (R : HpRep m w hb s pb K β ps) (p n i c : Nat) {pg : Pg} (h : InSlab β p i c pg) :
  Calls Tryz.prog 66 #[.pointer (some ⟨hb, 0, none⟩), .int .u64 p, .int .u64 n] w fun e w' => e = .returned (.bool (pg.bit (cellAt p c) && decide (n ≤ p / wdOf c * wdOf c + wdOf c - p))) ∧ Touch Nothing w w' := by
 have HB := R.block_slab p i c h
 obtain ⟨hc, hE, hi, hp, hcell, _⟩ := h.facts R.sl.po.bu.ok R.sl.po.bu.sp.ok R.sl.po.bu.mp.ok
 obtain ⟨w1, w2, w3, w4, w5, w6⟩ := wd_facts (show c < 8 by omega)
 cases hbit : pg.bit (cellAt p c) with
 | false =>
  rw [hbit] at HB
  exact within_no hb p n _ _ HB
 | true =>
  rw [hbit] at HB
  have h1 := Nat.div_mul_le_self p (wdOf c)
  have h2 := Nat.div_add_mod p (wdOf c)
  have h3 := Nat.mod_lt p (show 0 < wdOf c by omega)
  rw [Nat.mul_comm] at h2
  have hlt := (List.getElem?_eq_some_iff.1 h.page).1
  have htop := R.sl.po.bu.ok.addr_top R.sl.po.bu.sp.ok hlt
  have hat := h.at_
  have hlo := h.lo
  have hbase := R.sl.po.bu.ok.base
  refine (within_yes hb p n _ _ h1 (by omega) ?_ HB).mono ?_
  ·unfold Bu.addr at htop
   have hm : p < β.σ.base + 4096 * i + 4096 := by omega
   omega
  ·rintro e w' ⟨rfl, T⟩
   exact ⟨by simp, T⟩
def Looked (w : World) (hb s pb : Nat) (K : BuL) (β : Bu) (ps : List Int) (v : Value) (e : Ending) (w' : World) : Prop :=
 e = .returned v ∧ HpRep 0 w' hb s pb K β ps ∧ Touch (· = hb) w w'
theorem HpRep.relock {w w1 w2 : World} {hb s pb : Nat} {K : BuL} {β : Bu} {ps : List Int} {v : Value} (hw1 : w1 = w.setCell ⟨hb, 0, none⟩ (.int .i32 1)) (R1 : HpRep 1 w1 hb s pb K β ps) (T : Touch Nothing w1 w2) :
  Looked w hb s pb K β ps v (.returned v) (w2.setCell ⟨hb, 0, none⟩ (.int .i32 0)) := by
 subst hw1
 exact ⟨rfl, (R1.touch0 T).locked 0, ((Touch.cellAt w hb 0 _).trans T.none_).trans (Touch.cellAt w2 hb 0 _)⟩
theorem HpRep.read_fault {w : World} {hb s pb : Nat} {K : BuL} {β : Bu} {ps : List Int} (R : HpRep 0 w hb s pb K β ps) (p n : Nat) (hn : n ≠ 0)
  (HW : ∀ W, HpRep 1 W hb s pb K β ps → Calls Tryz.prog 66 #[.pointer (some ⟨hb, 0, none⟩), .int .u64 p, .int .u64 n] W fun e w' => e = .returned (.bool false) ∧ Touch Nothing W w') :
  Calls Tryz.prog 28 #[.pointer (some ⟨hb, 0, none⟩), .int .u64 p, .int .u64 n] w (Looked w hb s pb K β ps (.tuple #[.slice none 0 0, .int .i64 4])) := by
 obtain ⟨c0, -, -, -, -, f0⟩ := R.cells
 have R1 := R.locked 1
 have HM1 := Hd (HW _ R1)
 have HR1 := Hd R1
 have hne := int_ne0 hn
 clear R HW R1 hn
 go_enter_defers Tryz.func28, Tryz.ntmps28
 go_wp2_with (go_at_call 58; refine (lock_free Tryz.muLib ⟨hb, 0, none⟩ _ c0 f0).mono ?_; rintro e w' ⟨rfl, rfl⟩)
 generalize hw1 : w.setCell ⟨hb, 0, none⟩ (.int .i32 1) = w1 at *
 refine HM1.out.mono ?_
 rintro e w2 ⟨rfl, T2⟩
 have HW1 := Hd hw1
 have HT2 := Hd T2
 have R2 := HR1.out.touch0 T2
 have hm := R2.cells.1
 have fm := R2.cells.2.2.2.2.2
 clear hw1 R2 T2 c0 f0
 go_wp2
 refine leaves_cons (f := 59) (args := #[.pointer (some ⟨hb, 0, none⟩)]) (by simp) (by simp [go_sem]) ?_
 refine (unlock_deferred Tryz.muLib ⟨hb, 0, none⟩ .returning _ hm fm).mono ?_
 rintro e u' w'' ⟨rfl, rfl, rfl⟩
 exact ⟨_, results_tmp2 rfl _ _ _, HpRep.relock HW1.out.symm HR1.out HT2.out⟩
def ReadAs (w : World) (hb s pb : Nat) (K : BuL) (β : Bu) (ps : List Int) (n : Nat) (bs : List Value) (e : Ending) (w' : World) : Prop :=
 ∃ g, w.heap.size ≤ g ∧ Blk w' g 5 bs ∧ Looked w hb s pb K β ps (.tuple #[.slice (some ⟨g, 0, none⟩) n n, .int .i64 0]) e w'
theorem HpRep.read_ok {w : World} {hb s pb : Nat} {K : BuL} {β : Bu} {ps : List Int} (R : HpRep 0 w hb s pb K β ps) (p n : Nat) (H : β.σ.has p n)
  (HW : ∀ W, HpRep 1 W hb s pb K β ps → Calls Tryz.prog 66 #[.pointer (some ⟨hb, 0, none⟩), .int .u64 p, .int .u64 n] W fun e w' => e = .returned (.bool true) ∧ Touch Nothing W w') :
  Calls Tryz.prog 28 #[.pointer (some ⟨hb, 0, none⟩), .int .u64 p, .int .u64 n] w (ReadAs w hb s pb K β ps n (β.σ.bytes p n)) := by
 obtain ⟨c0, -, -, -, -, f0⟩ := R.cells
 have R1 := R.locked 1
 have HM1 := Hd (HW _ R1)
 have HR1 := Hd R1
 have hne := int_ne0 (show n ≠ 0 by have := H.pos; omega)
 have HH := Hd H
 have HL := Hd R.lt
 clear R HW R1 H
 go_enter_defers Tryz.func28, Tryz.ntmps28
 go_wp2_with (go_at_call 58; refine (lock_free Tryz.muLib ⟨hb, 0, none⟩ _ c0 f0).mono ?_; rintro e w' ⟨rfl, rfl⟩)
 generalize hw1 : w.setCell ⟨hb, 0, none⟩ (.int .i32 1) = w1 at *
 refine HM1.out.mono ?_
 rintro e w2 ⟨rfl, T2⟩
 have HW1 := Hd hw1
 have HT2 := Hd T2
 have R2 := HR1.out.touch0 T2
 have hm := R2.cells.1
 have fm := R2.cells.2.2.2.2.2
 have c5 := R2.cells.2.2.2.1
 have HSp := Hd R2.sl.po.space_
 have HRd := Hd (R2.sl.po.bu.sp.read_ p n HH.out)
 clear hw1 R2 T2 c0 f0 hm fm
 go_wp2_with fail
 refine HSp.out.mono ?_
 rintro e w3 ⟨rfl, rfl⟩
 go_wp2_with fail
 refine HRd.out.mono ?_
 rintro e w3 ⟨g, rfl, hg, hB, T3⟩
 have HT3 := Hd (HT2.out.trans T3)
 have R3 := HR1.out.touch0 HT3.out
 have HG := Hd hg
 have HB := Hd hB
 have hm := R3.cells.1
 have fm := R3.cells.2.2.2.2.2
 clear R3 T3 c5 hB hg
 go_wp2
 refine leaves_cons (f := 59) (args := #[.pointer (some ⟨hb, 0, none⟩)]) (by simp) (by simp [go_sem]) ?_
 refine (unlock_deferred Tryz.muLib ⟨hb, 0, none⟩ .returning _ hm fm).mono ?_
 rintro e u' w'' ⟨rfl, rfl, rfl⟩
 have hsz : w.heap.size ≤ w2.heap.size := by
  have h1 := HT2.out.size
  have h2 := HW1.out
  subst h2
  simpa [World.setCell] using h1
 have hne2 : ¬ hb = g := by
  have := HL.out hb (by simp)
  have := HG.out
  omega
 exact ⟨_, results_tmp2 rfl _ _ _, g, Nat.le_trans hsz HG.out, HB.out.touch (Touch.cellAt w3 hb 0 _) (fun e => hne2 e.symm), HpRep.relock HW1.out.symm HR1.out HT3.out⟩
theorem HpRep.read_none {w : World} {hb s pb : Nat} {K : BuL} {β : Bu} {ps : List Int} (R : HpRep 0 w hb s pb K β ps) (p : Nat) :
  Calls Tryz.prog 28 #[.pointer (some ⟨hb, 0, none⟩), .int .u64 p, .int .u64 0] w (Looked w hb s pb K β ps (.tuple #[.slice none 0 0, .int .i64 0])) := by
 obtain ⟨c0, -, -, -, -, f0⟩ := R.cells
 have R1 := R.locked 1
 have HR1 := Hd R1
 have hm := R1.cells.1
 have fm := R1.cells.2.2.2.2.2
 clear R R1
 go_enter_defers Tryz.func28, Tryz.ntmps28
 go_wp2_with (go_at_call 58; refine (lock_free Tryz.muLib ⟨hb, 0, none⟩ _ c0 f0).mono ?_; rintro e w' ⟨rfl, rfl⟩)
 refine leaves_cons (f := 59) (args := #[.pointer (some ⟨hb, 0, none⟩)]) (by simp) (by simp [go_sem]) ?_
 refine (unlock_deferred Tryz.muLib ⟨hb, 0, none⟩ .returning _ hm fm).mono ?_
 rintro e u' w'' ⟨rfl, rfl, rfl⟩
 exact ⟨_, results_tmp2 rfl _ _ _, HpRep.relock rfl HR1.out (Touch.refl _ _)⟩
theorem HpRep.write_ok {w : World} {hb s pb : Nat} {K : BuL} {β : Bu} {ps : List Int} (R : HpRep 0 w hb s pb K β ps) (p n c : Nat) (bs : List Nat) (ad : Addr) (H : β.σ.has p n) (hn : bs.length = n) (hnc : n ≤ c) (hbs : ∀ x ∈ bs, x < 256)
  (had : ad.block < w.heap.size) (hne : ad.block ≠ hb) (hsrc : ∀ j v, (u8s bs)[j]? = some v → w.cell? (ad.add j) = some v)
  (HW : ∀ W, HpRep 1 W hb s pb K β ps → Calls Tryz.prog 66 #[.pointer (some ⟨hb, 0, none⟩), .int .u64 p, .int .u64 n] W fun e w' => e = .returned (.bool true) ∧ Touch Nothing W w') :
  Calls Tryz.prog 97 #[.pointer (some ⟨hb, 0, none⟩), .int .u64 p, .slice (some ad) n c] w (Heaped w hb s pb K { β with σ := β.σ.put p bs } ps (.int .i64 0)) := by
 obtain ⟨c0, -, -, -, -, f0⟩ := R.cells
 have R1 := R.locked 1
 have HM1 := Hd (HW _ R1)
 have HR1 := Hd R1
 have hn1048 := H.le R.sl.po.bu.sp.ok
 have hne0 := int_ne0 (show n ≠ 0 by have := H.pos; omega)
 have HH := Hd H
 have HN := Hd (And.intro hn (And.intro hnc hbs))
 have hT1 : Touch (· = hb) w (w.setCell ⟨hb, 0, none⟩ (.int .i32 1)) := Touch.cellAt _ _ _ _
 have HAd := Hd (show ad.block < (w.setCell ⟨hb, 0, none⟩ (.int .i32 1)).heap.size from Nat.lt_of_lt_of_le had hT1.size)
 have hadd : ∀ j, (ad.add j).block = ad.block := fun j => by unfold Addr.add; split <;> rfl
 have HSr := Hd (show ∀ j v, (u8s bs)[j]? = some v → (w.setCell ⟨hb, 0, none⟩ (.int .i32 1)).cell? (ad.add j) = some v from fun j v hj => by
  rw [hT1.cell (p := ad.add j) (by rw [hadd]; exact had) (by rw [hadd]; exact hne)]
  exact hsrc j v hj)
 have HA := Hd hadd
 clear R HW R1 H hn hnc hbs had hne hsrc hT1 hadd
 go_enter_defers Tryz.func97, Tryz.ntmps97
 go_wp2_with (go_at_call 58; refine (lock_free Tryz.muLib ⟨hb, 0, none⟩ _ c0 f0).mono ?_; rintro e w' ⟨rfl, rfl⟩)
 generalize hw1 : w.setCell ⟨hb, 0, none⟩ (.int .i32 1) = w1 at *
 refine HM1.out.mono ?_
 rintro e w2 ⟨rfl, T2⟩
 have HW1 := Hd hw1
 have HT2 := Hd T2
 have R2 := HR1.out.touch0 T2
 have c5 := R2.cells.2.2.2.1
 have HSp := Hd R2.sl.po.space_
 have hsrc2 : ∀ j v, (u8s bs)[j]? = some v → w2.cell? (ad.add j) = some v := fun j v hj => (T2.cell (by rw [HA.out]; exact HAd.out) (fun h => h)).trans (HSr.out j v hj)
 have HWr := Hd (R2.sl.po.bu.sp.write_ p n c bs ad HH.out HN.out.1 HN.out.2.1 HN.out.2.2 (Nat.lt_of_lt_of_le HAd.out T2.size) hsrc2)
 have HR2 := Hd R2
 clear hw1 R2 T2 c0 f0 hsrc2
 go_wp2_with fail
 refine HSp.out.mono ?_
 rintro e w3 ⟨rfl, rfl⟩
 go_wp2_with fail
 refine HWr.out.mono ?_
 rintro e w3 ⟨rfl, r3, t3⟩
 obtain ⟨b3, T3⟩ := HR2.out.sl.po.bu.bytes r3 t3 (Sp.put_same _ _ _)
 have S3 := HR2.out.sl.next T3 (BuL.Next.refl _ _) b3
 have R3 := HR2.out.next (T3.mono (fun b _ hb => List.mem_cons_of_mem _ hb)) (BuL.Next.refl _ _) S3 ⟨rfl, rfl, rfl⟩
 have HR3 := Hd R3
 have HT3 := Hd T3
 have hm := R3.cells.1
 have fm := R3.cells.2.2.2.2.2
 clear r3 t3 b3 T3 S3 R3 c5
 go_wp2
 refine leaves_cons (f := 59) (args := #[.pointer (some ⟨hb, 0, none⟩)]) (by simp) (by simp [go_sem]) ?_
 refine (unlock_deferred Tryz.muLib ⟨hb, 0, none⟩ .returning _ hm fm).mono ?_
 rintro e u' w'' ⟨rfl, rfl, rfl⟩
 exact ⟨_, results_tmp rfl _ _ _, HpRep.unlocked HW1.out.symm HR3.out (BuL.Next.refl _ _) (HT2.out.none_.trans (HT3.out.mono (fun b _ hb => List.mem_cons_of_mem _ hb)))⟩
theorem HpRep.load_fault {w : World} {hb s pb : Nat} {K : BuL} {β : Bu} {ps : List Int} (R : HpRep 0 w hb s pb K β ps) (p : Nat)
  (HW : ∀ W, HpRep 1 W hb s pb K β ps → Calls Tryz.prog 66 #[.pointer (some ⟨hb, 0, none⟩), .int .u64 p, .int .u64 1] W fun e w' => e = .returned (.bool false) ∧ Touch Nothing W w') :
  Calls Tryz.prog 93 #[.pointer (some ⟨hb, 0, none⟩), .int .u64 p] w (Looked w hb s pb K β ps (.tuple #[.int .u8 0, .int .i64 4])) := by
 have HR := Hd (R.read_fault p 1 (by omega) HW)
 clear R HW
 go_enter Tryz.func93, Tryz.ntmps93
 go_wp2_with fail
 refine HR.out.mono ?_
 rintro e w1 ⟨rfl, hR, hT⟩
 have H1 := Hd hR
 have H2 := Hd hT
 clear hR hT
 go_wp2_with fail
 go_ret2
 exact ⟨rfl, H1.out, H2.out⟩
theorem HpRep.load_ok {w : World} {hb s pb : Nat} {K : BuL} {β : Bu} {ps : List Int} (R : HpRep 0 w hb s pb K β ps) (p : Nat) (H : β.σ.has p 1)
  (HW : ∀ W, HpRep 1 W hb s pb K β ps → Calls Tryz.prog 66 #[.pointer (some ⟨hb, 0, none⟩), .int .u64 p, .int .u64 1] W fun e w' => e = .returned (.bool true) ∧ Touch Nothing W w') :
  Calls Tryz.prog 93 #[.pointer (some ⟨hb, 0, none⟩), .int .u64 p] w (Looked w hb s pb K β ps (.tuple #[.int .u8 (β.σ.mem p : Nat), .int .i64 0])) := by
 have HR := Hd (R.read_ok p 1 H HW)
 clear R HW
 go_enter Tryz.func93, Tryz.ntmps93
 go_wp2_with fail
 refine HR.out.mono ?_
 rintro e w1 ⟨g, hg, hB, rfl, hR, hT⟩
 have c0 := hB.cell 0
 simp [Sp.bytes] at c0
 have H1 := Hd hR
 have H2 := Hd hT
 clear hR hT hB hg
 go_wp2_with fail
 go_ret2
 exact ⟨rfl, H1.out, H2.out⟩
theorem HpRep.store_ok {w : World} {hb s pb : Nat} {K : BuL} {β : Bu} {ps : List Int} (R : HpRep 0 w hb s pb K β ps) (p v : Nat) (hv : v < 256) (H : β.σ.has p 1)
  (HW : ∀ W, HpRep 1 W hb s pb K β ps → Calls Tryz.prog 66 #[.pointer (some ⟨hb, 0, none⟩), .int .u64 p, .int .u64 1] W fun e w' => e = .returned (.bool true) ∧ Touch Nothing W w') :
  Calls Tryz.prog 94 #[.pointer (some ⟨hb, 0, none⟩), .int .u64 p, .int .u8 v] w (Heaped w hb s pb K { β with σ := β.σ.put p [v] } ps (.int .i64 0)) := by
 have T0 : Touch Nothing w (w.alloc (.cells #[.int .u8 v] 5)) := (Touch.refl _ _).alloc _
 have B0 := Blk.new w #[.int .u8 v] 5
 have hlt := R.blk.lt
 have HWr := Hd ((R.touch0 T0).write_ok p 1 1 [v] ⟨w.heap.size, 0, none⟩ H rfl (by omega) (by simpa using hv) B0.lt (by simp; omega) (news_of_blk B0) HW)
 have HT0 := Hd T0
 clear R HW T0 B0 hlt hv H
 go_enter Tryz.func94, Tryz.ntmps94
 go_wp2_with fail
 refine HWr.out.mono ?_
 rintro e w1 ⟨rfl, K', hR, hN, hT⟩
 have H1 := Hd hR
 have H2 := Hd hT
 have H3 := Hd hN
 clear hR hT hN
 go_wp2_with fail
 go_ret
 refine ⟨rfl, K', H1.out, ⟨H3.out.bb, H3.out.sb, H3.out.mb, fun k hk => ?_⟩, HT0.out.none_.trans H2.out⟩
 rcases H3.out.fresh k hk with h | h
 ·exact .inl h
 ·exact .inr (Nat.le_trans HT0.out.size h)
theorem start_no {w : World} (hb p P size : Nat)
  (HB : ∀ W, Touch Nothing w W → Calls Tryz.prog 110 #[.pointer (some ⟨hb, 0, none⟩), .int .u64 p] W (Blocked W P size false)) :
  Calls Tryz.prog 99 #[.pointer (some ⟨hb, 0, none⟩), .int .u64 p] w fun e w' => e = .returned (.tuple #[.agg #[.int .u64 0, .int .u64 0], .int .i64 1]) ∧ Touch Nothing w w' := by
 have T0 := Hd (show Touch Nothing w (w.alloc (.cells #[.int .u64 0, .int .u64 0] 71)) from (Touch.refl _ _).alloc _)
 have B0 := Hd (Blk.new w #[.int .u64 0, .int .u64 0] 71)
 have H := Hd (HB _ T0.out)
 clear HB
 go_enter Tryz.func99, Tryz.ntmps99
 go_wp2_with fail
 refine H.out.mono ?_
 rintro e w1 ⟨rfl, T1⟩
 have B1 := B0.out.touch T1 (fun h => h)
 have c0 := B1.cell 0
 have c1 := B1.cell 1
 have f0 := B1.free 0
 have f1 := B1.free 1
 have lt1 : w.heap.size < w1.heap.size := B1.lt
 have HT := Hd (T0.out.trans T1)
 have HB3 := Hd (((B1.set 0 (.int .u64 0)).set 1 (.int .u64 0)).alloc (.cells #[.int .u64 P, .int .u64 size] 71))
 simp at c0 c1
 clear B1 T1
 go_wp2_with fail
 have d0 := HB3.out.cell 0
 have d1 := HB3.out.cell 1
 simp at d0 d1
 have T5 : Touch (· = w.heap.size) w1 (((w1.setCell ⟨w.heap.size, 0, none⟩ (.int .u64 0)).setCell ⟨w.heap.size, 1, none⟩ (.int .u64 0)).alloc (.cells #[.int .u64 P, .int .u64 size] 71)) := ((Touch.cellAt w1 w.heap.size 0 (.int .u64 0)).trans (Touch.cellAt _ w.heap.size 1 (.int .u64 0))).alloc _
 exact bodyPost_ret (v := .tuple #[.agg #[.int .u64 0, .int .u64 0], .int .i64 1]) (by simp [results, Tryz.results99, go_sem, d0, d1]) rfl ⟨rfl, HT.out.trans' T5 (fun i hi e => by omega)⟩
theorem HpRep.free_none {w : World} {hb s pb : Nat} {K : BuL} {β : Bu} {ps : List Int} (R : HpRep 0 w hb s pb K β ps) :
  Calls Tryz.prog 92 #[.pointer (some ⟨hb, 0, none⟩), .int .u64 0] w (Looked w hb s pb K β ps (.int .i64 0)) := by
 obtain ⟨c0, -, -, -, -, f0⟩ := R.cells
 have R1 := R.locked 1
 have HR1 := Hd R1
 have hm := R1.cells.1
 have fm := R1.cells.2.2.2.2.2
 clear R R1
 go_enter_defers Tryz.func92, Tryz.ntmps92
 go_wp2_with (go_at_call 58; refine (lock_free Tryz.muLib ⟨hb, 0, none⟩ _ c0 f0).mono ?_; rintro e w' ⟨rfl, rfl⟩)
 refine leaves_cons (f := 59) (args := #[.pointer (some ⟨hb, 0, none⟩)]) (by simp) (by simp [go_sem]) ?_
 refine (unlock_deferred Tryz.muLib ⟨hb, 0, none⟩ .returning _ hm fm).mono ?_
 rintro e u' w'' ⟨rfl, rfl, rfl⟩
 exact ⟨_, results_tmp rfl _ _ _, HpRep.relock rfl HR1.out (Touch.refl _ _)⟩
theorem HpRep.calloc_ok {w : World} {hb s pb : Nat} {K : BuL} {β β' : Bu} {ps ps' : List Int} (R : HpRep 0 w hb s pb K β ps) (n size p r : Nat) (deny : Bool) (hσ : β'.σ.base = β.σ.base ∧ β'.σ.limit = β.σ.limit ∧ β'.μ.order = β.μ.order) (_hm : n * size < 18446744073709551616)
  (hMul : ∀ W, Calls Tryz.prog 132 #[.int .u64 n, .int .u64 size] W fun e w' => e = .returned (.tuple #[.int .u64 0, .int .u64 (n * size : Nat)]) ∧ w' = W)
  (H : β'.σ.has p r)
  (HM : ∀ W, HpRep 1 W hb s pb K β ps → Calls Tryz.prog 133 #[.pointer (some ⟨hb, 0, none⟩), .int .u64 (n * size : Nat), .int .u64 1, .bool deny] W (Did W (.tuple #[.agg #[.int .u64 p, .int .u64 r], .int .i64 0]) (QSl s pb K β' ps'))) :
  Calls Tryz.prog 89 #[.pointer (some ⟨hb, 0, none⟩), .int .u64 n, .int .u64 size, .bool deny] w (Heaped w hb s pb K { β' with σ := β'.σ.put p (List.replicate r 0) } ps' (.tuple #[.int .u64 p, .int .i64 0])) := by
 obtain ⟨c0, -, -, -, -, f0⟩ := R.cells
 have R1 := R.locked 1
 have HM1 := Hd (HM _ R1)
 have HR1 := Hd R1
 have HS := Hd hσ
 have HMu := Hd hMul
 have HH := Hd H
 clear R HM R1 hσ hMul H _hm
 generalize n * size = low at *
 go_enter_defers Tryz.func89, Tryz.ntmps89
 go_wp2_with (go_at_call 58; refine (lock_free Tryz.muLib ⟨hb, 0, none⟩ _ c0 f0).mono ?_; rintro e w' ⟨rfl, rfl⟩)
 generalize hw1 : w.setCell ⟨hb, 0, none⟩ (.int .i32 1) = w1 at *
 refine (HMu.out _).mono ?_
 rintro e w2 ⟨rfl, rfl⟩
 go_wp2_with fail
 refine HM1.out.mono ?_
 rintro e w2 hD
 obtain ⟨K', R2, N2, T2⟩ := Did.hp HR1.out hD HS.out
 obtain ⟨rfl, -⟩ := hD
 have HW1 := Hd hw1
 have HR2 := Hd R2
 have HN2 := Hd N2
 have HT2 := Hd T2
 have c5 := R2.cells.2.2.2.1
 have HSp := Hd (fun W (T : Touch Nothing w2 W) => (R2.touch0 T).sl.po.space_)
 have HFi := Hd (fun W (T : Touch Nothing w2 W) => (R2.touch0 T).sl.po.bu.sp.fill_ p r 0 HH.out (by omega))
 have hlt2 : hb < w2.heap.size := R2.blk.lt
 have hlt3 : pb < w2.heap.size := R2.sl.po.blk.lt
 have hcf : ∀ (us : Array Value) (W : World), (callFunc 134 us).run Tryz.prog W = .ok (.enter 134 us) W := fun us W => by simp [go_sem]
 have hcf2 : ∀ (us : Array Value) (W : World), (callFunc 60 us).run Tryz.prog W = .ok (.enter 60 us) W := fun us W => by simp [go_sem]
 have HCF := Hd hcf
 have HCF2 := Hd hcf2
 clear hw1 R2 N2 T2 c0 f0 hcf hcf2
 go_wp2_with fail
 have T3 : Touch Nothing w2 (w2.alloc (.cells #[.int .u64 p, .int .u64 r] 71)).drew := ((Touch.refl _ _).alloc _).drew
 have B3 := (Blk.new w2 #[.int .u64 p, .int .u64 r] 71)
 have d5 : (w2.alloc (.cells #[.int .u64 p, .int .u64 r] 71)).cell? ⟨hb, 5, none⟩ = some (.pointer (some ⟨pb, 0, none⟩)) := (HR2.out.touch0 ((Touch.refl _ _).alloc _)).cells.2.2.2.1
 have b0 := B3.cell 0
 have b1 := B3.cell 1
 have HB3 := Hd B3
 have HT3 := Hd T3
 have HSp3 := Hd (HSp.out _ T3)
 have HFi3 := Hd (HFi.out _ T3)
 clear T3 B3 c5
 simp only [List.getElem?_cons_zero, List.getElem?_cons_succ] at b0 b1
 generalize (w2.alloc (.cells #[.int .u64 p, .int .u64 r] 71)) = w3 at *
 refine wp_region_still_tail 11 (by kernel_rfl) (by kernel_rfl) ?_
 simp only [List.take_succ_cons, List.take_zero, List.drop_succ_cons, List.drop_zero, World.drew_eq]
 repeat still_step
 still_call (HSp3.out.mono fun _ _ h => ⟨h.1, h.2.symm⟩)
 repeat still_step
 refine wpStill_nil ?_
 go_wp2_with fail
 refine HFi3.out.mono ?_
 rintro e w4 ⟨rfl, r4, t4⟩
 have R3 := HR2.out.touch0 HT3.out
 obtain ⟨b4, T4⟩ := R3.sl.po.bu.bytes r4 t4 (Sp.put_same _ _ _)
 have S4 := R3.sl.next T4 (BuL.Next.refl _ _) b4
 have R4 := R3.next (T4.mono (fun b _ hb => List.mem_cons_of_mem _ hb)) (BuL.Next.refl _ _) S4 ⟨rfl, rfl, rfl⟩
 have hnot : ¬ w2.heap.size ∈ K'.fp := fun hm => by
  have := HR2.out.lt w2.heap.size (by simp [hm])
  omega
 have e0 : w4.cell? ⟨w2.heap.size, 0, none⟩ = some (.int .u64 p) := by
  have := ((HB3.out.drew).touch T4 hnot).cell 0
  simpa using this
 have HR4 := Hd R4
 have HT4 := Hd T4
 have hm := R4.cells.1
 have fm := R4.cells.2.2.2.2.2
 clear r4 t4 R3 b4 S4 R4 T4 hnot d5 b0 b1
 go_wp2
 refine leaves_cons (f := 59) (args := #[.pointer (some ⟨hb, 0, none⟩)]) (by simp) (by simp [go_sem]) ?_
 refine (unlock_deferred Tryz.muLib ⟨hb, 0, none⟩ .returning _ hm fm).mono ?_
 rintro e u' w'' ⟨rfl, rfl, rfl⟩
 have N := HN2.out
 have TT : Touch (· ∈ s :: K.fp) _ w4 := (HT2.out.trans HT3.out.none_).trans' HT4.out (fun i hi hm => by
  rcases N.fresh i hm with h | h
  ·exact List.mem_cons_of_mem _ h
  ·omega)
 exact ⟨_, results_tmp2 rfl _ _ _, HpRep.unlocked HW1.out.symm HR4.out N TT⟩
end Go.Proofs.YtnjcmcnjgdjbiaaGreatDoor
namespace Go.Proofs.YtnjcmcnjgdjbiaaGreatDoor
open Go.RowKit
theorem newHeap_no (base : Nat) (limit order : Int) (w : World) (hb : base < 18446744073709551616) (h : mayB base limit order = false) :
  Calls Tryz.prog 18 #[cfgV base limit order] w fun e w' => e = .returned (.tuple #[.pointer none, .int .i64 1]) ∧ Touch Nothing w w' := by
 have HM := Hd (fun w => newPool_no base limit order w hb h)
 have T0 := Hd (show Touch Nothing w (w.alloc (.cells #[.int .u64 base, .int .i64 limit, .int .i64 order] 51)) from (Touch.refl _ _).alloc _)
 unfold cfgV at *
 go_enter Tryz.func18, Tryz.ntmps18
 go_wp2_with fail
 refine (HM.out _).mono ?_
 rintro e w1 ⟨rfl, T1⟩
 have HT1 := Hd T1
 clear T1
 go_wp2_with fail
 go_ret2
 exact ⟨rfl, T0.out.trans HT1.out⟩
def noParts : List Int := List.replicate 8 (-1)
def NewHeap (w : World) (base limit order : Nat) (e : Ending) (w' : World) : Prop :=
 ∃ hb s pb K, e = .returned (.tuple #[.pointer (some ⟨hb, 0, none⟩), .int .i64 0]) ∧ HpRep 0 w' hb s pb K (Bu.fresh base limit order) noParts ∧ Touch Nothing w w' ∧ ∀ k ∈ hb :: s :: pb :: K.fp, w.heap.size ≤ k
theorem new_heap {w w0 w1 w2 : World} {base limit order pb s : Nat} {K : BuL} (G : Glob w) (T0 : Touch Nothing w w0)
  (P1 : PoRep w1 pb K (Bu.fresh base limit order)) (T1 : Touch Nothing w0 w1) (F1 : ∀ k ∈ pb :: K.fp, w0.heap.size ≤ k)
  (hs : w1.heap.size ≤ s) (B2 : Blk w2 s 163 (.pointer (some ⟨pb, 0, none⟩) :: noParts.map fun x => .int .i64 x)) (T2 : Touch Nothing w1 w2) :
  NewHeap w base limit order (.returned (.tuple #[.pointer (some ⟨w2.heap.size, 0, none⟩), .int .i64 0]))
   (w2.alloc (.cells #[.int .i32 0, .int .u32 0, .int .u64 base, .int .i64 limit, .int .i64 order, .pointer (some ⟨pb, 0, none⟩), .pointer (some ⟨s, 0, none⟩)] 97)) := by
 have hl1 := P1.lt
 have g := G.size
 have s0 := T0.size
 have s1 := T1.size
 have s2 := T2.size
 have hs2 : s < w2.heap.size := B2.lt
 have T3 : Touch Nothing w2 (w2.alloc (.cells #[.int .i32 0, .int .u32 0, .int .u64 base, .int .i64 limit, .int .i64 order, .pointer (some ⟨pb, 0, none⟩), .pointer (some ⟨s, 0, none⟩)] 97)) := (Touch.refl _ _).alloc _
 have TT := ((T0.trans T1).trans T2).trans T3
 have hns : s ∉ pb :: K.fp := fun h => by have := hl1 s h; omega
 have S3 : SlRep (w2.alloc (.cells #[.int .i32 0, .int .u32 0, .int .u64 base, .int .i64 limit, .int .i64 order, .pointer (some ⟨pb, 0, none⟩), .pointer (some ⟨s, 0, none⟩)] 97)) s pb K (Bu.fresh base limit order) noParts :=
  ⟨B2.touch T3 (fun h => h), (P1.touch0 T2).touch0 T3, hns, rfl⟩
 have hfar : ∀ k ∈ w2.heap.size :: s :: pb :: K.fp, w.heap.size ≤ k := by
  intro k hk
  rcases List.mem_cons.1 hk with h | h
  ·omega
  ·rcases List.mem_cons.1 h with h | h
   ·omega
   ·have := F1 k h; omega
 refine ⟨w2.heap.size, s, pb, K, rfl, ⟨Blk.new w2 _ 97, S3, ?_, G.touch0 TT, fun k hk => ?_⟩, TT, hfar⟩
 ·intro h
  rcases List.mem_cons.1 h with h | h
  ·omega
  ·have := hl1 _ h; omega
 ·have := hfar k hk; omega
theorem newHeap_yes (base limit order : Nat) (w : World) (hb : base < 18446744073709551616) (h : mayB base limit order = true) (ho : order ≤ 8) (G : Glob w) :
  Calls Tryz.prog 18 #[cfgV base limit order] w (NewHeap w base limit order) := by
 have HP := Hd (fun w => newPool_yes base limit order w hb h ho)
 have HSl := Hd (fun pb w => newSlab_ pb w)
 have T0 := Hd (show Touch Nothing w (w.alloc (.cells #[.int .u64 base, .int .i64 limit, .int .i64 order] 51)) from (Touch.refl _ _).alloc _)
 have B0 := Hd (Blk.new w #[.int .u64 base, .int .i64 limit, .int .i64 order] 51)
 have hsz : w.heap.size < (w.alloc (.cells #[.int .u64 base, .int .i64 limit, .int .i64 order] 51)).heap.size := by simp
 have HG := Hd G
 have hcf : ∀ (us : Array Value) (W : World), (callFunc 36 us).run Tryz.prog W = .ok (.enter 36 us) W := fun us W => by simp [go_sem]
 have HCF := Hd hcf
 unfold cfgV at *
 clear h hb G hcf
 go_enter Tryz.func18, Tryz.ntmps18
 go_wp2_with fail
 generalize w.alloc (.cells #[.int .u64 base, .int .i64 limit, .int .i64 order] 51) = w0 at *
 refine (HP.out _).mono ?_
 rintro e w1 ⟨pb, K, rfl, P1, T1, F1⟩
 have b1 := B0.out.touch T1 (fun h => h)
 have d0 := b1.cell 0
 have d1 := b1.cell 1
 have d2 := b1.cell 2
 simp at d0 d1 d2
 have HB1 := Hd (b1.drew)
 have HP1 := Hd P1
 have HT1 := Hd T1
 have HF1 := Hd F1
 have HSl1 := Hd (HSl.out pb w1.drew)
 clear P1 T1 F1 b1
 go_wp2_with fail
 go_region_law (refine step_call_list _ (by rfl) 36 #[.tmp 16] #[84] (by rfl) #[.pointer (some ⟨pb, 0, none⟩)] (by rfl) HSl1.out (HCF.out _ _) ?_; rintro e w2 ⟨s, rfl, hs, hB, hT⟩; refine ⟨_, rfl, ?_⟩; have hb2 := HB1.out.touch hT (fun h => h); have z0 : w2.cell? ⟨w.heap.size, 0, none⟩ = some (.int .u64 base) := hb2.cell 0; have z1 : w2.cell? ⟨w.heap.size, 1, none⟩ = some (.int .i64 limit) := hb2.cell 1; have z2 : w2.cell? ⟨w.heap.size, 2, none⟩ = some (.int .i64 order) := hb2.cell 2; have HS := Hd hs; have HB2 := Hd hB; have HT2 := Hd hT; clear hs hB hT hb2)
 all_goals
  go_wp2_with fail
  go_ret2
  exact new_heap HG.out T0.out HP1.out HT1.out HF1.out HS.out HB2.out ((Touch.refl Nothing w1).drew.trans HT2.out)
end Go.Proofs.YtnjcmcnjgdjbiaaGreatDoor
