/- The numbers under which this program holds sync's lock, and that it holds it. Conditions: none. Package malloc, first part: what a heap is; region, round, order, class. Package malloc, second part: order, class. Package malloc, third part: take, malloc, AlignedAlloc, Malloc. Package malloc, fourth part: malloc, AlignedAlloc, Malloc. Package malloc, fifth part: block of an address below the heap, and in a slab page. -/
import Derived.Test.YtnjcmcnjgdjbiaaGreatDoorProg
import Derived.Conc.MuLone
import Derived.KernelRfl
import Derived.Test.YtnjcmcnjgdjbiaaGreatDoorLgSlab
namespace Go.Proofs
abbrev Tryz.muLink : Go.Conc.Locks.MuLink := { lock := 58, unlock := 59, ilock := 108, iunlock := 109, lockSlow := 164, unlockSlow := 167, disable := 160, enable := 162, acquire := 163, relMerge := 165, cas32 := 161, add32 := 166, tMutex := 95, tIMutex := 93, tPMutex := 186, tPIMutex := 248, tPI32 := 250, tUP := 252, tNoCopy := 90, tU32 := 91 }
theorem Tryz.muLib : Go.Conc.Locks.MuLib Tryz.prog Tryz.muLink :=
  ⟨Tryz.func58, Tryz.func59, Tryz.func108, Tryz.func109, Tryz.func160, Tryz.func162, Tryz.func163, Tryz.func165, Tryz.func161, Tryz.func166, Tryz.underlying93, Tryz.runUnderlying93, Tryz.sizeOf93, Tryz.isAgg93, Tryz.zeroValue93, Tryz.underlying95, Tryz.runUnderlying95, Tryz.sizeOf95, Tryz.isAgg95, Tryz.zeroValue95, Tryz.underlying186, Tryz.runUnderlying186, Tryz.sizeOf186, Tryz.isAgg186, Tryz.zeroValue186, Tryz.underlying248, Tryz.runUnderlying248, Tryz.sizeOf248, Tryz.isAgg248, Tryz.zeroValue248, Tryz.underlying250, Tryz.runUnderlying250, Tryz.sizeOf250, Tryz.isAgg250, Tryz.zeroValue250, Tryz.underlying252, Tryz.runUnderlying252, Tryz.sizeOf252, Tryz.isAgg252, Tryz.zeroValue252, Tryz.underlying90, Tryz.runUnderlying90, Tryz.sizeOf90, Tryz.isAgg90, Tryz.zeroValue90, Tryz.underlying21, Tryz.runUnderlying21, Tryz.sizeOf21, Tryz.isAgg21, Tryz.zeroValue21, (by kernel_rfl)⟩
end Go.Proofs

namespace Go.Proofs.YtnjcmcnjgdjbiaaGreatDoor
open Go.RowKit

/-- a heap, its lock's word m -/
structure HpRep (m : Int) (w : World) (hb s pb : Nat) (K : BuL) (β : Bu) (ps : List Int) : Prop where
  blk : Blk w hb 97 [.int .i32 m, .int .u32 0, .int .u64 β.σ.base, .int .i64 β.σ.limit, .int .i64 β.μ.order, .pointer (some ⟨pb, 0, none⟩), .pointer (some ⟨s, 0, none⟩)]
  sl : SlRep w s pb K β ps
  apart : hb ∉ s :: pb :: K.fp
  glob : Glob w
  far : ∀ k ∈ hb :: s :: pb :: K.fp, 9 ≤ k

theorem HpRep.touch {m : Int} {w w' : World} {hb s pb : Nat} {K : BuL} {β : Bu} {ps : List Int} {S : Nat → Prop} (R : HpRep m w hb s pb K β ps) (T : Touch S w w') (h : ∀ k, k ∈ hb :: s :: pb :: K.fp → ¬ S k) (hg : ∀ k, k < 9 → ¬ S k) : HpRep m w' hb s pb K β ps :=
  ⟨R.blk.touch T (h _ (by simp)), R.sl.touch T (fun k hk => h k (List.mem_cons_of_mem _ hk)), R.apart, R.glob.touch T hg, R.far⟩

theorem HpRep.touch0 {m : Int} {w w' : World} {hb s pb : Nat} {K : BuL} {β : Bu} {ps : List Int} (R : HpRep m w hb s pb K β ps) (T : Touch Nothing w w') : HpRep m w' hb s pb K β ps := R.touch T (fun _ _ h => h) (fun _ _ h => h)

theorem HpRep.lt {m : Int} {w : World} {hb s pb : Nat} {K : BuL} {β : Bu} {ps : List Int} (R : HpRep m w hb s pb K β ps) : ∀ k ∈ hb :: s :: pb :: K.fp, k < w.heap.size := by
  intro k hk
  rcases List.mem_cons.1 hk with rfl | hk
  · exact R.blk.lt
  · exact R.sl.lt k hk

theorem HpRep.cells {m : Int} {w : World} {hb s pb : Nat} {K : BuL} {β : Bu} {ps : List Int} (R : HpRep m w hb s pb K β ps) :
    w.cell? ⟨hb, 0, none⟩ = some (.int .i32 m) ∧ w.cell? ⟨hb, 2, none⟩ = some (.int .u64 β.σ.base) ∧ w.cell? ⟨hb, 4, none⟩ = some (.int .i64 β.μ.order) ∧ w.cell? ⟨hb, 5, none⟩ = some (.pointer (some ⟨pb, 0, none⟩)) ∧ w.cell? ⟨hb, 6, none⟩ = some (.pointer (some ⟨s, 0, none⟩)) ∧ w.frozen? ⟨hb, 0, none⟩ = false :=
  ⟨R.blk.cell 0, R.blk.cell 2, R.blk.cell 4, R.blk.cell 5, R.blk.cell 6, R.blk.free 0⟩

/-- the lock's word turned -/
theorem HpRep.locked {m : Int} {w : World} {hb s pb : Nat} {K : BuL} {β : Bu} {ps : List Int} (R : HpRep m w hb s pb K β ps) (m' : Int) : HpRep m' (w.setCell ⟨hb, 0, none⟩ (.int .i32 m')) hb s pb K β ps := by
  have T := Touch.cellAt w hb 0 (.int .i32 m')
  refine ⟨R.blk.set 0 _, R.sl.touch T (fun k hk e => R.apart (e ▸ hk)), R.apart, R.glob.touch T (fun k hk e => ?_), R.far⟩
  have := R.far hb (by simp)
  omega

/-- the slab has turned -/
theorem HpRep.next {m : Int} {w w' : World} {hb s pb : Nat} {K K' : BuL} {β β' : Bu} {ps ps' : List Int} (R : HpRep m w hb s pb K β ps) (T : Touch (· ∈ s :: K.fp) w w') (N : K.Next w K') (R' : SlRep w' s pb K' β' ps') (hσ : β'.σ.base = β.σ.base ∧ β'.σ.limit = β.σ.limit ∧ β'.μ.order = β.μ.order) : HpRep m w' hb s pb K' β' ps' := by
  have hs : ∀ k, k ∈ s :: K.fp → k ∈ s :: pb :: K.fp := fun k hk => by
    rcases List.mem_cons.1 hk with h | h
    · simp [h]
    · simp [h]
  have hb0 : hb ∉ s :: K.fp := fun h => R.apart (hs _ h)
  refine ⟨?_, R', fun h => ?_, R.glob.touch T (fun k hk h => ?_), fun k hk => ?_⟩
  · rw [hσ.1, hσ.2.1, hσ.2.2]
    exact R.blk.touch T hb0
  · simp only [List.mem_cons] at h
    rcases h with h | h | h
    · exact R.apart (by simp [h])
    · exact R.apart (by simp [h])
    · rcases N.fresh hb h with h | h
      · exact R.apart (by simp [h])
      · have := R.blk.lt; omega
  · have := R.far k (List.mem_cons_of_mem _ (hs k h))
    omega
  · simp only [List.mem_cons] at hk
    rcases hk with h | h | h | h
    · exact R.far k (by simp [h])
    · exact R.far k (by simp [h])
    · exact R.far k (by simp [h])
    · rcases N.fresh k h with h | h
      · exact R.far k (by simp [h])
      · have := R.glob.size; omega

theorem HpRep.region_ {m : Int} {w : World} {hb s pb : Nat} {K : BuL} {β : Bu} {ps : List Int} (R : HpRep m w hb s pb K β ps) :
    Calls Tryz.prog 187 #[.pointer (some ⟨hb, 0, none⟩)] w fun e w' => e = .returned (.int .u64 (β.σ.size : Nat)) ∧ w = w' := by
  obtain ⟨-, -, c4, -, -, -⟩ := R.cells
  have ho := R.sl.po.bu.mp.ok.order
  have HW := Lib.hid (wrap_size ho)
  have HZ := Lib.hid R.sl.po.bu.ok.size
  have hmin : min β.μ.order 64 = β.μ.order := by omega
  clear R
  generalize β.μ.order = o at *
  go_enter Tryz.func187, Tryz.ntmps187
  go_wp2_with fail
  go_ret
  refine ⟨?_, rfl⟩
  show Ending.returned (.int .u64 (IntKind.u64.wrap (4096 * 2 ^ o))) = _
  rw [HW.out, HZ.out]

/-- the size for a request, and the error -/
def roundN (region size align : Nat) : Nat × Int :=
  if isPow align = false then (0, 1) else if ceilN (max (max size align) 16) = 0 ∨ region < ceilN (max (max size align) 16) then (0, 3) else (ceilN (max (max size align) 16), 0)

def Rounded (w : World) (r : Nat × Int) (e : Ending) (w' : World) : Prop := e = .returned (.tuple #[.int .u64 r.1, .int .i64 r.2]) ∧ w = w'

theorem round_no {w : World} (hb : Nat) (size align : Nat) (h : align < 18446744073709551616) (hp : isPow align = false) :
    Calls Tryz.prog 135 #[.pointer (some ⟨hb, 0, none⟩), .int .u64 size, .int .u64 align] w (Rounded w (0, 1)) := by
  have HP := Lib.hid (isPower_ align w h)
  rw [hp] at HP
  clear hp h
  go_enter Tryz.func135, Tryz.ntmps135
  go_wp2_with fail
  refine HP.out.mono ?_
  rintro e w' ⟨rfl, rfl⟩
  go_wp2_with fail
  go_ret2
  exact ⟨rfl, rfl⟩

set_option maxRecDepth 100000 in
theorem round_a0 {w : World} (hb size align r z : Nat) (b : Bool) (h : align < 18446744073709551616) (hp : isPow align = true) (q1 : size < align) (q2 : align < 16) (hf : b = false)
    (HC : Hid (Calls Tryz.prog 186 #[.int .u64 16] w fun e w' => e = .returned (.tuple #[.int .u64 r, .bool b]) ∧ w = w'))
    (_HG : Hid (Calls Tryz.prog 187 #[.pointer (some ⟨hb, 0, none⟩)] w fun e w' => e = .returned (.int .u64 z) ∧ w = w')) :
    Calls Tryz.prog 135 #[.pointer (some ⟨hb, 0, none⟩), .int .u64 size, .int .u64 align] w (Rounded w (0, 3)) := by
  have HP := Lib.hid (isPower_ align w h)
  rw [hp] at HP
  subst hf
  clear hp h
  go_enter Tryz.func135, Tryz.ntmps135
  go_wp2_with fail
  refine HP.out.mono ?_
  rintro e w' ⟨rfl, rfl⟩
  go_wp2_with fail
  refine HC.out.mono ?_
  rintro e w' ⟨rfl, rfl⟩
  go_wp2_with fail
  go_ret2
  exact ⟨rfl, rfl⟩

set_option maxRecDepth 100000 in
theorem round_a1 {w : World} (hb size align r z : Nat) (b : Bool) (h : align < 18446744073709551616) (hp : isPow align = true) (q1 : size < align) (q2 : align < 16) (hf : b = true) (hlt : z < r)
    (HC : Hid (Calls Tryz.prog 186 #[.int .u64 16] w fun e w' => e = .returned (.tuple #[.int .u64 r, .bool b]) ∧ w = w'))
    (HG : Hid (Calls Tryz.prog 187 #[.pointer (some ⟨hb, 0, none⟩)] w fun e w' => e = .returned (.int .u64 z) ∧ w = w')) :
    Calls Tryz.prog 135 #[.pointer (some ⟨hb, 0, none⟩), .int .u64 size, .int .u64 align] w (Rounded w (0, 3)) := by
  have HP := Lib.hid (isPower_ align w h)
  rw [hp] at HP
  subst hf
  clear hp h
  go_enter Tryz.func135, Tryz.ntmps135
  go_wp2_with fail
  refine HP.out.mono ?_
  rintro e w' ⟨rfl, rfl⟩
  go_wp2_with fail
  refine HC.out.mono ?_
  rintro e w' ⟨rfl, rfl⟩
  go_wp2_with fail
  refine HG.out.mono ?_
  rintro e w' ⟨rfl, rfl⟩
  go_wp2_with fail
  go_ret2
  exact ⟨rfl, rfl⟩

set_option maxRecDepth 100000 in
theorem round_a2 {w : World} (hb size align r z : Nat) (b : Bool) (h : align < 18446744073709551616) (hp : isPow align = true) (q1 : size < align) (q2 : align < 16) (hf : b = true) (hlt : ¬ z < r)
    (HC : Hid (Calls Tryz.prog 186 #[.int .u64 16] w fun e w' => e = .returned (.tuple #[.int .u64 r, .bool b]) ∧ w = w'))
    (HG : Hid (Calls Tryz.prog 187 #[.pointer (some ⟨hb, 0, none⟩)] w fun e w' => e = .returned (.int .u64 z) ∧ w = w')) :
    Calls Tryz.prog 135 #[.pointer (some ⟨hb, 0, none⟩), .int .u64 size, .int .u64 align] w (Rounded w (r, 0)) := by
  have HP := Lib.hid (isPower_ align w h)
  rw [hp] at HP
  subst hf
  clear hp h
  go_enter Tryz.func135, Tryz.ntmps135
  go_wp2_with fail
  refine HP.out.mono ?_
  rintro e w' ⟨rfl, rfl⟩
  go_wp2_with fail
  refine HC.out.mono ?_
  rintro e w' ⟨rfl, rfl⟩
  go_wp2_with fail
  refine HG.out.mono ?_
  rintro e w' ⟨rfl, rfl⟩
  go_wp2_with fail
  go_ret2
  exact ⟨rfl, rfl⟩

set_option maxRecDepth 100000 in
theorem round_d0 {w : World} (hb size align r z : Nat) (b : Bool) (h : align < 18446744073709551616) (hp : isPow align = true) (q1 : ¬ size < align) (q2 : size < 16) (hf : b = false)
    (HC : Hid (Calls Tryz.prog 186 #[.int .u64 16] w fun e w' => e = .returned (.tuple #[.int .u64 r, .bool b]) ∧ w = w'))
    (_HG : Hid (Calls Tryz.prog 187 #[.pointer (some ⟨hb, 0, none⟩)] w fun e w' => e = .returned (.int .u64 z) ∧ w = w')) :
    Calls Tryz.prog 135 #[.pointer (some ⟨hb, 0, none⟩), .int .u64 size, .int .u64 align] w (Rounded w (0, 3)) := by
  have HP := Lib.hid (isPower_ align w h)
  rw [hp] at HP
  subst hf
  clear hp h
  go_enter Tryz.func135, Tryz.ntmps135
  go_wp2_with fail
  refine HP.out.mono ?_
  rintro e w' ⟨rfl, rfl⟩
  go_wp2_with fail
  refine HC.out.mono ?_
  rintro e w' ⟨rfl, rfl⟩
  go_wp2_with fail
  go_ret2
  exact ⟨rfl, rfl⟩

set_option maxRecDepth 100000 in
theorem round_d1 {w : World} (hb size align r z : Nat) (b : Bool) (h : align < 18446744073709551616) (hp : isPow align = true) (q1 : ¬ size < align) (q2 : size < 16) (hf : b = true) (hlt : z < r)
    (HC : Hid (Calls Tryz.prog 186 #[.int .u64 16] w fun e w' => e = .returned (.tuple #[.int .u64 r, .bool b]) ∧ w = w'))
    (HG : Hid (Calls Tryz.prog 187 #[.pointer (some ⟨hb, 0, none⟩)] w fun e w' => e = .returned (.int .u64 z) ∧ w = w')) :
    Calls Tryz.prog 135 #[.pointer (some ⟨hb, 0, none⟩), .int .u64 size, .int .u64 align] w (Rounded w (0, 3)) := by
  have HP := Lib.hid (isPower_ align w h)
  rw [hp] at HP
  subst hf
  clear hp h
  go_enter Tryz.func135, Tryz.ntmps135
  go_wp2_with fail
  refine HP.out.mono ?_
  rintro e w' ⟨rfl, rfl⟩
  go_wp2_with fail
  refine HC.out.mono ?_
  rintro e w' ⟨rfl, rfl⟩
  go_wp2_with fail
  refine HG.out.mono ?_
  rintro e w' ⟨rfl, rfl⟩
  go_wp2_with fail
  go_ret2
  exact ⟨rfl, rfl⟩

set_option maxRecDepth 100000 in
theorem round_d2 {w : World} (hb size align r z : Nat) (b : Bool) (h : align < 18446744073709551616) (hp : isPow align = true) (q1 : ¬ size < align) (q2 : size < 16) (hf : b = true) (hlt : ¬ z < r)
    (HC : Hid (Calls Tryz.prog 186 #[.int .u64 16] w fun e w' => e = .returned (.tuple #[.int .u64 r, .bool b]) ∧ w = w'))
    (HG : Hid (Calls Tryz.prog 187 #[.pointer (some ⟨hb, 0, none⟩)] w fun e w' => e = .returned (.int .u64 z) ∧ w = w')) :
    Calls Tryz.prog 135 #[.pointer (some ⟨hb, 0, none⟩), .int .u64 size, .int .u64 align] w (Rounded w (r, 0)) := by
  have HP := Lib.hid (isPower_ align w h)
  rw [hp] at HP
  subst hf
  clear hp h
  go_enter Tryz.func135, Tryz.ntmps135
  go_wp2_with fail
  refine HP.out.mono ?_
  rintro e w' ⟨rfl, rfl⟩
  go_wp2_with fail
  refine HC.out.mono ?_
  rintro e w' ⟨rfl, rfl⟩
  go_wp2_with fail
  refine HG.out.mono ?_
  rintro e w' ⟨rfl, rfl⟩
  go_wp2_with fail
  go_ret2
  exact ⟨rfl, rfl⟩

set_option maxRecDepth 100000 in
theorem round_b0 {w : World} (hb size align r z : Nat) (b : Bool) (h : align < 18446744073709551616) (hp : isPow align = true) (q1 : size < align) (q2 : ¬ align < 16) (hf : b = false)
    (HC : Hid (Calls Tryz.prog 186 #[.int .u64 align] w fun e w' => e = .returned (.tuple #[.int .u64 r, .bool b]) ∧ w = w'))
    (_HG : Hid (Calls Tryz.prog 187 #[.pointer (some ⟨hb, 0, none⟩)] w fun e w' => e = .returned (.int .u64 z) ∧ w = w')) :
    Calls Tryz.prog 135 #[.pointer (some ⟨hb, 0, none⟩), .int .u64 size, .int .u64 align] w (Rounded w (0, 3)) := by
  have HP := Lib.hid (isPower_ align w h)
  rw [hp] at HP
  subst hf
  clear hp h
  go_enter Tryz.func135, Tryz.ntmps135
  go_wp2_with fail
  refine HP.out.mono ?_
  rintro e w' ⟨rfl, rfl⟩
  go_wp2_with fail
  refine HC.out.mono ?_
  rintro e w' ⟨rfl, rfl⟩
  go_wp2_with fail
  go_ret2
  exact ⟨rfl, rfl⟩

set_option maxRecDepth 100000 in
theorem round_b1 {w : World} (hb size align r z : Nat) (b : Bool) (h : align < 18446744073709551616) (hp : isPow align = true) (q1 : size < align) (q2 : ¬ align < 16) (hf : b = true) (hlt : z < r)
    (HC : Hid (Calls Tryz.prog 186 #[.int .u64 align] w fun e w' => e = .returned (.tuple #[.int .u64 r, .bool b]) ∧ w = w'))
    (HG : Hid (Calls Tryz.prog 187 #[.pointer (some ⟨hb, 0, none⟩)] w fun e w' => e = .returned (.int .u64 z) ∧ w = w')) :
    Calls Tryz.prog 135 #[.pointer (some ⟨hb, 0, none⟩), .int .u64 size, .int .u64 align] w (Rounded w (0, 3)) := by
  have HP := Lib.hid (isPower_ align w h)
  rw [hp] at HP
  subst hf
  clear hp h
  go_enter Tryz.func135, Tryz.ntmps135
  go_wp2_with fail
  refine HP.out.mono ?_
  rintro e w' ⟨rfl, rfl⟩
  go_wp2_with fail
  refine HC.out.mono ?_
  rintro e w' ⟨rfl, rfl⟩
  go_wp2_with fail
  refine HG.out.mono ?_
  rintro e w' ⟨rfl, rfl⟩
  go_wp2_with fail
  go_ret2
  exact ⟨rfl, rfl⟩

set_option maxRecDepth 100000 in
theorem round_b2 {w : World} (hb size align r z : Nat) (b : Bool) (h : align < 18446744073709551616) (hp : isPow align = true) (q1 : size < align) (q2 : ¬ align < 16) (hf : b = true) (hlt : ¬ z < r)
    (HC : Hid (Calls Tryz.prog 186 #[.int .u64 align] w fun e w' => e = .returned (.tuple #[.int .u64 r, .bool b]) ∧ w = w'))
    (HG : Hid (Calls Tryz.prog 187 #[.pointer (some ⟨hb, 0, none⟩)] w fun e w' => e = .returned (.int .u64 z) ∧ w = w')) :
    Calls Tryz.prog 135 #[.pointer (some ⟨hb, 0, none⟩), .int .u64 size, .int .u64 align] w (Rounded w (r, 0)) := by
  have HP := Lib.hid (isPower_ align w h)
  rw [hp] at HP
  subst hf
  clear hp h
  go_enter Tryz.func135, Tryz.ntmps135
  go_wp2_with fail
  refine HP.out.mono ?_
  rintro e w' ⟨rfl, rfl⟩
  go_wp2_with fail
  refine HC.out.mono ?_
  rintro e w' ⟨rfl, rfl⟩
  go_wp2_with fail
  refine HG.out.mono ?_
  rintro e w' ⟨rfl, rfl⟩
  go_wp2_with fail
  go_ret2
  exact ⟨rfl, rfl⟩

set_option maxRecDepth 100000 in
theorem round_c0 {w : World} (hb size align r z : Nat) (b : Bool) (h : align < 18446744073709551616) (hp : isPow align = true) (q1 : ¬ size < align) (q2 : ¬ size < 16) (hf : b = false)
    (HC : Hid (Calls Tryz.prog 186 #[.int .u64 size] w fun e w' => e = .returned (.tuple #[.int .u64 r, .bool b]) ∧ w = w'))
    (_HG : Hid (Calls Tryz.prog 187 #[.pointer (some ⟨hb, 0, none⟩)] w fun e w' => e = .returned (.int .u64 z) ∧ w = w')) :
    Calls Tryz.prog 135 #[.pointer (some ⟨hb, 0, none⟩), .int .u64 size, .int .u64 align] w (Rounded w (0, 3)) := by
  have HP := Lib.hid (isPower_ align w h)
  rw [hp] at HP
  subst hf
  clear hp h
  go_enter Tryz.func135, Tryz.ntmps135
  go_wp2_with fail
  refine HP.out.mono ?_
  rintro e w' ⟨rfl, rfl⟩
  go_wp2_with fail
  refine HC.out.mono ?_
  rintro e w' ⟨rfl, rfl⟩
  go_wp2_with fail
  go_ret2
  exact ⟨rfl, rfl⟩

set_option maxRecDepth 100000 in
theorem round_c1 {w : World} (hb size align r z : Nat) (b : Bool) (h : align < 18446744073709551616) (hp : isPow align = true) (q1 : ¬ size < align) (q2 : ¬ size < 16) (hf : b = true) (hlt : z < r)
    (HC : Hid (Calls Tryz.prog 186 #[.int .u64 size] w fun e w' => e = .returned (.tuple #[.int .u64 r, .bool b]) ∧ w = w'))
    (HG : Hid (Calls Tryz.prog 187 #[.pointer (some ⟨hb, 0, none⟩)] w fun e w' => e = .returned (.int .u64 z) ∧ w = w')) :
    Calls Tryz.prog 135 #[.pointer (some ⟨hb, 0, none⟩), .int .u64 size, .int .u64 align] w (Rounded w (0, 3)) := by
  have HP := Lib.hid (isPower_ align w h)
  rw [hp] at HP
  subst hf
  clear hp h
  go_enter Tryz.func135, Tryz.ntmps135
  go_wp2_with fail
  refine HP.out.mono ?_
  rintro e w' ⟨rfl, rfl⟩
  go_wp2_with fail
  refine HC.out.mono ?_
  rintro e w' ⟨rfl, rfl⟩
  go_wp2_with fail
  refine HG.out.mono ?_
  rintro e w' ⟨rfl, rfl⟩
  go_wp2_with fail
  go_ret2
  exact ⟨rfl, rfl⟩

set_option maxRecDepth 100000 in
theorem round_c2 {w : World} (hb size align r z : Nat) (b : Bool) (h : align < 18446744073709551616) (hp : isPow align = true) (q1 : ¬ size < align) (q2 : ¬ size < 16) (hf : b = true) (hlt : ¬ z < r)
    (HC : Hid (Calls Tryz.prog 186 #[.int .u64 size] w fun e w' => e = .returned (.tuple #[.int .u64 r, .bool b]) ∧ w = w'))
    (HG : Hid (Calls Tryz.prog 187 #[.pointer (some ⟨hb, 0, none⟩)] w fun e w' => e = .returned (.int .u64 z) ∧ w = w')) :
    Calls Tryz.prog 135 #[.pointer (some ⟨hb, 0, none⟩), .int .u64 size, .int .u64 align] w (Rounded w (r, 0)) := by
  have HP := Lib.hid (isPower_ align w h)
  rw [hp] at HP
  subst hf
  clear hp h
  go_enter Tryz.func135, Tryz.ntmps135
  go_wp2_with fail
  refine HP.out.mono ?_
  rintro e w' ⟨rfl, rfl⟩
  go_wp2_with fail
  refine HC.out.mono ?_
  rintro e w' ⟨rfl, rfl⟩
  go_wp2_with fail
  refine HG.out.mono ?_
  rintro e w' ⟨rfl, rfl⟩
  go_wp2_with fail
  go_ret2
  exact ⟨rfl, rfl⟩

theorem HpRep.round_ {m : Int} {w : World} {hb s pb : Nat} {K : BuL} {β : Bu} {ps : List Int} (R : HpRep m w hb s pb K β ps) (size align : Nat) (h1 : size < 18446744073709551616) (h2 : align < 18446744073709551616) :
    Calls Tryz.prog 135 #[.pointer (some ⟨hb, 0, none⟩), .int .u64 size, .int .u64 align] w (Rounded w (roundN β.σ.size size align)) := by
  unfold roundN
  cases hp : isPow align with
  | false => rw [if_pos rfl]; exact round_no hb size align h2 hp
  | true =>
    rw [if_neg (by simp)]
    have HG := Lib.hid R.region_
    have hM : max (max size align) 16 < 18446744073709551616 := by omega
    have HC := ceil_ (max (max size align) 16) w hM
    obtain ⟨r, hr⟩ : ∃ r, ceilN (max (max size align) 16) = r := ⟨_, rfl⟩
    rw [hr] at HC ⊢
    rcases (show (size < align ∧ align < 16) ∨ (¬ size < align ∧ size < 16) ∨ (size < align ∧ ¬ align < 16) ∨ (¬ size < align ∧ ¬ size < 16) by omega) with ⟨q1, q2⟩ | ⟨q1, q2⟩ | ⟨q1, q2⟩ | ⟨q1, q2⟩
    · rw [show max (max size align) 16 = 16 by omega] at HC
      by_cases h0 : r = 0
      · rw [if_pos (.inl h0)]
        exact round_a0 hb size align r _ _ h2 hp q1 q2 (by simp [h0]) (Lib.hid HC) HG
      · by_cases hlt : β.σ.size < r
        · rw [if_pos (.inr hlt)]
          exact round_a1 hb size align r _ _ h2 hp q1 q2 (by simp [h0]) hlt (Lib.hid HC) HG
        · rw [if_neg (by simp [h0, hlt])]
          exact round_a2 hb size align r _ _ h2 hp q1 q2 (by simp [h0]) hlt (Lib.hid HC) HG
    · rw [show max (max size align) 16 = 16 by omega] at HC
      by_cases h0 : r = 0
      · rw [if_pos (.inl h0)]
        exact round_d0 hb size align r _ _ h2 hp q1 q2 (by simp [h0]) (Lib.hid HC) HG
      · by_cases hlt : β.σ.size < r
        · rw [if_pos (.inr hlt)]
          exact round_d1 hb size align r _ _ h2 hp q1 q2 (by simp [h0]) hlt (Lib.hid HC) HG
        · rw [if_neg (by simp [h0, hlt])]
          exact round_d2 hb size align r _ _ h2 hp q1 q2 (by simp [h0]) hlt (Lib.hid HC) HG
    · rw [show max (max size align) 16 = align by omega] at HC
      by_cases h0 : r = 0
      · rw [if_pos (.inl h0)]
        exact round_b0 hb size align r _ _ h2 hp q1 q2 (by simp [h0]) (Lib.hid HC) HG
      · by_cases hlt : β.σ.size < r
        · rw [if_pos (.inr hlt)]
          exact round_b1 hb size align r _ _ h2 hp q1 q2 (by simp [h0]) hlt (Lib.hid HC) HG
        · rw [if_neg (by simp [h0, hlt])]
          exact round_b2 hb size align r _ _ h2 hp q1 q2 (by simp [h0]) hlt (Lib.hid HC) HG
    · rw [show max (max size align) 16 = size by omega] at HC
      by_cases h0 : r = 0
      · rw [if_pos (.inl h0)]
        exact round_c0 hb size align r _ _ h2 hp q1 q2 (by simp [h0]) (Lib.hid HC) HG
      · by_cases hlt : β.σ.size < r
        · rw [if_pos (.inr hlt)]
          exact round_c1 hb size align r _ _ h2 hp q1 q2 (by simp [h0]) hlt (Lib.hid HC) HG
        · rw [if_neg (by simp [h0, hlt])]
          exact round_c2 hb size align r _ _ h2 hp q1 q2 (by simp [h0]) hlt (Lib.hid HC) HG

end Go.Proofs.YtnjcmcnjgdjbiaaGreatDoor

namespace Go.Proofs.YtnjcmcnjgdjbiaaGreatDoor
open Go.RowKit

theorem order_q (r q : Nat) (v : Int) (w : World) (e : IntKind.u64.wrap ((r : Int) / 4096) = (q : Int)) (HL : Hid (Calls Tryz.prog 190 #[.int .u64 q] w fun e w' => e = .returned (.int .i64 v) ∧ w = w')) :
    Calls Tryz.prog 138 #[.int .u64 r] w fun e w' => e = .returned (.int .i64 v) ∧ w = w' := by
  go_enter Tryz.func138, Tryz.ntmps138
  go_wp2_with fail
  refine HL.out.mono ?_
  rintro e w' ⟨rfl, rfl⟩
  go_wp2_with fail
  go_ret
  exact ⟨rfl, rfl⟩

theorem class_q (r q : Nat) (v : Int) (w : World) (e : IntKind.u64.wrap ((r : Int) / 16) = (q : Int)) (HL : Hid (Calls Tryz.prog 190 #[.int .u64 q] w fun e w' => e = .returned (.int .i64 v) ∧ w = w')) :
    Calls Tryz.prog 192 #[.int .u64 r] w fun e w' => e = .returned (.int .i64 v) ∧ w = w' := by
  go_enter Tryz.func192, Tryz.ntmps192
  go_wp2_with fail
  refine HL.out.mono ?_
  rintro e w' ⟨rfl, rfl⟩
  go_wp2_with fail
  go_ret
  exact ⟨rfl, rfl⟩

theorem order_ (r : Nat) (w : World) (h : r < 18446744073709551616) :
    Calls Tryz.prog 138 #[.int .u64 r] w fun e w' => e = .returned (.int .i64 ((Lib.bitLen (r / 4096) : Int) - 1)) ∧ w = w' :=
  order_q r (r / 4096) _ w (by rw [show (r : Int) / 4096 = ((r / 4096 : Nat) : Int) by omega]; exact IntWalk.u64_in _ (by omega)) (Lib.hid (log_ (r / 4096) w (by omega)))

theorem class_ (r : Nat) (w : World) (h : r < 18446744073709551616) :
    Calls Tryz.prog 192 #[.int .u64 r] w fun e w' => e = .returned (.int .i64 ((Lib.bitLen (r / 16) : Int) - 1)) ∧ w = w' :=
  class_q r (r / 16) _ w (by rw [show (r : Int) / 16 = ((r / 16 : Nat) : Int) by omega]; exact IntWalk.u64_in _ (by omega)) (Lib.hid (log_ (r / 16) w (by omega)))

end Go.Proofs.YtnjcmcnjgdjbiaaGreatDoor

namespace Go.Proofs.YtnjcmcnjgdjbiaaGreatDoor
open Go.RowKit Go.MuLone

/-- .. the arguments as a list -/
theorem step_call_list {P : Program} (w : World) {ops : Array Oper} {o : Oper} {a : Act} {K : Act → World → Prop} {Q : Exit → Act → World → Prop} {E : Prop} (hgd : o.guard = none) (f : FuncId) (xs : Array Operand) (ts : Array TypeId)
    (ho : o.op = .call { callee := .value (.func f), args := xs, argTypes := ts }) (us : Array Value) (hargs : xs.toList.map a.eval = us.toList) {Post : Ending → World → Prop}
    (hc : Calls P f us w Post) (hcf : (callFunc f us).run P w = .ok (.enter f us) w) (h : ∀ e w', Post e w' → ∃ r, e = .returned r ∧ K (a.put o.dst r) w') :
    if Region.wanted o (yielded ops a.tmps) = true then Oper.wp P o a w K Q else E :=
  step_call_post w hgd f xs ts ho us (by
    apply Array.toList_inj.1
    rw [Array.toList_map]
    exact hargs) hc hcf h

def TookAs (w : World) (p : Nat) (er : Int) (Q : World → World → Prop) (e : Ending) (w' : World) : Prop :=
  e = .returned (.tuple #[.int .u64 p, .int .i64 er]) ∧ ∃ W, Touch Nothing w W ∧ Q W w'

set_option maxRecDepth 100000 in
theorem take_small {w : World} (hb s r c p : Nat) (g deny : Bool) (er : Int) (Q : World → World → Prop) (c6 : w.cell? ⟨hb, 6, none⟩ = some (.pointer (some ⟨s, 0, none⟩))) (hr : (r : Int) < 4096) (hc : (Lib.bitLen (r / 16) : Int) - 1 = c)
    (HT : ∀ W, Touch Nothing w W → Calls Tryz.prog 191 #[.pointer (some ⟨s, 0, none⟩), .int .i64 c, .bool deny] W fun e w' => e = .returned (.tuple #[.int .u64 p, .bool g, .int .i64 er]) ∧ Q W w') :
    Calls Tryz.prog 139 #[.pointer (some ⟨hb, 0, none⟩), .int .u64 r, .bool deny] w (TookAs w p er Q) := by
  have HTk := Lib.hid (fun k => HT (w.drewN k) ((Touch.refl Nothing w).drewN k))
  have HC := Lib.hid (fun W => class_ r W (by omega))
  rw [hc] at HC
  have hcf : ∀ (us : Array Value) (W : World), (callFunc 191 us).run Tryz.prog W = .ok (.enter 191 us) W := fun us W => by simp [go_sem]
  have hcf2 : ∀ (us : Array Value) (W : World), (callFunc 192 us).run Tryz.prog W = .ok (.enter 192 us) W := fun us W => by simp [go_sem]
  have HCF := Lib.hid hcf
  have HCF2 := Lib.hid hcf2
  clear hcf hcf2 HT hc
  go_enter Tryz.func139, Tryz.ntmps139
  go_wp2_with fail
  go_region_law (first | (refine step_call_list _ (by rfl) 192 #[.tmp 21] #[33] (by rfl) #[.int .u64 r] (by rfl) (HC.out _) (HCF2.out _ _) ?_; rintro e w1 ⟨rfl, rfl⟩; refine ⟨_, rfl, ?_⟩) | (refine step_call_list _ (by rfl) 191 #[.tmp 20, .tmp 22, .tmp 23] #[87, 3, 4] (by rfl) #[.pointer (some ⟨s, 0, none⟩), .int .i64 c, .bool deny] (by rfl) (HTk.out 1) (HCF.out _ _) ?_; rintro e w1 ⟨rfl, hQ⟩; refine ⟨_, rfl, ?_⟩; have HQ := Lib.hid hQ; clear hQ))
  all_goals
    go_wp2_with fail
    go_ret2
    exact ⟨rfl, _, (Touch.refl Nothing w).drewN 1, HQ.out⟩

set_option maxRecDepth 100000 in
theorem take_big {w : World} (hb pb r o p : Nat) (g deny : Bool) (er : Int) (Q : World → World → Prop) (c5 : w.cell? ⟨hb, 5, none⟩ = some (.pointer (some ⟨pb, 0, none⟩))) (hr : (4096 : Int) ≤ r) (hr2 : r ≤ 1048576) (hc : (Lib.bitLen (r / 4096) : Int) - 1 = o)
    (HT : ∀ W, Touch Nothing w W → Calls Tryz.prog 193 #[.pointer (some ⟨pb, 0, none⟩), .int .i64 o, .bool deny] W fun e w' => e = .returned (.tuple #[.int .u64 p, .bool g, .int .i64 er]) ∧ Q W w') :
    Calls Tryz.prog 139 #[.pointer (some ⟨hb, 0, none⟩), .int .u64 r, .bool deny] w (TookAs w p er Q) := by
  have HTk := Lib.hid (fun k => HT (w.drewN k) ((Touch.refl Nothing w).drewN k))
  have HC := Lib.hid (fun W => order_ r W (by omega))
  rw [hc] at HC
  have hcf : ∀ (us : Array Value) (W : World), (callFunc 193 us).run Tryz.prog W = .ok (.enter 193 us) W := fun us W => by simp [go_sem]
  have hcf2 : ∀ (us : Array Value) (W : World), (callFunc 138 us).run Tryz.prog W = .ok (.enter 138 us) W := fun us W => by simp [go_sem]
  have HCF := Lib.hid hcf
  have HCF2 := Lib.hid hcf2
  clear hcf hcf2 HT hc
  go_enter Tryz.func139, Tryz.ntmps139
  go_wp2_with fail
  go_region_law (first | (refine step_call_list _ (by rfl) 138 #[.tmp 35] #[33] (by rfl) #[.int .u64 r] (by rfl) (HC.out _) (HCF2.out _ _) ?_; rintro e w1 ⟨rfl, rfl⟩; refine ⟨_, rfl, ?_⟩) | (refine step_call_list _ (by rfl) 193 #[.tmp 34, .tmp 36, .tmp 37] #[84, 3, 4] (by rfl) #[.pointer (some ⟨pb, 0, none⟩), .int .i64 o, .bool deny] (by rfl) (HTk.out 1) (HCF.out _ _) ?_; rintro e w1 ⟨rfl, hQ⟩; refine ⟨_, rfl, ?_⟩; have HQ := Lib.hid hQ; clear hQ))
  all_goals
    go_wp2_with fail
    go_ret2
    exact ⟨rfl, _, (Touch.refl Nothing w).drewN 1, HQ.out⟩

end Go.Proofs.YtnjcmcnjgdjbiaaGreatDoor

namespace Go.Proofs.YtnjcmcnjgdjbiaaGreatDoor
open Go.RowKit Go.MuLone

/-- a call that turned what Q tells, and a block of its own -/
def Did (w : World) (v : Value) (Q : World → World → Prop) (e : Ending) (w' : World) : Prop :=
  e = .returned v ∧ ∃ W W1 b, Touch Nothing w W ∧ Q W W1 ∧ w.heap.size ≤ b ∧ b < W.heap.size ∧ Touch (· = b) W1 w'

set_option maxRecDepth 100000 in
theorem malloc_ok {w : World} (hb size align r p : Nat) (deny : Bool) (Q : World → World → Prop) (S : Nat → Prop) (hS : ∀ k, S k → k < w.heap.size) (hQ : ∀ W W1, Q W W1 → Touch S W W1)
    (HR : Hid (∀ W, Touch Nothing w W → Calls Tryz.prog 135 #[.pointer (some ⟨hb, 0, none⟩), .int .u64 size, .int .u64 align] W (Rounded W (r, 0))))
    (HT : Hid (∀ W, Touch Nothing w W → Calls Tryz.prog 139 #[.pointer (some ⟨hb, 0, none⟩), .int .u64 r, .bool deny] W (TookAs W p 0 Q))) :
    Calls Tryz.prog 133 #[.pointer (some ⟨hb, 0, none⟩), .int .u64 size, .int .u64 align, .bool deny] w (Did w (.tuple #[.agg #[.int .u64 p, .int .u64 r], .int .i64 0]) Q) := by
  have T0 := Lib.hid (show Touch Nothing w (w.alloc (.cells #[.int .u64 0, .int .u64 0] 71)) from (Touch.refl _ _).alloc _)
  have B0 := Lib.hid (Blk.new w #[.int .u64 0, .int .u64 0] 71)
  have HS := Lib.hid hS
  have HQS := Lib.hid hQ
  clear hS hQ
  go_enter Tryz.func133, Tryz.ntmps133
  go_wp2_with fail
  refine (HR.out _ T0.out).mono ?_
  rintro e w1 ⟨rfl, rfl⟩
  go_wp2_with fail
  refine (HT.out _ T0.out).mono ?_
  rintro e w2 ⟨rfl, W, T1, hQ⟩
  have B2 := (B0.out.touch T1 (fun h => h)).touch (HQS.out _ _ hQ) (fun h => by have := HS.out _ h; omega)
  have c0 := B2.cell 0
  have c1 := B2.cell 1
  have f0 := B2.free 0
  have f1 := B2.free 1
  have HB3 := Lib.hid ((B2.set 0 (.int .u64 p)).set 1 (.int .u64 r))
  have hlt := Lib.hid ((B0.out.touch T1 (fun h => h)).lt)
  have HT1 := Lib.hid T1
  have HQ := Lib.hid hQ
  clear B2 T1 hQ
  simp at c0 c1
  go_wp2_with fail
  have d0 := HB3.out.cell 0
  have d1 := HB3.out.cell 1
  simp at d0 d1
  have T3 := (Touch.cellAt w2 w.heap.size 0 (.int .u64 p)).trans (Touch.cellAt (w2.setCell ⟨w.heap.size, 0, none⟩ (.int .u64 p)) w.heap.size 1 (.int .u64 r))
  exact bodyPost_ret (v := .tuple #[.agg #[.int .u64 p, .int .u64 r], .int .i64 0]) (by simp [results, Tryz.results133, go_sem, d0, d1]) rfl ⟨rfl, W, w2, w.heap.size, T0.out.trans HT1.out, HQ.out, Nat.le_refl _, hlt.out, T3⟩

set_option maxRecDepth 100000 in
theorem malloc_round {w : World} (hb size align : Nat) (er : Int) (deny : Bool) (her : er ≠ 0)
    (HR : Hid (∀ W, Touch Nothing w W → Calls Tryz.prog 135 #[.pointer (some ⟨hb, 0, none⟩), .int .u64 size, .int .u64 align] W (Rounded W (0, er)))) :
    Calls Tryz.prog 133 #[.pointer (some ⟨hb, 0, none⟩), .int .u64 size, .int .u64 align, .bool deny] w fun e w' => e = .returned (.tuple #[.agg #[.int .u64 0, .int .u64 0], .int .i64 er]) ∧ Touch Nothing w w' := by
  have T0 := Lib.hid (show Touch Nothing w (w.alloc (.cells #[.int .u64 0, .int .u64 0] 71)) from (Touch.refl _ _).alloc _)
  have hne : (er != 0) = true := by rw [bne_iff_ne]; exact her
  clear her
  go_enter Tryz.func133, Tryz.ntmps133
  go_wp2_with fail
  refine (HR.out _ T0.out).mono ?_
  rintro e w1 ⟨rfl, rfl⟩
  go_wp2_with fail
  exact bodyPost_ret (v := .tuple #[.agg #[.int .u64 0, .int .u64 0], .int .i64 er]) (by simp [results, Tryz.results133, go_sem]) rfl ⟨rfl, T0.out⟩

set_option maxRecDepth 100000 in
theorem malloc_take {w : World} (hb size align r : Nat) (er : Int) (deny : Bool) (her : er ≠ 0) (Q : World → World → Prop) (S : Nat → Prop) (hS : ∀ k, S k → k < w.heap.size) (hQ : ∀ W W1, Q W W1 → Touch S W W1)
    (HR : Hid (∀ W, Touch Nothing w W → Calls Tryz.prog 135 #[.pointer (some ⟨hb, 0, none⟩), .int .u64 size, .int .u64 align] W (Rounded W (r, 0))))
    (HT : Hid (∀ W, Touch Nothing w W → Calls Tryz.prog 139 #[.pointer (some ⟨hb, 0, none⟩), .int .u64 r, .bool deny] W (TookAs W 0 er Q))) :
    Calls Tryz.prog 133 #[.pointer (some ⟨hb, 0, none⟩), .int .u64 size, .int .u64 align, .bool deny] w (Did w (.tuple #[.agg #[.int .u64 0, .int .u64 0], .int .i64 er]) Q) := by
  have T0 := Lib.hid (show Touch Nothing w (w.alloc (.cells #[.int .u64 0, .int .u64 0] 71)) from (Touch.refl _ _).alloc _)
  have B0 := Lib.hid (Blk.new w #[.int .u64 0, .int .u64 0] 71)
  have HS := Lib.hid hS
  have HQS := Lib.hid hQ
  have hne : (er != 0) = true := by rw [bne_iff_ne]; exact her
  clear hS hQ her
  go_enter Tryz.func133, Tryz.ntmps133
  go_wp2_with fail
  refine (HR.out _ T0.out).mono ?_
  rintro e w1 ⟨rfl, rfl⟩
  go_wp2_with fail
  refine (HT.out _ T0.out).mono ?_
  rintro e w2 ⟨rfl, W, T1, hQ⟩
  have B2 := (B0.out.touch T1 (fun h => h)).touch (HQS.out _ _ hQ) (fun h => by have := HS.out _ h; omega)
  have c0 := B2.cell 0
  have c1 := B2.cell 1
  have f0 := B2.free 0
  have f1 := B2.free 1
  have HB3 := Lib.hid ((B2.set 0 (.int .u64 0)).set 1 (.int .u64 0))
  have hlt := Lib.hid ((B0.out.touch T1 (fun h => h)).lt)
  have HT1 := Lib.hid T1
  have HQ := Lib.hid hQ
  clear B2 T1 hQ
  simp at c0 c1
  go_wp2_with fail
  have d0 := HB3.out.cell 0
  have d1 := HB3.out.cell 1
  simp at d0 d1
  have T3 := (Touch.cellAt w2 w.heap.size 0 (.int .u64 0)).trans (Touch.cellAt (w2.setCell ⟨w.heap.size, 0, none⟩ (.int .u64 0)) w.heap.size 1 (.int .u64 0))
  exact bodyPost_ret (v := .tuple #[.agg #[.int .u64 0, .int .u64 0], .int .i64 er]) (by simp [results, Tryz.results133, go_sem, d0, d1]) rfl ⟨rfl, W, w2, w.heap.size, T0.out.trans HT1.out, HQ.out, Nat.le_refl _, hlt.out, T3⟩

/-- what a call may turn of a slab -/
def QSl (s pb : Nat) (K : BuL) (β' : Bu) (ps' : List Int) (W W1 : World) : Prop := ∃ K', SlRep W1 s pb K' β' ps' ∧ K.Next W K' ∧ Touch (· ∈ s :: K.fp) W W1

theorem Did.hp {m : Int} {w w' : World} {hb s pb : Nat} {K : BuL} {β β' : Bu} {ps ps' : List Int} {v : Value} {e : Ending} (R : HpRep m w hb s pb K β ps) (D : Did w v (QSl s pb K β' ps') e w') (hσ : β'.σ.base = β.σ.base ∧ β'.σ.limit = β.σ.limit ∧ β'.μ.order = β.μ.order) :
    ∃ K', HpRep m w' hb s pb K' β' ps' ∧ K.Next w K' ∧ Touch (· ∈ s :: K.fp) w w' := by
  obtain ⟨rfl, W, W1, b, T0, ⟨K', S1, N1, T1⟩, hb1, hb2, T2⟩ := D
  have R1 := (R.touch0 T0).next T1 N1 S1 hσ
  have hs := T0.size
  have hne : ∀ k ∈ hb :: s :: pb :: K'.fp, ¬ k = b := by
    intro k hk e
    simp only [List.mem_cons] at hk
    have hl := R.lt
    rcases hk with h | h | h | h
    · have := hl k (by simp [h]); omega
    · have := hl k (by simp [h]); omega
    · have := hl k (by simp [h]); omega
    · rcases N1.fresh k h with h | h
      · have := hl k (by simp [h]); omega
      · omega
  have hg := R.glob.size
  refine ⟨K', R1.touch T2 hne (fun k hk e => by omega), ⟨N1.bb, N1.sb, N1.mb, fun k hk => ?_⟩, (T0.none_.trans T1).trans' T2 (fun i hi e => by omega)⟩
  rcases N1.fresh k hk with h | h
  · exact .inl h
  · exact .inr (Nat.le_trans hs h)

/-- what a method of a heap may turn -/
def Heaped (w : World) (hb s pb : Nat) (K : BuL) (β' : Bu) (ps' : List Int) (v : Value) (e : Ending) (w' : World) : Prop :=
  e = .returned v ∧ ∃ K', HpRep 0 w' hb s pb K' β' ps' ∧ K.Next w K' ∧ Touch (· ∈ hb :: s :: K.fp) w w'

theorem HpRep.unlocked {w w1 w2 : World} {hb s pb : Nat} {K K' : BuL} {β' : Bu} {ps' : List Int} {v : Value} (hw1 : w1 = w.setCell ⟨hb, 0, none⟩ (.int .i32 1))
    (R2 : HpRep 1 w2 hb s pb K' β' ps') (N : K.Next w1 K') (T : Touch (· ∈ s :: K.fp) w1 w2) :
    Heaped w hb s pb K β' ps' v (.returned v) (w2.setCell ⟨hb, 0, none⟩ (.int .i32 0)) := by
  subst hw1
  refine ⟨rfl, K', R2.locked 0, ⟨N.bb, N.sb, N.mb, fun k hk => ?_⟩, ?_⟩
  · rcases N.fresh k hk with h | h
    · exact .inl h
    · exact .inr (by simpa [World.setCell] using h)
  · exact (((Touch.cellAt w hb 0 _).mono (fun k _ h => by simp [h])).trans (T.mono (fun k _ h => List.mem_cons_of_mem _ h))).trans ((Touch.cellAt w2 hb 0 _).mono (fun k _ h => by simp [h]))

set_option maxRecDepth 100000 in
theorem HpRep.aligned_ {w : World} {hb s pb : Nat} {K : BuL} {β β' : Bu} {ps ps' : List Int} (R : HpRep 0 w hb s pb K β ps) (size align p r : Nat) (er : Int) (deny : Bool) (hσ : β'.σ.base = β.σ.base ∧ β'.σ.limit = β.σ.limit ∧ β'.μ.order = β.μ.order)
    (HM : ∀ W, HpRep 1 W hb s pb K β ps → Calls Tryz.prog 133 #[.pointer (some ⟨hb, 0, none⟩), .int .u64 size, .int .u64 align, .bool deny] W (Did W (.tuple #[.agg #[.int .u64 p, .int .u64 r], .int .i64 er]) (QSl s pb K β' ps'))) :
    Calls Tryz.prog 90 #[.pointer (some ⟨hb, 0, none⟩), .int .u64 align, .int .u64 size, .bool deny] w (Heaped w hb s pb K β' ps' (.tuple #[.int .u64 p, .int .i64 er])) := by
  obtain ⟨c0, -, -, -, -, f0⟩ := R.cells
  have R1 := R.locked 1
  have HM1 := Lib.hid (HM _ R1)
  have HR1 := Lib.hid R1
  have HS := Lib.hid hσ
  clear R HM R1 hσ
  go_enter_defers Tryz.func90, Tryz.ntmps90
  go_wp2_with (go_at_call 58; refine (lock_free Tryz.muLib ⟨hb, 0, none⟩ _ c0 f0).mono ?_; rintro e w' ⟨rfl, rfl⟩)
  generalize hw1 : w.setCell ⟨hb, 0, none⟩ (.int .i32 1) = w1 at *
  refine HM1.out.mono ?_
  rintro e w2 hD
  obtain ⟨K', R2, N2, T2⟩ := Did.hp HR1.out hD HS.out
  obtain ⟨rfl, -⟩ := hD
  have HW1 := Lib.hid hw1
  have HR2 := Lib.hid R2
  have HN2 := Lib.hid N2
  have HT2 := Lib.hid T2
  have hm := R2.cells.1
  have fm := R2.cells.2.2.2.2.2
  clear hw1 R2 N2 T2 c0 f0
  go_wp2
  have T3 : Touch Nothing w2 (w2.alloc (.cells #[.int .u64 p, .int .u64 r] 71)) := (Touch.refl _ _).alloc _
  have R3 := HR2.out.touch0 T3
  refine leaves_cons (f := 59) (args := #[.pointer (some ⟨hb, 0, none⟩)]) (by simp) (by simp [go_sem]) ?_
  refine (unlock_deferred Tryz.muLib ⟨hb, 0, none⟩ .returning _ ?_ ?_).mono ?_
  · exact R3.cells.1
  · exact R3.cells.2.2.2.2.2
  rintro e u' w'' ⟨rfl, rfl, rfl⟩
  exact ⟨_, results_tmp2 rfl _ _ _, HpRep.unlocked HW1.out.symm R3 HN2.out (HT2.out.trans T3.none_)⟩

theorem HpRep.malloc_ {w : World} {hb s pb : Nat} {K : BuL} {β β' : Bu} {ps ps' : List Int} (R : HpRep 0 w hb s pb K β ps) (size p r : Nat) (er : Int) (deny : Bool) (hσ : β'.σ.base = β.σ.base ∧ β'.σ.limit = β.σ.limit ∧ β'.μ.order = β.μ.order)
    (HM : ∀ W, HpRep 1 W hb s pb K β ps → Calls Tryz.prog 133 #[.pointer (some ⟨hb, 0, none⟩), .int .u64 size, .int .u64 1, .bool deny] W (Did W (.tuple #[.agg #[.int .u64 p, .int .u64 r], .int .i64 er]) (QSl s pb K β' ps'))) :
    Calls Tryz.prog 88 #[.pointer (some ⟨hb, 0, none⟩), .int .u64 size, .bool deny] w (Heaped w hb s pb K β' ps' (.tuple #[.int .u64 p, .int .i64 er])) := by
  have HA := Lib.hid (R.aligned_ size 1 p r er deny hσ HM)
  clear R HM hσ
  go_enter Tryz.func88, Tryz.ntmps88
  go_wp2_with fail
  refine HA.out.mono ?_
  rintro e w1 ⟨rfl, hH⟩
  have HH := Lib.hid hH
  clear hH
  go_wp2_with fail
  go_ret2
  exact ⟨rfl, HH.out⟩


end Go.Proofs.YtnjcmcnjgdjbiaaGreatDoor

namespace Go.Proofs.YtnjcmcnjgdjbiaaGreatDoor
open Go.RowKit

def Blocked (w : World) (P size : Nat) (b : Bool) (e : Ending) (w' : World) : Prop :=
  e = .returned (.tuple #[.agg #[.int .u64 P, .int .u64 size], .bool b]) ∧ Touch Nothing w w'

set_option maxRecDepth 100000 in
theorem HpRep.block_lo {m : Int} {w : World} {hb s pb : Nat} {K : BuL} {β : Bu} {ps : List Int} (R : HpRep m w hb s pb K β ps) (p : Nat) (h : p < β.σ.base) :
    Calls Tryz.prog 110 #[.pointer (some ⟨hb, 0, none⟩), .int .u64 p] w (Blocked w 0 0 false) := by
  have T0 := Lib.hid (show Touch Nothing w (w.alloc (.cells #[.int .u64 0, .int .u64 0] 71)) from (Touch.refl _ _).alloc _)
  obtain ⟨-, c2, -, -, -, -⟩ := R.cells
  have hlt : hb < w.heap.size := R.blk.lt
  clear R
  go_enter Tryz.func110, Tryz.ntmps110
  go_wp2_with fail
  exact bodyPost_ret (v := .tuple #[.agg #[.int .u64 0, .int .u64 0], .bool false]) (by simp [results, Tryz.results110, go_sem]) rfl ⟨rfl, T0.out⟩

set_option maxRecDepth 100000 in
set_option maxHeartbeats 1000000 in
theorem block_slab_cells (hb pb sb mb base p i c wd a P d o4 cell q r x : Nat) (b : Bool) (pg : Pg) (w : World)
    (c2 : w.cell? ⟨hb, 2, none⟩ = some (.int .u64 base)) (c5 : w.cell? ⟨hb, 5, none⟩ = some (.pointer (some ⟨pb, 0, none⟩))) (lhb : hb < w.heap.size) (E : Nat) (h1 : ¬ (p < base)) (h2 : p < E)
    (hS : ∀ W, Touch Nothing w W → Calls Tryz.prog 60 #[.pointer (some ⟨pb, 0, none⟩)] W fun e w' => e = .returned (.pointer (some ⟨sb, 0, none⟩)) ∧ W = w')
    (hE : ∀ W, Touch Nothing w W → Calls Tryz.prog 61 #[.pointer (some ⟨sb, 0, none⟩)] W fun e w' => e = .returned (.int .u64 E) ∧ ∃ k, w' = W.drewN k)
    (hM : ∀ W, Touch Nothing w W → Calls Tryz.prog 63 #[.pointer (some ⟨pb, 0, none⟩)] W fun e w' => e = .returned (.pointer (some ⟨mb, 0, none⟩)) ∧ W = w')
    (hA : ∀ W, Touch Nothing w W → Calls Tryz.prog 65 #[.pointer (some ⟨mb, 0, none⟩), .int .i64 i] W fun e w' => e = .returned (.tuple #[pg.val, .bool true]) ∧ Touch Nothing W w')
    (hk : pg.kind = 4) (hc : pg.cls = c) (hmin : min c 64 = c) (hwd : IntKind.u64.wrap (16 * 2 ^ c) = (wd : Int)) (hwd0 : ¬ (wd : Int) = 0)
    (e1 : (p : Int) - base = (d : Nat)) (e1' : (d : Int) / 4096 = i) (hi : i ≤ 1023) (hp : p ≤ 18446744073709551615)
    (e2 : (p : Int) / wd = a) (ha : a ≤ p) (e3 : (a : Int) * wd = P) (hP : P ≤ p) (e4 : (P : Int) % 4096 = o4) (_ho4 : o4 < 4096) (e5 : (o4 : Int) / wd = cell) (hcell : cell < 256)
    (r1 : (cell : Int) / 64 = q) (r2 : (cell : Int) % 64 = r) (r3 : (cell : Int).tmod 64 = r) (hq : (q : Int) < 4) (_hr : r < 64) (hx : pg.word q = x) (hbt : (bits .and .u64 ((x : Int) / 2 ^ r) 1 == 1) = b) :
    Calls Tryz.prog 110 #[.pointer (some ⟨hb, 0, none⟩), .int .u64 p] w (Blocked w P wd b) := by
  have T0 := Lib.hid (show Touch Nothing w (w.alloc (.cells #[.int .u64 0, .int .u64 0] 71)) from (Touch.refl _ _).alloc _)
  have HS := Lib.hid hS
  have HE := Lib.hid hE
  have HM := Lib.hid hM
  have HA := Lib.hid hA
  clear hS hE hM hA
  go_enter Tryz.func110, Tryz.ntmps110
  go_wp2_with fail
  refine (HS.out _ T0.out).mono ?_
  rintro e w1 ⟨rfl, rfl⟩
  go_wp2_with fail
  refine (HE.out _ T0.out).mono ?_
  rintro e w1 ⟨rfl, k1, rfl⟩
  go_wp2_with fail
  have T1 : Touch Nothing w ((w.alloc (.cells #[.int .u64 0, .int .u64 0] 71)).drewN k1) := T0.out.drewN k1
  have B1 := (Blk.new w #[.int .u64 0, .int .u64 0] 71).drewN k1
  have d5 : ((w.alloc (.cells #[.int .u64 0, .int .u64 0] 71)).drewN k1).cell? ⟨hb, 5, none⟩ = some (.pointer (some ⟨pb, 0, none⟩)) := (T1.cell (p := ⟨hb, 5, none⟩) lhb (fun h => h)).trans c5
  refine (HM.out _ T1).mono ?_
  rintro e w2 ⟨rfl, rfl⟩
  have HT1 := Lib.hid T1
  have HB1 := Lib.hid B1
  clear T1 B1
  go_wp2_with fail
  refine (HA.out _ HT1.out).mono ?_
  rintro e w2 ⟨rfl, T2⟩
  have B2 := HB1.out.touch T2 (fun h => h)
  have f0 := B2.free 0
  have f1 := B2.free 1
  have b0 := B2.cell 0
  have b1 := B2.cell 1
  have lb : w.heap.size < w2.heap.size := B2.lt
  have HB2 := Lib.hid B2
  have HT2 := Lib.hid (HT1.out.trans T2)
  simp at b0 b1
  clear B2 T2 d5
  unfold Pg.val
  go_wp2_with fail
  have B3 := (Blk.new w2 #[.int .i64 4, .int .i64 pg.order, .int .i64 c, .int .i64 pg.live, .int .i64 pg.next, .int .i64 pg.prev, .int .i64 pg.first, .int .u64 pg.b0, .int .u64 pg.b1, .int .u64 pg.b2, .int .u64 pg.b3] 128).alloc (.cells #[.int .u64 P, .int .u64 wd] 71)
  have B4 := Blk.new (w2.alloc (.cells #[.int .i64 4, .int .i64 pg.order, .int .i64 c, .int .i64 pg.live, .int .i64 pg.next, .int .i64 pg.prev, .int .i64 pg.first, .int .u64 pg.b0, .int .u64 pg.b1, .int .u64 pg.b2, .int .u64 pg.b3] 128)) #[.int .u64 P, .int .u64 wd] 71
  have T4 := ((Touch.refl Nothing w2).alloc (.cells #[.int .i64 4, .int .i64 pg.order, .int .i64 c, .int .i64 pg.live, .int .i64 pg.next, .int .i64 pg.prev, .int .i64 pg.first, .int .u64 pg.b0, .int .u64 pg.b1, .int .u64 pg.b2, .int .u64 pg.b3] 128)).alloc (.cells #[.int .u64 P, .int .u64 wd] 71)
  have hxc : ((w2.alloc (.cells #[.int .i64 4, .int .i64 pg.order, .int .i64 c, .int .i64 pg.live, .int .i64 pg.next, .int .i64 pg.prev, .int .i64 pg.first, .int .u64 pg.b0, .int .u64 pg.b1, .int .u64 pg.b2, .int .u64 pg.b3] 128)).alloc (.cells #[.int .u64 P, .int .u64 wd] 71)).cell? ⟨w2.heap.size, 7 + q, none⟩ = some (.int .u64 x) := by
    rw [B3.cell]
    have := pg.word_cell q (by omega)
    rw [hx] at this
    simpa [Pg.cells, hk, hc] using this
  have hz1 : (w2.alloc (.cells #[.int .i64 4, .int .i64 pg.order, .int .i64 c, .int .i64 pg.live, .int .i64 pg.next, .int .i64 pg.prev, .int .i64 pg.first, .int .u64 pg.b0, .int .u64 pg.b1, .int .u64 pg.b2, .int .u64 pg.b3] 128)).heap.size = w2.heap.size + 1 := by simp
  have g0 : ((w2.alloc (.cells #[.int .i64 4, .int .i64 pg.order, .int .i64 c, .int .i64 pg.live, .int .i64 pg.next, .int .i64 pg.prev, .int .i64 pg.first, .int .u64 pg.b0, .int .u64 pg.b1, .int .u64 pg.b2, .int .u64 pg.b3] 128)).alloc (.cells #[.int .u64 P, .int .u64 wd] 71)).cell? ⟨w2.heap.size + 1, 0, none⟩ = some (.int .u64 P) := by
    rw [← hz1]
    exact B4.cell 0
  have g1 : ((w2.alloc (.cells #[.int .i64 4, .int .i64 pg.order, .int .i64 c, .int .i64 pg.live, .int .i64 pg.next, .int .i64 pg.prev, .int .i64 pg.first, .int .u64 pg.b0, .int .u64 pg.b1, .int .u64 pg.b2, .int .u64 pg.b3] 128)).alloc (.cells #[.int .u64 P, .int .u64 wd] 71)).cell? ⟨w2.heap.size + 1, 1, none⟩ = some (.int .u64 wd) := by
    rw [← hz1]
    exact B4.cell 1
  clear hz1
  have z0 : ((w2.alloc (.cells #[.int .i64 4, .int .i64 pg.order, .int .i64 c, .int .i64 pg.live, .int .i64 pg.next, .int .i64 pg.prev, .int .i64 pg.first, .int .u64 pg.b0, .int .u64 pg.b1, .int .u64 pg.b2, .int .u64 pg.b3] 128)).alloc (.cells #[.int .u64 P, .int .u64 wd] 71)).cell? ⟨w.heap.size, 0, none⟩ = some (.int .u64 0) := (T4.cell (p := ⟨w.heap.size, 0, none⟩) lb (fun h => h)).trans b0
  have z1 : ((w2.alloc (.cells #[.int .i64 4, .int .i64 pg.order, .int .i64 c, .int .i64 pg.live, .int .i64 pg.next, .int .i64 pg.prev, .int .i64 pg.first, .int .u64 pg.b0, .int .u64 pg.b1, .int .u64 pg.b2, .int .u64 pg.b3] 128)).alloc (.cells #[.int .u64 P, .int .u64 wd] 71)).cell? ⟨w.heap.size, 1, none⟩ = some (.int .u64 0) := (T4.cell (p := ⟨w.heap.size, 1, none⟩) lb (fun h => h)).trans b1
  have y0 : ((w2.alloc (.cells #[.int .i64 4, .int .i64 pg.order, .int .i64 c, .int .i64 pg.live, .int .i64 pg.next, .int .i64 pg.prev, .int .i64 pg.first, .int .u64 pg.b0, .int .u64 pg.b1, .int .u64 pg.b2, .int .u64 pg.b3] 128)).alloc (.cells #[.int .u64 P, .int .u64 wd] 71)).frozen? ⟨w.heap.size, 0, none⟩ = false := (T4.frozen (p := ⟨w.heap.size, 0, none⟩) lb (fun h => h)).trans f0
  have y1 : ((w2.alloc (.cells #[.int .i64 4, .int .i64 pg.order, .int .i64 c, .int .i64 pg.live, .int .i64 pg.next, .int .i64 pg.prev, .int .i64 pg.first, .int .u64 pg.b0, .int .u64 pg.b1, .int .u64 pg.b2, .int .u64 pg.b3] 128)).alloc (.cells #[.int .u64 P, .int .u64 wd] 71)).frozen? ⟨w.heap.size, 1, none⟩ = false := (T4.frozen (p := ⟨w.heap.size, 1, none⟩) lb (fun h => h)).trans f1
  have HT4 := Lib.hid (HT2.out.trans T4)
  have HB5 := Lib.hid (((HB2.out.touch T4 (fun h => h)).set 0 (.int .u64 P)).set 1 (.int .u64 wd))
  generalize hW : (w2.alloc (.cells #[.int .i64 4, .int .i64 pg.order, .int .i64 c, .int .i64 pg.live, .int .i64 pg.next, .int .i64 pg.prev, .int .i64 pg.first, .int .u64 pg.b0, .int .u64 pg.b1, .int .u64 pg.b2, .int .u64 pg.b3] 128)).alloc (.cells #[.int .u64 P, .int .u64 wd] 71) = w4 at *
  clear hW B3 B4 T4 b0 b1 f0 f1 e2 e3 e4 e5 c2 c5
  go_region
  all_goals
    have d0 := HB5.out.drew.cell 0
    have d1 := HB5.out.drew.cell 1
    simp at d0 d1
    go_wp2_with fail
    have T5 : Touch (· = w.heap.size) w4 ((w4.setCell ⟨w.heap.size, 0, none⟩ (.int .u64 P)).setCell ⟨w.heap.size, 1, none⟩ (.int .u64 wd)).drew := ((Touch.cellAt w4 w.heap.size 0 (.int .u64 P)).trans (Touch.cellAt _ w.heap.size 1 (.int .u64 wd))).drew
    exact bodyPost_ret (v := .tuple #[.agg #[.int .u64 P, .int .u64 wd], .bool b]) (by simp [results, Tryz.results110, go_sem, d0, d1]) rfl ⟨rfl, HT4.out.trans' T5 (fun i hi e => by omega)⟩

/-- where an address lies in a slab page -/
structure InSlab (β : Bu) (p i c : Nat) (pg : Pg) : Prop where
  page : β.μ.pages[i]? = some pg
  kind : pg.kind = 4
  cls : pg.cls = c
  lo : β.σ.base ≤ p
  at_ : (p - β.σ.base) / 4096 = i

theorem InSlab.facts {β : Bu} {p i c : Nat} {pg : Pg} (h : InSlab β p i c pg) (o : β.ok) (so : β.σ.ok) (mo : β.μ.ok) :
    c ≤ 7 ∧ p < β.σ.base + β.σ.size * β.σ.n ∧ i ≤ 1023 ∧ p ≤ 18446744073709551615 ∧ p / wdOf c * wdOf c % 4096 / wdOf c < 256 ∧ p / wdOf c * wdOf c % 4096 / wdOf c < cellsN c := by
  have hlt := (List.getElem?_eq_some_iff.1 h.page).1
  have hcl := (mo.page pg (List.mem_of_getElem? h.page)).cls
  rw [h.cls] at hcl
  have hc : c ≤ 7 := by omega
  have hH := o.has (i := i) (off := (p - β.σ.base) % 4096) (n := 1) hlt (by omega) (by omega)
  have hp : β.addr i + (p - β.σ.base) % 4096 = p := by
    have := h.at_
    have := h.lo
    unfold Bu.addr
    omega
  have ht := hH.top so
  rw [hp] at ht
  have hl := mo.len
  have h64 := so.le64
  obtain ⟨w1, w2, w3, w4, w5, w6⟩ := wd_facts (show c < 8 by omega)
  have hd : p / wdOf c * wdOf c % 4096 / wdOf c < 4096 / wdOf c := by
    refine (Nat.div_lt_iff_lt_mul (by omega)).2 ?_
    rw [w3]
    exact Nat.mod_lt _ (by omega)
  exact ⟨hc, by omega, by omega, by omega, by omega, by rw [← w6]; exact hd⟩

/-- the cell of an address in a slab page -/
def cellAt (p c : Nat) : Nat := p / wdOf c * wdOf c % 4096 / wdOf c

theorem HpRep.block_slab {m : Int} {w : World} {hb s pb : Nat} {K : BuL} {β : Bu} {ps : List Int} (R : HpRep m w hb s pb K β ps) (p i c : Nat) {pg : Pg} (h : InSlab β p i c pg) :
    Calls Tryz.prog 110 #[.pointer (some ⟨hb, 0, none⟩), .int .u64 p] w (Blocked w (p / wdOf c * wdOf c) (wdOf c) (pg.bit (cellAt p c))) := by
  obtain ⟨hc, hE, hi, hp, hcell, _⟩ := h.facts R.sl.po.bu.ok R.sl.po.bu.sp.ok R.sl.po.bu.mp.ok
  obtain ⟨w1, w2, w3, w4, w5, w6⟩ := wd_facts (show c < 8 by omega)
  obtain ⟨-, c2, -, c5, -, -⟩ := R.cells
  have hlo := h.lo
  have hat := h.at_
  have hle : p / wdOf c * wdOf c ≤ p := Nat.div_mul_le_self _ _
  have hal : p / wdOf c ≤ p := Nat.div_le_self _ _
  have po := R.sl.po.bu.mp.ok.page pg (List.mem_of_getElem? h.page)
  have hq : cellAt p c / 64 < 4 := by unfold cellAt; omega
  refine block_slab_cells hb pb K.L.sb K.M.mb β.σ.base p i c (wdOf c) (p / wdOf c) (p / wdOf c * wdOf c) (p - β.σ.base) (p / wdOf c * wdOf c % 4096) (cellAt p c) (cellAt p c / 64) (cellAt p c % 64) (pg.word (cellAt p c / 64)) (pg.bit (cellAt p c)) pg w c2 c5 R.blk.lt _ (by omega) hE
    ?_ ?_ ?_ ?_ h.kind h.cls (by omega) ?_ (by omega) (by omega) (by omega) hi hp ?_ hal (by push_cast; rfl) hle (by omega) (Nat.mod_lt _ (by omega)) ?_ hcell (by omega) (by omega) ?_ (by omega) (Nat.mod_lt _ (by omega)) rfl ?_
  · intro W T
    exact (R.sl.po.touch0 T).space_
  · intro W T
    exact (R.sl.po.touch0 T).bu.sp.end_
  · intro W T
    exact (R.sl.po.touch0 T).map_
  · intro W T
    exact (R.sl.po.touch0 T).bu.mp.at_ h.page
  · have : (16 * 2 ^ c : Int) = ((wdOf c : Nat) : Int) := by unfold wdOf; push_cast; rfl
    rw [this]
    exact IntWalk.u64_in _ (by omega)
  · exact (Int.natCast_ediv _ _).symm
  · exact (Int.natCast_ediv _ _).symm
  · exact (Int.ofNat_tmod _ _).symm
  · exact bit_test _ _ (po.word_lt _ hq)

end Go.Proofs.YtnjcmcnjgdjbiaaGreatDoor

