/- Package slab, first part: what a slab is; New, base, hang at an empty list. Package slab, second part: base, hang at an empty list, born. Package slab, third part: born. Package slab, fourth part: Take out of a page that is new. -/
import Derived.Test.YtnjcmcnjgdjbiaaGreatDoorLgPool
import Derived.Test.YtnjcmcnjgdjbiaaGreatDoorLgGlob
namespace Go.Proofs.YtnjcmcnjgdjbiaaGreatDoor
open Go.RowKit

/-- the bytes have turned, in their place -/
theorem BuRep.bytes {w w' : World} {K : BuL} {β : Bu} {σ' : Sp} (R : BuRep w K β) (h : SpRep w' K.L σ') (T : Touch (· ∈ K.L.rbs) w w') (hσ : σ'.base = β.σ.base ∧ σ'.limit = β.σ.limit ∧ σ'.order = β.σ.order ∧ σ'.size = β.σ.size ∧ σ'.n = β.σ.n) :
    BuRep w' K { β with σ := σ' } ∧ Touch (· ∈ K.fp) w w' := by
  obtain ⟨_, s2, s3⟩ := R.split
  have o := R.ok
  have hr : ∀ k, k ∈ K.L.rbs → k ∈ K.L.fp := fun k hk => by simp [SpL.fp, hk]
  obtain ⟨h1, h2, h3⟩ := R.own_touch T (fun k hk hk' => (s2 k hk).1 (hr k hk'))
  refine ⟨⟨?_, h2, h3, h, R.mp.touch T (fun k hk hk' => s3 k (hr k hk') hk), R.apart, ⟨hσ.2.2.1.trans o.order, o.heads, hσ.2.2.2.1.trans o.size, by show σ'.limit ≤ 64; rw [hσ.2.1]; exact o.limit, by show σ'.base % 4096 = 0; rw [hσ.1]; exact o.base, o.pages, by show _ ≤ σ'.n * _; rw [hσ.2.2.2.2]; exact o.regs, o.head⟩⟩, T.mono (fun k _ hk => by simp [BuL.fp, hr k hk])⟩
  show Blk w' K.bb 274 [.int .u64 σ'.base, .int .i64 σ'.limit, .int .i64 σ'.order, _, _, _]
  rw [hσ.1, hσ.2.1, hσ.2.2.1]
  exact h1

theorem Sp.put_same (σ : Sp) (p : Nat) (bs : List Nat) : (σ.put p bs).base = σ.base ∧ (σ.put p bs).limit = σ.limit ∧ (σ.put p bs).order = σ.order ∧ (σ.put p bs).size = σ.size ∧ (σ.put p bs).n = σ.n := ⟨rfl, rfl, rfl, rfl, rfl⟩

/-- the map has turned, in its pages -/
theorem BuRep.paged {w w' : World} {K : BuL} {β : Bu} {μ' : Mp} (R : BuRep w K β) (h : MpRep w' K.M μ') (T : Touch (fun k => some k = K.M.gv.ownBlock) w w') (ho : μ'.order = β.μ.order) (hl : μ'.pages.length = β.μ.pages.length) : BuRep w' K { β with μ := μ' } ∧ Touch (· ∈ K.fp) w w' := by
  have T1 : Touch (· ∈ K.M.fp) w w' := T.mono (fun b _ e => by simp [MpL.fp, e.symm])
  exact ⟨R.mapped h T1 ho hl, T1.mono (fun b _ hb => by simp [BuL.fp, hb])⟩

/-- a slab allocator: its pool, the head page of each class's partial list -/
structure SlRep (w : World) (s pb : Nat) (K : BuL) (β : Bu) (ps : List Int) : Prop where
  blk : Blk w s 163 (.pointer (some ⟨pb, 0, none⟩) :: ps.map fun x => .int .i64 x)
  po : PoRep w pb K β
  apart : s ∉ pb :: K.fp
  len : ps.length = 8

theorem SlRep.touch {w w' : World} {s pb : Nat} {K : BuL} {β : Bu} {ps : List Int} {S : Nat → Prop} (R : SlRep w s pb K β ps) (T : Touch S w w') (h : ∀ k, k ∈ s :: pb :: K.fp → ¬ S k) : SlRep w' s pb K β ps :=
  ⟨R.blk.touch T (h _ (by simp)), R.po.touch T (fun k hk => h k (List.mem_cons_of_mem _ hk)), R.apart, R.len⟩

theorem SlRep.touch0 {w w' : World} {s pb : Nat} {K : BuL} {β : Bu} {ps : List Int} (R : SlRep w s pb K β ps) (T : Touch Nothing w w') : SlRep w' s pb K β ps := R.touch T (fun _ _ h => h)

theorem SlRep.next {w w' : World} {s pb : Nat} {K K' : BuL} {β β' : Bu} {ps : List Int} (R : SlRep w s pb K β ps) (T : Touch (· ∈ K.fp) w w') (N : K.Next w K') (R' : BuRep w' K' β') : SlRep w' s pb K' β' ps := by
  have hs : s ∉ K.fp := fun h => R.apart (List.mem_cons_of_mem _ h)
  refine ⟨R.blk.touch T hs, R.po.next T N R', fun h => ?_, R.len⟩
  rcases List.mem_cons.1 h with h | h
  · exact R.apart (by simp [h])
  · rcases N.fresh s h with h | h
    · exact hs h
    · have := R.blk.lt; omega

theorem SlRep.lt {w : World} {s pb : Nat} {K : BuL} {β : Bu} {ps : List Int} (R : SlRep w s pb K β ps) : ∀ k ∈ s :: pb :: K.fp, k < w.heap.size := by
  intro k hk
  rcases List.mem_cons.1 hk with rfl | hk
  · exact R.blk.lt
  · exact R.po.lt k hk

theorem SlRep.pool {w : World} {s pb : Nat} {K : BuL} {β : Bu} {ps : List Int} (R : SlRep w s pb K β ps) : w.cell? ⟨s, 0, none⟩ = some (.pointer (some ⟨pb, 0, none⟩)) := R.blk.cell 0

theorem SlRep.part {w : World} {s pb : Nat} {K : BuL} {β : Bu} {ps : List Int} (R : SlRep w s pb K β ps) (c : Nat) (hc : c < 8) : w.cell? ⟨s, 1 + c, none⟩ = some (.int .i64 (ps.getD c 0)) := by
  have hl := R.len
  rw [R.blk.cell, Nat.add_comm, List.getElem?_cons_succ, List.getElem?_map, List.getElem?_eq_getElem (by omega), List.getD_eq_getElem?_getD, List.getElem?_eq_getElem (by omega)]
  rfl

/-- partial list c is headed by page x from now on -/
theorem SlRep.setPart {w : World} {s pb : Nat} {K : BuL} {β : Bu} {ps : List Int} (R : SlRep w s pb K β ps) (c : Nat) (x : Int) : SlRep (w.setCell ⟨s, 1 + c, none⟩ (.int .i64 x)) s pb K β (ps.set c x) := by
  have T := Touch.cellAt w s (1 + c) (.int .i64 x)
  refine ⟨?_, R.po.touch T (fun k hk e => R.apart (e ▸ hk)), R.apart, by rw [List.length_set]; exact R.len⟩
  have := R.blk.set (1 + c) (.int .i64 x)
  rw [Nat.add_comm, List.set_cons_succ, ← List.map_set] at this
  rw [Nat.add_comm]
  exact this

structure NewSlRel (w : World) (s pb : Nat) (k : Nat) (wr : World) : Prop where
  blk : Blk wr s 163 (.pointer (some ⟨pb, 0, none⟩) :: (List.replicate k (.int .i64 (-1)) ++ List.replicate (8 - k) (.int .i64 0)))
  touch : Touch Nothing w wr

def MadeSl (w : World) (pb : Nat) (e : Ending) (w' : World) : Prop :=
  ∃ s, e = .returned (.pointer (some ⟨s, 0, none⟩)) ∧ w.heap.size ≤ s ∧ Blk w' s 163 (.pointer (some ⟨pb, 0, none⟩) :: (List.replicate 8 (-1)).map fun x => .int .i64 x) ∧ Touch Nothing w w'

theorem NewSlRel.step {w wr : World} {s pb k : Nat} (R : NewSlRel w s pb k wr) (hk : k < 8) (hs : w.heap.size ≤ s) : NewSlRel w s pb (k + 1) (wr.setCell ⟨s, 1 + k, none⟩ (.int .i64 (-1))) := by
  refine ⟨?_, R.touch.trans' (Touch.cellAt wr s (1 + k) (.int .i64 (-1))) (fun i hi e => by omega)⟩
  have := R.blk.set (1 + k) (.int .i64 (-1))
  rw [Nat.add_comm, List.set_cons_succ] at this
  rw [Nat.add_comm]
  have e : (List.replicate k (Value.int .i64 (-1)) ++ List.replicate (8 - k) (Value.int .i64 0)).set k (.int .i64 (-1)) = List.replicate (k + 1) (Value.int .i64 (-1)) ++ List.replicate (8 - (k + 1)) (.int .i64 0) := by
    rw [List.set_append_right _ _ (by simp), List.length_replicate, Nat.sub_self, show 8 - k = (8 - (k + 1)) + 1 by omega, List.replicate_succ, List.set_cons_zero, List.replicate_succ', List.append_assoc]
    rfl
  rw [e] at this
  exact this

set_option maxRecDepth 100000 in
theorem newSlab_ (pb : Nat) (w : World) : Calls Tryz.prog 36 #[.pointer (some ⟨pb, 0, none⟩)] w (MadeSl w pb) := by
  go_enter Tryz.func36, Tryz.ntmps36
  go_wp2_with fail
  have HB := Lib.hid (Blk.new w #[.pointer (some ⟨pb, 0, none⟩), .int .i64 0, .int .i64 0, .int .i64 0, .int .i64 0, .int .i64 0, .int .i64 0, .int .i64 0, .int .i64 0] 163)
  generalize hs : w.heap.size = s at *
  have HS := Lib.hid hs
  clear hs
  go_loopw [8] (fun a wr => ∃ k : Nat, k ≤ 8 ∧ a = .int .i64 k ∧ NewSlRel w s pb k wr) (fun a _ => 8 - (intOf a).toNat)
  case atStart => exact ⟨0, by omega, rfl, HB.out, (Touch.refl _ _).alloc _⟩
  case round =>
    obtain ⟨k, hk, rfl, hF⟩ := hrel
    have HF := Lib.hid hF
    by_cases hlt : k < 8
    · have hc : wr.cell? ⟨s, 1 + k, none⟩ = some (.int .i64 0) := by
        rw [hF.blk.cell, Nat.add_comm, List.getElem?_cons_succ, List.getElem?_append_right (by simp), List.length_replicate, Nat.sub_self, List.getElem?_replicate, if_pos (by omega)]
      have hf := hF.blk.free (1 + k)
      clear hF
      go_wp2_with fail
      go_roundw
      case rel => exact ⟨k + 1, by omega, by go_num, HF.out.step hlt (by rw [HS.out]; exact Nat.le_refl _)⟩
      case measure => simp [intOf]; omega
    · obtain rfl : k = 8 := by omega
      clear hF
      go_wp2_with fail
      go_ret
      exact ⟨s, rfl, by rw [HS.out]; exact Nat.le_refl _, HF.out.blk, HF.out.touch⟩

end Go.Proofs.YtnjcmcnjgdjbiaaGreatDoor

namespace Go.Proofs.YtnjcmcnjgdjbiaaGreatDoor
open Go.RowKit

theorem SlRep.drewN {w : World} {s pb : Nat} {K : BuL} {β : Bu} {ps : List Int} (R : SlRep w s pb K β ps) (k : Nat) : SlRep (w.drewN k) s pb K β ps := R.touch0 ((Touch.refl Nothing w).drewN k)

set_option maxRecDepth 100000 in
theorem SlRep.base_ {w : World} {s pb : Nat} {K : BuL} {β : Bu} {ps : List Int} (R : SlRep w s pb K β ps) (hl : β.μ.pages.length = β.σ.n * 2 ^ β.μ.order) :
    Calls Tryz.prog 243 #[.pointer (some ⟨s, 0, none⟩)] w fun e w' => e = .returned (.int .u64 (β.σ.base : Nat)) ∧ ∃ k, w' = w.drewN k := by
  have c0 := R.pool
  have HS := Lib.hid (fun k => ((R.drewN k).po.space_).mono (fun e w' (h : e = _ ∧ w.drewN k = w') => (⟨h.1, h.2.symm⟩ : e = _ ∧ w' = w.drewN k)))
  have HM := Lib.hid (fun k => ((R.drewN k).po.map_).mono (fun e w' (h : e = _ ∧ w.drewN k = w') => (⟨h.1, h.2.symm⟩ : e = _ ∧ w' = w.drewN k)))
  have HE := Lib.hid (fun k => (R.drewN k).po.bu.sp.end_)
  have HP := Lib.hid (fun k => (R.drewN k).po.bu.mp.pages_)
  have h4 : 4096 * β.μ.pages.length = β.σ.size * β.σ.n := by
    rw [hl, R.po.bu.ok.size, Nat.mul_comm β.σ.n, ← Nat.mul_assoc]
  have htop := R.po.bu.sp.ok.le64
  have hlen := R.po.bu.mp.ok.len
  have HF := Lib.hid (show IntKind.u64.wrap (((β.σ.base + β.σ.size * β.σ.n : Nat) : Int) - 4096 * (β.μ.pages.length : Int)) = (β.σ.base : Int) by
    rw [show ((β.σ.base + β.σ.size * β.σ.n : Nat) : Int) - 4096 * (β.μ.pages.length : Int) = ((β.σ.base : Nat) : Int) by omega]
    exact IntWalk.u64_in _ (by omega))
  generalize β.σ.base + β.σ.size * β.σ.n = E at *
  clear R hl h4
  go_enter Tryz.func243, Tryz.ntmps243
  go_wp2_with fail
  go_quiet (first | (go_at_call 60; refine Calls.quiet_of_same (HS.out _)) | (go_at_call 63; refine Calls.quiet_of_same (HM.out _)))
  go_wp2_with fail
  refine (HE.out _).mono ?_
  rintro e w1 ⟨rfl, k, rfl⟩
  have e1 : (w.drewN nq).drewN k = w.drewN (nq + k) := World.drewN_drewN ..
  rw [e1]
  clear e1
  go_wp2_with fail
  refine (HP.out _).mono ?_
  rintro e w1 ⟨rfl, rfl⟩
  go_wp2_with fail
  go_ret
  refine ⟨?_, _, rfl⟩
  show Ending.returned (.int .u64 (IntKind.u64.wrap ((E : Int) - 4096 * (β.μ.pages.length : Int)))) = _
  rw [HF.out]

/-- behind hang at an empty list -/
def SlRep.hung (μ : Mp) (i : Nat) (p : Pg) : Mp := μ.setPage i { p with next := -1, prev := -1 }

set_option maxRecDepth 100000 in
theorem SlRep.hang_ {w : World} {s pb : Nat} {K : BuL} {β : Bu} {ps : List Int} (R : SlRep w s pb K β ps) (i c : Nat) {p : Pg} (hi : β.μ.pages[i]? = some p) (hk : p.kind = 4) (hc : c < 8) (he : ps.getD c 0 = -1) :
    Calls Tryz.prog 252 #[.pointer (some ⟨s, 0, none⟩), .int .i64 i, .int .i64 c] w fun e w' => e = .returned (.tuple #[]) ∧ SlRep w' s pb K { β with μ := SlRep.hung β.μ i p } (ps.set c i) ∧ Touch (· ∈ s :: K.fp) w w' := by
  have c0 := R.pool
  have c1 := R.part c hc
  rw [he] at c1
  have HM := Lib.hid (fun k => ((R.drewN k).po.map_).mono (fun e w' (h : e = _ ∧ w.drewN k = w') => (⟨h.1, h.2.symm⟩ : e = _ ∧ w' = w.drewN k)))
  have hlt := (List.getElem?_eq_some_iff.1 hi).1
  have HCh := Lib.hid (fun k => (R.drewN k).po.bu.mp.chain_ hi hk (-1) (-1) (by omega) (by omega) (by omega) (by omega))
  have HR := Lib.hid R
  clear R hi hk he hlt
  go_enter Tryz.func252, Tryz.ntmps252
  go_wp2_with fail
  go_quiet (first | (go_at_call 63; refine Calls.quiet_of_same (HM.out _)))
  go_wp2_with fail
  refine (HCh.out _).mono ?_
  rintro e w1 ⟨rfl, r1, t1⟩
  have R1 := (HR.out.drewN nq).po.bu.paged r1 t1 rfl (List.length_set ..)
  have S1 := (HR.out.drewN nq).next R1.2 (BuL.Next.refl _ _) R1.1
  have d1 := S1.part c hc
  have f1 := S1.blk.free (1 + c)
  have hS := Lib.hid (S1.setPart c i)
  have hT := Lib.hid (((Touch.refl _ w).drewN nq).trans R1.2)
  clear r1 t1 R1 c0 c1 S1
  go_wp2_with fail
  go_end0
  refine ⟨rfl, hS.out, ?_⟩
  exact (hT.out.mono (fun k _ h => List.mem_cons_of_mem _ h)).trans ((Touch.cellAt w1 s (1 + c) _).mono (fun k _ h => by simp [h]))

end Go.Proofs.YtnjcmcnjgdjbiaaGreatDoor

namespace Go.Proofs.YtnjcmcnjgdjbiaaGreatDoor
open Go.RowKit

/-- what cell k of a new slab page links to -/
def bornW (at_ wd n k : Nat) : Nat := if k + 1 = n then 0 else at_ + (k + 1) * wd

/-- the bytes behind k cells of a new slab page -/
def bornK (σ : Sp) (at_ wd n : Nat) : Nat → Sp
  | 0 => σ
  | k + 1 => (bornK σ at_ wd n k).put (at_ + k * wd) (wordBytes (bornW at_ wd n k))

theorem bornK_same (σ : Sp) (at_ wd n k : Nat) : (bornK σ at_ wd n k).base = σ.base ∧ (bornK σ at_ wd n k).limit = σ.limit ∧ (bornK σ at_ wd n k).order = σ.order ∧ (bornK σ at_ wd n k).size = σ.size ∧ (bornK σ at_ wd n k).n = σ.n := by
  induction k with
  | zero => exact ⟨rfl, rfl, rfl, rfl, rfl⟩
  | succ k ih => exact ih

theorem bornK_has (σ : Sp) (at_ wd n : Nat) {p m : Nat} (H : σ.has p m) : ∀ k, (bornK σ at_ wd n k).has p m
  | 0 => H
  | k + 1 => Sp.has_put.2 (bornK_has σ at_ wd n H k)

/-- the bytes of a cell of a class -/
def wdOf (c : Nat) : Nat := 16 * 2 ^ c

theorem wd_facts {c : Nat} (h : c < 8) : 16 ≤ wdOf c ∧ wdOf c ≤ 2048 ∧ 4096 / wdOf c * wdOf c = 4096 ∧ 2 ≤ 4096 / wdOf c ∧ 4096 / wdOf c ≤ 256 ∧ 4096 / wdOf c = cellsN c := by
  match c, h with
  | 0, _ => decide
  | 1, _ => decide
  | 2, _ => decide
  | 3, _ => decide
  | 4, _ => decide
  | 5, _ => decide
  | 6, _ => decide
  | 7, _ => decide
  | k + 8, h => omega

structure BornRel (w : World) (s pb : Nat) (K : BuL) (β : Bu) (ps : List Int) (at_ wd n k : Nat) (wr : World) : Prop where
  rep : SlRep wr s pb K { β with σ := bornK β.σ at_ wd n k } ps
  touch : Touch (· ∈ K.fp) w wr

/-- a buddy behind born -/
def Bu.born (β : Bu) (i c : Nat) : Bu :=
  { β with σ := bornK β.σ (β.addr i) (wdOf c) (4096 / wdOf c) (4096 / wdOf c), μ := SlRep.hung ((β.μ.setPage i (slabPg c)).setPage i { slabPg c with first := 0 }) i { slabPg c with first := 0 } }

theorem BornRel.step {w wr w1 : World} {s pb : Nat} {K : BuL} {β : Bu} {ps : List Int} {at_ wd n k : Nat} (R : BornRel w s pb K β ps at_ wd n k wr) (h : SpRep w1 K.L ((bornK β.σ at_ wd n k).put (at_ + k * wd) (wordBytes (bornW at_ wd n k)))) (T : Touch (· ∈ K.L.rbs) wr w1) : BornRel w s pb K β ps at_ wd n (k + 1) w1 := by
  obtain ⟨b, t⟩ := R.rep.po.bu.bytes h T (Sp.put_same _ _ _)
  exact ⟨R.rep.next t (BuL.Next.refl _ _) b, R.touch.trans t⟩

set_option maxRecDepth 100000 in
set_option maxHeartbeats 1000000 in
theorem SlRep.born_ {w : World} {s pb : Nat} {K : BuL} {β : Bu} {ps : List Int} (R : SlRep w s pb K β ps) (G : Glob w) (hfar : ∀ k ∈ s :: pb :: K.fp, 9 ≤ k) (i c : Nat) {p : Pg} (hi : β.μ.pages[i]? = some p) (hc : c < 8) (he : ps.getD c 0 = -1) (hl : β.μ.pages.length = β.σ.n * 2 ^ β.μ.order) :
    Calls Tryz.prog 242 #[.pointer (some ⟨s, 0, none⟩), .int .u64 (β.addr i : Nat), .int .i64 c] w fun e w' => e = .returned (.int .i64 i) ∧ SlRep w' s pb K (β.born i c) (ps.set c i) ∧ Touch (· ∈ s :: K.fp) w w' := by
  have c0 := R.pool
  have HSp := Lib.hid (fun k => ((R.drewN k).po.space_).mono (fun e w' (h : e = _ ∧ w.drewN k = w') => (⟨h.1, h.2.symm⟩ : e = _ ∧ w' = w.drewN k)))
  have HM := Lib.hid (fun k => ((R.drewN k).po.map_).mono (fun e w' (h : e = _ ∧ w.drewN k = w') => (⟨h.1, h.2.symm⟩ : e = _ ∧ w' = w.drewN k)))
  have HB := Lib.hid (fun k => (R.drewN k).base_ hl)
  have hlt := (List.getElem?_eq_some_iff.1 hi).1
  have htop := R.po.bu.ok.addr_top R.po.bu.sp.ok hlt
  have hlen := R.po.bu.mp.ok.len
  have hsub : ((β.addr i : Nat) : Int) - (β.σ.base : Int) = ((4096 * i : Nat) : Int) := by unfold Bu.addr; omega
  have hdiv : ((4096 * i : Nat) : Int) / 4096 = (i : Int) := by omega
  have hle : ((4096 * i : Nat) : Int) ≤ 18446744073709551615 := by omega
  have hge : (0 : Int) ≤ ((4096 * i : Nat) : Int) := by omega
  obtain ⟨w1, w2, w3, w4, w5, w6⟩ := wd_facts hc
  have HSl := Lib.hid (fun k => (R.drewN k).po.bu.mp.slabify_ hi c hc)
  have HHas := Lib.hid (fun off (h : off + 8 ≤ 4096) => R.po.bu.ok.has (i := i) (off := off) (n := 8) hlt (by omega) h)
  have HR := Lib.hid R
  have HG := Lib.hid G
  have HFar := Lib.hid hfar
  have HI := Lib.hid hi
  have HE := Lib.hid he
  clear R G hfar hi he hl
  go_enter Tryz.func242, Tryz.ntmps242
  go_wp2_with fail
  go_quiet (first | (go_at_call 60; refine Calls.quiet_of_same (HSp.out _)) | (go_at_call 63; refine Calls.quiet_of_same (HM.out _)))
  go_wp2_with fail
  refine (HB.out _).mono ?_
  rintro e w1 ⟨rfl, k, rfl⟩
  have e1 : (w.drewN nq).drewN k = w.drewN (nq + k) := World.drewN_drewN ..
  rw [e1]
  clear e1
  go_wp2_with fail
  refine (HSl.out _).mono ?_
  rintro e wa ⟨rfl, r1, t1⟩
  have R1 := (HR.out.drewN _).po.bu.paged r1 t1 rfl (List.length_set ..)
  have S1 := (HR.out.drewN _).next R1.2 (BuL.Next.refl _ _) R1.1
  have hT1 := Lib.hid (((Touch.refl _ w).drewN _).trans R1.2)
  have hfp : ∀ k, k < 9 → ¬ k ∈ K.fp := fun k hk h => by have := HFar.out k (by simp [h]); omega
  have HFp := Lib.hid hfp
  have HGa := Lib.hid (HG.out.touch hT1.out hfp)
  have hcw := HGa.out.widths c hc
  have hS1 := Lib.hid S1
  have hq : (4096 : Int) / (wdOf c : Int) = ((4096 / wdOf c : Nat) : Int) := (Int.natCast_ediv 4096 (wdOf c)).symm
  have hw0 : ¬ (wdOf c : Int) = 0 := by omega
  rw [show 16 * 2 ^ c = wdOf c from rfl] at hcw
  obtain ⟨n, hn⟩ : ∃ n, n = 4096 / wdOf c := ⟨_, rfl⟩
  rw [← hn] at hq w3 w4 w5
  have HN := Lib.hid hn
  have HW6 := Lib.hid w6
  have HW3 := Lib.hid w3
  clear r1 t1 R1 S1 hfp hn w6 c0 w3
  have hat : β.addr i + 4096 ≤ 18446744073709551615 := htop
  generalize hA : β.addr i = A at *
  generalize hwd : wdOf c = wd at *
  have HA := Lib.hid hA
  have HWd := Lib.hid hwd
  clear hA hwd htop hsub hdiv hle hge
  go_wp2_with fail
  have HQ := Lib.hid hq
  clear hq
  go_loopw [42] (fun a wr => ∃ k : Nat, k ≤ n ∧ a = .int .u64 k ∧ BornRel wa s pb K { β with μ := β.μ.setPage i (slabPg c) } ps A wd n k wr) (fun a _ => n - (intOf a).toNat)
  case atStart => exact ⟨0, Nat.zero_le _, rfl, hS1.out, Touch.refl _ _⟩
  case round =>
    obtain ⟨k, hk, rfl, hF⟩ := hrel
    have HF := Lib.hid hF
    have hcr := (HGa.out.touch hF.touch HFp.out).widths c hc
    rw [show 16 * 2 ^ c = wdOf c from rfl, HWd.out] at hcr
    clear hF
    by_cases hlt2 : k < n
    · have hltI : (k : Int) < 4096 / (wd : Int) := by rw [HQ.out]; omega
      obtain ⟨x, hx⟩ : ∃ x, x = (k + 1) * wd := ⟨_, rfl⟩
      obtain ⟨y, hy⟩ : ∃ y, y = k * wd := ⟨_, rfl⟩
      have hxy : x = y + wd := by rw [hx, hy, Nat.succ_mul]
      have hxle : x ≤ 4096 := by rw [hx, ← HW3.out]; exact Nat.mul_le_mul_right _ hlt2
      have hyle : y ≤ 4096 := by omega
      have ex : ((k : Int) + 1) * (wd : Int) = (x : Int) := by rw [hx]; push_cast; rfl
      have ey : (k : Int) * (wd : Int) = (y : Int) := by rw [hy]; push_cast; rfl
      have hlo : β.σ.base ≤ A := by rw [← HA.out]; unfold Bu.addr; omega
      have hHas := bornK_has β.σ A wd n (HHas.out y (by omega)) k
      have hv : bornW A wd n k < 18446744073709551616 := by unfold bornW; split <;> omega
      have hS := HF.out.rep.po.bu.sp.setWord_ (A + y) (bornW A wd n k) hHas hv
      rw [show ((A + y : Nat) : Int) = (A : Int) + (y : Int) by omega] at hS
      have HXY := Lib.hid (And.intro hx (And.intro hy hxy))
      by_cases hlast : k + 1 = n
      · have hw : bornW A wd n k = 0 := if_pos hlast
        rw [hw, Int.ofNat_zero] at hS
        have hW := Lib.hid hw
        have HS := Lib.hid hS
        have hl1 : ((k : Int) + 1 == 4096 / (wd : Int)) = true := by rw [HQ.out, beq_iff_eq]; omega
        clear hS hHas hv hw hxy hx hy hlast
        go_wp2_with fail
        refine HS.out.mono ?_
        rintro e w1 ⟨rfl, r1, t1⟩
        have HB1 := Lib.hid (HF.out.step (by rw [hW.out, ← HXY.out.2.1]; exact r1) t1)
        clear r1 t1 hl1 ex ey hcr hcw
        go_wp2_with fail
        go_roundw
        case rel => exact ⟨k + 1, hlt2, by go_num, HB1.out⟩
        case measure => simp [intOf]; omega
      · have hw : bornW A wd n k = A + x := by rw [hx]; exact if_neg hlast
        rw [hw, show ((A + x : Nat) : Int) = (A : Int) + (x : Int) by omega] at hS
        have hW := Lib.hid hw
        have HS := Lib.hid hS
        have hl1 : ((k : Int) + 1 == 4096 / (wd : Int)) = false := by rw [HQ.out, beq_eq_false_iff_ne]; omega
        clear hS hHas hv hw hxy hx hy hlast
        go_wp2_with fail
        refine HS.out.mono ?_
        rintro e w1 ⟨rfl, r1, t1⟩
        have HB1 := Lib.hid (HF.out.step (by rw [hW.out, ← HXY.out.2.1]; exact r1) t1)
        clear r1 t1 hl1 ex ey hcr hcw
        go_wp2_with fail
        go_roundw
        case rel => exact ⟨k + 1, hlt2, by go_num, HB1.out⟩
        case measure => simp [intOf]; omega
    · obtain rfl : k = n := by omega
      have hltI : ¬ ((k : Int) < 4096 / (wd : Int)) := by rw [HQ.out]; omega
      have hi1 : (β.μ.setPage i (slabPg c)).pages[i]? = some (slabPg c) := Mp.setPage_get _ HI.out
      have hFi := HF.out.rep.po.bu.mp.first_ hi1 rfl 0 (by omega) (by
        have : ((slabPg c).cls) = (c : Int) := rfl
        rw [this, ← HW6.out, ← HN.out]; omega)
      have HFi := Lib.hid hFi
      clear hFi hi1
      go_wp2_with fail
      refine HFi.out.mono ?_
      rintro e w1 ⟨rfl, r1, t1⟩
      have R1 := HF.out.rep.po.bu.paged r1 t1 rfl (List.length_set ..)
      have S1 := HF.out.rep.next R1.2 (BuL.Next.refl _ _) R1.1
      have hi2 : ((β.μ.setPage i (slabPg c)).setPage i { slabPg c with first := 0 }).pages[i]? = some { slabPg c with first := 0 } := Mp.setPage_get _ (Mp.setPage_get _ HI.out)
      have HH := Lib.hid (S1.hang_ i c hi2 rfl hc HE.out)
      have HT1 := Lib.hid R1.2
      clear r1 t1 R1 S1 hi2
      go_wp2_with fail
      refine HH.out.mono ?_
      rintro e w2 ⟨rfl, r2, t2⟩
      have HR2 := Lib.hid r2
      have HT2 := Lib.hid t2
      clear r2 t2
      go_wp2_with fail
      go_ret
      refine ⟨rfl, ?_, ?_⟩
      · have := HR2.out
        unfold Bu.born
        rw [HA.out, HWd.out, ← HN.out]
        exact this
      · exact (((hT1.out.trans HF.out.touch).trans HT1.out).mono (fun b _ hb => List.mem_cons_of_mem _ hb)).trans HT2.out

end Go.Proofs.YtnjcmcnjgdjbiaaGreatDoor

namespace Go.Proofs.YtnjcmcnjgdjbiaaGreatDoor
open Go.RowKit

theorem leBytes_congr {f g : Nat → Nat} {p : Nat} : ∀ {n : Nat}, (∀ a, p ≤ a → a < p + n → f a = g a) → leBytes f p n = leBytes g p n
  | 0, _ => rfl
  | n + 1, h => by rw [leBytes, leBytes, leBytes_congr (fun a h1 h2 => h a h1 (by omega)), h (p + n) (by omega) (by omega)]

theorem Sp.word_far (σ : Sp) (p q : Nat) (bs : List Nat) (h : q + 8 ≤ p ∨ p + bs.length ≤ q) : (σ.put p bs).word q = σ.word q := by
  unfold Sp.word
  refine leBytes_congr (fun a h1 h2 => ?_)
  simp only [Sp.put]
  rw [if_neg (by omega)]

theorem Sp.word_here (σ : Sp) (p v : Nat) (hv : v < 18446744073709551616) : (σ.put p (wordBytes v)).word p = v := by
  have hl : (wordBytes v).length = 8 := rfl
  have hm : ∀ k, k < 8 → (σ.put p (wordBytes v)).mem (p + k) = (wordBytes v).getD k 0 := by
    intro k hk
    simp only [Sp.put]
    rw [if_pos ⟨by omega, by omega⟩, Nat.add_sub_cancel_left]
  unfold Sp.word
  simp only [leBytes, hm 0 (by omega), hm 1 (by omega), hm 2 (by omega), hm 3 (by omega), hm 4 (by omega), hm 5 (by omega), hm 6 (by omega), hm 7 (by omega)]
  simp [wordBytes]
  omega

theorem bornK_word {σ : Sp} {at_ wd n : Nat} (hwd : 8 ≤ wd) (hb : at_ + n * wd < 18446744073709551616) : ∀ (k j : Nat), k ≤ n → j < k → (bornK σ at_ wd n k).word (at_ + j * wd) = bornW at_ wd n j
  | 0, j, _, h => by omega
  | k + 1, j, hk, h => by
    unfold bornK
    by_cases e : j = k
    · subst e
      refine Sp.word_here _ _ _ ?_
      unfold bornW
      split
      · omega
      · have : (j + 1) * wd ≤ n * wd := Nat.mul_le_mul_right _ hk
        omega
    · rw [Sp.word_far _ _ _ _ (by
        left
        have : (j + 1) * wd ≤ k * wd := Nat.mul_le_mul_right _ (by omega)
        rw [Nat.succ_mul] at this
        omega)]
      exact bornK_word hwd hb k j (by omega) (by omega)

/-- a slab page whose cell f is taken, and whose list goes on at f' -/
def Pg.take (p : Pg) (f : Nat) (f' : Int) : Pg := { p.own f true with first := f' }

/-- a new slab page -/
def bornPg (c : Nat) : Pg := { slabPg c with first := 0, next := -1, prev := -1 }

/-- a buddy behind Take out of a new page i -/
def Bu.newCell (β : Bu) (i c : Nat) : Bu := { β.born i c with μ := (β.born i c).μ.setPage i ((bornPg c).take 0 1) }

theorem born_page {β : Bu} {i c : Nat} {p : Pg} (h : β.μ.pages[i]? = some p) : (β.born i c).μ.pages[i]? = some (bornPg c) :=
  Mp.setPage_get _ (Mp.setPage_get _ (Mp.setPage_get _ h))

theorem born_len (β : Bu) (i c : Nat) : (β.born i c).μ.pages.length = β.μ.pages.length ∧ (β.born i c).μ.order = β.μ.order ∧ (β.born i c).σ.n = β.σ.n ∧ (β.born i c).σ.base = β.σ.base := by
  refine ⟨?_, rfl, (bornK_same _ _ _ _ _).2.2.2.2, (bornK_same _ _ _ _ _).1⟩
  simp [Bu.born, SlRep.hung, Mp.setPage]

theorem bornPg_bit {c : Nat} : (bornPg c).bit 0 = false := by
  simp [Pg.bit, Pg.word, bornPg, slabPg, plainPg]

/-- what Take may turn -/
def Taken (w : World) (s pb : Nat) (K : BuL) (β' : Bu) (ps' : List Int) (v : Value) (e : Ending) (w' : World) : Prop :=
  e = .returned v ∧ ∃ K', SlRep w' s pb K' β' ps' ∧ K.Next w K' ∧ Touch (· ∈ s :: K.fp) w w'

set_option maxRecDepth 100000 in
set_option maxHeartbeats 2000000 in
theorem SlRep.take_new {w : World} {s pb : Nat} {K : BuL} {β : Bu} {ps : List Int} (R : SlRep w s pb K β ps) (G : Glob w) (hfar : ∀ k ∈ s :: pb :: K.fp, 9 ≤ k) (c next i j : Nat) (hc : c < 8) (he : ps.getD c 0 = -1)
    (hh : ∀ k, k ≤ β.μ.order → β.heads.getD k 0 = 0) (h : β.σ.n < β.σ.limit)
    (hl : β.μ.pages.length = β.σ.n * 2 ^ β.μ.order) (hmax : β.μ.pages.length + 2 ^ β.μ.order ≤ 1024) (C : TakeOk β.fed i j 0 next)
    {p : Pg} (hp : (β.fed.took i j 0 next).μ.pages[i]? = some p) (hl1 : (β.fed.took i j 0 next).μ.pages.length = (β.fed.took i j 0 next).σ.n * 2 ^ (β.fed.took i j 0 next).μ.order) (hb1 : (β.fed.took i j 0 next).σ.base = β.fed.σ.base) :
    Calls Tryz.prog 191 #[.pointer (some ⟨s, 0, none⟩), .int .i64 c, .bool false] w
      (Taken w s pb K ((β.fed.took i j 0 next).newCell i c) (ps.set c i) (.tuple #[.int .u64 (β.fed.addr i : Nat), .bool true, .int .i64 0])) := by
  have c0 := R.pool
  have c1 := R.part c hc
  rw [he] at c1
  have HN := Lib.hid (R.po.need_new 0 next i j (Nat.zero_le _) (fun k _ hk => hh k hk) h hl hmax C)
  have haddr : (β.fed.took i j 0 next).addr i = β.fed.addr i := by unfold Bu.addr; rw [hb1]
  have HA := Lib.hid haddr
  have HR := Lib.hid R
  have HG := Lib.hid G
  have HFar := Lib.hid hfar
  have HE := Lib.hid he
  have HP := Lib.hid hp
  have HL1 := Lib.hid hl1
  generalize β.fed.took i j 0 next = β1 at *
  clear R G hfar he hh h hl hmax C hp hl1 hb1 haddr
  go_enter Tryz.func191, Tryz.ntmps191
  go_wp2_with fail
  refine HN.out.mono ?_
  rintro e w1 ⟨rfl, K1, P1, N1, T1⟩
  have S1 := HR.out.next T1 N1 P1.bu
  have hfar1 : ∀ k ∈ s :: pb :: K1.fp, 9 ≤ k := by
    intro k hk
    simp only [List.mem_cons] at hk
    rcases hk with rfl | rfl | hk
    · exact HFar.out _ (by simp)
    · exact HFar.out _ (by simp)
    · rcases N1.fresh k hk with h | h
      · exact HFar.out _ (by simp [h])
      · have := HG.out.size; omega
  have hfp : ∀ k, k < 9 → ¬ k ∈ K.fp := fun k hk h => by have := HFar.out k (by simp [h]); omega
  have G1 := HG.out.touch T1 hfp
  have HB := S1.born_ G1 hfar1 i c HP.out hc HE.out HL1.out
  rw [HA.out] at HB
  have HBo := Lib.hid HB
  have HG1 := Lib.hid G1
  have HN1 := Lib.hid N1
  have HT1 := Lib.hid T1
  have HFar1 := Lib.hid hfar1
  clear S1 P1 N1 T1 hfar1 hfp G1 HB c1
  go_wp2_with fail
  refine HBo.out.mono ?_
  rintro e w2 ⟨rfl, S2, T2⟩
  have HS2 := Lib.hid S2
  have HT2 := Lib.hid T2
  have d0 := S2.pool
  have HM2 := Lib.hid (S2.po.map_)
  clear S2 T2 c0
  go_wp2_with fail
  refine HM2.out.mono ?_
  rintro e w3 ⟨rfl, rfl⟩
  have HAt := Lib.hid (HS2.out.po.bu.mp.at_ (born_page HP.out))
  go_wp2_with fail
  refine HAt.out.mono ?_
  rintro e w3 ⟨rfl, T3⟩
  have HT3 := Lib.hid T3
  have S3 := HS2.out.touch0 T3
  have hl2 : (β1.born i c).μ.pages.length = (β1.born i c).σ.n * 2 ^ (β1.born i c).μ.order := by
    obtain ⟨b1, b2, b3, _⟩ := born_len β1 i c
    rw [b1, b2, b3]; exact HL1.out
  have HB3 := Lib.hid (fun W (T : Touch Nothing w3 W) => (S3.touch0 T).base_ hl2)
  have HS3 := Lib.hid S3
  clear T3 S3 hl2
  have hbB : (β1.born i c).σ.base = β1.σ.base := (born_len β1 i c).2.2.2
  have hlt1 : i < (β1.born i c).μ.pages.length := (List.getElem?_eq_some_iff.1 (born_page HP.out)).1
  have hlen1 := HS2.out.po.bu.mp.ok.len
  have htop : (β1.born i c).σ.base + 4096 * i + 4096 ≤ 18446744073709551615 := HS2.out.po.bu.ok.addr_top HS2.out.po.bu.sp.ok hlt1
  have hAB : β.fed.addr i = (β1.born i c).σ.base + 4096 * i := by rw [← HA.out, hbB]; rfl
  have HAB := Lib.hid hAB
  have hi : i ≤ 1023 := by omega
  obtain ⟨u1, u2, u3, u4, u5, u6⟩ := wd_facts hc
  have hwB : (β1.born i c).σ.word (β.fed.addr i) = β.fed.addr i + wdOf c := by
    have := bornK_word (σ := β1.σ) (at_ := β1.addr i) (wd := wdOf c) (n := 4096 / wdOf c) (by omega) (by rw [u3, HA.out, hAB]; omega) (4096 / wdOf c) 0 (Nat.le_refl _) (by omega)
    rw [Nat.zero_mul, Nat.add_zero, HA.out] at this
    show (bornK β1.σ (β1.addr i) (wdOf c) (4096 / wdOf c) (4096 / wdOf c)).word (β.fed.addr i) = _
    rw [HA.out, this]
    unfold bornW
    rw [if_neg (by omega)]
    omega
  have HWB := Lib.hid hwB
  have HU := Lib.hid (And.intro u3 u6)
  have HHas := Lib.hid (HS2.out.po.bu.ok.has (i := i) (off := 0) (n := 8) hlt1 (by omega) (by omega))
  have HG3 := Lib.hid ((HG1.out.touch HT2.out (fun k hk h => by
    rcases List.mem_cons.1 h with e | h
    · have := HFar1.out s (by simp); omega
    · have := HFar1.out k (by simp [h]); omega)).touch0 HT3.out)
  clear hbB hlt1 hlen1 hAB hwB u3 u6
  unfold Pg.val
  go_wp2_with fail
  refine (HB3.out _ ((Touch.refl Nothing w3).alloc _)).mono ?_
  rintro e w4 ⟨rfl, k4, rfl⟩
  have T4 : Touch Nothing w3 ((w3.alloc (.cells #[.int .i64 (bornPg c).kind, .int .i64 (bornPg c).order, .int .i64 (bornPg c).cls, .int .i64 (bornPg c).live, .int .i64 (bornPg c).next, .int .i64 (bornPg c).prev, .int .i64 (bornPg c).first, .int .u64 (bornPg c).b0, .int .u64 (bornPg c).b1, .int .u64 (bornPg c).b2, .int .u64 (bornPg c).b3] 128)).drewN k4) := ((Touch.refl Nothing w3).alloc _).drewN k4
  have B4 := (Blk.new w3 #[.int .i64 (bornPg c).kind, .int .i64 (bornPg c).order, .int .i64 (bornPg c).cls, .int .i64 (bornPg c).live, .int .i64 (bornPg c).next, .int .i64 (bornPg c).prev, .int .i64 (bornPg c).first, .int .u64 (bornPg c).b0, .int .u64 (bornPg c).b1, .int .u64 (bornPg c).b2, .int .u64 (bornPg c).b3] 128).drewN k4
  generalize (w3.alloc (.cells #[.int .i64 (bornPg c).kind, .int .i64 (bornPg c).order, .int .i64 (bornPg c).cls, .int .i64 (bornPg c).live, .int .i64 (bornPg c).next, .int .i64 (bornPg c).prev, .int .i64 (bornPg c).first, .int .u64 (bornPg c).b0, .int .u64 (bornPg c).b1, .int .u64 (bornPg c).b2, .int .u64 (bornPg c).b3] 128)).drewN k4 = w4 at *
  have b6 : w4.cell? ⟨w3.heap.size, 6, none⟩ = some (.int .i64 0) := B4.cell 6
  have cw : w4.cell? ⟨1, c, none⟩ = some (.int .u64 (wdOf c : Nat)) := (HG3.out.touch0 T4).widths c hc
  have HT4 := Lib.hid T4
  have HB4 := Lib.hid B4
  have HSp := Lib.hid (fun k => (((HS3.out.touch0 T4).drewN k).po.space_))
  have hw0 : ¬ (wdOf c : Int) = 0 := by omega
  have HWd := Lib.hid (fun k => ((HS3.out.touch0 T4).drewN k).po.bu.sp.word_ ((β1.born i c).σ.base + 4096 * i) HHas.out)
  have hdd : (wdOf c : Int) / (wdOf c : Int) = 1 := Int.ediv_self (by omega)
  have d0' : w4.cell? ⟨s, 0, none⟩ = some (.pointer (some ⟨pb, 0, none⟩)) := (HS3.out.touch0 T4).pool
  clear T4 B4 d0
  generalize wdOf c = wd at *
  generalize (β1.born i c).σ.base = B at *
  go_wp2_with fail
  go_quiet (fail)
  go_wp2_with fail
  refine (HSp.out _).mono ?_
  rintro e w5 ⟨rfl, rfl⟩
  go_wp2_with fail
  have hWo : (β1.born i c).σ.word (B + 4096 * i) = B + 4096 * i + wd := by
    have := HWB.out
    rw [HAB.out] at this
    exact this
  have HW := HWd.out nq
  rw [hWo, show ((B + 4096 * i : Nat) : Int) = (B : Int) + 4096 * (i : Int) by omega, show ((B + 4096 * i + wd : Nat) : Int) = (B : Int) + 4096 * (i : Int) + (wd : Int) by omega] at HW
  have HWH := Lib.hid HW
  have ne0 : ((B : Int) + 4096 * (i : Int) + (wd : Int) != 0) = true := by rw [bne_iff_ne]; omega
  clear HW hWo
  refine HWH.out.mono ?_
  rintro e w5 ⟨rfl, T5⟩
  have hlw : w3.heap.size < w4.heap.size := HB4.out.lt
  have T35 := ((Touch.refl Nothing w4).drewN nq).trans T5
  have f6 : w5.cell? ⟨w3.heap.size, 6, none⟩ = some (.int .i64 0) := (T35.cell (p := ⟨w3.heap.size, 6, none⟩) hlw (fun h => h)).trans b6
  have fw : w5.cell? ⟨1, c, none⟩ = some (.int .u64 wd) := (T35.cell (p := ⟨1, c, none⟩) (World.block_lt_of_cell? _ _ cw) (fun h => h)).trans cw
  have HT5 := Lib.hid (HT4.out.trans T35)
  have HOw := Lib.hid ((HS3.out.touch0 HT5.out).po.bu.mp.own_ (born_page HP.out) rfl 0 true (by rw [show (bornPg c).cls = (c : Int) from rfl, ← HU.out.2]; omega) (by rw [bornPg_bit]; rfl) (by show (0 : Int) ≤ 0 + 1 ∧ (0 : Int) + 1 ≤ 256; decide))
  have hq1 : ((B : Int) + 4096 * (i : Int) + (wd : Int) - ((B : Int) + 4096 * (i : Int))) / (wd : Int) = 1 := by
    rw [show (B : Int) + 4096 * (i : Int) + (wd : Int) - ((B : Int) + 4096 * (i : Int)) = (wd : Int) by omega]
    exact hdd
  clear T5 T35 b6 cw d0' hdd
  go_wp2_with fail
  refine HOw.out.mono ?_
  rintro e w6 ⟨rfl, r6, t6⟩
  have R6 := (HS3.out.touch0 HT5.out).po.bu.paged r6 t6 rfl (List.length_set ..)
  have S6 := (HS3.out.touch0 HT5.out).next R6.2 (BuL.Next.refl _ _) R6.1
  have hp6 : ((β1.born i c).μ.setPage i ((bornPg c).own 0 true)).pages[i]? = some ((bornPg c).own 0 true) := Mp.setPage_get _ (born_page HP.out)
  have HFi := Lib.hid (S6.po.bu.mp.first_ hp6 rfl 1 (by omega) (by rw [show ((bornPg c).own 0 true).cls = (c : Int) from rfl, ← HU.out.2]; omega))
  have HT6 := Lib.hid R6.2
  have HS6 := Lib.hid S6
  clear r6 t6 R6 S6 hp6 hq1 f6 fw ne0
  go_wp2_with fail
  refine HFi.out.mono ?_
  rintro e w7 ⟨rfl, r7, t7⟩
  have R7 := HS6.out.po.bu.paged r7 t7 rfl (List.length_set ..)
  have S7 := HS6.out.next R7.2 (BuL.Next.refl _ _) R7.1
  have HT7 := Lib.hid R7.2
  have HS7 := Lib.hid S7
  clear r7 t7 R7 S7
  go_wp2_with fail
  go_ret3
  refine ⟨?_, K1, ?_, HN1.out, ?_⟩
  · rw [HAB.out]
    show Ending.returned _ = _
    congr 3
  · have e : (β1.newCell i c).μ = ((β1.born i c).μ.setPage i ((bornPg c).own 0 true)).setPage i { (bornPg c).own 0 true with first := 1 } := by rw [Mp.setPage_set]; rfl
    have e2 : β1.newCell i c = ⟨(β1.born i c).σ, ((β1.born i c).μ.setPage i ((bornPg c).own 0 true)).setPage i { (bornPg c).own 0 true with first := 1 }, (β1.born i c).heads⟩ := by rw [← e]; rfl
    rw [e2]
    exact HS7.out
  · have T := HT1.out.mono (T := (· ∈ s :: K.fp)) (fun b _ hb => List.mem_cons_of_mem _ hb)
    have TT := (((HT2.out.trans HT3.out.none_).trans HT5.out.none_).trans (HT6.out.mono (T := (· ∈ s :: K1.fp)) (fun b _ hb => List.mem_cons_of_mem _ hb))).trans (HT7.out.mono (T := (· ∈ s :: K1.fp)) (fun b _ hb => List.mem_cons_of_mem _ hb))
    refine T.trans' TT (fun b hb hm => ?_)
    rcases List.mem_cons.1 hm with e | hm
    · simp [e]
    · rcases HN1.out.fresh b hm with h | h
      · simp [h]
      · omega

end Go.Proofs.YtnjcmcnjgdjbiaaGreatDoor

