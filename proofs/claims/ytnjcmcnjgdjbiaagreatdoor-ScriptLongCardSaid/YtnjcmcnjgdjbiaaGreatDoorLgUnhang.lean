/- The walk of package slab's unhang, its four ways. Conditions: the neighbours are slab pages. Printed by wip/tools/gunh.py. -/
import Derived.Test.YtnjcmcnjgdjbiaaGreatDoorLgSinb
namespace Go.Proofs.YtnjcmcnjgdjbiaaGreatDoor
open Go.RowKit

theorem SlRep.paged {w w' : World} {s pb : Nat} {K : BuL} {β : Bu} {ps : List Int} {μ' : Mp} (R : SlRep w s pb K β ps) (h : MpRep w' K.M μ') (T : Touch (fun k => some k = K.M.gv.ownBlock) w w') (ho : μ'.order = β.μ.order) (hl : μ'.pages.length = β.μ.pages.length) :
    SlRep w' s pb K { β with μ := μ' } ps ∧ Touch (· ∈ K.fp) w w' := by
  have := R.po.bu.paged h T ho hl
  exact ⟨R.next this.2 (BuL.Next.refl _ _) this.1, this.2⟩

set_option maxHeartbeats 1000000 in
set_option maxRecDepth 100000 in
theorem SlRep.unhang00 {w : World} {s pb : Nat} {K : BuL} {β : Bu} {ps : List Int} (R : SlRep w s pb K β ps) (i c : Nat) {p : Pg} (hi : β.μ.pages[i]? = some p) (hk : p.kind = 4) (hc : c < 8)
    (hp : p.prev = -1) (hn : p.next = -1) :
    Calls Tryz.prog 246 #[.pointer (some ⟨s, 0, none⟩), .int .i64 i, .int .i64 c] w fun e w' => e = .returned (.tuple #[]) ∧ SlRep w' s pb K { β with μ := β.μ.unhung i p } (unps ps c p) ∧ Touch (· ∈ s :: K.fp) w w' := by
  have hU : β.μ.unhung i p = (β.μ.setPage i { p with next := -1, prev := -1 }) := by
    unfold Mp.unhung
    rw [hp, hn]
    have h1 : (-1 : Int) < 0 := by decide
    simp only [if_pos h1]
    rw [modPage_of (j := i) (q := p) _ hi]
  have hps : unps ps c p = ps.set c (-1) := by
    unfold unps
    rw [if_pos (by rw [hp]; decide), hn]
  rw [hU, hps]
  have hval : p.val = .agg #[.int .i64 p.kind, .int .i64 p.order, .int .i64 p.cls, .int .i64 p.live, .int .i64 (-1), .int .i64 (-1), .int .i64 p.first, .int .u64 p.b0, .int .u64 p.b1, .int .u64 p.b2, .int .u64 p.b3] := by
    unfold Pg.val
    rw [hp, hn]
  have hli := (List.getElem?_eq_some_iff.1 hi).1
  have hlen := R.po.bu.mp.ok.len
  have c0 := R.pool
  have HM := Lib.hid R.po.map_
  have hat := R.po.bu.mp.at_ hi
  rw [hval] at hat
  have HAt := Lib.hid hat
  have HR := Lib.hid R
  have HI := Lib.hid hi
  have HK := Lib.hid hk
  clear R hat hval hi hk hp hn hU hps
  go_enter Tryz.func246, Tryz.ntmps246
  go_wp2_with fail
  refine HM.out.mono ?_
  rintro e w1 ⟨rfl, rfl⟩
  go_wp2_with fail
  refine HAt.out.mono ?_
  rintro e w2 ⟨rfl, T2⟩
  have S2 := HR.out.touch0 T2
  have HS2 := Lib.hid S2
  have HT2 := Lib.hid T2
  clear S2 T2 c0 HAt HM
  go_wp2_with fail
  have T3 := (Touch.refl Nothing w2).alloc (.cells #[.int .i64 p.kind, .int .i64 p.order, .int .i64 p.cls, .int .i64 p.live, .int .i64 (-1), .int .i64 (-1), .int .i64 p.first, .int .u64 p.b0, .int .u64 p.b1, .int .u64 p.b2, .int .u64 p.b3] 128)
  have B3 := Blk.new w2 #[.int .i64 p.kind, .int .i64 p.order, .int .i64 p.cls, .int .i64 p.live, .int .i64 (-1), .int .i64 (-1), .int .i64 p.first, .int .u64 p.b0, .int .u64 p.b1, .int .u64 p.b2, .int .u64 p.b3] 128
  generalize w2.alloc (.cells #[.int .i64 p.kind, .int .i64 p.order, .int .i64 p.cls, .int .i64 p.live, .int .i64 (-1), .int .i64 (-1), .int .i64 p.first, .int .u64 p.b0, .int .u64 p.b1, .int .u64 p.b2, .int .u64 p.b3] 128) = w3 at *
  have hx : w2.heap.size < w3.heap.size := B3.lt
  have hXf : ∀ k, k ∈ s :: pb :: K.fp → k < w2.heap.size := HS2.out.lt
  have HXf := Lib.hid hXf
  have hXg : ¬ some w2.heap.size = K.M.gv.ownBlock := by
    intro e
    have := hXf w2.heap.size (by simp [BuL.fp, MpL.fp, ← e])
    omega
  have HXg := Lib.hid hXg
  clear hXf hXg
  generalize hX : w2.heap.size = X at *
  have b4 : w3.cell? ⟨X, 4, none⟩ = some (.int .i64 (-1)) := B3.cell 4
  have b5 : w3.cell? ⟨X, 5, none⟩ = some (.int .i64 (-1)) := B3.cell 5
  have S3 := HS2.out.touch0 T3
  have hsx : s ≠ X := by have := HS2.out.lt s (by simp); omega
  have d1 := S3.part c hc
  have f1 := S3.blk.free (1 + c)
  have hsl := S3.lt s (by simp)
  have HB3 := Lib.hid B3
  have HSa := Lib.hid ((S3.setPart c (-1)).touch0 ((Touch.refl Nothing _).drew))
  have HTa := Lib.hid (show Touch (· ∈ s :: K.fp) w (w3.setCell ⟨s, 1 + c, none⟩ (.int .i64 (-1))).drew from (((HT2.out.trans T3).none_).trans ((Touch.cellAt w3 s (1 + c) (.int .i64 (-1))).mono (fun k _ h => by simp [h]))).drew)
  clear S3 T3 B3 hX
  go_wp2_with fail
  have hc8 : (c : Int) < 8 := by omega
  have hxs : ¬ X = s := fun e => hsx e.symm
  refine wp_region_still_tail 6 (by kernel_rfl) (by kernel_rfl) ?_
  simp only [List.take_succ_cons, List.take_zero, List.drop_succ_cons, List.drop_zero, World.drew_eq]
  repeat still_step
  refine wpStill_nil ?_
  have HCi := Lib.hid (HSa.out.po.bu.mp.chain_ HI.out HK.out (-1) (-1) (by omega) (by omega) (by omega) (by omega))
  go_wp2_with fail
  clear b4 b5 d1 f1
  generalize ((w3.setCell ⟨s, 1 + c, none⟩ (.int .i64 (-1))).drew) = wa at *
  refine HCi.out.mono ?_
  rintro e wz ⟨rfl, rz, tz⟩
  have Rz := HSa.out.paged rz tz rfl (List.length_set ..)
  go_wp2_with fail
  go_end0
  exact ⟨rfl, Rz.1, HTa.out.trans (Rz.2.mono (fun k _ h => List.mem_cons_of_mem _ h))⟩

set_option maxHeartbeats 1000000 in
set_option maxRecDepth 100000 in
theorem SlRep.unhang01 {w : World} {s pb : Nat} {K : BuL} {β : Bu} {ps : List Int} (R : SlRep w s pb K β ps) (i c : Nat) {p : Pg} (hi : β.μ.pages[i]? = some p) (hk : p.kind = 4) (hc : c < 8)
    (hp : p.prev = -1) (j2 : Nat) (q2 : Pg) (hn : p.next = j2) (hji2 : j2 ≠ i) (hq2 : β.μ.pages[j2]? = some q2) (hqk2 : q2.kind = 4) (hqn2 : q2.next < β.μ.pages.length) :
    Calls Tryz.prog 246 #[.pointer (some ⟨s, 0, none⟩), .int .i64 i, .int .i64 c] w fun e w' => e = .returned (.tuple #[]) ∧ SlRep w' s pb K { β with μ := β.μ.unhung i p } (unps ps c p) ∧ Touch (· ∈ s :: K.fp) w w' := by
  have hU : β.μ.unhung i p = ((β.μ.setPage j2 { q2 with next := q2.next, prev := (-1) }).setPage i { p with next := -1, prev := -1 }) := by
    unfold Mp.unhung
    rw [hp, hn]
    have h1 : (-1 : Int) < 0 := by decide
    have h2 : ∀ x : Nat, ¬ ((x : Int) < 0) := fun x => by omega
    simp only [if_pos h1, if_neg (h2 _), Int.toNat_natCast]
    rw [modPage_of (j := j2) (q := q2) _ hq2]
    rw [modPage_of (j := i) (q := p) _ (by rw [show ((β.μ.setPage j2 { q2 with next := q2.next, prev := (-1) })).pages[i]? = β.μ.pages[i]? from List.getElem?_set_ne hji2]; exact hi)]
  have hps : unps ps c p = ps.set c (j2 : Int) := by
    unfold unps
    rw [if_pos (by rw [hp]; decide), hn]
  rw [hU, hps]
  have hval : p.val = .agg #[.int .i64 p.kind, .int .i64 p.order, .int .i64 p.cls, .int .i64 p.live, .int .i64 (j2 : Int), .int .i64 (-1), .int .i64 p.first, .int .u64 p.b0, .int .u64 p.b1, .int .u64 p.b2, .int .u64 p.b3] := by
    unfold Pg.val
    rw [hp, hn]
  have hli := (List.getElem?_eq_some_iff.1 hi).1
  have hlen := R.po.bu.mp.ok.len
  have hlj2 := (List.getElem?_eq_some_iff.1 hq2).1
  have c0 := R.pool
  have HM := Lib.hid R.po.map_
  have hat := R.po.bu.mp.at_ hi
  rw [hval] at hat
  have HAt := Lib.hid hat
  have HR := Lib.hid R
  have HI := Lib.hid hi
  have HK := Lib.hid hk
  have HQ2 := Lib.hid hq2
  have HQk2 := Lib.hid hqk2
  clear R hat hval hi hk hp hn hU hps hq2 hqk2
  go_enter Tryz.func246, Tryz.ntmps246
  go_wp2_with fail
  refine HM.out.mono ?_
  rintro e w1 ⟨rfl, rfl⟩
  go_wp2_with fail
  refine HAt.out.mono ?_
  rintro e w2 ⟨rfl, T2⟩
  have S2 := HR.out.touch0 T2
  have HS2 := Lib.hid S2
  have HT2 := Lib.hid T2
  clear S2 T2 c0 HAt HM
  go_wp2_with fail
  have T3 := (Touch.refl Nothing w2).alloc (.cells #[.int .i64 p.kind, .int .i64 p.order, .int .i64 p.cls, .int .i64 p.live, .int .i64 (j2 : Int), .int .i64 (-1), .int .i64 p.first, .int .u64 p.b0, .int .u64 p.b1, .int .u64 p.b2, .int .u64 p.b3] 128)
  have B3 := Blk.new w2 #[.int .i64 p.kind, .int .i64 p.order, .int .i64 p.cls, .int .i64 p.live, .int .i64 (j2 : Int), .int .i64 (-1), .int .i64 p.first, .int .u64 p.b0, .int .u64 p.b1, .int .u64 p.b2, .int .u64 p.b3] 128
  generalize w2.alloc (.cells #[.int .i64 p.kind, .int .i64 p.order, .int .i64 p.cls, .int .i64 p.live, .int .i64 (j2 : Int), .int .i64 (-1), .int .i64 p.first, .int .u64 p.b0, .int .u64 p.b1, .int .u64 p.b2, .int .u64 p.b3] 128) = w3 at *
  have hx : w2.heap.size < w3.heap.size := B3.lt
  have hXf : ∀ k, k ∈ s :: pb :: K.fp → k < w2.heap.size := HS2.out.lt
  have HXf := Lib.hid hXf
  have hXg : ¬ some w2.heap.size = K.M.gv.ownBlock := by
    intro e
    have := hXf w2.heap.size (by simp [BuL.fp, MpL.fp, ← e])
    omega
  have HXg := Lib.hid hXg
  clear hXf hXg
  generalize hX : w2.heap.size = X at *
  have b4 : w3.cell? ⟨X, 4, none⟩ = some (.int .i64 (j2 : Int)) := B3.cell 4
  have b5 : w3.cell? ⟨X, 5, none⟩ = some (.int .i64 (-1)) := B3.cell 5
  have S3 := HS2.out.touch0 T3
  have hsx : s ≠ X := by have := HS2.out.lt s (by simp); omega
  have d1 := S3.part c hc
  have f1 := S3.blk.free (1 + c)
  have hsl := S3.lt s (by simp)
  have HB3 := Lib.hid B3
  have HSa := Lib.hid ((S3.setPart c (j2 : Int)).touch0 ((Touch.refl Nothing _).drew))
  have HTa := Lib.hid (show Touch (· ∈ s :: K.fp) w (w3.setCell ⟨s, 1 + c, none⟩ (.int .i64 (j2 : Int))).drew from (((HT2.out.trans T3).none_).trans ((Touch.cellAt w3 s (1 + c) (.int .i64 (j2 : Int))).mono (fun k _ h => by simp [h]))).drew)
  clear S3 T3 B3 hX
  go_wp2_with fail
  have hc8 : (c : Int) < 8 := by omega
  have hxs : ¬ X = s := fun e => hsx e.symm
  refine wp_region_still_tail 6 (by kernel_rfl) (by kernel_rfl) ?_
  simp only [List.take_succ_cons, List.take_zero, List.drop_succ_cons, List.drop_zero, World.drew_eq]
  repeat still_step
  refine wpStill_nil ?_
  have HAj := Lib.hid (HSa.out.po.bu.mp.at_ HQ2.out)
  have e4 : ((w3.setCell ⟨s, 1 + c, none⟩ (.int .i64 (j2 : Int))).drew).cell? ⟨X, 4, none⟩ = some (.int .i64 (j2 : Int)) := ((Touch.cellAt w3 s (1 + c) (.int .i64 (j2 : Int))).drew.cell (p := ⟨X, 4, none⟩) hx hxs).trans b4
  have e5 : ((w3.setCell ⟨s, 1 + c, none⟩ (.int .i64 (j2 : Int))).drew).cell? ⟨X, 5, none⟩ = some (.int .i64 (-1)) := ((Touch.cellAt w3 s (1 + c) (.int .i64 (j2 : Int))).drew.cell (p := ⟨X, 5, none⟩) hx hxs).trans b5
  have ex : X < ((w3.setCell ⟨s, 1 + c, none⟩ (.int .i64 (j2 : Int))).drew).heap.size := Nat.lt_of_lt_of_le hx (Touch.cellAt w3 s (1 + c) (.int .i64 (j2 : Int))).drew.size
  have HE := Lib.hid (And.intro e4 (And.intro e5 ex))
  clear e4 e5 ex
  go_wp2_with fail
  obtain ⟨e4, e5, ex⟩ := HE.out
  clear HE b4 b5 d1 f1
  generalize ((w3.setCell ⟨s, 1 + c, none⟩ (.int .i64 (j2 : Int))).drew) = wa at *
  refine HAj.out.mono ?_
  rintro e wb ⟨rfl, Tb⟩
  have hxb : X < wb.heap.size := Nat.lt_of_lt_of_le ex Tb.size
  have b4 : wb.cell? ⟨X, 4, none⟩ = some (.int .i64 (j2 : Int)) := (Tb.cell (p := ⟨X, 4, none⟩) ex (fun h => h)).trans e4
  have b5 : wb.cell? ⟨X, 5, none⟩ = some (.int .i64 (-1)) := (Tb.cell (p := ⟨X, 5, none⟩) ex (fun h => h)).trans e5
  have Tc := (Touch.refl Nothing wb).alloc (.cells #[.int .i64 q2.kind, .int .i64 q2.order, .int .i64 q2.cls, .int .i64 q2.live, .int .i64 q2.next, .int .i64 q2.prev, .int .i64 q2.first, .int .u64 q2.b0, .int .u64 q2.b1, .int .u64 q2.b2, .int .u64 q2.b3] 128)
  have c4 := (Tc.cell (p := ⟨X, 4, none⟩) hxb (fun h => h)).trans b4
  have c5 := (Tc.cell (p := ⟨X, 5, none⟩) hxb (fun h => h)).trans b5
  have Sc := HSa.out.touch0 (Tb.trans Tc)
  have hqo2 := HR.out.po.bu.mp.ok.page q2 (List.mem_of_getElem? HQ2.out)
  have hll : (β.μ).pages.length = β.μ.pages.length := by rfl
  have HCh2 := Lib.hid (Sc.po.bu.mp.chain_ HQ2.out HQk2.out q2.next (-1) hqo2.next.1 (by show q2.next < ((β.μ).pages.length : Int); rw [hll]; exact hqn2) (by omega) (by show (-1) < ((β.μ).pages.length : Int); rw [hll]; omega))
  have HSc := Lib.hid Sc
  have HTc := Lib.hid (HTa.out.trans (Tb.trans Tc).none_)
  clear Tb HAj Tc c4 c5 Sc hqo2 ex e4 e5
  unfold Pg.val
  go_wp2_with fail
  clear b4 b5 hxb
  generalize wb.alloc (.cells #[.int .i64 q2.kind, .int .i64 q2.order, .int .i64 q2.cls, .int .i64 q2.live, .int .i64 q2.next, .int .i64 q2.prev, .int .i64 q2.first, .int .u64 q2.b0, .int .u64 q2.b1, .int .u64 q2.b2, .int .u64 q2.b3] 128) = wc at *
  refine HCh2.out.mono ?_
  rintro e wd ⟨rfl, rd, td⟩
  have Rd := HSc.out.paged rd td rfl (List.length_set ..)
  have HCi := Lib.hid (Rd.1.po.bu.mp.chain_ ((List.getElem?_set_ne hji2).trans HI.out) HK.out (-1) (-1) (by omega) (by show (-1 : Int) < _; omega) (by omega) (by show (-1 : Int) < _; omega))
  have HSd := Lib.hid Rd.1
  have HTd := Lib.hid (HTc.out.trans (Rd.2.mono (fun k _ h => List.mem_cons_of_mem _ h)))
  clear Rd rd td HCh2
  go_wp2_with fail
  refine HCi.out.mono ?_
  rintro e wz ⟨rfl, rz, tz⟩
  have Rz := HSd.out.paged rz tz rfl (List.length_set ..)
  go_wp2_with fail
  go_end0
  exact ⟨rfl, Rz.1, HTd.out.trans (Rz.2.mono (fun k _ h => List.mem_cons_of_mem _ h))⟩

set_option maxHeartbeats 1000000 in
set_option maxRecDepth 100000 in
theorem SlRep.unhang10 {w : World} {s pb : Nat} {K : BuL} {β : Bu} {ps : List Int} (R : SlRep w s pb K β ps) (i c : Nat) {p : Pg} (hi : β.μ.pages[i]? = some p) (hk : p.kind = 4) (_hc : c < 8)
    (j : Nat) (q : Pg) (hp : p.prev = j) (hji : j ≠ i) (hq : β.μ.pages[j]? = some q) (hqk : q.kind = 4) (hqp : q.prev < β.μ.pages.length) (hn : p.next = -1) :
    Calls Tryz.prog 246 #[.pointer (some ⟨s, 0, none⟩), .int .i64 i, .int .i64 c] w fun e w' => e = .returned (.tuple #[]) ∧ SlRep w' s pb K { β with μ := β.μ.unhung i p } (unps ps c p) ∧ Touch (· ∈ s :: K.fp) w w' := by
  have hU : β.μ.unhung i p = ((β.μ.setPage j { q with next := (-1), prev := q.prev }).setPage i { p with next := -1, prev := -1 }) := by
    unfold Mp.unhung
    rw [hp, hn]
    have h1 : (-1 : Int) < 0 := by decide
    have h2 : ∀ x : Nat, ¬ ((x : Int) < 0) := fun x => by omega
    simp only [if_pos h1, if_neg (h2 _), Int.toNat_natCast]
    rw [modPage_of (j := j) _ hq]
    rw [modPage_of (j := i) (q := p) _ (by rw [show ((β.μ.setPage j { q with next := (-1), prev := q.prev })).pages[i]? = β.μ.pages[i]? from List.getElem?_set_ne hji]; exact hi)]
  have hps : unps ps c p = ps := by
    unfold unps
    rw [if_neg (by rw [hp]; omega)]
  rw [hU, hps]
  have hval : p.val = .agg #[.int .i64 p.kind, .int .i64 p.order, .int .i64 p.cls, .int .i64 p.live, .int .i64 (-1), .int .i64 (j : Int), .int .i64 p.first, .int .u64 p.b0, .int .u64 p.b1, .int .u64 p.b2, .int .u64 p.b3] := by
    unfold Pg.val
    rw [hp, hn]
  have hli := (List.getElem?_eq_some_iff.1 hi).1
  have hlen := R.po.bu.mp.ok.len
  have hlj := (List.getElem?_eq_some_iff.1 hq).1
  have c0 := R.pool
  have HM := Lib.hid R.po.map_
  have hat := R.po.bu.mp.at_ hi
  rw [hval] at hat
  have HAt := Lib.hid hat
  have HR := Lib.hid R
  have HI := Lib.hid hi
  have HK := Lib.hid hk
  have HQ := Lib.hid hq
  have HQk := Lib.hid hqk
  clear R hat hval hi hk hp hn hU hps hq hqk
  go_enter Tryz.func246, Tryz.ntmps246
  go_wp2_with fail
  refine HM.out.mono ?_
  rintro e w1 ⟨rfl, rfl⟩
  go_wp2_with fail
  refine HAt.out.mono ?_
  rintro e w2 ⟨rfl, T2⟩
  have S2 := HR.out.touch0 T2
  have HS2 := Lib.hid S2
  have HT2 := Lib.hid T2
  clear S2 T2 c0 HAt HM
  go_wp2_with fail
  have T3 := (Touch.refl Nothing w2).alloc (.cells #[.int .i64 p.kind, .int .i64 p.order, .int .i64 p.cls, .int .i64 p.live, .int .i64 (-1), .int .i64 (j : Int), .int .i64 p.first, .int .u64 p.b0, .int .u64 p.b1, .int .u64 p.b2, .int .u64 p.b3] 128)
  have B3 := Blk.new w2 #[.int .i64 p.kind, .int .i64 p.order, .int .i64 p.cls, .int .i64 p.live, .int .i64 (-1), .int .i64 (j : Int), .int .i64 p.first, .int .u64 p.b0, .int .u64 p.b1, .int .u64 p.b2, .int .u64 p.b3] 128
  generalize w2.alloc (.cells #[.int .i64 p.kind, .int .i64 p.order, .int .i64 p.cls, .int .i64 p.live, .int .i64 (-1), .int .i64 (j : Int), .int .i64 p.first, .int .u64 p.b0, .int .u64 p.b1, .int .u64 p.b2, .int .u64 p.b3] 128) = w3 at *
  have hx : w2.heap.size < w3.heap.size := B3.lt
  have hXf : ∀ k, k ∈ s :: pb :: K.fp → k < w2.heap.size := HS2.out.lt
  have HXf := Lib.hid hXf
  have hXg : ¬ some w2.heap.size = K.M.gv.ownBlock := by
    intro e
    have := hXf w2.heap.size (by simp [BuL.fp, MpL.fp, ← e])
    omega
  have HXg := Lib.hid hXg
  clear hXf hXg
  generalize hX : w2.heap.size = X at *
  have b4 : w3.cell? ⟨X, 4, none⟩ = some (.int .i64 (-1)) := B3.cell 4
  have b5 : w3.cell? ⟨X, 5, none⟩ = some (.int .i64 (j : Int)) := B3.cell 5
  have S3 := HS2.out.touch0 T3
  have hsx : s ≠ X := by have := HS2.out.lt s (by simp); omega
  have HAj := Lib.hid (S3.po.bu.mp.at_ HQ.out)
  have HC3 := Lib.hid (And.intro b4 (And.intro b5 hx))
  have HT3 := Lib.hid T3
  clear S3 T3 B3 hX b4 b5
  go_wp2_with fail
  refine HAj.out.mono ?_
  rintro e w4 ⟨rfl, T4⟩
  have hx4 : X < w4.heap.size := Nat.lt_of_lt_of_le HC3.out.2.2 T4.size
  have b4 : w4.cell? ⟨X, 4, none⟩ = some (.int .i64 (-1)) := (T4.cell (p := ⟨X, 4, none⟩) HC3.out.2.2 (fun h => h)).trans HC3.out.1
  have b5 : w4.cell? ⟨X, 5, none⟩ = some (.int .i64 (j : Int)) := (T4.cell (p := ⟨X, 5, none⟩) HC3.out.2.2 (fun h => h)).trans HC3.out.2.1
  have HT4 := Lib.hid (HT3.out.trans T4)
  have T5 := (Touch.refl Nothing w4).alloc (.cells #[.int .i64 q.kind, .int .i64 q.order, .int .i64 q.cls, .int .i64 q.live, .int .i64 q.next, .int .i64 q.prev, .int .i64 q.first, .int .u64 q.b0, .int .u64 q.b1, .int .u64 q.b2, .int .u64 q.b3] 128)
  have c4 := (T5.cell (p := ⟨X, 4, none⟩) hx4 (fun h => h)).trans b4
  have c5 := (T5.cell (p := ⟨X, 5, none⟩) hx4 (fun h => h)).trans b5
  have HC5 := Lib.hid (And.intro c4 (And.intro c5 (Nat.lt_of_lt_of_le hx4 T5.size)))
  have S5 := HS2.out.touch0 (HT4.out.trans T5)
  have hqo := HR.out.po.bu.mp.ok.page q (List.mem_of_getElem? HQ.out)
  have HCh := Lib.hid (S5.po.bu.mp.chain_ HQ.out HQk.out (-1) q.prev (by omega) (by omega) hqo.prev.1 hqp)
  have HS5 := Lib.hid S5
  have HT5 := Lib.hid (HT4.out.trans T5)
  clear T4 HAj hx T5 c4 c5 S5 hqo
  unfold Pg.val
  go_wp2_with fail
  clear b4 b5 hx4
  obtain ⟨c4, c5, hx5⟩ := HC5.out
  clear HC5
  generalize w4.alloc (.cells #[.int .i64 q.kind, .int .i64 q.order, .int .i64 q.cls, .int .i64 q.live, .int .i64 q.next, .int .i64 q.prev, .int .i64 q.first, .int .u64 q.b0, .int .u64 q.b1, .int .u64 q.b2, .int .u64 q.b3] 128) = w5 at *
  refine HCh.out.mono ?_
  rintro e w6 ⟨rfl, r6, t6⟩
  have R6 := HS5.out.paged r6 t6 rfl (List.length_set ..)
  have HSa := Lib.hid R6.1
  have HTa := Lib.hid (show Touch (· ∈ s :: K.fp) w w6 from ((HT2.out.trans HT5.out).none_).trans (R6.2.mono (fun k _ h => List.mem_cons_of_mem _ h)))
  have d4 : w6.cell? ⟨X, 4, none⟩ = some (.int .i64 (-1)) := (t6.cell (p := ⟨X, 4, none⟩) hx5 HXg.out).trans c4
  have d5 : w6.cell? ⟨X, 5, none⟩ = some (.int .i64 (j : Int)) := (t6.cell (p := ⟨X, 5, none⟩) hx5 HXg.out).trans c5
  have ex : X < w6.heap.size := Nat.lt_of_lt_of_le hx5 t6.size
  clear R6 r6 t6 c4 c5 hx5 HCh
  have HE := Lib.hid (And.intro d4 (And.intro d5 ex))
  have hi' : ((β.μ.setPage j { q with next := (-1), prev := q.prev })).pages[i]? = some p := (List.getElem?_set_ne hji).trans HI.out
  have HCi := Lib.hid (HSa.out.po.bu.mp.chain_ hi' HK.out (-1) (-1) (by omega) (by show (-1 : Int) < _; omega) (by omega) (by show (-1 : Int) < _; omega))
  clear hi'
  go_wp2_with fail
  clear HE d4 d5
  refine HCi.out.mono ?_
  rintro e wz ⟨rfl, rz, tz⟩
  have Rz := HSa.out.paged rz tz rfl (List.length_set ..)
  go_wp2_with fail
  go_end0
  exact ⟨rfl, Rz.1, HTa.out.trans (Rz.2.mono (fun k _ h => List.mem_cons_of_mem _ h))⟩

set_option maxHeartbeats 1000000 in
set_option maxRecDepth 100000 in
theorem SlRep.unhang11 {w : World} {s pb : Nat} {K : BuL} {β : Bu} {ps : List Int} (R : SlRep w s pb K β ps) (i c : Nat) {p : Pg} (hi : β.μ.pages[i]? = some p) (hk : p.kind = 4) (_hc : c < 8)
    (j : Nat) (q : Pg) (hp : p.prev = j) (hji : j ≠ i) (hq : β.μ.pages[j]? = some q) (hqk : q.kind = 4) (hqp : q.prev < β.μ.pages.length) (j2 : Nat) (q2 : Pg) (hn : p.next = j2) (hji2 : j2 ≠ i) (hq2 : β.μ.pages[j2]? = some q2) (hqk2 : q2.kind = 4) (hqn2 : q2.next < β.μ.pages.length) (hjj : j2 ≠ j) :
    Calls Tryz.prog 246 #[.pointer (some ⟨s, 0, none⟩), .int .i64 i, .int .i64 c] w fun e w' => e = .returned (.tuple #[]) ∧ SlRep w' s pb K { β with μ := β.μ.unhung i p } (unps ps c p) ∧ Touch (· ∈ s :: K.fp) w w' := by
  have hU : β.μ.unhung i p = (((β.μ.setPage j { q with next := (j2 : Int), prev := q.prev }).setPage j2 { q2 with next := q2.next, prev := (j : Int) }).setPage i { p with next := -1, prev := -1 }) := by
    unfold Mp.unhung
    rw [hp, hn]
    have h2 : ∀ x : Nat, ¬ ((x : Int) < 0) := fun x => by omega
    simp only [if_neg (h2 _), Int.toNat_natCast]
    rw [modPage_of (j := j) _ hq]
    rw [modPage_of (j := j2) (q := q2) _ (by rw [show ((β.μ.setPage j { q with next := (j2 : Int), prev := q.prev })).pages[j2]? = β.μ.pages[j2]? from List.getElem?_set_ne (fun e => hjj e.symm)]; exact hq2)]
    rw [modPage_of (j := i) (q := p) _ (by rw [show (((β.μ.setPage j { q with next := (j2 : Int), prev := q.prev }).setPage j2 { q2 with next := q2.next, prev := (j : Int) })).pages[i]? = ((β.μ.setPage j { q with next := (j2 : Int), prev := q.prev })).pages[i]? from List.getElem?_set_ne hji2, show ((β.μ.setPage j { q with next := (j2 : Int), prev := q.prev })).pages[i]? = β.μ.pages[i]? from List.getElem?_set_ne hji]; exact hi)]
  have hps : unps ps c p = ps := by
    unfold unps
    rw [if_neg (by rw [hp]; omega)]
  rw [hU, hps]
  have hval : p.val = .agg #[.int .i64 p.kind, .int .i64 p.order, .int .i64 p.cls, .int .i64 p.live, .int .i64 (j2 : Int), .int .i64 (j : Int), .int .i64 p.first, .int .u64 p.b0, .int .u64 p.b1, .int .u64 p.b2, .int .u64 p.b3] := by
    unfold Pg.val
    rw [hp, hn]
  have hli := (List.getElem?_eq_some_iff.1 hi).1
  have hlen := R.po.bu.mp.ok.len
  have hlj := (List.getElem?_eq_some_iff.1 hq).1
  have hlj2 := (List.getElem?_eq_some_iff.1 hq2).1
  have c0 := R.pool
  have HM := Lib.hid R.po.map_
  have hat := R.po.bu.mp.at_ hi
  rw [hval] at hat
  have HAt := Lib.hid hat
  have HR := Lib.hid R
  have HI := Lib.hid hi
  have HK := Lib.hid hk
  have HQ := Lib.hid hq
  have HQk := Lib.hid hqk
  have HQ2 := Lib.hid hq2
  have HQk2 := Lib.hid hqk2
  clear R hat hval hi hk hp hn hU hps hq hqk hq2 hqk2
  go_enter Tryz.func246, Tryz.ntmps246
  go_wp2_with fail
  refine HM.out.mono ?_
  rintro e w1 ⟨rfl, rfl⟩
  go_wp2_with fail
  refine HAt.out.mono ?_
  rintro e w2 ⟨rfl, T2⟩
  have S2 := HR.out.touch0 T2
  have HS2 := Lib.hid S2
  have HT2 := Lib.hid T2
  clear S2 T2 c0 HAt HM
  go_wp2_with fail
  have T3 := (Touch.refl Nothing w2).alloc (.cells #[.int .i64 p.kind, .int .i64 p.order, .int .i64 p.cls, .int .i64 p.live, .int .i64 (j2 : Int), .int .i64 (j : Int), .int .i64 p.first, .int .u64 p.b0, .int .u64 p.b1, .int .u64 p.b2, .int .u64 p.b3] 128)
  have B3 := Blk.new w2 #[.int .i64 p.kind, .int .i64 p.order, .int .i64 p.cls, .int .i64 p.live, .int .i64 (j2 : Int), .int .i64 (j : Int), .int .i64 p.first, .int .u64 p.b0, .int .u64 p.b1, .int .u64 p.b2, .int .u64 p.b3] 128
  generalize w2.alloc (.cells #[.int .i64 p.kind, .int .i64 p.order, .int .i64 p.cls, .int .i64 p.live, .int .i64 (j2 : Int), .int .i64 (j : Int), .int .i64 p.first, .int .u64 p.b0, .int .u64 p.b1, .int .u64 p.b2, .int .u64 p.b3] 128) = w3 at *
  have hx : w2.heap.size < w3.heap.size := B3.lt
  have hXf : ∀ k, k ∈ s :: pb :: K.fp → k < w2.heap.size := HS2.out.lt
  have HXf := Lib.hid hXf
  have hXg : ¬ some w2.heap.size = K.M.gv.ownBlock := by
    intro e
    have := hXf w2.heap.size (by simp [BuL.fp, MpL.fp, ← e])
    omega
  have HXg := Lib.hid hXg
  clear hXf hXg
  generalize hX : w2.heap.size = X at *
  have b4 : w3.cell? ⟨X, 4, none⟩ = some (.int .i64 (j2 : Int)) := B3.cell 4
  have b5 : w3.cell? ⟨X, 5, none⟩ = some (.int .i64 (j : Int)) := B3.cell 5
  have S3 := HS2.out.touch0 T3
  have hsx : s ≠ X := by have := HS2.out.lt s (by simp); omega
  have HAj := Lib.hid (S3.po.bu.mp.at_ HQ.out)
  have HC3 := Lib.hid (And.intro b4 (And.intro b5 hx))
  have HT3 := Lib.hid T3
  clear S3 T3 B3 hX b4 b5
  go_wp2_with fail
  refine HAj.out.mono ?_
  rintro e w4 ⟨rfl, T4⟩
  have hx4 : X < w4.heap.size := Nat.lt_of_lt_of_le HC3.out.2.2 T4.size
  have b4 : w4.cell? ⟨X, 4, none⟩ = some (.int .i64 (j2 : Int)) := (T4.cell (p := ⟨X, 4, none⟩) HC3.out.2.2 (fun h => h)).trans HC3.out.1
  have b5 : w4.cell? ⟨X, 5, none⟩ = some (.int .i64 (j : Int)) := (T4.cell (p := ⟨X, 5, none⟩) HC3.out.2.2 (fun h => h)).trans HC3.out.2.1
  have HT4 := Lib.hid (HT3.out.trans T4)
  have T5 := (Touch.refl Nothing w4).alloc (.cells #[.int .i64 q.kind, .int .i64 q.order, .int .i64 q.cls, .int .i64 q.live, .int .i64 q.next, .int .i64 q.prev, .int .i64 q.first, .int .u64 q.b0, .int .u64 q.b1, .int .u64 q.b2, .int .u64 q.b3] 128)
  have c4 := (T5.cell (p := ⟨X, 4, none⟩) hx4 (fun h => h)).trans b4
  have c5 := (T5.cell (p := ⟨X, 5, none⟩) hx4 (fun h => h)).trans b5
  have HC5 := Lib.hid (And.intro c4 (And.intro c5 (Nat.lt_of_lt_of_le hx4 T5.size)))
  have S5 := HS2.out.touch0 (HT4.out.trans T5)
  have hqo := HR.out.po.bu.mp.ok.page q (List.mem_of_getElem? HQ.out)
  have HCh := Lib.hid (S5.po.bu.mp.chain_ HQ.out HQk.out (j2 : Int) q.prev (by omega) (by omega) hqo.prev.1 hqp)
  have HS5 := Lib.hid S5
  have HT5 := Lib.hid (HT4.out.trans T5)
  clear T4 HAj hx T5 c4 c5 S5 hqo
  unfold Pg.val
  go_wp2_with fail
  clear b4 b5 hx4
  obtain ⟨c4, c5, hx5⟩ := HC5.out
  clear HC5
  generalize w4.alloc (.cells #[.int .i64 q.kind, .int .i64 q.order, .int .i64 q.cls, .int .i64 q.live, .int .i64 q.next, .int .i64 q.prev, .int .i64 q.first, .int .u64 q.b0, .int .u64 q.b1, .int .u64 q.b2, .int .u64 q.b3] 128) = w5 at *
  refine HCh.out.mono ?_
  rintro e w6 ⟨rfl, r6, t6⟩
  have R6 := HS5.out.paged r6 t6 rfl (List.length_set ..)
  have HSa := Lib.hid R6.1
  have HTa := Lib.hid (show Touch (· ∈ s :: K.fp) w w6 from ((HT2.out.trans HT5.out).none_).trans (R6.2.mono (fun k _ h => List.mem_cons_of_mem _ h)))
  have d4 : w6.cell? ⟨X, 4, none⟩ = some (.int .i64 (j2 : Int)) := (t6.cell (p := ⟨X, 4, none⟩) hx5 HXg.out).trans c4
  have d5 : w6.cell? ⟨X, 5, none⟩ = some (.int .i64 (j : Int)) := (t6.cell (p := ⟨X, 5, none⟩) hx5 HXg.out).trans c5
  have ex : X < w6.heap.size := Nat.lt_of_lt_of_le hx5 t6.size
  clear R6 r6 t6 c4 c5 hx5 HCh
  have HE := Lib.hid (And.intro d4 (And.intro d5 ex))
  have hq2' : ((β.μ.setPage j { q with next := (j2 : Int), prev := q.prev })).pages[j2]? = some q2 := (List.getElem?_set_ne (fun e => hjj e.symm)).trans HQ2.out
  have HAj := Lib.hid (HSa.out.po.bu.mp.at_ hq2')
  have HQ2' := Lib.hid hq2'
  clear hq2'
  go_wp2_with fail
  clear HE
  refine HAj.out.mono ?_
  rintro e wb ⟨rfl, Tb⟩
  have hxb : X < wb.heap.size := Nat.lt_of_lt_of_le ex Tb.size
  have b4 : wb.cell? ⟨X, 4, none⟩ = some (.int .i64 (j2 : Int)) := (Tb.cell (p := ⟨X, 4, none⟩) ex (fun h => h)).trans d4
  have b5 : wb.cell? ⟨X, 5, none⟩ = some (.int .i64 (j : Int)) := (Tb.cell (p := ⟨X, 5, none⟩) ex (fun h => h)).trans d5
  have Tc := (Touch.refl Nothing wb).alloc (.cells #[.int .i64 q2.kind, .int .i64 q2.order, .int .i64 q2.cls, .int .i64 q2.live, .int .i64 q2.next, .int .i64 q2.prev, .int .i64 q2.first, .int .u64 q2.b0, .int .u64 q2.b1, .int .u64 q2.b2, .int .u64 q2.b3] 128)
  have c4 := (Tc.cell (p := ⟨X, 4, none⟩) hxb (fun h => h)).trans b4
  have c5 := (Tc.cell (p := ⟨X, 5, none⟩) hxb (fun h => h)).trans b5
  have Sc := HSa.out.touch0 (Tb.trans Tc)
  have hqo2 := HR.out.po.bu.mp.ok.page q2 (List.mem_of_getElem? HQ2.out)
  have hll : ((β.μ.setPage j { q with next := (j2 : Int), prev := q.prev })).pages.length = β.μ.pages.length := by exact List.length_set ..
  have HCh2 := Lib.hid (Sc.po.bu.mp.chain_ HQ2'.out HQk2.out q2.next (j : Int) hqo2.next.1 (by show q2.next < (((β.μ.setPage j { q with next := (j2 : Int), prev := q.prev })).pages.length : Int); rw [hll]; exact hqn2) (by omega) (by show (j : Int) < (((β.μ.setPage j { q with next := (j2 : Int), prev := q.prev })).pages.length : Int); rw [hll]; omega))
  have HSc := Lib.hid Sc
  have HTc := Lib.hid (HTa.out.trans (Tb.trans Tc).none_)
  clear Tb HAj Tc c4 c5 Sc hqo2 ex d4 d5
  unfold Pg.val
  go_wp2_with fail
  clear b4 b5 hxb
  generalize wb.alloc (.cells #[.int .i64 q2.kind, .int .i64 q2.order, .int .i64 q2.cls, .int .i64 q2.live, .int .i64 q2.next, .int .i64 q2.prev, .int .i64 q2.first, .int .u64 q2.b0, .int .u64 q2.b1, .int .u64 q2.b2, .int .u64 q2.b3] 128) = wc at *
  refine HCh2.out.mono ?_
  rintro e wd ⟨rfl, rd, td⟩
  have Rd := HSc.out.paged rd td rfl (List.length_set ..)
  have HCi := Lib.hid (Rd.1.po.bu.mp.chain_ ((List.getElem?_set_ne hji2).trans ((List.getElem?_set_ne hji).trans HI.out)) HK.out (-1) (-1) (by omega) (by show (-1 : Int) < _; omega) (by omega) (by show (-1 : Int) < _; omega))
  have HSd := Lib.hid Rd.1
  have HTd := Lib.hid (HTc.out.trans (Rd.2.mono (fun k _ h => List.mem_cons_of_mem _ h)))
  clear Rd rd td HCh2
  go_wp2_with fail
  refine HCi.out.mono ?_
  rintro e wz ⟨rfl, rz, tz⟩
  have Rz := HSd.out.paged rz tz rfl (List.length_set ..)
  go_wp2_with fail
  go_end0
  exact ⟨rfl, Rz.1, HTd.out.trans (Rz.2.mono (fun k _ h => List.mem_cons_of_mem _ h))⟩

/-- a neighbour on a partial list: none, or a slab page other than i -/
def NbOk (μ : Mp) (i : Nat) (n : Int) : Prop := n = -1 ∨ ∃ (j : Nat) (q : Pg), n = j ∧ j ≠ i ∧ μ.pages[j]? = some q ∧ q.kind = 4 ∧ q.prev < μ.pages.length ∧ q.next < μ.pages.length

theorem SlRep.unhang_ {w : World} {s pb : Nat} {K : BuL} {β : Bu} {ps : List Int} (R : SlRep w s pb K β ps) (i c : Nat) {p : Pg} (hi : β.μ.pages[i]? = some p) (hk : p.kind = 4) (hc : c < 8)
    (hp : NbOk β.μ i p.prev) (hn : NbOk β.μ i p.next) (hne : p.prev = -1 ∨ p.prev ≠ p.next) :
    Calls Tryz.prog 246 #[.pointer (some ⟨s, 0, none⟩), .int .i64 i, .int .i64 c] w fun e w' => e = .returned (.tuple #[]) ∧ SlRep w' s pb K { β with μ := β.μ.unhung i p } (unps ps c p) ∧ Touch (· ∈ s :: K.fp) w w' := by
  rcases hp with hp | ⟨j, q, hp, hji, hq, hqk, hqp, hqn⟩
  · rcases hn with hn | ⟨j2, q2, hn, hji2, hq2, hqk2, hqp2, hqn2⟩
    · exact R.unhang00 i c hi hk hc hp hn
    · exact R.unhang01 i c hi hk hc hp j2 q2 hn hji2 hq2 hqk2 hqn2
  · rcases hn with hn | ⟨j2, q2, hn, hji2, hq2, hqk2, hqp2, hqn2⟩
    · exact R.unhang10 i c hi hk hc j q hp hji hq hqk hqp hn
    · exact R.unhang11 i c hi hk hc j q hp hji hq hqk hqp j2 q2 hn hji2 hq2 hqk2 hqn2 (by
        rintro rfl
        rcases hne with h | h
        · omega
        · exact h (hp.trans hn.symm))

theorem SInv.links {β : Bu} {ps : List Int} {C L : Nat → List Nat} (S : SInv β ps C L) {c i : Nat} {p : Pg} (hc : c < 8) (hi : i ∈ L c) (hp : β.μ.pages[i]? = some p) :
    (p.prev = -1 ∨ ∃ j ∈ L c, j ≠ i ∧ p.prev = (j : Int)) ∧ (p.next = -1 ∨ ∃ j ∈ L c, j ≠ i ∧ p.next = (j : Int)) ∧ (p.prev = -1 ∨ p.prev ≠ p.next) := by
  obtain ⟨a, t, hL⟩ := List.append_of_mem hi
  have D := S.lists c hc
  have M := S.nodup c hc
  rw [hL] at D M ⊢
  have h1 := D.prevOf
  have h2 := D.nextIs
  rw [prevF_of hp] at h1
  rw [nextF_of hp] at h2
  rw [List.nodup_append] at M
  obtain ⟨_, M2, M3⟩ := M
  simp only [List.nodup_cons] at M2
  have ha : p.prev = -1 ∨ ∃ j ∈ a, p.prev = (j : Int) := by
    cases hg : a.getLast? with
    | none => unfold lsI at h1; rw [hg] at h1; exact .inl h1
    | some z => rw [lsI_some hg] at h1; exact .inr ⟨z, List.mem_of_getLast? hg, h1⟩
  have ht : p.next = -1 ∨ ∃ j ∈ t, p.next = (j : Int) := by
    cases t with
    | nil => exact .inl h2
    | cons y t => exact .inr ⟨y, by simp, h2⟩
  refine ⟨ha.imp id (fun ⟨j, hj, e⟩ => ⟨j, by simp [hj], fun h => M3 j hj i (by simp) h, e⟩), ht.imp id (fun ⟨j, hj, e⟩ => ⟨j, by simp [hj], fun h => M2.1 (h ▸ hj), e⟩), ?_⟩
  rcases ha with ha | ⟨j, hj, e⟩
  · exact .inl ha
  · refine .inr (fun h => ?_)
    rcases ht with ht | ⟨j2, hj2, e2⟩
    · omega
    · have : j = j2 := by omega
      subst this
      exact M3 j hj j (by simp [hj2]) rfl

theorem SInv.nb {β : Bu} {ps : List Int} {C L : Nat → List Nat} (S : SInv β ps C L) {c i : Nat} {p : Pg} (hc : c < 8) (hi : i ∈ L c) (hp : β.μ.pages[i]? = some p) : NbOk β.μ i p.prev ∧ NbOk β.μ i p.next ∧ (p.prev = -1 ∨ p.prev ≠ p.next) := by
  have hlk : ∀ j q, j ∈ L c → β.μ.pages[j]? = some q → q.prev < β.μ.pages.length ∧ q.next < β.μ.pages.length := by
    intro j q hj hq
    obtain ⟨h1, h2, _⟩ := S.links hc hj hq
    have lt : ∀ x, x ∈ L c → x < β.μ.pages.length := fun x hx => by
      obtain ⟨q, hq, _⟩ := S.cls_of hc hx
      exact (List.getElem?_eq_some_iff.1 hq).1
    constructor
    · rcases h1 with h | ⟨x, hx, _, h⟩
      · omega
      · have := lt x hx; omega
    · rcases h2 with h | ⟨x, hx, _, h⟩
      · omega
      · have := lt x hx; omega
  obtain ⟨h1, h2, h3⟩ := S.links hc hi hp
  refine ⟨h1.imp id (fun ⟨j, hj, ne, e⟩ => ?_), h2.imp id (fun ⟨j, hj, ne, e⟩ => ?_), h3⟩
  · obtain ⟨q, hq, h4, _⟩ := S.cls_of hc hj
    exact ⟨j, q, e, ne, hq, h4, hlk j q hj hq⟩
  · obtain ⟨q, hq, h4, _⟩ := S.cls_of hc hj
    exact ⟨j, q, e, ne, hq, h4, hlk j q hj hq⟩

theorem NbOk.set {μ : Mp} {i : Nat} {n : Int} {p' : Pg} (h : NbOk μ i n) : NbOk (μ.setPage i p') i n := by
  refine h.imp id (fun ⟨j, q, e, ne, hq, h4, h1, h2⟩ => ⟨j, q, e, ne, (List.getElem?_set_ne (fun x => ne x.symm)).trans hq, h4, ?_, ?_⟩)
  · rw [show (μ.setPage i p').pages.length = μ.pages.length from List.length_set ..]; exact h1
  · rw [show (μ.setPage i p').pages.length = μ.pages.length from List.length_set ..]; exact h2

end Go.Proofs.YtnjcmcnjgdjbiaaGreatDoor
