/- The walk of package slab's unhang, its four ways. Conditions: as each theorem states. -/
import Derived.Test.YtnjcmcnjgdjbiaaGreatDoorCutPartAi
set_option maxRecDepth 100000
set_option maxHeartbeats 2000000
namespace Go.Proofs.YtnjcmcnjgdjbiaaGreatDoor
open Go.RowKit
theorem SlRep.paged {w w' : World} {s pb : Nat} {K : BuL} {β : Bu} {ps : List Int} {μ' : Mp} (R : SlRep w s pb K β ps) (h : MpRep w' K.M μ') (T : Touch (fun k => some k = K.M.gv.ownBlock) w w') (ho : μ'.order = β.μ.order) (hl : μ'.pages.length = β.μ.pages.length) :
  SlRep w' s pb K { β with μ := μ' } ps ∧ Touch (· ∈ K.fp) w w' := by
 have := R.po.bu.paged h T ho hl
 exact ⟨R.next this.2 (BuL.Next.refl _ _) this.1, this.2⟩
theorem SlRep.unhang00 {w : World} {s pb : Nat} {K : BuL} {β : Bu} {ps : List Int} (R : SlRep w s pb K β ps) (i c : Nat) {p : Pg} (hi : β.μ.pages[i]? = some p) (hk : p.kind = 4) (hc : c < 8)
  (hp : p.prev = -1) (hn : p.next = -1) :
  Calls Tryz.prog 246 #[.pointer (some ⟨s, 0, none⟩), .int .i64 i, .int .i64 c] w fun e w' => e = .returned (.tuple #[]) ∧ SlRep w' s pb K { β with μ := β.μ.unhung i p } (unps ps c p) ∧ Touch (· ∈ s :: K.fp) w w' := by
 have hU : β.μ.unhung i p = (β.μ.setPage i { p with next := -1, prev := -1 }) := by
  unfold Mp.unhung
  rw [hp, hn]
  have h1 : (-1 : Int) < 0 := by decide
  simp only [if_pos h1]
  rw [modPage_of (j := i) (q := p) _ hi]
 have hps : unps ps c p = ps.set c (-1) := by
  unfold unps
  rw [if_pos (by rw [hp]; decide), hn]
 rw [hU, hps]
 have hval : p.val = .agg #[.int .i64 p.kind, .int .i64 p.order, .int .i64 p.cls, .int .i64 p.live, .int .i64 (-1), .int .i64 (-1), .int .i64 p.first, .int .u64 p.b0, .int .u64 p.b1, .int .u64 p.b2, .int .u64 p.b3] := by
  unfold Pg.val
  rw [hp, hn]
 have hli := (List.getElem?_eq_some_iff.1 hi).1
 have hlen := R.po.bu.mp.ok.len
 have c0 := R.pool
 have HM := Hd R.po.map_
 have hat := R.po.bu.mp.at_ hi
 rw [hval] at hat
 have HAt := Hd hat
 have HR := Hd R
 have HI := Hd hi
 have HK := Hd hk
 clear R hat hval hi hk hp hn hU hps
 go_enter Tryz.func246, Tryz.ntmps246
 go_wp2_with fail
 refine HM.out.mono ?_
 rintro e w1 ⟨rfl, rfl⟩
 go_wp2_with fail
 refine HAt.out.mono ?_
 rintro e w2 ⟨rfl, T2⟩
 have S2 := HR.out.touch0 T2
 have HS2 := Hd S2
 have HT2 := Hd T2
 clear S2 T2 c0 HAt HM
 go_wp2_with fail
 have T3 := (Touch.refl Nothing w2).alloc (.cells #[.int .i64 p.kind, .int .i64 p.order, .int .i64 p.cls, .int .i64 p.live, .int .i64 (-1), .int .i64 (-1), .int .i64 p.first, .int .u64 p.b0, .int .u64 p.b1, .int .u64 p.b2, .int .u64 p.b3] 128)
 have B3 := Blk.new w2 #[.int .i64 p.kind, .int .i64 p.order, .int .i64 p.cls, .int .i64 p.live, .int .i64 (-1), .int .i64 (-1), .int .i64 p.first, .int .u64 p.b0, .int .u64 p.b1, .int .u64 p.b2, .int .u64 p.b3] 128
 generalize w2.alloc (.cells #[.int .i64 p.kind, .int .i64 p.order, .int .i64 p.cls, .int .i64 p.live, .int .i64 (-1), .int .i64 (-1), .int .i64 p.first, .int .u64 p.b0, .int .u64 p.b1, .int .u64 p.b2, .int .u64 p.b3] 128) = w3 at *
 have hx : w2.heap.size < w3.heap.size := B3.lt
 have hXf : ∀ k, k ∈ s :: pb :: K.fp → k < w2.heap.size := HS2.out.lt
 have HXf := Hd hXf
 have hXg : ¬ some w2.heap.size = K.M.gv.ownBlock := by
  intro e
  have := hXf w2.heap.size (by simp [BuL.fp, MpL.fp, ← e])
  omega
 have HXg := Hd hXg
 clear hXf hXg
 generalize hX : w2.heap.size = X at *
 have b4 : w3.cell? ⟨X, 4, none⟩ = some (.int .i64 (-1)) := B3.cell 4
 have b5 : w3.cell? ⟨X, 5, none⟩ = some (.int .i64 (-1)) := B3.cell 5
 have S3 := HS2.out.touch0 T3
 have hsx : s ≠ X := by have := HS2.out.lt s (by simp); omega
 have d1 := S3.part c hc
 have f1 := S3.blk.free (1 + c)
 have hsl := S3.lt s (by simp)
 have HB3 := Hd B3
 have HSa := Hd ((S3.setPart c (-1)).touch0 ((Touch.refl Nothing _).drew))
 have HTa := Hd (show Touch (· ∈ s :: K.fp) w (w3.setCell ⟨s, 1 + c, none⟩ (.int .i64 (-1))).drew from (((HT2.out.trans T3).none_).trans ((Touch.cellAt w3 s (1 + c) (.int .i64 (-1))).mono (fun k _ h => by simp [h]))).drew)
 clear S3 T3 B3 hX
 go_wp2_with fail
 have hc8 : (c : Int) < 8 := by omega
 have hxs : ¬ X = s := fun e => hsx e.symm
 refine wp_region_still_tail 6 (by kernel_rfl) (by kernel_rfl) ?_
 simp only [List.take_succ_cons, List.take_zero, List.drop_succ_cons, List.drop_zero, World.drew_eq]
 repeat still_step
 refine wpStill_nil ?_
 have HCi := Hd (HSa.out.po.bu.mp.chain_ HI.out HK.out (-1) (-1) (by omega) (by omega) (by omega) (by omega))
 go_wp2_with fail
 clear b4 b5 d1 f1
 generalize ((w3.setCell ⟨s, 1 + c, none⟩ (.int .i64 (-1))).drew) = wa at *
 refine HCi.out.mono ?_
 rintro e wz ⟨rfl, rz, tz⟩
 have Rz := HSa.out.paged rz tz rfl (List.length_set ..)
 go_wp2_with fail
 go_end0
 exact ⟨rfl, Rz.1, HTa.out.trans (Rz.2.mono (fun k _ h => List.mem_cons_of_mem _ h))⟩
theorem SlRep.unhang01 {w : World} {s pb : Nat} {K : BuL} {β : Bu} {ps : List Int} (R : SlRep w s pb K β ps) (i c : Nat) {p : Pg} (hi : β.μ.pages[i]? = some p) (hk : p.kind = 4) (hc : c < 8)
  (hp : p.prev = -1) (j2 : Nat) (q2 : Pg) (hn : p.next = j2) (hji2 : j2 ≠ i) (hq2 : β.μ.pages[j2]? = some q2) (hqk2 : q2.kind = 4) (hqn2 : q2.next < β.μ.pages.length) :
  Calls Tryz.prog 246 #[.pointer (some ⟨s, 0, none⟩), .int .i64 i, .int .i64 c] w fun e w' => e = .returned (.tuple #[]) ∧ SlRep w' s pb K { β with μ := β.μ.unhung i p } (unps ps c p) ∧ Touch (· ∈ s :: K.fp) w w' := by
 have hU : β.μ.unhung i p = ((β.μ.setPage j2 { q2 with next := q2.next, prev := (-1) }).setPage i { p with next := -1, prev := -1 }) := by
  unfold Mp.unhung
  rw [hp, hn]
  have h1 : (-1 : Int) < 0 := by decide
  have h2 : ∀ x : Nat, ¬ ((x : Int) < 0) := fun x => by omega
  simp only [if_pos h1, if_neg (h2 _), Int.toNat_natCast]
  rw [modPage_of (j := j2) (q := q2) _ hq2]
  rw [modPage_of (j := i) (q := p) _ (by rw [show ((β.μ.setPage j2 { q2 with next := q2.next, prev := (-1) })).pages[i]? = β.μ.pages[i]? from List.getElem?_set_ne hji2]; exact hi)]
 have hps : unps ps c p = ps.set c (j2 : Int) := by
  unfold unps
  rw [if_pos (by rw [hp]; decide), hn]
 rw [hU, hps]
 have hval : p.val = .agg #[.int .i64 p.kind, .int .i64 p.order, .int .i64 p.cls, .int .i64 p.live, .int .i64 (j2 : Int), .int .i64 (-1), .int .i64 p.first, .int .u64 p.b0, .int .u64 p.b1, .int .u64 p.b2, .int .u64 p.b3] := by
  unfold Pg.val
  rw [hp, hn]
 have hli := (List.getElem?_eq_some_iff.1 hi).1
 have hlen := R.po.bu.mp.ok.len
 have hlj2 := (List.getElem?_eq_some_iff.1 hq2).1
 have c0 := R.pool
 have HM := Hd R.po.map_
 have hat := R.po.bu.mp.at_ hi
 rw [hval] at hat
 have HAt := Hd hat
 have HR := Hd R
 have HI := Hd hi
 have HK := Hd hk
 have HQ2 := Hd hq2
 have HQk2 := Hd hqk2
 clear R hat hval hi hk hp hn hU hps hq2 hqk2
 go_enter Tryz.func246, Tryz.ntmps246
 go_wp2_with fail
 refine HM.out.mono ?_
 rintro e w1 ⟨rfl, rfl⟩
 go_wp2_with fail
 refine HAt.out.mono ?_
 rintro e w2 ⟨rfl, T2⟩
 have S2 := HR.out.touch0 T2
 have HS2 := Hd S2
 have HT2 := Hd T2
 clear S2 T2 c0 HAt HM
 go_wp2_with fail
 have T3 := (Touch.refl Nothing w2).alloc (.cells #[.int .i64 p.kind, .int .i64 p.order, .int .i64 p.cls, .int .i64 p.live, .int .i64 (j2 : Int), .int .i64 (-1), .int .i64 p.first, .int .u64 p.b0, .int .u64 p.b1, .int .u64 p.b2, .int .u64 p.b3] 128)
 have B3 := Blk.new w2 #[.int .i64 p.kind, .int .i64 p.order, .int .i64 p.cls, .int .i64 p.live, .int .i64 (j2 : Int), .int .i64 (-1), .int .i64 p.first, .int .u64 p.b0, .int .u64 p.b1, .int .u64 p.b2, .int .u64 p.b3] 128
 generalize w2.alloc (.cells #[.int .i64 p.kind, .int .i64 p.order, .int .i64 p.cls, .int .i64 p.live, .int .i64 (j2 : Int), .int .i64 (-1), .int .i64 p.first, .int .u64 p.b0, .int .u64 p.b1, .int .u64 p.b2, .int .u64 p.b3] 128) = w3 at *
 have hx : w2.heap.size < w3.heap.size := B3.lt
 have hXf : ∀ k, k ∈ s :: pb :: K.fp → k < w2.heap.size := HS2.out.lt
 have HXf := Hd hXf
 have hXg : ¬ some w2.heap.size = K.M.gv.ownBlock := by
  intro e
  have := hXf w2.heap.size (by simp [BuL.fp, MpL.fp, ← e])
  omega
 have HXg := Hd hXg
 clear hXf hXg
 generalize hX : w2.heap.size = X at *
 have b4 : w3.cell? ⟨X, 4, none⟩ = some (.int .i64 (j2 : Int)) := B3.cell 4
 have b5 : w3.cell? ⟨X, 5, none⟩ = some (.int .i64 (-1)) := B3.cell 5
 have S3 := HS2.out.touch0 T3
 have hsx : s ≠ X := by have := HS2.out.lt s (by simp); omega
 have d1 := S3.part c hc
 have f1 := S3.blk.free (1 + c)
 have hsl := S3.lt s (by simp)
 have HB3 := Hd B3
 have HSa := Hd ((S3.setPart c (j2 : Int)).touch0 ((Touch.refl Nothing _).drew))
 have HTa := Hd (show Touch (· ∈ s :: K.fp) w (w3.setCell ⟨s, 1 + c, none⟩ (.int .i64 (j2 : Int))).drew from (((HT2.out.trans T3).none_).trans ((Touch.cellAt w3 s (1 + c) (.int .i64 (j2 : Int))).mono (fun k _ h => by simp [h]))).drew)
 clear S3 T3 B3 hX
 go_wp2_with fail
 have hc8 : (c : Int) < 8 := by omega
 have hxs : ¬ X = s := fun e => hsx e.symm
 refine wp_region_still_tail 6 (by kernel_rfl) (by kernel_rfl) ?_
 simp only [List.take_succ_cons, List.take_zero, List.drop_succ_cons, List.drop_zero, World.drew_eq]
 repeat still_step
 refine wpStill_nil ?_
 have HAj := Hd (HSa.out.po.bu.mp.at_ HQ2.out)
 have e4 : ((w3.setCell ⟨s, 1 + c, none⟩ (.int .i64 (j2 : Int))).drew).cell? ⟨X, 4, none⟩ = some (.int .i64 (j2 : Int)) := ((Touch.cellAt w3 s (1 + c) (.int .i64 (j2 : Int))).drew.cell (p := ⟨X, 4, none⟩) hx hxs).trans b4
 have e5 : ((w3.setCell ⟨s, 1 + c, none⟩ (.int .i64 (j2 : Int))).drew).cell? ⟨X, 5, none⟩ = some (.int .i64 (-1)) := ((Touch.cellAt w3 s (1 + c) (.int .i64 (j2 : Int))).drew.cell (p := ⟨X, 5, none⟩) hx hxs).trans b5
 have ex : X < ((w3.setCell ⟨s, 1 + c, none⟩ (.int .i64 (j2 : Int))).drew).heap.size := Nat.lt_of_lt_of_le hx (Touch.cellAt w3 s (1 + c) (.int .i64 (j2 : Int))).drew.size
 have HE := Hd (And.intro e4 (And.intro e5 ex))
 clear e4 e5 ex
 go_wp2_with fail
 obtain ⟨e4, e5, ex⟩ := HE.out
 clear HE b4 b5 d1 f1
 generalize ((w3.setCell ⟨s, 1 + c, none⟩ (.int .i64 (j2 : Int))).drew) = wa at *
 refine HAj.out.mono ?_
 rintro e wb ⟨rfl, Tb⟩
 have hxb : X < wb.heap.size := Nat.lt_of_lt_of_le ex Tb.size
 have b4 : wb.cell? ⟨X, 4, none⟩ = some (.int .i64 (j2 : Int)) := (Tb.cell (p := ⟨X, 4, none⟩) ex (fun h => h)).trans e4
 have b5 : wb.cell? ⟨X, 5, none⟩ = some (.int .i64 (-1)) := (Tb.cell (p := ⟨X, 5, none⟩) ex (fun h => h)).trans e5
 have Tc := (Touch.refl Nothing wb).alloc (.cells #[.int .i64 q2.kind, .int .i64 q2.order, .int .i64 q2.cls, .int .i64 q2.live, .int .i64 q2.next, .int .i64 q2.prev, .int .i64 q2.first, .int .u64 q2.b0, .int .u64 q2.b1, .int .u64 q2.b2, .int .u64 q2.b3] 128)
 have c4 := (Tc.cell (p := ⟨X, 4, none⟩) hxb (fun h => h)).trans b4
 have c5 := (Tc.cell (p := ⟨X, 5, none⟩) hxb (fun h => h)).trans b5
 have Sc := HSa.out.touch0 (Tb.trans Tc)
 have hqo2 := HR.out.po.bu.mp.ok.page q2 (List.mem_of_getElem? HQ2.out)
 have hll : (β.μ).pages.length = β.μ.pages.length := by rfl
 have HCh2 := Hd (Sc.po.bu.mp.chain_ HQ2.out HQk2.out q2.next (-1) hqo2.next.1 (by show q2.next < ((β.μ).pages.length : Int); rw [hll]; exact hqn2) (by omega) (by show (-1) < ((β.μ).pages.length : Int); rw [hll]; omega))
 have HSc := Hd Sc
 have HTc := Hd (HTa.out.trans (Tb.trans Tc).none_)
 clear Tb HAj Tc c4 c5 Sc hqo2 ex e4 e5
 unfold Pg.val
 go_wp2_with fail
 clear b4 b5 hxb
 generalize wb.alloc (.cells #[.int .i64 q2.kind, .int .i64 q2.order, .int .i64 q2.cls, .int .i64 q2.live, .int .i64 q2.next, .int .i64 q2.prev, .int .i64 q2.first, .int .u64 q2.b0, .int .u64 q2.b1, .int .u64 q2.b2, .int .u64 q2.b3] 128) = wc at *
 refine HCh2.out.mono ?_
 rintro e wd ⟨rfl, rd, td⟩
 have Rd := HSc.out.paged rd td rfl (List.length_set ..)
 have HCi := Hd (Rd.1.po.bu.mp.chain_ ((List.getElem?_set_ne hji2).trans HI.out) HK.out (-1) (-1) (by omega) (by show (-1 : Int) < _; omega) (by omega) (by show (-1 : Int) < _; omega))
 have HSd := Hd Rd.1
 have HTd := Hd (HTc.out.trans (Rd.2.mono (fun k _ h => List.mem_cons_of_mem _ h)))
 clear Rd rd td HCh2
 go_wp2_with fail
 refine HCi.out.mono ?_
 rintro e wz ⟨rfl, rz, tz⟩
 have Rz := HSd.out.paged rz tz rfl (List.length_set ..)
 go_wp2_with fail
 go_end0
 exact ⟨rfl, Rz.1, HTd.out.trans (Rz.2.mono (fun k _ h => List.mem_cons_of_mem _ h))⟩
theorem SlRep.unhang10 {w : World} {s pb : Nat} {K : BuL} {β : Bu} {ps : List Int} (R : SlRep w s pb K β ps) (i c : Nat) {p : Pg} (hi : β.μ.pages[i]? = some p) (hk : p.kind = 4) (_hc : c < 8)
  (j : Nat) (q : Pg) (hp : p.prev = j) (hji : j ≠ i) (hq : β.μ.pages[j]? = some q) (hqk : q.kind = 4) (hqp : q.prev < β.μ.pages.length) (hn : p.next = -1) :
  Calls Tryz.prog 246 #[.pointer (some ⟨s, 0, none⟩), .int .i64 i, .int .i64 c] w fun e w' => e = .returned (.tuple #[]) ∧ SlRep w' s pb K { β with μ := β.μ.unhung i p } (unps ps c p) ∧ Touch (· ∈ s :: K.fp) w w' := by
 have hU : β.μ.unhung i p = ((β.μ.setPage j { q with next := (-1), prev := q.prev }).setPage i { p with next := -1, prev := -1 }) := by
  unfold Mp.unhung
  rw [hp, hn]
  have h1 : (-1 : Int) < 0 := by decide
  have h2 : ∀ x : Nat, ¬ ((x : Int) < 0) := fun x => by omega
  simp only [if_pos h1, if_neg (h2 _), Int.toNat_natCast]
  rw [modPage_of (j := j) _ hq]
  rw [modPage_of (j := i) (q := p) _ (by rw [show ((β.μ.setPage j { q with next := (-1), prev := q.prev })).pages[i]? = β.μ.pages[i]? from List.getElem?_set_ne hji]; exact hi)]
 have hps : unps ps c p = ps := by
  unfold unps
  rw [if_neg (by rw [hp]; omega)]
 rw [hU, hps]
 have hval : p.val = .agg #[.int .i64 p.kind, .int .i64 p.order, .int .i64 p.cls, .int .i64 p.live, .int .i64 (-1), .int .i64 (j : Int), .int .i64 p.first, .int .u64 p.b0, .int .u64 p.b1, .int .u64 p.b2, .int .u64 p.b3] := by
  unfold Pg.val
  rw [hp, hn]
 have hli := (List.getElem?_eq_some_iff.1 hi).1
 have hlen := R.po.bu.mp.ok.len
 have hlj := (List.getElem?_eq_some_iff.1 hq).1
 have c0 := R.pool
 have HM := Hd R.po.map_
 have hat := R.po.bu.mp.at_ hi
 rw [hval] at hat
 have HAt := Hd hat
 have HR := Hd R
 have HI := Hd hi
 have HK := Hd hk
 have HQ := Hd hq
 have HQk := Hd hqk
 clear R hat hval hi hk hp hn hU hps hq hqk
 go_enter Tryz.func246, Tryz.ntmps246
 go_wp2_with fail
 refine HM.out.mono ?_
 rintro e w1 ⟨rfl, rfl⟩
 go_wp2_with fail
 refine HAt.out.mono ?_
 rintro e w2 ⟨rfl, T2⟩
 have S2 := HR.out.touch0 T2
 have HS2 := Hd S2
 have HT2 := Hd T2
 clear S2 T2 c0 HAt HM
 go_wp2_with fail
 have T3 := (Touch.refl Nothing w2).alloc (.cells #[.int .i64 p.kind, .int .i64 p.order, .int .i64 p.cls, .int .i64 p.live, .int .i64 (-1), .int .i64 (j : Int), .int .i64 p.first, .int .u64 p.b0, .int .u64 p.b1, .int .u64 p.b2, .int .u64 p.b3] 128)
 have B3 := Blk.new w2 #[.int .i64 p.kind, .int .i64 p.order, .int .i64 p.cls, .int .i64 p.live, .int .i64 (-1), .int .i64 (j : Int), .int .i64 p.first, .int .u64 p.b0, .int .u64 p.b1, .int .u64 p.b2, .int .u64 p.b3] 128
 generalize w2.alloc (.cells #[.int .i64 p.kind, .int .i64 p.order, .int .i64 p.cls, .int .i64 p.live, .int .i64 (-1), .int .i64 (j : Int), .int .i64 p.first, .int .u64 p.b0, .int .u64 p.b1, .int .u64 p.b2, .int .u64 p.b3] 128) = w3 at *
 have hx : w2.heap.size < w3.heap.size := B3.lt
 have hXf : ∀ k, k ∈ s :: pb :: K.fp → k < w2.heap.size := HS2.out.lt
 have HXf := Hd hXf
 have hXg : ¬ some w2.heap.size = K.M.gv.ownBlock := by
  intro e
  have := hXf w2.heap.size (by simp [BuL.fp, MpL.fp, ← e])
  omega
 have HXg := Hd hXg
 clear hXf hXg
 generalize hX : w2.heap.size = X at *
 have b4 : w3.cell? ⟨X, 4, none⟩ = some (.int .i64 (-1)) := B3.cell 4
 have b5 : w3.cell? ⟨X, 5, none⟩ = some (.int .i64 (j : Int)) := B3.cell 5
 have S3 := HS2.out.touch0 T3
 have hsx : s ≠ X := by have := HS2.out.lt s (by simp); omega
 have HAj := Hd (S3.po.bu.mp.at_ HQ.out)
 have HC3 := Hd (And.intro b4 (And.intro b5 hx))
 have HT3 := Hd T3
 clear S3 T3 B3 hX b4 b5
 go_wp2_with fail
 refine HAj.out.mono ?_
 rintro e w4 ⟨rfl, T4⟩
 have hx4 : X < w4.heap.size := Nat.lt_of_lt_of_le HC3.out.2.2 T4.size
 have b4 : w4.cell? ⟨X, 4, none⟩ = some (.int .i64 (-1)) := (T4.cell (p := ⟨X, 4, none⟩) HC3.out.2.2 (fun h => h)).trans HC3.out.1
 have b5 : w4.cell? ⟨X, 5, none⟩ = some (.int .i64 (j : Int)) := (T4.cell (p := ⟨X, 5, none⟩) HC3.out.2.2 (fun h => h)).trans HC3.out.2.1
 have HT4 := Hd (HT3.out.trans T4)
 have T5 := (Touch.refl Nothing w4).alloc (.cells #[.int .i64 q.kind, .int .i64 q.order, .int .i64 q.cls, .int .i64 q.live, .int .i64 q.next, .int .i64 q.prev, .int .i64 q.first, .int .u64 q.b0, .int .u64 q.b1, .int .u64 q.b2, .int .u64 q.b3] 128)
 have c4 := (T5.cell (p := ⟨X, 4, none⟩) hx4 (fun h => h)).trans b4
 have c5 := (T5.cell (p := ⟨X, 5, none⟩) hx4 (fun h => h)).trans b5
 have HC5 := Hd (And.intro c4 (And.intro c5 (Nat.lt_of_lt_of_le hx4 T5.size)))
 have S5 := HS2.out.touch0 (HT4.out.trans T5)
 have hqo := HR.out.po.bu.mp.ok.page q (List.mem_of_getElem? HQ.out)
 have HCh := Hd (S5.po.bu.mp.chain_ HQ.out HQk.out (-1) q.prev (by omega) (by omega) hqo.prev.1 hqp)
 have HS5 := Hd S5
 have HT5 := Hd (HT4.out.trans T5)
 clear T4 HAj hx T5 c4 c5 S5 hqo
 unfold Pg.val
 go_wp2_with fail
 clear b4 b5 hx4
 obtain ⟨c4, c5, hx5⟩ := HC5.out
 clear HC5
 generalize w4.alloc (.cells #[.int .i64 q.kind, .int .i64 q.order, .int .i64 q.cls, .int .i64 q.live, .int .i64 q.next, .int .i64 q.prev, .int .i64 q.first, .int .u64 q.b0, .int .u64 q.b1, .int .u64 q.b2, .int .u64 q.b3] 128) = w5 at *
 refine HCh.out.mono ?_
 rintro e w6 ⟨rfl, r6, t6⟩
 have R6 := HS5.out.paged r6 t6 rfl (List.length_set ..)
 have HSa := Hd R6.1
 have HTa := Hd (show Touch (· ∈ s :: K.fp) w w6 from ((HT2.out.trans HT5.out).none_).trans (R6.2.mono (fun k _ h => List.mem_cons_of_mem _ h)))
 have d4 : w6.cell? ⟨X, 4, none⟩ = some (.int .i64 (-1)) := (t6.cell (p := ⟨X, 4, none⟩) hx5 HXg.out).trans c4
 have d5 : w6.cell? ⟨X, 5, none⟩ = some (.int .i64 (j : Int)) := (t6.cell (p := ⟨X, 5, none⟩) hx5 HXg.out).trans c5
 have ex : X < w6.heap.size := Nat.lt_of_lt_of_le hx5 t6.size
 clear R6 r6 t6 c4 c5 hx5 HCh
 have HE := Hd (And.intro d4 (And.intro d5 ex))
 have hi' : ((β.μ.setPage j { q with next := (-1), prev := q.prev })).pages[i]? = some p := (List.getElem?_set_ne hji).trans HI.out
 have HCi := Hd (HSa.out.po.bu.mp.chain_ hi' HK.out (-1) (-1) (by omega) (by show (-1 : Int) < _; omega) (by omega) (by show (-1 : Int) < _; omega))
 clear hi'
 go_wp2_with fail
 clear HE d4 d5
 refine HCi.out.mono ?_
 rintro e wz ⟨rfl, rz, tz⟩
 have Rz := HSa.out.paged rz tz rfl (List.length_set ..)
 go_wp2_with fail
 go_end0
 exact ⟨rfl, Rz.1, HTa.out.trans (Rz.2.mono (fun k _ h => List.mem_cons_of_mem _ h))⟩
theorem SlRep.unhang11 {w : World} {s pb : Nat} {K : BuL} {β : Bu} {ps : List Int} (R : SlRep w s pb K β ps) (i c : Nat) {p : Pg} (hi : β.μ.pages[i]? = some p) (hk : p.kind = 4) (_hc : c < 8)
  (j : Nat) (q : Pg) (hp : p.prev = j) (hji : j ≠ i) (hq : β.μ.pages[j]? = some q) (hqk : q.kind = 4) (hqp : q.prev < β.μ.pages.length) (j2 : Nat) (q2 : Pg) (hn : p.next = j2) (hji2 : j2 ≠ i) (hq2 : β.μ.pages[j2]? = some q2) (hqk2 : q2.kind = 4) (hqn2 : q2.next < β.μ.pages.length) (hjj : j2 ≠ j) :
  Calls Tryz.prog 246 #[.pointer (some ⟨s, 0, none⟩), .int .i64 i, .int .i64 c] w fun e w' => e = .returned (.tuple #[]) ∧ SlRep w' s pb K { β with μ := β.μ.unhung i p } (unps ps c p) ∧ Touch (· ∈ s :: K.fp) w w' := by
 have hU : β.μ.unhung i p = (((β.μ.setPage j { q with next := (j2 : Int), prev := q.prev }).setPage j2 { q2 with next := q2.next, prev := (j : Int) }).setPage i { p with next := -1, prev := -1 }) := by
  unfold Mp.unhung
  rw [hp, hn]
  have h2 : ∀ x : Nat, ¬ ((x : Int) < 0) := fun x => by omega
  simp only [if_neg (h2 _), Int.toNat_natCast]
  rw [modPage_of (j := j) _ hq]
  rw [modPage_of (j := j2) (q := q2) _ (by rw [show ((β.μ.setPage j { q with next := (j2 : Int), prev := q.prev })).pages[j2]? = β.μ.pages[j2]? from List.getElem?_set_ne (fun e => hjj e.symm)]; exact hq2)]
  rw [modPage_of (j := i) (q := p) _ (by rw [show (((β.μ.setPage j { q with next := (j2 : Int), prev := q.prev }).setPage j2 { q2 with next := q2.next, prev := (j : Int) })).pages[i]? = ((β.μ.setPage j { q with next := (j2 : Int), prev := q.prev })).pages[i]? from List.getElem?_set_ne hji2, show ((β.μ.setPage j { q with next := (j2 : Int), prev := q.prev })).pages[i]? = β.μ.pages[i]? from List.getElem?_set_ne hji]; exact hi)]
 have hps : unps ps c p = ps := by
  unfold unps
  rw [if_neg (by rw [hp]; omega)]
 rw [hU, hps]
 have hval : p.val = .agg #[.int .i64 p.kind, .int .i64 p.order, .int .i64 p.cls, .int .i64 p.live, .int .i64 (j2 : Int), .int .i64 (j : Int), .int .i64 p.first, .int .u64 p.b0, .int .u64 p.b1, .int .u64 p.b2, .int .u64 p.b3] := by
  unfold Pg.val
  rw [hp, hn]
 have hli := (List.getElem?_eq_some_iff.1 hi).1
 have hlen := R.po.bu.mp.ok.len
 have hlj := (List.getElem?_eq_some_iff.1 hq).1
 have hlj2 := (List.getElem?_eq_some_iff.1 hq2).1
 have c0 := R.pool
 have HM := Hd R.po.map_
 have hat := R.po.bu.mp.at_ hi
 rw [hval] at hat
 have HAt := Hd hat
 have HR := Hd R
 have HI := Hd hi
 have HK := Hd hk
 have HQ := Hd hq
 have HQk := Hd hqk
 have HQ2 := Hd hq2
 have HQk2 := Hd hqk2
 clear R hat hval hi hk hp hn hU hps hq hqk hq2 hqk2
 go_enter Tryz.func246, Tryz.ntmps246
 go_wp2_with fail
 refine HM.out.mono ?_
 rintro e w1 ⟨rfl, rfl⟩
 go_wp2_with fail
 refine HAt.out.mono ?_
 rintro e w2 ⟨rfl, T2⟩
 have S2 := HR.out.touch0 T2
 have HS2 := Hd S2
 have HT2 := Hd T2
 clear S2 T2 c0 HAt HM
 go_wp2_with fail
 have T3 := (Touch.refl Nothing w2).alloc (.cells #[.int .i64 p.kind, .int .i64 p.order, .int .i64 p.cls, .int .i64 p.live, .int .i64 (j2 : Int), .int .i64 (j : Int), .int .i64 p.first, .int .u64 p.b0, .int .u64 p.b1, .int .u64 p.b2, .int .u64 p.b3] 128)
 have B3 := Blk.new w2 #[.int .i64 p.kind, .int .i64 p.order, .int .i64 p.cls, .int .i64 p.live, .int .i64 (j2 : Int), .int .i64 (j : Int), .int .i64 p.first, .int .u64 p.b0, .int .u64 p.b1, .int .u64 p.b2, .int .u64 p.b3] 128
 generalize w2.alloc (.cells #[.int .i64 p.kind, .int .i64 p.order, .int .i64 p.cls, .int .i64 p.live, .int .i64 (j2 : Int), .int .i64 (j : Int), .int .i64 p.first, .int .u64 p.b0, .int .u64 p.b1, .int .u64 p.b2, .int .u64 p.b3] 128) = w3 at *
 have hx : w2.heap.size < w3.heap.size := B3.lt
 have hXf : ∀ k, k ∈ s :: pb :: K.fp → k < w2.heap.size := HS2.out.lt
 have HXf := Hd hXf
 have hXg : ¬ some w2.heap.size = K.M.gv.ownBlock := by
  intro e
  have := hXf w2.heap.size (by simp [BuL.fp, MpL.fp, ← e])
  omega
 have HXg := Hd hXg
 clear hXf hXg
 generalize hX : w2.heap.size = X at *
 have b4 : w3.cell? ⟨X, 4, none⟩ = some (.int .i64 (j2 : Int)) := B3.cell 4
 have b5 : w3.cell? ⟨X, 5, none⟩ = some (.int .i64 (j : Int)) := B3.cell 5
 have S3 := HS2.out.touch0 T3
 have hsx : s ≠ X := by have := HS2.out.lt s (by simp); omega
 have HAj := Hd (S3.po.bu.mp.at_ HQ.out)
 have HC3 := Hd (And.intro b4 (And.intro b5 hx))
 have HT3 := Hd T3
 clear S3 T3 B3 hX b4 b5
 go_wp2_with fail
 refine HAj.out.mono ?_
 rintro e w4 ⟨rfl, T4⟩
 have hx4 : X < w4.heap.size := Nat.lt_of_lt_of_le HC3.out.2.2 T4.size
 have b4 : w4.cell? ⟨X, 4, none⟩ = some (.int .i64 (j2 : Int)) := (T4.cell (p := ⟨X, 4, none⟩) HC3.out.2.2 (fun h => h)).trans HC3.out.1
 have b5 : w4.cell? ⟨X, 5, none⟩ = some (.int .i64 (j : Int)) := (T4.cell (p := ⟨X, 5, none⟩) HC3.out.2.2 (fun h => h)).trans HC3.out.2.1
 have HT4 := Hd (HT3.out.trans T4)
 have T5 := (Touch.refl Nothing w4).alloc (.cells #[.int .i64 q.kind, .int .i64 q.order, .int .i64 q.cls, .int .i64 q.live, .int .i64 q.next, .int .i64 q.prev, .int .i64 q.first, .int .u64 q.b0, .int .u64 q.b1, .int .u64 q.b2, .int .u64 q.b3] 128)
 have c4 := (T5.cell (p := ⟨X, 4, none⟩) hx4 (fun h => h)).trans b4
 have c5 := (T5.cell (p := ⟨X, 5, none⟩) hx4 (fun h => h)).trans b5
 have HC5 := Hd (And.intro c4 (And.intro c5 (Nat.lt_of_lt_of_le hx4 T5.size)))
 have S5 := HS2.out.touch0 (HT4.out.trans T5)
 have hqo := HR.out.po.bu.mp.ok.page q (List.mem_of_getElem? HQ.out)
 have HCh := Hd (S5.po.bu.mp.chain_ HQ.out HQk.out (j2 : Int) q.prev (by omega) (by omega) hqo.prev.1 hqp)
 have HS5 := Hd S5
 have HT5 := Hd (HT4.out.trans T5)
 clear T4 HAj hx T5 c4 c5 S5 hqo
 unfold Pg.val
 go_wp2_with fail
 clear b4 b5 hx4
 obtain ⟨c4, c5, hx5⟩ := HC5.out
 clear HC5
 generalize w4.alloc (.cells #[.int .i64 q.kind, .int .i64 q.order, .int .i64 q.cls, .int .i64 q.live, .int .i64 q.next, .int .i64 q.prev, .int .i64 q.first, .int .u64 q.b0, .int .u64 q.b1, .int .u64 q.b2, .int .u64 q.b3] 128) = w5 at *
 refine HCh.out.mono ?_
 rintro e w6 ⟨rfl, r6, t6⟩
 have R6 := HS5.out.paged r6 t6 rfl (List.length_set ..)
 have HSa := Hd R6.1
 have HTa := Hd (show Touch (· ∈ s :: K.fp) w w6 from ((HT2.out.trans HT5.out).none_).trans (R6.2.mono (fun k _ h => List.mem_cons_of_mem _ h)))
 have d4 : w6.cell? ⟨X, 4, none⟩ = some (.int .i64 (j2 : Int)) := (t6.cell (p := ⟨X, 4, none⟩) hx5 HXg.out).trans c4
 have d5 : w6.cell? ⟨X, 5, none⟩ = some (.int .i64 (j : Int)) := (t6.cell (p := ⟨X, 5, none⟩) hx5 HXg.out).trans c5
 have ex : X < w6.heap.size := Nat.lt_of_lt_of_le hx5 t6.size
 clear R6 r6 t6 c4 c5 hx5 HCh
 have HE := Hd (And.intro d4 (And.intro d5 ex))
 have hq2' : ((β.μ.setPage j { q with next := (j2 : Int), prev := q.prev })).pages[j2]? = some q2 := (List.getElem?_set_ne (fun e => hjj e.symm)).trans HQ2.out
 have HAj := Hd (HSa.out.po.bu.mp.at_ hq2')
 have HQ2' := Hd hq2'
 clear hq2'
 go_wp2_with fail
 clear HE
 refine HAj.out.mono ?_
 rintro e wb ⟨rfl, Tb⟩
 have hxb : X < wb.heap.size := Nat.lt_of_lt_of_le ex Tb.size
 have b4 : wb.cell? ⟨X, 4, none⟩ = some (.int .i64 (j2 : Int)) := (Tb.cell (p := ⟨X, 4, none⟩) ex (fun h => h)).trans d4
 have b5 : wb.cell? ⟨X, 5, none⟩ = some (.int .i64 (j : Int)) := (Tb.cell (p := ⟨X, 5, none⟩) ex (fun h => h)).trans d5
 have Tc := (Touch.refl Nothing wb).alloc (.cells #[.int .i64 q2.kind, .int .i64 q2.order, .int .i64 q2.cls, .int .i64 q2.live, .int .i64 q2.next, .int .i64 q2.prev, .int .i64 q2.first, .int .u64 q2.b0, .int .u64 q2.b1, .int .u64 q2.b2, .int .u64 q2.b3] 128)
 have c4 := (Tc.cell (p := ⟨X, 4, none⟩) hxb (fun h => h)).trans b4
 have c5 := (Tc.cell (p := ⟨X, 5, none⟩) hxb (fun h => h)).trans b5
 have Sc := HSa.out.touch0 (Tb.trans Tc)
 have hqo2 := HR.out.po.bu.mp.ok.page q2 (List.mem_of_getElem? HQ2.out)
 have hll : ((β.μ.setPage j { q with next := (j2 : Int), prev := q.prev })).pages.length = β.μ.pages.length := by exact List.length_set ..
 have HCh2 := Hd (Sc.po.bu.mp.chain_ HQ2'.out HQk2.out q2.next (j : Int) hqo2.next.1 (by show q2.next < (((β.μ.setPage j { q with next := (j2 : Int), prev := q.prev })).pages.length : Int); rw [hll]; exact hqn2) (by omega) (by show (j : Int) < (((β.μ.setPage j { q with next := (j2 : Int), prev := q.prev })).pages.length : Int); rw [hll]; omega))
 have HSc := Hd Sc
 have HTc := Hd (HTa.out.trans (Tb.trans Tc).none_)
 clear Tb HAj Tc c4 c5 Sc hqo2 ex d4 d5
 unfold Pg.val
 go_wp2_with fail
 clear b4 b5 hxb
 generalize wb.alloc (.cells #[.int .i64 q2.kind, .int .i64 q2.order, .int .i64 q2.cls, .int .i64 q2.live, .int .i64 q2.next, .int .i64 q2.prev, .int .i64 q2.first, .int .u64 q2.b0, .int .u64 q2.b1, .int .u64 q2.b2, .int .u64 q2.b3] 128) = wc at *
 refine HCh2.out.mono ?_
 rintro e wd ⟨rfl, rd, td⟩
 have Rd := HSc.out.paged rd td rfl (List.length_set ..)
 have HCi := Hd (Rd.1.po.bu.mp.chain_ ((List.getElem?_set_ne hji2).trans ((List.getElem?_set_ne hji).trans HI.out)) HK.out (-1) (-1) (by omega) (by show (-1 : Int) < _; omega) (by omega) (by show (-1 : Int) < _; omega))
 have HSd := Hd Rd.1
 have HTd := Hd (HTc.out.trans (Rd.2.mono (fun k _ h => List.mem_cons_of_mem _ h)))
 clear Rd rd td HCh2
 go_wp2_with fail
 refine HCi.out.mono ?_
 rintro e wz ⟨rfl, rz, tz⟩
 have Rz := HSd.out.paged rz tz rfl (List.length_set ..)
 go_wp2_with fail
 go_end0
 exact ⟨rfl, Rz.1, HTd.out.trans (Rz.2.mono (fun k _ h => List.mem_cons_of_mem _ h))⟩
def NbOk (μ : Mp) (i : Nat) (n : Int) : Prop := n = -1 ∨ ∃ (j : Nat) (q : Pg), n = j ∧ j ≠ i ∧ μ.pages[j]? = some q ∧ q.kind = 4 ∧ q.prev < μ.pages.length ∧ q.next < μ.pages.length
theorem SlRep.unhang_ {w : World} {s pb : Nat} {K : BuL} {β : Bu} {ps : List Int} (R : SlRep w s pb K β ps) (i c : Nat) {p : Pg} (hi : β.μ.pages[i]? = some p) (hk : p.kind = 4) (hc : c < 8)
  (hp : NbOk β.μ i p.prev) (hn : NbOk β.μ i p.next) (hne : p.prev = -1 ∨ p.prev ≠ p.next) :
  Calls Tryz.prog 246 #[.pointer (some ⟨s, 0, none⟩), .int .i64 i, .int .i64 c] w fun e w' => e = .returned (.tuple #[]) ∧ SlRep w' s pb K { β with μ := β.μ.unhung i p } (unps ps c p) ∧ Touch (· ∈ s :: K.fp) w w' := by
 rcases hp with hp | ⟨j, q, hp, hji, hq, hqk, hqp, hqn⟩
 ·rcases hn with hn | ⟨j2, q2, hn, hji2, hq2, hqk2, hqp2, hqn2⟩
  ·exact R.unhang00 i c hi hk hc hp hn
  ·exact R.unhang01 i c hi hk hc hp j2 q2 hn hji2 hq2 hqk2 hqn2
 ·rcases hn with hn | ⟨j2, q2, hn, hji2, hq2, hqk2, hqp2, hqn2⟩
  ·exact R.unhang10 i c hi hk hc j q hp hji hq hqk hqp hn
  ·exact R.unhang11 i c hi hk hc j q hp hji hq hqk hqp j2 q2 hn hji2 hq2 hqk2 hqn2 (by
    rintro rfl
    rcases hne with h | h
    ·omega
    ·exact h (hp.trans hn.symm))
theorem SInv.links {β : Bu} {ps : List Int} {C L : Nat → List Nat} (S : SInv β ps C L) {c i : Nat} {p : Pg} (hc : c < 8) (hi : i ∈ L c) (hp : β.μ.pages[i]? = some p) :
  (p.prev = -1 ∨ ∃ j ∈ L c, j ≠ i ∧ p.prev = (j : Int)) ∧ (p.next = -1 ∨ ∃ j ∈ L c, j ≠ i ∧ p.next = (j : Int)) ∧ (p.prev = -1 ∨ p.prev ≠ p.next) := by
 obtain ⟨a, t, hL⟩ := List.append_of_mem hi
 have D := S.lists c hc
 have M := S.nodup c hc
 rw [hL] at D M ⊢
 have h1 := D.prevOf
 have h2 := D.nextIs
 rw [prevF_of hp] at h1
 rw [nextF_of hp] at h2
 rw [List.nodup_append] at M
 obtain ⟨_, M2, M3⟩ := M
 simp only [List.nodup_cons] at M2
 have ha : p.prev = -1 ∨ ∃ j ∈ a, p.prev = (j : Int) := by
  cases hg : a.getLast? with
  | none => unfold lsI at h1; rw [hg] at h1; exact .inl h1
  | some z => rw [lsI_some hg] at h1; exact .inr ⟨z, List.mem_of_getLast? hg, h1⟩
 have ht : p.next = -1 ∨ ∃ j ∈ t, p.next = (j : Int) := by
  cases t with
  | nil => exact .inl h2
  | cons y t => exact .inr ⟨y, by simp, h2⟩
 refine ⟨ha.imp id (fun ⟨j, hj, e⟩ => ⟨j, by simp [hj], fun h => M3 j hj i (by simp) h, e⟩), ht.imp id (fun ⟨j, hj, e⟩ => ⟨j, by simp [hj], fun h => M2.1 (h ▸ hj), e⟩), ?_⟩
 rcases ha with ha | ⟨j, hj, e⟩
 ·exact .inl ha
 ·refine .inr (fun h => ?_)
  rcases ht with ht | ⟨j2, hj2, e2⟩
  ·omega
  ·have : j = j2 := by omega
   subst this
   exact M3 j hj j (by simp [hj2]) rfl
theorem SInv.nb {β : Bu} {ps : List Int} {C L : Nat → List Nat} (S : SInv β ps C L) {c i : Nat} {p : Pg} (hc : c < 8) (hi : i ∈ L c) (hp : β.μ.pages[i]? = some p) : NbOk β.μ i p.prev ∧ NbOk β.μ i p.next ∧ (p.prev = -1 ∨ p.prev ≠ p.next) := by
 have hlk : ∀ j q, j ∈ L c → β.μ.pages[j]? = some q → q.prev < β.μ.pages.length ∧ q.next < β.μ.pages.length := by
  intro j q hj hq
  obtain ⟨h1, h2, _⟩ := S.links hc hj hq
  have lt : ∀ x, x ∈ L c → x < β.μ.pages.length := fun x hx => by
   obtain ⟨q, hq, _⟩ := S.cls_of hc hx
   exact (List.getElem?_eq_some_iff.1 hq).1
  constructor
  ·rcases h1 with h | ⟨x, hx, _, h⟩
   ·omega
   ·have := lt x hx; omega
  ·rcases h2 with h | ⟨x, hx, _, h⟩
   ·omega
   ·have := lt x hx; omega
 obtain ⟨h1, h2, h3⟩ := S.links hc hi hp
 refine ⟨h1.imp id (fun ⟨j, hj, ne, e⟩ => ?_), h2.imp id (fun ⟨j, hj, ne, e⟩ => ?_), h3⟩
 ·obtain ⟨q, hq, h4, _⟩ := S.cls_of hc hj
  exact ⟨j, q, e, ne, hq, h4, hlk j q hj hq⟩
 ·obtain ⟨q, hq, h4, _⟩ := S.cls_of hc hj
  exact ⟨j, q, e, ne, hq, h4, hlk j q hj hq⟩
theorem NbOk.set {μ : Mp} {i : Nat} {n : Int} {p' : Pg} (h : NbOk μ i n) : NbOk (μ.setPage i p') i n := by
 refine h.imp id (fun ⟨j, q, e, ne, hq, h4, h1, h2⟩ => ⟨j, q, e, ne, (List.getElem?_set_ne (fun x => ne x.symm)).trans hq, h4, ?_, ?_⟩)
 ·rw [show (μ.setPage i p').pages.length = μ.pages.length from List.length_set ..]; exact h1
 ·rw [show (μ.setPage i p').pages.length = μ.pages.length from List.length_set ..]; exact h2
theorem SlRep.take_old {w : World} {s pb : Nat} {K : BuL} {β : Bu} {ps : List Int} (R : SlRep w s pb K β ps) (G : Glob w) (c i f : Nat) (f2 : Nat) (deny : Bool) {p : Pg} (hc : c < 8) (he : ps.getD c 0 = (i : Int)) (hl : β.μ.pages.length = β.σ.n * 2 ^ β.μ.order)
  (hi : β.μ.pages[i]? = some p) (hk : p.kind = 4) (hcl : p.cls = c) (hf : p.first = (f : Int)) (hfl : f < cellsN c) (hb : p.bit f = false) (hlv : 0 ≤ p.live + 1 ∧ p.live + 1 ≤ 256)
  (hf2 : f2 < cellsN c) (hw : β.σ.word (β.addr i + f * wdOf c) = β.addr i + f2 * wdOf c) :
  Calls Tryz.prog 191 #[.pointer (some ⟨s, 0, none⟩), .int .i64 c, .bool deny] w
   (Taken w s pb K { β with μ := β.μ.setPage i (p.take f f2) } ps (.tuple #[.int .u64 (β.addr i + f * wdOf c : Nat), .bool false, .int .i64 0])) := by
 have c0 := R.pool
 have c1 := R.part c hc
 rw [he] at c1
 have hlt := (List.getElem?_eq_some_iff.1 hi).1
 have hlen := R.po.bu.mp.ok.len
 have htop : β.σ.base + 4096 * i + 4096 ≤ 18446744073709551615 := R.po.bu.ok.addr_top R.po.bu.sp.ok hlt
 obtain ⟨u1, u2, u3, u4, u5, u6⟩ := wd_facts hc
 have hin : f * wdOf c + wdOf c ≤ 4096 := by
  have := cell_in c (by omega) hfl
  simpa using this
 have hval : p.val = .agg #[.int .i64 p.kind, .int .i64 p.order, .int .i64 p.cls, .int .i64 p.live, .int .i64 p.next, .int .i64 p.prev, .int .i64 (f : Int), .int .u64 p.b0, .int .u64 p.b1, .int .u64 p.b2, .int .u64 p.b3] := by
  unfold Pg.val
  rw [hf]
 have hat := R.po.bu.mp.at_ hi
 rw [hval] at hat
 have HAt := Hd hat
 have HM := Hd R.po.map_
 have HR := Hd R
 have HG := Hd G
 have HI := Hd hi
 have HK := Hd hk
 have HCl := Hd hcl
 have HBit := Hd hb
 have HF := Hd hf
 have HL := Hd hl
 have HLv := Hd hlv
 have HW := Hd hw
 have HHas : Hid (β.σ.has (β.σ.base + 4096 * i + f * wdOf c) 8) := Hd (R.po.bu.ok.has (i := i) (off := f * wdOf c) (n := 8) hlt (by omega) (by omega))
 have HU := Hd (And.intro u3 u6)
 have hi3 : i ≤ 1023 := by omega
 have HFl := Hd hfl
 have hf256 : f < 256 := by omega
 have hin2 : f2 * wdOf c + wdOf c ≤ 4096 := by
  have := cell_in c (by omega) hf2
  simpa using this
 have HF2 := Hd hf2
 have hf2256 : f2 < 256 := by omega
 clear hf2
 clear R G hl hi hk hcl hf hfl hb hlv hw hval hat hlt hlen he u3 u6
 go_enter Tryz.func191, Tryz.ntmps191
 have hi0 : ¬ ((i : Int) < 0) := by omega
 go_wp2_with fail
 refine HM.out.mono ?_
 rintro e w1 ⟨rfl, rfl⟩
 go_wp2_with fail
 refine HAt.out.mono ?_
 rintro e w2 ⟨rfl, T2⟩
 have HT2 := Hd T2
 have S2 := HR.out.touch0 T2
 have HB2 := Hd (fun W (T : Touch Nothing w2 W) => (S2.touch0 T).base_ HL.out)
 have HS2 := Hd S2
 have HG2 := Hd (HG.out.touch0 T2)
 clear T2 S2 HAt HM
 go_wp2_with fail
 have T3 := (Touch.refl Nothing w2).alloc (.cells #[.int .i64 p.kind, .int .i64 p.order, .int .i64 p.cls, .int .i64 p.live, .int .i64 p.next, .int .i64 p.prev, .int .i64 (f : Int), .int .u64 p.b0, .int .u64 p.b1, .int .u64 p.b2, .int .u64 p.b3] 128)
 have B3 := Blk.new w2 #[.int .i64 p.kind, .int .i64 p.order, .int .i64 p.cls, .int .i64 p.live, .int .i64 p.next, .int .i64 p.prev, .int .i64 (f : Int), .int .u64 p.b0, .int .u64 p.b1, .int .u64 p.b2, .int .u64 p.b3] 128
 refine (HB2.out _ T3).mono ?_
 rintro e w4 ⟨rfl, k4, rfl⟩
 replace T3 := T3.drewN k4
 replace B3 := B3.drewN k4
 have hXf : ∀ k, k ∈ s :: pb :: K.fp → k < w2.heap.size := HS2.out.lt
 have hXg : ¬ some w2.heap.size = K.M.gv.ownBlock := by
  intro e
  have := hXf w2.heap.size (by simp [BuL.fp, MpL.fp, ← e])
  omega
 have HXg := Hd hXg
 clear hXf hXg
 generalize (w2.alloc (.cells #[.int .i64 p.kind, .int .i64 p.order, .int .i64 p.cls, .int .i64 p.live, .int .i64 p.next, .int .i64 p.prev, .int .i64 (f : Int), .int .u64 p.b0, .int .u64 p.b1, .int .u64 p.b2, .int .u64 p.b3] 128)).drewN k4 = w4 at *
 have hx : w2.heap.size < w4.heap.size := B3.lt
 generalize hX : w2.heap.size = X at *
 have b6 : w4.cell? ⟨X, 6, none⟩ = some (.int .i64 (f : Int)) := B3.cell 6
 have cw : w4.cell? ⟨1, c, none⟩ = some (.int .u64 (wdOf c : Nat)) := (HG2.out.touch0 T3).widths c hc
 have HT3 := Hd T3
 have S4 := HS2.out.touch0 T3
 have HS4 := Hd S4
 have HSp := Hd (fun k => ((S4.drewN k).po.space_))
 have HWd := Hd (fun k => (S4.drewN k).po.bu.sp.word_ (β.σ.base + 4096 * i + f * wdOf c) HHas.out)
 have d0 : w4.cell? ⟨s, 0, none⟩ = some (.pointer (some ⟨pb, 0, none⟩)) := S4.pool
 have hw0 : ¬ (wdOf c : Int) = 0 := by omega
 obtain ⟨d, hd⟩ : ∃ d, d = f * wdOf c := ⟨_, rfl⟩
 have hdi : (f : Int) * (wdOf c : Int) = (d : Int) := by rw [hd]; simp
 rw [← hd] at hin
 have HD := Hd hd
 clear T3 B3 S4 hX hd c0
 generalize hwd : wdOf c = wd at *
 generalize hBs : β.σ.base = B at *
 go_wp2_with fail
 go_quiet (fail)
 go_wp2_with fail
 refine (HSp.out _).mono ?_
 rintro e w5 ⟨rfl, rfl⟩
 go_wp2_with fail
 have hWd := HWd.out nq
 rw [HD.out.symm] at hWd
 have hww := HW.out
 rw [show β.addr i = B + 4096 * i by rw [← hBs]; rfl, HD.out.symm] at hww
 rw [hww, show ((B + 4096 * i + d : Nat) : Int) = (B : Int) + 4096 * (i : Int) + (d : Int) by omega] at hWd
 obtain ⟨d2, hd2⟩ : ∃ d2, d2 = f2 * wd := ⟨_, rfl⟩
 rw [← hd2] at hin2
 rw [← hd2, show ((B + 4096 * i + d2 : Nat) : Int) = (B : Int) + 4096 * (i : Int) + (d2 : Int) by omega] at hWd
 have ne0 : ((B : Int) + 4096 * (i : Int) + (d2 : Int) != 0) = true := by rw [bne_iff_ne]; have := HR.out.po.bu.sp.ok.base0; rw [hBs] at this; omega
 have hq1 : ((B : Int) + 4096 * (i : Int) + (d2 : Int) - ((B : Int) + 4096 * (i : Int))) / (wd : Int) = (f2 : Int) := by
  rw [show (B : Int) + 4096 * (i : Int) + (d2 : Int) - ((B : Int) + 4096 * (i : Int)) = (d2 : Int) by omega, hd2]
  exact_mod_cast Nat.mul_div_cancel f2 (by omega : 0 < wd)
 clear hd2
 have HWH := Hd hWd
 clear hWd hww
 refine HWH.out.mono ?_
 rintro e w5 ⟨rfl, T5⟩
 have T45 := ((Touch.refl Nothing w4).drewN nq).trans T5
 have f6 : w5.cell? ⟨X, 6, none⟩ = some (.int .i64 (f : Int)) := (T45.cell (p := ⟨X, 6, none⟩) hx (fun h => h)).trans b6
 have fw : w5.cell? ⟨1, c, none⟩ = some (.int .u64 wd) := (T45.cell (p := ⟨1, c, none⟩) (World.block_lt_of_cell? _ _ cw) (fun h => h)).trans cw
 have hx5 : X < w5.heap.size := Nat.lt_of_lt_of_le hx T45.size
 have HT5 := Hd ((HT2.out.trans HT3.out).trans T45)
 have S5 := HS4.out.touch0 T45
 have HOw := Hd (S5.po.bu.mp.own_ HI.out HK.out f true (by rw [HCl.out]; exact HFl.out) (by rw [HBit.out]; rfl) HLv.out)
 have HS5 := Hd S5
 clear T5 T45 S5 b6 cw hx HWd HSp HWH d0
 go_wp2_with fail
 refine HOw.out.mono ?_
 rintro e w6 ⟨rfl, r6, t6⟩
 have R6 := HS5.out.paged r6 t6 rfl (List.length_set ..)
 have hp6 : (β.μ.setPage i (p.own f true)).pages[i]? = some (p.own f true) := Mp.setPage_get _ HI.out
 have hsm := own_same p f true
 have HFi := Hd (R6.1.po.bu.mp.first_ hp6 (hsm.1.trans HK.out) (f2 : Int) (by omega) (by rw [hsm.2.2.1, HCl.out]; have := HU.out.2; have := HF2.out; omega))
 have HT6 := Hd (HT5.out.none_.trans R6.2)
 have HS6 := Hd R6.1
 clear r6 t6 R6 hp6 hsm f6 fw ne0 hq1
 go_wp2_with fail
 refine HFi.out.mono ?_
 rintro e w7 ⟨rfl, r7, t7⟩
 have R7 := HS6.out.paged r7 t7 rfl (List.length_set ..)
 have e7 : (β.μ.setPage i (p.own f true)).setPage i { p.own f true with first := (f2 : Int) } = β.μ.setPage i (p.take f (f2 : Int)) := by rw [Mp.setPage_set]; rfl
 have hS7 : SlRep w7 s pb K { β with μ := β.μ.setPage i (p.take f (f2 : Int)) } ps := by rw [← e7]; exact R7.1
 have HS7 := Hd hS7
 have HT7 := Hd (HT6.out.trans R7.2)
 clear r7 t7 R7 e7 hS7
 go_wp2_with fail
 go_ret3
 refine ⟨?_, K, HS7.out, BuL.Next.refl _ _, HT7.out.mono (fun k _ h => List.mem_cons_of_mem _ h)⟩
 show Ending.returned (.tuple #[.int .u64 ((B : Int) + 4096 * (i : Int) + (d : Int)), .bool false, .int .i64 0]) = _
 have hA : β.addr i + f * wd = B + 4096 * i + d := by rw [← HD.out, ← hBs]; rfl
 rw [hA, show ((B + 4096 * i + d : Nat) : Int) = (B : Int) + 4096 * (i : Int) + (d : Int) by omega]
theorem SlRep.take_last {w : World} {s pb : Nat} {K : BuL} {β : Bu} {ps : List Int} (R : SlRep w s pb K β ps) (G : Glob w) (c i f : Nat) (deny : Bool) {p : Pg} (hc : c < 8) (he : ps.getD c 0 = (i : Int)) (hl : β.μ.pages.length = β.σ.n * 2 ^ β.μ.order)
  (hi : β.μ.pages[i]? = some p) (hk : p.kind = 4) (hcl : p.cls = c) (hf : p.first = (f : Int)) (hfl : f < cellsN c) (hb : p.bit f = false) (hlv : 0 ≤ p.live + 1 ∧ p.live + 1 ≤ 256)
  (hw : β.σ.word (β.addr i + f * wdOf c) = 0) (hnp : NbOk β.μ i p.prev) (hnn : NbOk β.μ i p.next) (hne : p.prev = -1 ∨ p.prev ≠ p.next) :
  Calls Tryz.prog 191 #[.pointer (some ⟨s, 0, none⟩), .int .i64 c, .bool deny] w
   (Taken w s pb K { β with μ := (β.μ.setPage i (p.take f (-1))).unhung i (p.take f (-1)) } (unps ps c (p.take f (-1))) (.tuple #[.int .u64 (β.addr i + f * wdOf c : Nat), .bool false, .int .i64 0])) := by
 have c0 := R.pool
 have c1 := R.part c hc
 rw [he] at c1
 have hlt := (List.getElem?_eq_some_iff.1 hi).1
 have hlen := R.po.bu.mp.ok.len
 have htop : β.σ.base + 4096 * i + 4096 ≤ 18446744073709551615 := R.po.bu.ok.addr_top R.po.bu.sp.ok hlt
 obtain ⟨u1, u2, u3, u4, u5, u6⟩ := wd_facts hc
 have hin : f * wdOf c + wdOf c ≤ 4096 := by
  have := cell_in c (by omega) hfl
  simpa using this
 have hval : p.val = .agg #[.int .i64 p.kind, .int .i64 p.order, .int .i64 p.cls, .int .i64 p.live, .int .i64 p.next, .int .i64 p.prev, .int .i64 (f : Int), .int .u64 p.b0, .int .u64 p.b1, .int .u64 p.b2, .int .u64 p.b3] := by
  unfold Pg.val
  rw [hf]
 have hat := R.po.bu.mp.at_ hi
 rw [hval] at hat
 have HAt := Hd hat
 have HM := Hd R.po.map_
 have HR := Hd R
 have HG := Hd G
 have HI := Hd hi
 have HK := Hd hk
 have HCl := Hd hcl
 have HBit := Hd hb
 have HF := Hd hf
 have HL := Hd hl
 have HLv := Hd hlv
 have HW := Hd hw
 have HHas : Hid (β.σ.has (β.σ.base + 4096 * i + f * wdOf c) 8) := Hd (R.po.bu.ok.has (i := i) (off := f * wdOf c) (n := 8) hlt (by omega) (by omega))
 have HU := Hd (And.intro u3 u6)
 have hi3 : i ≤ 1023 := by omega
 have HFl := Hd hfl
 have hf256 : f < 256 := by omega
 have HNb := Hd (And.intro hnp (And.intro hnn hne))
 clear hnp hnn hne
 clear R G hl hi hk hcl hf hfl hb hlv hw hval hat hlt hlen he u3 u6
 go_enter Tryz.func191, Tryz.ntmps191
 have hi0 : ¬ ((i : Int) < 0) := by omega
 go_wp2_with fail
 refine HM.out.mono ?_
 rintro e w1 ⟨rfl, rfl⟩
 go_wp2_with fail
 refine HAt.out.mono ?_
 rintro e w2 ⟨rfl, T2⟩
 have HT2 := Hd T2
 have S2 := HR.out.touch0 T2
 have HB2 := Hd (fun W (T : Touch Nothing w2 W) => (S2.touch0 T).base_ HL.out)
 have HS2 := Hd S2
 have HG2 := Hd (HG.out.touch0 T2)
 clear T2 S2 HAt HM
 go_wp2_with fail
 have T3 := (Touch.refl Nothing w2).alloc (.cells #[.int .i64 p.kind, .int .i64 p.order, .int .i64 p.cls, .int .i64 p.live, .int .i64 p.next, .int .i64 p.prev, .int .i64 (f : Int), .int .u64 p.b0, .int .u64 p.b1, .int .u64 p.b2, .int .u64 p.b3] 128)
 have B3 := Blk.new w2 #[.int .i64 p.kind, .int .i64 p.order, .int .i64 p.cls, .int .i64 p.live, .int .i64 p.next, .int .i64 p.prev, .int .i64 (f : Int), .int .u64 p.b0, .int .u64 p.b1, .int .u64 p.b2, .int .u64 p.b3] 128
 refine (HB2.out _ T3).mono ?_
 rintro e w4 ⟨rfl, k4, rfl⟩
 replace T3 := T3.drewN k4
 replace B3 := B3.drewN k4
 have hXf : ∀ k, k ∈ s :: pb :: K.fp → k < w2.heap.size := HS2.out.lt
 have hXg : ¬ some w2.heap.size = K.M.gv.ownBlock := by
  intro e
  have := hXf w2.heap.size (by simp [BuL.fp, MpL.fp, ← e])
  omega
 have HXg := Hd hXg
 clear hXf hXg
 generalize (w2.alloc (.cells #[.int .i64 p.kind, .int .i64 p.order, .int .i64 p.cls, .int .i64 p.live, .int .i64 p.next, .int .i64 p.prev, .int .i64 (f : Int), .int .u64 p.b0, .int .u64 p.b1, .int .u64 p.b2, .int .u64 p.b3] 128)).drewN k4 = w4 at *
 have hx : w2.heap.size < w4.heap.size := B3.lt
 generalize hX : w2.heap.size = X at *
 have b6 : w4.cell? ⟨X, 6, none⟩ = some (.int .i64 (f : Int)) := B3.cell 6
 have cw : w4.cell? ⟨1, c, none⟩ = some (.int .u64 (wdOf c : Nat)) := (HG2.out.touch0 T3).widths c hc
 have HT3 := Hd T3
 have S4 := HS2.out.touch0 T3
 have HS4 := Hd S4
 have HSp := Hd (fun k => ((S4.drewN k).po.space_))
 have HWd := Hd (fun k => (S4.drewN k).po.bu.sp.word_ (β.σ.base + 4096 * i + f * wdOf c) HHas.out)
 have d0 : w4.cell? ⟨s, 0, none⟩ = some (.pointer (some ⟨pb, 0, none⟩)) := S4.pool
 have hw0 : ¬ (wdOf c : Int) = 0 := by omega
 obtain ⟨d, hd⟩ : ∃ d, d = f * wdOf c := ⟨_, rfl⟩
 have hdi : (f : Int) * (wdOf c : Int) = (d : Int) := by rw [hd]; simp
 rw [← hd] at hin
 have HD := Hd hd
 clear T3 B3 S4 hX hd c0
 generalize hwd : wdOf c = wd at *
 generalize hBs : β.σ.base = B at *
 go_wp2_with fail
 go_quiet (fail)
 go_wp2_with fail
 refine (HSp.out _).mono ?_
 rintro e w5 ⟨rfl, rfl⟩
 go_wp2_with fail
 have hWd := HWd.out nq
 rw [HD.out.symm] at hWd
 have hww := HW.out
 rw [show β.addr i = B + 4096 * i by rw [← hBs]; rfl, HD.out.symm] at hww
 rw [hww, show ((B + 4096 * i + d : Nat) : Int) = (B : Int) + 4096 * (i : Int) + (d : Int) by omega] at hWd
 have HWH := Hd hWd
 clear hWd hww
 refine HWH.out.mono ?_
 rintro e w5 ⟨rfl, T5⟩
 have T45 := ((Touch.refl Nothing w4).drewN nq).trans T5
 have f6 : w5.cell? ⟨X, 6, none⟩ = some (.int .i64 (f : Int)) := (T45.cell (p := ⟨X, 6, none⟩) hx (fun h => h)).trans b6
 have fw : w5.cell? ⟨1, c, none⟩ = some (.int .u64 wd) := (T45.cell (p := ⟨1, c, none⟩) (World.block_lt_of_cell? _ _ cw) (fun h => h)).trans cw
 have hx5 : X < w5.heap.size := Nat.lt_of_lt_of_le hx T45.size
 have HT5 := Hd ((HT2.out.trans HT3.out).trans T45)
 have S5 := HS4.out.touch0 T45
 have HOw := Hd (S5.po.bu.mp.own_ HI.out HK.out f true (by rw [HCl.out]; exact HFl.out) (by rw [HBit.out]; rfl) HLv.out)
 have HS5 := Hd S5
 clear T5 T45 S5 b6 cw hx HWd HSp HWH d0
 go_wp2_with fail
 refine HOw.out.mono ?_
 rintro e w6 ⟨rfl, r6, t6⟩
 have R6 := HS5.out.paged r6 t6 rfl (List.length_set ..)
 have hp6 : (β.μ.setPage i (p.own f true)).pages[i]? = some (p.own f true) := Mp.setPage_get _ HI.out
 have hsm := own_same p f true
 have HFi := Hd (R6.1.po.bu.mp.first_ hp6 (hsm.1.trans HK.out) (-1) (by omega) (by rw [hsm.2.2.1, HCl.out]; have := HU.out.2; omega))
 have HT6 := Hd (HT5.out.none_.trans R6.2)
 have HS6 := Hd R6.1
 clear r6 t6 R6 hp6 hsm f6 fw
 go_wp2_with fail
 refine HFi.out.mono ?_
 rintro e w7 ⟨rfl, r7, t7⟩
 have R7 := HS6.out.paged r7 t7 rfl (List.length_set ..)
 have e7 : (β.μ.setPage i (p.own f true)).setPage i { p.own f true with first := (-1) } = β.μ.setPage i (p.take f (-1)) := by rw [Mp.setPage_set]; rfl
 have hS7 : SlRep w7 s pb K { β with μ := β.μ.setPage i (p.take f (-1)) } ps := by rw [← e7]; exact R7.1
 have HS7 := Hd hS7
 have HT7 := Hd (HT6.out.trans R7.2)
 clear r7 t7 R7 e7 hS7
 have hsm := own_same p f true
 have HUn := Hd (HS7.out.unhang_ i c (p := p.take f (-1)) (Mp.setPage_get _ HI.out) (hsm.1.trans HK.out) hc (by show NbOk _ i (p.own f true).prev; rw [hsm.2.2.2.2.1]; exact HNb.out.1.set) (by show NbOk _ i (p.own f true).next; rw [hsm.2.2.2.1]; exact HNb.out.2.1.set) (by show (p.own f true).prev = -1 ∨ (p.own f true).prev ≠ (p.own f true).next; rw [hsm.2.2.2.1, hsm.2.2.2.2.1]; exact HNb.out.2.2))
 clear hsm
 go_wp2_with fail
 refine HUn.out.mono ?_
 rintro e w8 ⟨rfl, S8, T8⟩
 have HS8 := Hd S8
 have HT8 := Hd T8
 clear S8 T8
 go_wp2_with fail
 go_ret3
 refine ⟨?_, K, HS8.out, BuL.Next.refl _ _, (HT7.out.mono (fun k _ h => List.mem_cons_of_mem _ h)).trans HT8.out⟩
 show Ending.returned (.tuple #[.int .u64 ((B : Int) + 4096 * (i : Int) + (d : Int)), .bool false, .int .i64 0]) = _
 have hA : β.addr i + f * wd = B + 4096 * i + d := by rw [← HD.out, ← hBs]; rfl
 rw [hA, show ((B + 4096 * i + d : Nat) : Int) = (B : Int) + 4096 * (i : Int) + (d : Int) by omega]
theorem SlRep.take_page {w : World} {s pb : Nat} {K : BuL} {β β1 : Bu} {ps : List Int} (R : SlRep w s pb K β ps) (G : Glob w) (hfar : ∀ k ∈ s :: pb :: K.fp, 9 ≤ k) (c i : Nat) (g deny : Bool) (hc : c < 8) (he : ps.getD c 0 = -1)
  (HN0 : Calls Tryz.prog 193 #[.pointer (some ⟨pb, 0, none⟩), .int .i64 0, .bool deny] w (Needed w pb K β1 (.tuple #[.int .u64 (β1.addr i : Nat), .bool g, .int .i64 0])))
  {p : Pg} (hp : β1.μ.pages[i]? = some p) (hl1 : β1.μ.pages.length = β1.σ.n * 2 ^ β1.μ.order) :
  Calls Tryz.prog 191 #[.pointer (some ⟨s, 0, none⟩), .int .i64 c, .bool deny] w
   (Taken w s pb K (β1.newCell i c) (ps.set c i) (.tuple #[.int .u64 (β1.addr i : Nat), .bool g, .int .i64 0])) := by
 have c0 := R.pool
 have c1 := R.part c hc
 rw [he] at c1
 have HN := Hd HN0
 have HR := Hd R
 have HG := Hd G
 have HFar := Hd hfar
 have HE := Hd he
 have HP := Hd hp
 have HL1 := Hd hl1
 clear R G hfar he hp hl1 HN0
 go_enter Tryz.func191, Tryz.ntmps191
 go_wp2_with fail
 refine HN.out.mono ?_
 rintro e w1 ⟨rfl, K1, P1, N1, T1⟩
 have S1 := HR.out.next T1 N1 P1.bu
 have hfar1 : ∀ k ∈ s :: pb :: K1.fp, 9 ≤ k := by
  intro k hk
  simp only [List.mem_cons] at hk
  rcases hk with rfl | rfl | hk
  ·exact HFar.out _ (by simp)
  ·exact HFar.out _ (by simp)
  ·rcases N1.fresh k hk with h | h
   ·exact HFar.out _ (by simp [h])
   ·have := HG.out.size; omega
 have hfp : ∀ k, k < 9 → ¬ k ∈ K.fp := fun k hk h => by have := HFar.out k (by simp [h]); omega
 have G1 := HG.out.touch T1 hfp
 have HB := S1.born_ G1 hfar1 i c HP.out hc HE.out HL1.out
 have HBo := Hd HB
 have HG1 := Hd G1
 have HN1 := Hd N1
 have HT1 := Hd T1
 have HFar1 := Hd hfar1
 clear S1 P1 N1 T1 hfar1 hfp G1 HB c1
 go_wp2_with fail
 refine HBo.out.mono ?_
 rintro e w2 ⟨rfl, S2, T2⟩
 have HS2 := Hd S2
 have HT2 := Hd T2
 have d0 := S2.pool
 have HM2 := Hd (S2.po.map_)
 clear S2 T2 c0
 go_wp2_with fail
 refine HM2.out.mono ?_
 rintro e w3 ⟨rfl, rfl⟩
 have HAt := Hd (HS2.out.po.bu.mp.at_ (born_page HP.out))
 go_wp2_with fail
 refine HAt.out.mono ?_
 rintro e w3 ⟨rfl, T3⟩
 have HT3 := Hd T3
 have S3 := HS2.out.touch0 T3
 have hl2 : (β1.born i c).μ.pages.length = (β1.born i c).σ.n * 2 ^ (β1.born i c).μ.order := by
  obtain ⟨b1, b2, b3, _⟩ := born_len β1 i c
  rw [b1, b2, b3]; exact HL1.out
 have HB3 := Hd (fun W (T : Touch Nothing w3 W) => (S3.touch0 T).base_ hl2)
 have HS3 := Hd S3
 clear T3 S3 hl2
 have hbB : (β1.born i c).σ.base = β1.σ.base := (born_len β1 i c).2.2.2
 have hlt1 : i < (β1.born i c).μ.pages.length := (List.getElem?_eq_some_iff.1 (born_page HP.out)).1
 have hlen1 := HS2.out.po.bu.mp.ok.len
 have htop : (β1.born i c).σ.base + 4096 * i + 4096 ≤ 18446744073709551615 := HS2.out.po.bu.ok.addr_top HS2.out.po.bu.sp.ok hlt1
 have hAB : β1.addr i = (β1.born i c).σ.base + 4096 * i := by rw [hbB]; rfl
 have HAB := Hd hAB
 have hi : i ≤ 1023 := by omega
 obtain ⟨u1, u2, u3, u4, u5, u6⟩ := wd_facts hc
 have hwB : (β1.born i c).σ.word (β1.addr i) = β1.addr i + wdOf c := by
  have := bornK_word (σ := β1.σ) (at_ := β1.addr i) (wd := wdOf c) (n := 4096 / wdOf c) (by omega) (by rw [u3, hAB]; omega) (4096 / wdOf c) 0 (Nat.le_refl _) (by omega)
  rw [Nat.zero_mul, Nat.add_zero] at this
  show (bornK β1.σ (β1.addr i) (wdOf c) (4096 / wdOf c) (4096 / wdOf c)).word (β1.addr i) = _
  rw [this]
  unfold bornW
  rw [if_neg (by omega)]
  omega
 have HWB := Hd hwB
 have HU := Hd (And.intro u3 u6)
 have HHas := Hd (HS2.out.po.bu.ok.has (i := i) (off := 0) (n := 8) hlt1 (by omega) (by omega))
 have HG3 := Hd ((HG1.out.touch HT2.out (fun k hk h => by
  rcases List.mem_cons.1 h with e | h
  ·have := HFar1.out s (by simp); omega
  ·have := HFar1.out k (by simp [h]); omega)).touch0 HT3.out)
 clear hbB hlt1 hlen1 hAB hwB u3 u6
 unfold Pg.val
 go_wp2_with fail
 refine (HB3.out _ ((Touch.refl Nothing w3).alloc _)).mono ?_
 rintro e w4 ⟨rfl, k4, rfl⟩
 have T4 : Touch Nothing w3 ((w3.alloc (.cells #[.int .i64 (bornPg c).kind, .int .i64 (bornPg c).order, .int .i64 (bornPg c).cls, .int .i64 (bornPg c).live, .int .i64 (bornPg c).next, .int .i64 (bornPg c).prev, .int .i64 (bornPg c).first, .int .u64 (bornPg c).b0, .int .u64 (bornPg c).b1, .int .u64 (bornPg c).b2, .int .u64 (bornPg c).b3] 128)).drewN k4) := ((Touch.refl Nothing w3).alloc _).drewN k4
 have B4 := (Blk.new w3 #[.int .i64 (bornPg c).kind, .int .i64 (bornPg c).order, .int .i64 (bornPg c).cls, .int .i64 (bornPg c).live, .int .i64 (bornPg c).next, .int .i64 (bornPg c).prev, .int .i64 (bornPg c).first, .int .u64 (bornPg c).b0, .int .u64 (bornPg c).b1, .int .u64 (bornPg c).b2, .int .u64 (bornPg c).b3] 128).drewN k4
 generalize (w3.alloc (.cells #[.int .i64 (bornPg c).kind, .int .i64 (bornPg c).order, .int .i64 (bornPg c).cls, .int .i64 (bornPg c).live, .int .i64 (bornPg c).next, .int .i64 (bornPg c).prev, .int .i64 (bornPg c).first, .int .u64 (bornPg c).b0, .int .u64 (bornPg c).b1, .int .u64 (bornPg c).b2, .int .u64 (bornPg c).b3] 128)).drewN k4 = w4 at *
 have b6 : w4.cell? ⟨w3.heap.size, 6, none⟩ = some (.int .i64 0) := B4.cell 6
 have cw : w4.cell? ⟨1, c, none⟩ = some (.int .u64 (wdOf c : Nat)) := (HG3.out.touch0 T4).widths c hc
 have HT4 := Hd T4
 have HB4 := Hd B4
 have HSp := Hd (fun k => (((HS3.out.touch0 T4).drewN k).po.space_))
 have hw0 : ¬ (wdOf c : Int) = 0 := by omega
 have HWd := Hd (fun k => ((HS3.out.touch0 T4).drewN k).po.bu.sp.word_ ((β1.born i c).σ.base + 4096 * i) HHas.out)
 have hdd : (wdOf c : Int) / (wdOf c : Int) = 1 := Int.ediv_self (by omega)
 have d0' : w4.cell? ⟨s, 0, none⟩ = some (.pointer (some ⟨pb, 0, none⟩)) := (HS3.out.touch0 T4).pool
 clear T4 B4 d0
 generalize wdOf c = wd at *
 generalize (β1.born i c).σ.base = B at *
 go_wp2_with fail
 go_quiet (fail)
 go_wp2_with fail
 refine (HSp.out _).mono ?_
 rintro e w5 ⟨rfl, rfl⟩
 go_wp2_with fail
 have hWo : (β1.born i c).σ.word (B + 4096 * i) = B + 4096 * i + wd := by
  have := HWB.out
  rw [HAB.out] at this
  exact this
 have HW := HWd.out nq
 rw [hWo, show ((B + 4096 * i : Nat) : Int) = (B : Int) + 4096 * (i : Int) by omega, show ((B + 4096 * i + wd : Nat) : Int) = (B : Int) + 4096 * (i : Int) + (wd : Int) by omega] at HW
 have HWH := Hd HW
 have ne0 : ((B : Int) + 4096 * (i : Int) + (wd : Int) != 0) = true := by rw [bne_iff_ne]; omega
 clear HW hWo
 refine HWH.out.mono ?_
 rintro e w5 ⟨rfl, T5⟩
 have hlw : w3.heap.size < w4.heap.size := HB4.out.lt
 have T35 := ((Touch.refl Nothing w4).drewN nq).trans T5
 have f6 : w5.cell? ⟨w3.heap.size, 6, none⟩ = some (.int .i64 0) := (T35.cell (p := ⟨w3.heap.size, 6, none⟩) hlw (fun h => h)).trans b6
 have fw : w5.cell? ⟨1, c, none⟩ = some (.int .u64 wd) := (T35.cell (p := ⟨1, c, none⟩) (World.block_lt_of_cell? _ _ cw) (fun h => h)).trans cw
 have HT5 := Hd (HT4.out.trans T35)
 have HOw := Hd ((HS3.out.touch0 HT5.out).po.bu.mp.own_ (born_page HP.out) rfl 0 true (by rw [show (bornPg c).cls = (c : Int) from rfl, ← HU.out.2]; omega) (by rw [bornPg_bit]; rfl) (by show (0 : Int) ≤ 0 + 1 ∧ (0 : Int) + 1 ≤ 256; decide))
 have hq1 : ((B : Int) + 4096 * (i : Int) + (wd : Int) - ((B : Int) + 4096 * (i : Int))) / (wd : Int) = 1 := by
  rw [show (B : Int) + 4096 * (i : Int) + (wd : Int) - ((B : Int) + 4096 * (i : Int)) = (wd : Int) by omega]
  exact hdd
 clear T5 T35 b6 cw d0' hdd
 go_wp2_with fail
 refine HOw.out.mono ?_
 rintro e w6 ⟨rfl, r6, t6⟩
 have R6 := (HS3.out.touch0 HT5.out).po.bu.paged r6 t6 rfl (List.length_set ..)
 have S6 := (HS3.out.touch0 HT5.out).next R6.2 (BuL.Next.refl _ _) R6.1
 have hp6 : ((β1.born i c).μ.setPage i ((bornPg c).own 0 true)).pages[i]? = some ((bornPg c).own 0 true) := Mp.setPage_get _ (born_page HP.out)
 have HFi := Hd (S6.po.bu.mp.first_ hp6 rfl 1 (by omega) (by rw [show ((bornPg c).own 0 true).cls = (c : Int) from rfl, ← HU.out.2]; omega))
 have HT6 := Hd R6.2
 have HS6 := Hd S6
 clear r6 t6 R6 S6 hp6 hq1 f6 fw ne0
 go_wp2_with fail
 refine HFi.out.mono ?_
 rintro e w7 ⟨rfl, r7, t7⟩
 have R7 := HS6.out.po.bu.paged r7 t7 rfl (List.length_set ..)
 have S7 := HS6.out.next R7.2 (BuL.Next.refl _ _) R7.1
 have HT7 := Hd R7.2
 have HS7 := Hd S7
 clear r7 t7 R7 S7
 go_wp2_with fail
 go_ret3
 refine ⟨?_, K1, ?_, HN1.out, ?_⟩
 ·rw [HAB.out]
  show Ending.returned _ = _
  congr 3
 ·have e : (β1.newCell i c).μ = ((β1.born i c).μ.setPage i ((bornPg c).own 0 true)).setPage i { (bornPg c).own 0 true with first := 1 } := by rw [Mp.setPage_set]; rfl
  have e2 : β1.newCell i c = ⟨(β1.born i c).σ, ((β1.born i c).μ.setPage i ((bornPg c).own 0 true)).setPage i { (bornPg c).own 0 true with first := 1 }, (β1.born i c).heads⟩ := by rw [← e]; rfl
  rw [e2]
  exact HS7.out
 ·have T := HT1.out.mono (T := (· ∈ s :: K.fp)) (fun b _ hb => List.mem_cons_of_mem _ hb)
  have TT := (((HT2.out.trans HT3.out.none_).trans HT5.out.none_).trans (HT6.out.mono (T := (· ∈ s :: K1.fp)) (fun b _ hb => List.mem_cons_of_mem _ hb))).trans (HT7.out.mono (T := (· ∈ s :: K1.fp)) (fun b _ hb => List.mem_cons_of_mem _ hb))
  refine T.trans' TT (fun b hb hm => ?_)
  rcases List.mem_cons.1 hm with e | hm
  ·simp [e]
  ·rcases HN1.out.fresh b hm with h | h
   ·simp [h]
   ·omega
theorem SlRep.take_none {w : World} {s pb : Nat} {K : BuL} {β : Bu} {ps : List Int} (R : SlRep w s pb K β ps) (c : Nat) (deny : Bool) (hc : c < 8) (he : ps.getD c 0 = -1)
  (HN0 : Calls Tryz.prog 193 #[.pointer (some ⟨pb, 0, none⟩), .int .i64 0, .bool deny] w fun e w' => e = .returned (.tuple #[.int .u64 0, .bool false, .int .i64 2]) ∧ Touch Nothing w w') :
  Calls Tryz.prog 191 #[.pointer (some ⟨s, 0, none⟩), .int .i64 c, .bool deny] w (Taken w s pb K β ps (.tuple #[.int .u64 0, .bool false, .int .i64 2])) := by
 have c0 := R.pool
 have c1 := R.part c hc
 rw [he] at c1
 have HN := Hd HN0
 have HR := Hd R
 clear R he HN0
 go_enter Tryz.func191, Tryz.ntmps191
 go_wp2_with fail
 refine HN.out.mono ?_
 rintro e w1 ⟨rfl, T1⟩
 have HT1 := Hd T1
 clear T1 c0 c1
 go_wp2_with fail
 go_ret3
 exact ⟨rfl, K, HR.out.touch0 HT1.out, BuL.Next.refl _ _, HT1.out.none_⟩
end Go.Proofs.YtnjcmcnjgdjbiaaGreatDoor
namespace Go.Proofs.YtnjcmcnjgdjbiaaGreatDoor
structure Kept (β β' : Bu) (O : Nat → Prop) : Prop where
 base : β'.σ.base = β.σ.base
 order : β'.μ.order = β.μ.order
 limit : β'.σ.limit = β.σ.limit
 size : β'.σ.size = β.σ.size
 so : β'.σ.order = β.σ.order
 len : β.μ.pages.length ≤ β'.μ.pages.length
 page : ∀ x, x < β.μ.pages.length → ¬ O x → β'.μ.pages[x]? = β.μ.pages[x]?
 byte : ∀ x off, x < β.μ.pages.length → ¬ O x → off < 4096 → β'.σ.mem (β.σ.base + 4096 * x + off) = β.σ.mem (β.σ.base + 4096 * x + off)
 slab : ∀ (x : Nat) (p : Pg), β'.μ.pages[x]? = some p → p.kind = 4 → β.μ.pages[x]? = some p
theorem Keeps.kept {β β' : Bu} {O : Nat → Prop} (h : Keeps β β' O) : Kept β β' O :=
 ⟨h.base, h.order, h.limit, h.size, h.so, Nat.le_of_eq h.len.symm, fun x _ hx => h.page x hx, fun x off _ hx ho => h.byte x off hx ho, h.slab⟩
theorem Kept.trans {β β' β'' : Bu} {O O' : Nat → Prop} (h : Kept β β' O) (k : Kept β' β'' O') (hO : ∀ x, x < β.μ.pages.length → O' x → O x) : Kept β β'' O :=
 ⟨k.base.trans h.base, k.order.trans h.order, k.limit.trans h.limit, k.size.trans h.size, k.so.trans h.so, Nat.le_trans h.len k.len,
  fun x hl hx => (k.page x (Nat.lt_of_lt_of_le hl h.len) (fun e => hx (hO x hl e))).trans (h.page x hl hx),
  fun x off hl hx ho => by
   have := k.byte x off (Nat.lt_of_lt_of_le hl h.len) (fun e => hx (hO x hl e)) ho
   rw [h.base] at this
   exact this.trans (h.byte x off hl hx ho),
  fun x p hp hk => h.slab x p (k.slab x p hp hk) hk⟩
theorem SInv.kept {β β' : Bu} {ps : List Int} {C L : Nat → List Nat} {O : Nat → Prop} (S : SInv β ps C L) (K : Kept β β' O) (hO : ∀ i p, β.μ.pages[i]? = some p → p.kind = 4 → ¬ O i) : SInv β' ps C L := by
 have hlt : ∀ {i : Nat} {p : Pg}, β.μ.pages[i]? = some p → i < β.μ.pages.length := fun h => (List.getElem?_eq_some_iff.1 h).1
 have hpg : ∀ (i : Nat) (p : Pg), p.kind = 4 → (β'.μ.pages[i]? = some p ↔ β.μ.pages[i]? = some p) := by
  intro i p h4
  constructor
  ·exact fun h => K.slab i p h h4
  ·intro h
   rw [K.page i (hlt h) (hO i p h h4)]
   exact h
 refine ⟨S.len, fun i p hp h4 => ?_, fun c hc => ?_, S.nodup, fun c hc i => ?_⟩
 ·have hp0 := (hpg i p h4).1 hp
  have := S.pages i p hp0 h4
  unfold Bu.addr at this ⊢
  rw [K.base]
  exact this.page_bytes (fun off ho => K.byte i off (hlt hp0) (hO i p hp0 h4) ho)
 ·refine PL.congr (fun i hi => ?_) (S.lists c hc)
  obtain ⟨p, hp, h4, _⟩ := (S.mem c hc i).1 hi
  have hp' := (hpg i p h4).2 hp
  rw [nextF_of hp, nextF_of hp', prevF_of hp, prevF_of hp']
  exact ⟨rfl, rfl⟩
 ·rw [S.mem c hc i]
  constructor
  ·rintro ⟨p, hp, h4, h⟩
   exact ⟨p, (hpg i p h4).2 hp, h4, h⟩
  ·rintro ⟨p, hp, h4, h⟩
   exact ⟨p, (hpg i p h4).1 hp, h4, h⟩
structure Nums (β : Bu) : Prop where
 full : β.μ.pages.length = β.σ.n * 2 ^ β.μ.order
 size : β.σ.size = 4096 * 2 ^ β.μ.order
 le : β.σ.n ≤ β.σ.limit
 pages : β.σ.limit * 2 ^ β.μ.order ≤ 1024
 top : β.σ.base + 4096 * (β.σ.limit * 2 ^ β.μ.order) ≤ 9223372036854775808
 so : β.σ.order = β.μ.order
 al : β.σ.base % (4096 * 2 ^ β.μ.order) = 0
structure HS (β : Bu) (ps : List Int) (F C L : Nat → List Nat) : Prop where
 inv : BInv β F NoHole
 slab : SInv β ps C L
 nums : Nums β
theorem least {P : Nat → Prop} : ∀ n, (∃ j, j < n ∧ P j) → ∃ j, j < n ∧ P j ∧ ∀ k, k < j → ¬ P k
 | 0, ⟨j, h, _⟩ => by omega
 | n + 1, ⟨j, h, hp⟩ => by
  by_cases hc : ∃ j, j < n ∧ P j
  ·obtain ⟨i, h1, h2, h3⟩ := least n hc
   exact ⟨i, by omega, h2, h3⟩
  ·have : j = n := Classical.byContradiction (fun e => hc ⟨j, by omega, hp⟩)
   subst this
   exact ⟨j, h, hp, fun k hk hpk => hc ⟨k, hk, hpk⟩⟩
theorem Nums.room {β : Bu} (N : Nums β) (h : β.σ.n < β.σ.limit) : β.μ.pages.length + 2 ^ β.μ.order ≤ 1024 ∧ β.σ.base + 4096 * (β.μ.pages.length + 2 ^ β.μ.order) ≤ 9223372036854775808 := by
 have h1 : (β.σ.n + 1) * 2 ^ β.μ.order ≤ β.σ.limit * 2 ^ β.μ.order := Nat.mul_le_mul_right _ h
 rw [Nat.succ_mul, ← N.full] at h1
 have := N.pages
 have := N.top
 omega
structure Needs (β β1 : Bu) (F F1 : Nat → List Nat) (i o : Nat) : Prop where
 inv : BInv β1 F1 NoHole
 nums : Nums β1
 kept : Kept β β1 (Upen β.μ.order F NoHole)
 blk : BlkAt β1.μ.pages i o 2
 open_ : ∀ y, y < β1.μ.pages.length → (Upen β.μ.order F1 NoHole y ↔ (Upen β.μ.order F NoHole y ∨ β.μ.pages.length ≤ y) ∧ ¬ Inb i o y)
 new : ∀ y, Inb i o y → Upen β.μ.order F NoHole y ∨ β.μ.pages.length ≤ y
 grew : (β1.σ.n = β.σ.n ∧ ∃ k, o ≤ k ∧ k ≤ β.μ.order ∧ F k ≠ []) ∨ (β1.σ.n = β.σ.n + 1 ∧ β.σ.n < β.σ.limit ∧ ∀ k, o ≤ k → k ≤ β.μ.order → F k = [])
theorem Keeps.nums {β β' : Bu} {O : Nat → Prop} (K : Keeps β β' O) (N : Nums β) : Nums β' := by
 refine ⟨?_, ?_, ?_, ?_, ?_, ?_, ?_⟩
 ·rw [K.len, K.n, K.order]; exact N.full
 ·rw [K.size, K.order]; exact N.size
 ·rw [K.n, K.limit]; exact N.le
 ·rw [K.limit, K.order]; exact N.pages
 ·rw [K.base, K.limit, K.order]; exact N.top
 ·rw [K.so, K.order]; exact N.so
 ·rw [K.base, K.order]; exact N.al
theorem fed_fields (β : Bu) : β.fed.σ.base = β.σ.base ∧ β.fed.σ.n = β.σ.n + 1 ∧ β.fed.σ.limit = β.σ.limit ∧ β.fed.σ.size = β.σ.size ∧ β.fed.σ.order = β.σ.order ∧ β.fed.μ.order = β.μ.order ∧ β.fed.μ.pages.length = β.μ.pages.length + 2 ^ β.μ.order := by
 have hs := pushed_same β.σ.grow (β.heads.getD β.μ.order 0) (Bu.addr { β with σ := β.σ.grow, μ := β.μ.grow } β.μ.pages.length)
 refine ⟨hs.1, hs.2.2.2.2, hs.2.1, hs.2.2.2.1, hs.2.2.1, ?_, ?_⟩
 ·unfold Bu.fed
  rw [enter_μ]
  exact (run_same _ _ _ _).1.trans (Mp.grow_order β.μ)
 ·unfold Bu.fed
  rw [enter_μ, run_len]
  exact Mp.grow_len β.μ
theorem fed_slab {β : Bu} {x : Nat} {p : Pg} (hp : β.fed.μ.pages[x]? = some p) (h4 : p.kind = 4) : β.μ.pages[x]? = some p := by
 unfold Bu.fed at hp
 rw [enter_μ] at hp
 have h1 := run_slab (.inl rfl) (by rw [Mp.grow_len]; exact Nat.le_refl _) hp h4
 have h2 : β.μ.more.paired.pages[x]? = some p := by
  refine run_slab (.inr rfl) ?_ h1 h4
  rw [(Mp.paired_pages _).1]
  simp [Mp.more]
 rw [(Mp.paired_pages _).1] at h2
 simp only [Mp.more] at h2
 by_cases hx : x < β.μ.pages.length
 ·rwa [List.getElem?_append_left hx] at h2
 ·rw [List.getElem?_append_right (by omega), List.getElem?_replicate] at h2
  split at h2
  ·have e := Option.some.inj h2
   rw [← e] at h4
   simp [zeroPg] at h4
  ·simp at h2
theorem HS.need {β : Bu} {ps : List Int} {F C L : Nat → List Nat} (I : HS β ps F C L) (o : Nat) (deny : Bool) (ho : o ≤ β.μ.order) :
  (∃ i β1 F1 g, Needs β β1 F F1 i o ∧ (deny = true → β1.σ.n = β.σ.n) ∧ ∀ (w : World) (pb : Nat) (K : BuL), PoRep w pb K β → Calls Tryz.prog 193 #[.pointer (some ⟨pb, 0, none⟩), .int .i64 o, .bool deny] w (Needed w pb K β1 (.tuple #[.int .u64 (β1.addr i : Nat), .bool g, .int .i64 0]))) ∨
  ((∀ k, o ≤ k → k ≤ β.μ.order → F k = []) ∧ (deny = true ∨ β.σ.n = β.σ.limit) ∧
   ∀ (w : World) (pb : Nat) (K : BuL), PoRep w pb K β → Calls Tryz.prog 193 #[.pointer (some ⟨pb, 0, none⟩), .int .i64 o, .bool deny] w fun e w' => e = .returned (.tuple #[.int .u64 0, .bool false, .int .i64 2]) ∧ Touch Nothing w w') := by
 have hz : (∀ k, o ≤ k → k ≤ β.μ.order → F k = []) → ∀ k, o ≤ k → k ≤ β.μ.order → β.heads.getD k 0 = 0 := by
  intro h k h1 h2
  rcases I.inv.head h2 with ⟨e, _⟩ | ⟨y, t, e, _⟩
  ·exact e
  ·rw [h k h1 h2] at e; simp at e
 have hHas : ∀ {β : Bu}, (∃ (w : World) (K : BuL), BuRep w K β) → β.Has := fun ⟨w, K, R⟩ => R.ok.has'
 have has0 : β.Has := by
  intro x off n hx hn hf
  have hs := I.nums.size
  have hfu := I.nums.full
  have p0 := pow0 β.μ.order
  have e : β.σ.base + 4096 * x + off - β.σ.base = 4096 * x + off := by omega
  have hq : (4096 * x + off) / β.σ.size = x / 2 ^ β.μ.order := by
   rw [hs, ← Nat.div_div_eq_div_mul, show (4096 * x + off) / 4096 = x by omega]
  have hr : (4096 * x + off) % β.σ.size = 4096 * (x % 2 ^ β.μ.order) + off := by
   have h1 := Nat.div_add_mod (4096 * x + off) β.σ.size
   rw [hq, hs] at h1
   have h2 := Nat.div_add_mod x (2 ^ β.μ.order)
   rw [hs]
   have h3 : 4096 * 2 ^ β.μ.order * (x / 2 ^ β.μ.order) = 4096 * (2 ^ β.μ.order * (x / 2 ^ β.μ.order)) := Nat.mul_assoc _ _ _
   omega
  refine ⟨hn, by omega, ?_, ?_⟩
  ·rw [e, hq, Nat.div_lt_iff_lt_mul p0, ← hfu]
   exact hx
  ·rw [e, hr, hs]
   have := Nat.mod_lt x p0
   omega
 by_cases hc : ∃ j, o ≤ j ∧ j ≤ β.μ.order ∧ F j ≠ []
 ·left
  obtain ⟨j, _, ⟨h1, h2, h3⟩, hmin⟩ := least (P := fun j => o ≤ j ∧ j ≤ β.μ.order ∧ F j ≠ []) (β.μ.order + 1) (by
   obtain ⟨j, h1, h2, h3⟩ := hc
   exact ⟨j, by omega, h1, h2, h3⟩)
  have hnone : ∀ k, o ≤ k → k < j → F k = [] := fun k hk hkj => Classical.byContradiction (fun e => hmin k hkj ⟨hk, by omega, e⟩)
  obtain ⟨i, t, hF⟩ := List.exists_cons_of_ne_nil h3
  obtain ⟨T, I1, K1, B1, U1, N1⟩ := I.inv.took has0 h1 h2 hnone hF
  refine ⟨i, β.took i j o (nx β.σ β.σ.base i), _, false, ⟨I1, K1.nums I.nums, K1.kept, B1, ?_, fun y hy => .inl (N1 y hy), .inl ⟨K1.n, hc⟩⟩, fun _ => K1.n, ?_⟩
  ·intro y hy
   rw [K1.len] at hy
   rw [U1 y]
   constructor
   ·rintro ⟨h, h'⟩; exact ⟨.inl h, h'⟩
   ·rintro ⟨h | h, h'⟩
    ·exact ⟨h, h'⟩
    ·omega
  ·intro w pb K R
   have := R.need_old i j o (nx β.σ β.σ.base i) deny T
   rwa [show (β.took i j o (nx β.σ β.σ.base i)).addr i = β.addr i by unfold Bu.addr; rw [K1.base]]
 ·have hno : ∀ k, o ≤ k → k ≤ β.μ.order → F k = [] := fun k h1 h2 => Classical.byContradiction (fun e => hc ⟨k, h1, h2, e⟩)
  have hz' := hz hno
  by_cases hd : deny = true ∨ β.σ.n = β.σ.limit
  ·right
   exact ⟨hno, hd, fun w pb K R => R.need_no o deny ho hz' hd⟩
  ·left
   have hd' : deny = false ∧ β.σ.n < β.σ.limit := by
    have := I.nums.le
    cases deny
    ·exact ⟨rfl, by simp at hd; omega⟩
    ·simp at hd
   obtain ⟨rfl, hn⟩ := hd'
   obtain ⟨r1, r2⟩ := I.nums.room hn
   obtain ⟨I1, P1, M1, U1⟩ := I.inv.fed I.nums.full I.nums.size (by omega)
   obtain ⟨f1, f2, f3, f4, f5, f6, f7⟩ := fed_fields β
   have N1 : Nums β.fed := by
    refine ⟨?_, ?_, ?_, ?_, ?_, ?_, ?_⟩
    ·rw [f7, f2, f6, Nat.succ_mul, ← I.nums.full]
    ·rw [f4, f6]; exact I.nums.size
    ·rw [f2, f3]; omega
    ·rw [f3, f6]; exact I.nums.pages
    ·rw [f1, f3, f6]; exact I.nums.top
    ·rw [f5, f6]; exact I.nums.so
    ·rw [f1, f6]; exact I.nums.al
   have K0 : Kept β β.fed (Upen β.μ.order F NoHole) := ⟨f1, f6, f3, f4, f5, by rw [f7]; exact Nat.le_add_right _ _, P1, M1, fun x p hp h4 => fed_slab hp h4⟩
   have has1 : β.fed.Has := by
    intro x off n hx hn' hf
    rw [f7] at hx
    have hs := I.nums.size
    have hfu := I.nums.full
    have p0 := pow0 β.μ.order
    have e : β.σ.base + 4096 * x + off - β.σ.base = 4096 * x + off := by omega
    have hq : (4096 * x + off) / β.σ.size = x / 2 ^ β.μ.order := by
     rw [hs, ← Nat.div_div_eq_div_mul, show (4096 * x + off) / 4096 = x by omega]
    have hr : (4096 * x + off) % β.σ.size = 4096 * (x % 2 ^ β.μ.order) + off := by
     have h1 := Nat.div_add_mod (4096 * x + off) β.σ.size
     rw [hq, hs] at h1
     have h2 := Nat.div_add_mod x (2 ^ β.μ.order)
     rw [hs]
     have h3 : 4096 * 2 ^ β.μ.order * (x / 2 ^ β.μ.order) = 4096 * (2 ^ β.μ.order * (x / 2 ^ β.μ.order)) := Nat.mul_assoc _ _ _
     omega
    rw [f1]
    refine ⟨hn', by rw [f1]; omega, ?_, ?_⟩
    ·rw [f1, f4, f2, e, hq, Nat.div_lt_iff_lt_mul p0, Nat.succ_mul, ← hfu]
     exact hx
    ·rw [f1, f4, e, hr, hs]
     have := Nat.mod_lt x p0
     omega
   have hFo : F β.μ.order = [] := hno _ ho (Nat.le_refl _)
   rw [hFo] at I1 U1
   have hF1 : upd F β.μ.order [β.μ.pages.length] β.μ.order = [β.μ.pages.length] := upd_self _ _ _
   obtain ⟨T, I2, K2, B2, U2, N2⟩ := I1.took has1 (i := β.μ.pages.length) (j := β.μ.order) (o := o) (t := []) ho (by rw [f6]; exact Nat.le_refl _) (fun k h1 h2 => by rw [upd_ne _ _ (by omega)]; exact hno k h1 (by omega)) hF1
   rw [f6] at K2 U2 N2
   refine ⟨β.μ.pages.length, β.fed.took β.μ.pages.length β.μ.order o (nx β.fed.σ β.fed.σ.base β.μ.pages.length), _, true, ⟨I2, K2.nums N1, K0.trans K2.kept (fun x hx h => ?_), B2, fun y hy => ?_, fun y hy => .inr hy.1, .inr ⟨K2.n.trans f2, hn, hno⟩⟩, fun h => by simp at h, ?_⟩
   ·rcases (U1 x).1 h with h | h
    ·exact h
    ·have := h.1; omega
   ·rw [K2.len, f7] at hy
    rw [U2 y, U1 y]
    constructor
    ·rintro ⟨h | h, h'⟩
     ·exact ⟨.inl h, h'⟩
     ·exact ⟨.inr h.1, h'⟩
    ·rintro ⟨h | h, h'⟩
     ·exact ⟨.inl h, h'⟩
     ·exact ⟨.inr ⟨h, hy⟩, h'⟩
   ·intro w pb K R
    have := R.need_new o (nx β.fed.σ β.fed.σ.base β.μ.pages.length) β.μ.pages.length β.μ.order ho hz' hn I.nums.full r1 T
    rwa [show (β.fed.took β.μ.pages.length β.μ.order o (nx β.fed.σ β.fed.σ.base β.μ.pages.length)).addr β.μ.pages.length = β.fed.addr β.μ.pages.length by unfold Bu.addr; rw [K2.base]]
end Go.Proofs.YtnjcmcnjgdjbiaaGreatDoor
