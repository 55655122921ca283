/- The walk of slab's Take out of a page that stands. Conditions: the page heads its list, its first cell is free. Printed by wip/tools/gtake.py. -/
import Derived.Test.YtnjcmcnjgdjbiaaGreatDoorLgUnhang
namespace Go.Proofs.YtnjcmcnjgdjbiaaGreatDoor
open Go.RowKit

set_option maxHeartbeats 2000000 in
set_option maxRecDepth 100000 in
theorem SlRep.take_old {w : World} {s pb : Nat} {K : BuL} {β : Bu} {ps : List Int} (R : SlRep w s pb K β ps) (G : Glob w) (c i f : Nat) (f2 : Nat) (deny : Bool) {p : Pg} (hc : c < 8) (he : ps.getD c 0 = (i : Int)) (hl : β.μ.pages.length = β.σ.n * 2 ^ β.μ.order)
    (hi : β.μ.pages[i]? = some p) (hk : p.kind = 4) (hcl : p.cls = c) (hf : p.first = (f : Int)) (hfl : f < cellsN c) (hb : p.bit f = false) (hlv : 0 ≤ p.live + 1 ∧ p.live + 1 ≤ 256)
    (hf2 : f2 < cellsN c) (hw : β.σ.word (β.addr i + f * wdOf c) = β.addr i + f2 * wdOf c) :
    Calls Tryz.prog 191 #[.pointer (some ⟨s, 0, none⟩), .int .i64 c, .bool deny] w
      (Taken w s pb K { β with μ := β.μ.setPage i (p.take f f2) } ps (.tuple #[.int .u64 (β.addr i + f * wdOf c : Nat), .bool false, .int .i64 0])) := by
  have c0 := R.pool
  have c1 := R.part c hc
  rw [he] at c1
  have hlt := (List.getElem?_eq_some_iff.1 hi).1
  have hlen := R.po.bu.mp.ok.len
  have htop : β.σ.base + 4096 * i + 4096 ≤ 18446744073709551615 := R.po.bu.ok.addr_top R.po.bu.sp.ok hlt
  obtain ⟨u1, u2, u3, u4, u5, u6⟩ := wd_facts hc
  have hin : f * wdOf c + wdOf c ≤ 4096 := by
    have := cell_in c (by omega) hfl
    simpa using this
  have hval : p.val = .agg #[.int .i64 p.kind, .int .i64 p.order, .int .i64 p.cls, .int .i64 p.live, .int .i64 p.next, .int .i64 p.prev, .int .i64 (f : Int), .int .u64 p.b0, .int .u64 p.b1, .int .u64 p.b2, .int .u64 p.b3] := by
    unfold Pg.val
    rw [hf]
  have hat := R.po.bu.mp.at_ hi
  rw [hval] at hat
  have HAt := Lib.hid hat
  have HM := Lib.hid R.po.map_
  have HR := Lib.hid R
  have HG := Lib.hid G
  have HI := Lib.hid hi
  have HK := Lib.hid hk
  have HCl := Lib.hid hcl
  have HBit := Lib.hid hb
  have HF := Lib.hid hf
  have HL := Lib.hid hl
  have HLv := Lib.hid hlv
  have HW := Lib.hid hw
  have HHas : Hid (β.σ.has (β.σ.base + 4096 * i + f * wdOf c) 8) := Lib.hid (R.po.bu.ok.has (i := i) (off := f * wdOf c) (n := 8) hlt (by omega) (by omega))
  have HU := Lib.hid (And.intro u3 u6)
  have hi3 : i ≤ 1023 := by omega
  have HFl := Lib.hid hfl
  have hf256 : f < 256 := by omega
  have hin2 : f2 * wdOf c + wdOf c ≤ 4096 := by
    have := cell_in c (by omega) hf2
    simpa using this
  have HF2 := Lib.hid hf2
  have hf2256 : f2 < 256 := by omega
  clear hf2
  clear R G hl hi hk hcl hf hfl hb hlv hw hval hat hlt hlen he u3 u6
  go_enter Tryz.func191, Tryz.ntmps191
  have hi0 : ¬ ((i : Int) < 0) := by omega
  go_wp2_with fail
  refine HM.out.mono ?_
  rintro e w1 ⟨rfl, rfl⟩
  go_wp2_with fail
  refine HAt.out.mono ?_
  rintro e w2 ⟨rfl, T2⟩
  have HT2 := Lib.hid T2
  have S2 := HR.out.touch0 T2
  have HB2 := Lib.hid (fun W (T : Touch Nothing w2 W) => (S2.touch0 T).base_ HL.out)
  have HS2 := Lib.hid S2
  have HG2 := Lib.hid (HG.out.touch0 T2)
  clear T2 S2 HAt HM
  go_wp2_with fail
  have T3 := (Touch.refl Nothing w2).alloc (.cells #[.int .i64 p.kind, .int .i64 p.order, .int .i64 p.cls, .int .i64 p.live, .int .i64 p.next, .int .i64 p.prev, .int .i64 (f : Int), .int .u64 p.b0, .int .u64 p.b1, .int .u64 p.b2, .int .u64 p.b3] 128)
  have B3 := Blk.new w2 #[.int .i64 p.kind, .int .i64 p.order, .int .i64 p.cls, .int .i64 p.live, .int .i64 p.next, .int .i64 p.prev, .int .i64 (f : Int), .int .u64 p.b0, .int .u64 p.b1, .int .u64 p.b2, .int .u64 p.b3] 128
  refine (HB2.out _ T3).mono ?_
  rintro e w4 ⟨rfl, k4, rfl⟩
  replace T3 := T3.drewN k4
  replace B3 := B3.drewN k4
  have hXf : ∀ k, k ∈ s :: pb :: K.fp → k < w2.heap.size := HS2.out.lt
  have hXg : ¬ some w2.heap.size = K.M.gv.ownBlock := by
    intro e
    have := hXf w2.heap.size (by simp [BuL.fp, MpL.fp, ← e])
    omega
  have HXg := Lib.hid hXg
  clear hXf hXg
  generalize (w2.alloc (.cells #[.int .i64 p.kind, .int .i64 p.order, .int .i64 p.cls, .int .i64 p.live, .int .i64 p.next, .int .i64 p.prev, .int .i64 (f : Int), .int .u64 p.b0, .int .u64 p.b1, .int .u64 p.b2, .int .u64 p.b3] 128)).drewN k4 = w4 at *
  have hx : w2.heap.size < w4.heap.size := B3.lt
  generalize hX : w2.heap.size = X at *
  have b6 : w4.cell? ⟨X, 6, none⟩ = some (.int .i64 (f : Int)) := B3.cell 6
  have cw : w4.cell? ⟨1, c, none⟩ = some (.int .u64 (wdOf c : Nat)) := (HG2.out.touch0 T3).widths c hc
  have HT3 := Lib.hid T3
  have S4 := HS2.out.touch0 T3
  have HS4 := Lib.hid S4
  have HSp := Lib.hid (fun k => ((S4.drewN k).po.space_))
  have HWd := Lib.hid (fun k => (S4.drewN k).po.bu.sp.word_ (β.σ.base + 4096 * i + f * wdOf c) HHas.out)
  have d0 : w4.cell? ⟨s, 0, none⟩ = some (.pointer (some ⟨pb, 0, none⟩)) := S4.pool
  have hw0 : ¬ (wdOf c : Int) = 0 := by omega
  obtain ⟨d, hd⟩ : ∃ d, d = f * wdOf c := ⟨_, rfl⟩
  have hdi : (f : Int) * (wdOf c : Int) = (d : Int) := by rw [hd]; simp
  rw [← hd] at hin
  have HD := Lib.hid hd
  clear T3 B3 S4 hX hd c0
  generalize hwd : wdOf c = wd at *
  generalize hBs : β.σ.base = B at *
  go_wp2_with fail
  go_quiet (fail)
  go_wp2_with fail
  refine (HSp.out _).mono ?_
  rintro e w5 ⟨rfl, rfl⟩
  go_wp2_with fail
  have hWd := HWd.out nq
  rw [HD.out.symm] at hWd
  have hww := HW.out
  rw [show β.addr i = B + 4096 * i by rw [← hBs]; rfl, HD.out.symm] at hww
  rw [hww, show ((B + 4096 * i + d : Nat) : Int) = (B : Int) + 4096 * (i : Int) + (d : Int) by omega] at hWd
  obtain ⟨d2, hd2⟩ : ∃ d2, d2 = f2 * wd := ⟨_, rfl⟩
  rw [← hd2] at hin2
  rw [← hd2, show ((B + 4096 * i + d2 : Nat) : Int) = (B : Int) + 4096 * (i : Int) + (d2 : Int) by omega] at hWd
  have ne0 : ((B : Int) + 4096 * (i : Int) + (d2 : Int) != 0) = true := by rw [bne_iff_ne]; have := HR.out.po.bu.sp.ok.base0; rw [hBs] at this; omega
  have hq1 : ((B : Int) + 4096 * (i : Int) + (d2 : Int) - ((B : Int) + 4096 * (i : Int))) / (wd : Int) = (f2 : Int) := by
    rw [show (B : Int) + 4096 * (i : Int) + (d2 : Int) - ((B : Int) + 4096 * (i : Int)) = (d2 : Int) by omega, hd2]
    exact_mod_cast Nat.mul_div_cancel f2 (by omega : 0 < wd)
  clear hd2
  have HWH := Lib.hid hWd
  clear hWd hww
  refine HWH.out.mono ?_
  rintro e w5 ⟨rfl, T5⟩
  have T45 := ((Touch.refl Nothing w4).drewN nq).trans T5
  have f6 : w5.cell? ⟨X, 6, none⟩ = some (.int .i64 (f : Int)) := (T45.cell (p := ⟨X, 6, none⟩) hx (fun h => h)).trans b6
  have fw : w5.cell? ⟨1, c, none⟩ = some (.int .u64 wd) := (T45.cell (p := ⟨1, c, none⟩) (World.block_lt_of_cell? _ _ cw) (fun h => h)).trans cw
  have hx5 : X < w5.heap.size := Nat.lt_of_lt_of_le hx T45.size
  have HT5 := Lib.hid ((HT2.out.trans HT3.out).trans T45)
  have S5 := HS4.out.touch0 T45
  have HOw := Lib.hid (S5.po.bu.mp.own_ HI.out HK.out f true (by rw [HCl.out]; exact HFl.out) (by rw [HBit.out]; rfl) HLv.out)
  have HS5 := Lib.hid S5
  clear T5 T45 S5 b6 cw hx HWd HSp HWH d0
  go_wp2_with fail
  refine HOw.out.mono ?_
  rintro e w6 ⟨rfl, r6, t6⟩
  have R6 := HS5.out.paged r6 t6 rfl (List.length_set ..)
  have hp6 : (β.μ.setPage i (p.own f true)).pages[i]? = some (p.own f true) := Mp.setPage_get _ HI.out
  have hsm := own_same p f true
  have HFi := Lib.hid (R6.1.po.bu.mp.first_ hp6 (hsm.1.trans HK.out) (f2 : Int) (by omega) (by rw [hsm.2.2.1, HCl.out]; have := HU.out.2; have := HF2.out; omega))
  have HT6 := Lib.hid (HT5.out.none_.trans R6.2)
  have HS6 := Lib.hid R6.1
  clear r6 t6 R6 hp6 hsm f6 fw ne0 hq1
  go_wp2_with fail
  refine HFi.out.mono ?_
  rintro e w7 ⟨rfl, r7, t7⟩
  have R7 := HS6.out.paged r7 t7 rfl (List.length_set ..)
  have e7 : (β.μ.setPage i (p.own f true)).setPage i { p.own f true with first := (f2 : Int) } = β.μ.setPage i (p.take f (f2 : Int)) := by rw [Mp.setPage_set]; rfl
  have hS7 : SlRep w7 s pb K { β with μ := β.μ.setPage i (p.take f (f2 : Int)) } ps := by rw [← e7]; exact R7.1
  have HS7 := Lib.hid hS7
  have HT7 := Lib.hid (HT6.out.trans R7.2)
  clear r7 t7 R7 e7 hS7
  go_wp2_with fail
  go_ret3
  refine ⟨?_, K, HS7.out, BuL.Next.refl _ _, HT7.out.mono (fun k _ h => List.mem_cons_of_mem _ h)⟩
  show Ending.returned (.tuple #[.int .u64 ((B : Int) + 4096 * (i : Int) + (d : Int)), .bool false, .int .i64 0]) = _
  have hA : β.addr i + f * wd = B + 4096 * i + d := by rw [← HD.out, ← hBs]; rfl
  rw [hA, show ((B + 4096 * i + d : Nat) : Int) = (B : Int) + 4096 * (i : Int) + (d : Int) by omega]

set_option maxHeartbeats 2000000 in
set_option maxRecDepth 100000 in
theorem SlRep.take_last {w : World} {s pb : Nat} {K : BuL} {β : Bu} {ps : List Int} (R : SlRep w s pb K β ps) (G : Glob w) (c i f : Nat) (deny : Bool) {p : Pg} (hc : c < 8) (he : ps.getD c 0 = (i : Int)) (hl : β.μ.pages.length = β.σ.n * 2 ^ β.μ.order)
    (hi : β.μ.pages[i]? = some p) (hk : p.kind = 4) (hcl : p.cls = c) (hf : p.first = (f : Int)) (hfl : f < cellsN c) (hb : p.bit f = false) (hlv : 0 ≤ p.live + 1 ∧ p.live + 1 ≤ 256)
    (hw : β.σ.word (β.addr i + f * wdOf c) = 0) (hnp : NbOk β.μ i p.prev) (hnn : NbOk β.μ i p.next) (hne : p.prev = -1 ∨ p.prev ≠ p.next) :
    Calls Tryz.prog 191 #[.pointer (some ⟨s, 0, none⟩), .int .i64 c, .bool deny] w
      (Taken w s pb K { β with μ := (β.μ.setPage i (p.take f (-1))).unhung i (p.take f (-1)) } (unps ps c (p.take f (-1))) (.tuple #[.int .u64 (β.addr i + f * wdOf c : Nat), .bool false, .int .i64 0])) := by
  have c0 := R.pool
  have c1 := R.part c hc
  rw [he] at c1
  have hlt := (List.getElem?_eq_some_iff.1 hi).1
  have hlen := R.po.bu.mp.ok.len
  have htop : β.σ.base + 4096 * i + 4096 ≤ 18446744073709551615 := R.po.bu.ok.addr_top R.po.bu.sp.ok hlt
  obtain ⟨u1, u2, u3, u4, u5, u6⟩ := wd_facts hc
  have hin : f * wdOf c + wdOf c ≤ 4096 := by
    have := cell_in c (by omega) hfl
    simpa using this
  have hval : p.val = .agg #[.int .i64 p.kind, .int .i64 p.order, .int .i64 p.cls, .int .i64 p.live, .int .i64 p.next, .int .i64 p.prev, .int .i64 (f : Int), .int .u64 p.b0, .int .u64 p.b1, .int .u64 p.b2, .int .u64 p.b3] := by
    unfold Pg.val
    rw [hf]
  have hat := R.po.bu.mp.at_ hi
  rw [hval] at hat
  have HAt := Lib.hid hat
  have HM := Lib.hid R.po.map_
  have HR := Lib.hid R
  have HG := Lib.hid G
  have HI := Lib.hid hi
  have HK := Lib.hid hk
  have HCl := Lib.hid hcl
  have HBit := Lib.hid hb
  have HF := Lib.hid hf
  have HL := Lib.hid hl
  have HLv := Lib.hid hlv
  have HW := Lib.hid hw
  have HHas : Hid (β.σ.has (β.σ.base + 4096 * i + f * wdOf c) 8) := Lib.hid (R.po.bu.ok.has (i := i) (off := f * wdOf c) (n := 8) hlt (by omega) (by omega))
  have HU := Lib.hid (And.intro u3 u6)
  have hi3 : i ≤ 1023 := by omega
  have HFl := Lib.hid hfl
  have hf256 : f < 256 := by omega
  have HNb := Lib.hid (And.intro hnp (And.intro hnn hne))
  clear hnp hnn hne
  clear R G hl hi hk hcl hf hfl hb hlv hw hval hat hlt hlen he u3 u6
  go_enter Tryz.func191, Tryz.ntmps191
  have hi0 : ¬ ((i : Int) < 0) := by omega
  go_wp2_with fail
  refine HM.out.mono ?_
  rintro e w1 ⟨rfl, rfl⟩
  go_wp2_with fail
  refine HAt.out.mono ?_
  rintro e w2 ⟨rfl, T2⟩
  have HT2 := Lib.hid T2
  have S2 := HR.out.touch0 T2
  have HB2 := Lib.hid (fun W (T : Touch Nothing w2 W) => (S2.touch0 T).base_ HL.out)
  have HS2 := Lib.hid S2
  have HG2 := Lib.hid (HG.out.touch0 T2)
  clear T2 S2 HAt HM
  go_wp2_with fail
  have T3 := (Touch.refl Nothing w2).alloc (.cells #[.int .i64 p.kind, .int .i64 p.order, .int .i64 p.cls, .int .i64 p.live, .int .i64 p.next, .int .i64 p.prev, .int .i64 (f : Int), .int .u64 p.b0, .int .u64 p.b1, .int .u64 p.b2, .int .u64 p.b3] 128)
  have B3 := Blk.new w2 #[.int .i64 p.kind, .int .i64 p.order, .int .i64 p.cls, .int .i64 p.live, .int .i64 p.next, .int .i64 p.prev, .int .i64 (f : Int), .int .u64 p.b0, .int .u64 p.b1, .int .u64 p.b2, .int .u64 p.b3] 128
  refine (HB2.out _ T3).mono ?_
  rintro e w4 ⟨rfl, k4, rfl⟩
  replace T3 := T3.drewN k4
  replace B3 := B3.drewN k4
  have hXf : ∀ k, k ∈ s :: pb :: K.fp → k < w2.heap.size := HS2.out.lt
  have hXg : ¬ some w2.heap.size = K.M.gv.ownBlock := by
    intro e
    have := hXf w2.heap.size (by simp [BuL.fp, MpL.fp, ← e])
    omega
  have HXg := Lib.hid hXg
  clear hXf hXg
  generalize (w2.alloc (.cells #[.int .i64 p.kind, .int .i64 p.order, .int .i64 p.cls, .int .i64 p.live, .int .i64 p.next, .int .i64 p.prev, .int .i64 (f : Int), .int .u64 p.b0, .int .u64 p.b1, .int .u64 p.b2, .int .u64 p.b3] 128)).drewN k4 = w4 at *
  have hx : w2.heap.size < w4.heap.size := B3.lt
  generalize hX : w2.heap.size = X at *
  have b6 : w4.cell? ⟨X, 6, none⟩ = some (.int .i64 (f : Int)) := B3.cell 6
  have cw : w4.cell? ⟨1, c, none⟩ = some (.int .u64 (wdOf c : Nat)) := (HG2.out.touch0 T3).widths c hc
  have HT3 := Lib.hid T3
  have S4 := HS2.out.touch0 T3
  have HS4 := Lib.hid S4
  have HSp := Lib.hid (fun k => ((S4.drewN k).po.space_))
  have HWd := Lib.hid (fun k => (S4.drewN k).po.bu.sp.word_ (β.σ.base + 4096 * i + f * wdOf c) HHas.out)
  have d0 : w4.cell? ⟨s, 0, none⟩ = some (.pointer (some ⟨pb, 0, none⟩)) := S4.pool
  have hw0 : ¬ (wdOf c : Int) = 0 := by omega
  obtain ⟨d, hd⟩ : ∃ d, d = f * wdOf c := ⟨_, rfl⟩
  have hdi : (f : Int) * (wdOf c : Int) = (d : Int) := by rw [hd]; simp
  rw [← hd] at hin
  have HD := Lib.hid hd
  clear T3 B3 S4 hX hd c0
  generalize hwd : wdOf c = wd at *
  generalize hBs : β.σ.base = B at *
  go_wp2_with fail
  go_quiet (fail)
  go_wp2_with fail
  refine (HSp.out _).mono ?_
  rintro e w5 ⟨rfl, rfl⟩
  go_wp2_with fail
  have hWd := HWd.out nq
  rw [HD.out.symm] at hWd
  have hww := HW.out
  rw [show β.addr i = B + 4096 * i by rw [← hBs]; rfl, HD.out.symm] at hww
  rw [hww, show ((B + 4096 * i + d : Nat) : Int) = (B : Int) + 4096 * (i : Int) + (d : Int) by omega] at hWd
  have HWH := Lib.hid hWd
  clear hWd hww
  refine HWH.out.mono ?_
  rintro e w5 ⟨rfl, T5⟩
  have T45 := ((Touch.refl Nothing w4).drewN nq).trans T5
  have f6 : w5.cell? ⟨X, 6, none⟩ = some (.int .i64 (f : Int)) := (T45.cell (p := ⟨X, 6, none⟩) hx (fun h => h)).trans b6
  have fw : w5.cell? ⟨1, c, none⟩ = some (.int .u64 wd) := (T45.cell (p := ⟨1, c, none⟩) (World.block_lt_of_cell? _ _ cw) (fun h => h)).trans cw
  have hx5 : X < w5.heap.size := Nat.lt_of_lt_of_le hx T45.size
  have HT5 := Lib.hid ((HT2.out.trans HT3.out).trans T45)
  have S5 := HS4.out.touch0 T45
  have HOw := Lib.hid (S5.po.bu.mp.own_ HI.out HK.out f true (by rw [HCl.out]; exact HFl.out) (by rw [HBit.out]; rfl) HLv.out)
  have HS5 := Lib.hid S5
  clear T5 T45 S5 b6 cw hx HWd HSp HWH d0
  go_wp2_with fail
  refine HOw.out.mono ?_
  rintro e w6 ⟨rfl, r6, t6⟩
  have R6 := HS5.out.paged r6 t6 rfl (List.length_set ..)
  have hp6 : (β.μ.setPage i (p.own f true)).pages[i]? = some (p.own f true) := Mp.setPage_get _ HI.out
  have hsm := own_same p f true
  have HFi := Lib.hid (R6.1.po.bu.mp.first_ hp6 (hsm.1.trans HK.out) (-1) (by omega) (by rw [hsm.2.2.1, HCl.out]; have := HU.out.2; omega))
  have HT6 := Lib.hid (HT5.out.none_.trans R6.2)
  have HS6 := Lib.hid R6.1
  clear r6 t6 R6 hp6 hsm f6 fw 
  go_wp2_with fail
  refine HFi.out.mono ?_
  rintro e w7 ⟨rfl, r7, t7⟩
  have R7 := HS6.out.paged r7 t7 rfl (List.length_set ..)
  have e7 : (β.μ.setPage i (p.own f true)).setPage i { p.own f true with first := (-1) } = β.μ.setPage i (p.take f (-1)) := by rw [Mp.setPage_set]; rfl
  have hS7 : SlRep w7 s pb K { β with μ := β.μ.setPage i (p.take f (-1)) } ps := by rw [← e7]; exact R7.1
  have HS7 := Lib.hid hS7
  have HT7 := Lib.hid (HT6.out.trans R7.2)
  clear r7 t7 R7 e7 hS7
  have hsm := own_same p f true
  have HUn := Lib.hid (HS7.out.unhang_ i c (p := p.take f (-1)) (Mp.setPage_get _ HI.out) (hsm.1.trans HK.out) hc (by show NbOk _ i (p.own f true).prev; rw [hsm.2.2.2.2.1]; exact HNb.out.1.set) (by show NbOk _ i (p.own f true).next; rw [hsm.2.2.2.1]; exact HNb.out.2.1.set) (by show (p.own f true).prev = -1 ∨ (p.own f true).prev ≠ (p.own f true).next; rw [hsm.2.2.2.1, hsm.2.2.2.2.1]; exact HNb.out.2.2))
  clear hsm
  go_wp2_with fail
  refine HUn.out.mono ?_
  rintro e w8 ⟨rfl, S8, T8⟩
  have HS8 := Lib.hid S8
  have HT8 := Lib.hid T8
  clear S8 T8
  go_wp2_with fail
  go_ret3
  refine ⟨?_, K, HS8.out, BuL.Next.refl _ _, (HT7.out.mono (fun k _ h => List.mem_cons_of_mem _ h)).trans HT8.out⟩
  show Ending.returned (.tuple #[.int .u64 ((B : Int) + 4096 * (i : Int) + (d : Int)), .bool false, .int .i64 0]) = _
  have hA : β.addr i + f * wd = B + 4096 * i + d := by rw [← HD.out, ← hBs]; rfl
  rw [hA, show ((B + 4096 * i + d : Nat) : Int) = (B : Int) + 4096 * (i : Int) + (d : Int) by omega]

end Go.Proofs.YtnjcmcnjgdjbiaaGreatDoor
