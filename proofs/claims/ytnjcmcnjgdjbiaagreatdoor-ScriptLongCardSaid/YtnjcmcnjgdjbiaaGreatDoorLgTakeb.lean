/- The walk of slab's Take out of a page that the pool tells, and of its refusal. Conditions: Need has its contract. -/
import Derived.Test.YtnjcmcnjgdjbiaaGreatDoorLgTake
namespace Go.Proofs.YtnjcmcnjgdjbiaaGreatDoor
open Go.RowKit

set_option maxHeartbeats 2000000 in
set_option maxRecDepth 100000 in
theorem SlRep.take_page {w : World} {s pb : Nat} {K : BuL} {β β1 : Bu} {ps : List Int} (R : SlRep w s pb K β ps) (G : Glob w) (hfar : ∀ k ∈ s :: pb :: K.fp, 9 ≤ k) (c i : Nat) (g deny : Bool) (hc : c < 8) (he : ps.getD c 0 = -1)
    (HN0 : Calls Tryz.prog 193 #[.pointer (some ⟨pb, 0, none⟩), .int .i64 0, .bool deny] w (Needed w pb K β1 (.tuple #[.int .u64 (β1.addr i : Nat), .bool g, .int .i64 0])))
    {p : Pg} (hp : β1.μ.pages[i]? = some p) (hl1 : β1.μ.pages.length = β1.σ.n * 2 ^ β1.μ.order) :
    Calls Tryz.prog 191 #[.pointer (some ⟨s, 0, none⟩), .int .i64 c, .bool deny] w
      (Taken w s pb K (β1.newCell i c) (ps.set c i) (.tuple #[.int .u64 (β1.addr i : Nat), .bool g, .int .i64 0])) := by
  have c0 := R.pool
  have c1 := R.part c hc
  rw [he] at c1
  have HN := Lib.hid HN0
  have HR := Lib.hid R
  have HG := Lib.hid G
  have HFar := Lib.hid hfar
  have HE := Lib.hid he
  have HP := Lib.hid hp
  have HL1 := Lib.hid hl1
  clear R G hfar he hp hl1 HN0
  go_enter Tryz.func191, Tryz.ntmps191
  go_wp2_with fail
  refine HN.out.mono ?_
  rintro e w1 ⟨rfl, K1, P1, N1, T1⟩
  have S1 := HR.out.next T1 N1 P1.bu
  have hfar1 : ∀ k ∈ s :: pb :: K1.fp, 9 ≤ k := by
    intro k hk
    simp only [List.mem_cons] at hk
    rcases hk with rfl | rfl | hk
    · exact HFar.out _ (by simp)
    · exact HFar.out _ (by simp)
    · rcases N1.fresh k hk with h | h
      · exact HFar.out _ (by simp [h])
      · have := HG.out.size; omega
  have hfp : ∀ k, k < 9 → ¬ k ∈ K.fp := fun k hk h => by have := HFar.out k (by simp [h]); omega
  have G1 := HG.out.touch T1 hfp
  have HB := S1.born_ G1 hfar1 i c HP.out hc HE.out HL1.out
  have HBo := Lib.hid HB
  have HG1 := Lib.hid G1
  have HN1 := Lib.hid N1
  have HT1 := Lib.hid T1
  have HFar1 := Lib.hid hfar1
  clear S1 P1 N1 T1 hfar1 hfp G1 HB c1
  go_wp2_with fail
  refine HBo.out.mono ?_
  rintro e w2 ⟨rfl, S2, T2⟩
  have HS2 := Lib.hid S2
  have HT2 := Lib.hid T2
  have d0 := S2.pool
  have HM2 := Lib.hid (S2.po.map_)
  clear S2 T2 c0
  go_wp2_with fail
  refine HM2.out.mono ?_
  rintro e w3 ⟨rfl, rfl⟩
  have HAt := Lib.hid (HS2.out.po.bu.mp.at_ (born_page HP.out))
  go_wp2_with fail
  refine HAt.out.mono ?_
  rintro e w3 ⟨rfl, T3⟩
  have HT3 := Lib.hid T3
  have S3 := HS2.out.touch0 T3
  have hl2 : (β1.born i c).μ.pages.length = (β1.born i c).σ.n * 2 ^ (β1.born i c).μ.order := by
    obtain ⟨b1, b2, b3, _⟩ := born_len β1 i c
    rw [b1, b2, b3]; exact HL1.out
  have HB3 := Lib.hid (fun W (T : Touch Nothing w3 W) => (S3.touch0 T).base_ hl2)
  have HS3 := Lib.hid S3
  clear T3 S3 hl2
  have hbB : (β1.born i c).σ.base = β1.σ.base := (born_len β1 i c).2.2.2
  have hlt1 : i < (β1.born i c).μ.pages.length := (List.getElem?_eq_some_iff.1 (born_page HP.out)).1
  have hlen1 := HS2.out.po.bu.mp.ok.len
  have htop : (β1.born i c).σ.base + 4096 * i + 4096 ≤ 18446744073709551615 := HS2.out.po.bu.ok.addr_top HS2.out.po.bu.sp.ok hlt1
  have hAB : β1.addr i = (β1.born i c).σ.base + 4096 * i := by rw [hbB]; rfl
  have HAB := Lib.hid hAB
  have hi : i ≤ 1023 := by omega
  obtain ⟨u1, u2, u3, u4, u5, u6⟩ := wd_facts hc
  have hwB : (β1.born i c).σ.word (β1.addr i) = β1.addr i + wdOf c := by
    have := bornK_word (σ := β1.σ) (at_ := β1.addr i) (wd := wdOf c) (n := 4096 / wdOf c) (by omega) (by rw [u3, hAB]; omega) (4096 / wdOf c) 0 (Nat.le_refl _) (by omega)
    rw [Nat.zero_mul, Nat.add_zero] at this
    show (bornK β1.σ (β1.addr i) (wdOf c) (4096 / wdOf c) (4096 / wdOf c)).word (β1.addr i) = _
    rw [this]
    unfold bornW
    rw [if_neg (by omega)]
    omega
  have HWB := Lib.hid hwB
  have HU := Lib.hid (And.intro u3 u6)
  have HHas := Lib.hid (HS2.out.po.bu.ok.has (i := i) (off := 0) (n := 8) hlt1 (by omega) (by omega))
  have HG3 := Lib.hid ((HG1.out.touch HT2.out (fun k hk h => by
    rcases List.mem_cons.1 h with e | h
    · have := HFar1.out s (by simp); omega
    · have := HFar1.out k (by simp [h]); omega)).touch0 HT3.out)
  clear hbB hlt1 hlen1 hAB hwB u3 u6
  unfold Pg.val
  go_wp2_with fail
  refine (HB3.out _ ((Touch.refl Nothing w3).alloc _)).mono ?_
  rintro e w4 ⟨rfl, k4, rfl⟩
  have T4 : Touch Nothing w3 ((w3.alloc (.cells #[.int .i64 (bornPg c).kind, .int .i64 (bornPg c).order, .int .i64 (bornPg c).cls, .int .i64 (bornPg c).live, .int .i64 (bornPg c).next, .int .i64 (bornPg c).prev, .int .i64 (bornPg c).first, .int .u64 (bornPg c).b0, .int .u64 (bornPg c).b1, .int .u64 (bornPg c).b2, .int .u64 (bornPg c).b3] 128)).drewN k4) := ((Touch.refl Nothing w3).alloc _).drewN k4
  have B4 := (Blk.new w3 #[.int .i64 (bornPg c).kind, .int .i64 (bornPg c).order, .int .i64 (bornPg c).cls, .int .i64 (bornPg c).live, .int .i64 (bornPg c).next, .int .i64 (bornPg c).prev, .int .i64 (bornPg c).first, .int .u64 (bornPg c).b0, .int .u64 (bornPg c).b1, .int .u64 (bornPg c).b2, .int .u64 (bornPg c).b3] 128).drewN k4
  generalize (w3.alloc (.cells #[.int .i64 (bornPg c).kind, .int .i64 (bornPg c).order, .int .i64 (bornPg c).cls, .int .i64 (bornPg c).live, .int .i64 (bornPg c).next, .int .i64 (bornPg c).prev, .int .i64 (bornPg c).first, .int .u64 (bornPg c).b0, .int .u64 (bornPg c).b1, .int .u64 (bornPg c).b2, .int .u64 (bornPg c).b3] 128)).drewN k4 = w4 at *
  have b6 : w4.cell? ⟨w3.heap.size, 6, none⟩ = some (.int .i64 0) := B4.cell 6
  have cw : w4.cell? ⟨1, c, none⟩ = some (.int .u64 (wdOf c : Nat)) := (HG3.out.touch0 T4).widths c hc
  have HT4 := Lib.hid T4
  have HB4 := Lib.hid B4
  have HSp := Lib.hid (fun k => (((HS3.out.touch0 T4).drewN k).po.space_))
  have hw0 : ¬ (wdOf c : Int) = 0 := by omega
  have HWd := Lib.hid (fun k => ((HS3.out.touch0 T4).drewN k).po.bu.sp.word_ ((β1.born i c).σ.base + 4096 * i) HHas.out)
  have hdd : (wdOf c : Int) / (wdOf c : Int) = 1 := Int.ediv_self (by omega)
  have d0' : w4.cell? ⟨s, 0, none⟩ = some (.pointer (some ⟨pb, 0, none⟩)) := (HS3.out.touch0 T4).pool
  clear T4 B4 d0
  generalize wdOf c = wd at *
  generalize (β1.born i c).σ.base = B at *
  go_wp2_with fail
  go_quiet (fail)
  go_wp2_with fail
  refine (HSp.out _).mono ?_
  rintro e w5 ⟨rfl, rfl⟩
  go_wp2_with fail
  have hWo : (β1.born i c).σ.word (B + 4096 * i) = B + 4096 * i + wd := by
    have := HWB.out
    rw [HAB.out] at this
    exact this
  have HW := HWd.out nq
  rw [hWo, show ((B + 4096 * i : Nat) : Int) = (B : Int) + 4096 * (i : Int) by omega, show ((B + 4096 * i + wd : Nat) : Int) = (B : Int) + 4096 * (i : Int) + (wd : Int) by omega] at HW
  have HWH := Lib.hid HW
  have ne0 : ((B : Int) + 4096 * (i : Int) + (wd : Int) != 0) = true := by rw [bne_iff_ne]; omega
  clear HW hWo
  refine HWH.out.mono ?_
  rintro e w5 ⟨rfl, T5⟩
  have hlw : w3.heap.size < w4.heap.size := HB4.out.lt
  have T35 := ((Touch.refl Nothing w4).drewN nq).trans T5
  have f6 : w5.cell? ⟨w3.heap.size, 6, none⟩ = some (.int .i64 0) := (T35.cell (p := ⟨w3.heap.size, 6, none⟩) hlw (fun h => h)).trans b6
  have fw : w5.cell? ⟨1, c, none⟩ = some (.int .u64 wd) := (T35.cell (p := ⟨1, c, none⟩) (World.block_lt_of_cell? _ _ cw) (fun h => h)).trans cw
  have HT5 := Lib.hid (HT4.out.trans T35)
  have HOw := Lib.hid ((HS3.out.touch0 HT5.out).po.bu.mp.own_ (born_page HP.out) rfl 0 true (by rw [show (bornPg c).cls = (c : Int) from rfl, ← HU.out.2]; omega) (by rw [bornPg_bit]; rfl) (by show (0 : Int) ≤ 0 + 1 ∧ (0 : Int) + 1 ≤ 256; decide))
  have hq1 : ((B : Int) + 4096 * (i : Int) + (wd : Int) - ((B : Int) + 4096 * (i : Int))) / (wd : Int) = 1 := by
    rw [show (B : Int) + 4096 * (i : Int) + (wd : Int) - ((B : Int) + 4096 * (i : Int)) = (wd : Int) by omega]
    exact hdd
  clear T5 T35 b6 cw d0' hdd
  go_wp2_with fail
  refine HOw.out.mono ?_
  rintro e w6 ⟨rfl, r6, t6⟩
  have R6 := (HS3.out.touch0 HT5.out).po.bu.paged r6 t6 rfl (List.length_set ..)
  have S6 := (HS3.out.touch0 HT5.out).next R6.2 (BuL.Next.refl _ _) R6.1
  have hp6 : ((β1.born i c).μ.setPage i ((bornPg c).own 0 true)).pages[i]? = some ((bornPg c).own 0 true) := Mp.setPage_get _ (born_page HP.out)
  have HFi := Lib.hid (S6.po.bu.mp.first_ hp6 rfl 1 (by omega) (by rw [show ((bornPg c).own 0 true).cls = (c : Int) from rfl, ← HU.out.2]; omega))
  have HT6 := Lib.hid R6.2
  have HS6 := Lib.hid S6
  clear r6 t6 R6 S6 hp6 hq1 f6 fw ne0
  go_wp2_with fail
  refine HFi.out.mono ?_
  rintro e w7 ⟨rfl, r7, t7⟩
  have R7 := HS6.out.po.bu.paged r7 t7 rfl (List.length_set ..)
  have S7 := HS6.out.next R7.2 (BuL.Next.refl _ _) R7.1
  have HT7 := Lib.hid R7.2
  have HS7 := Lib.hid S7
  clear r7 t7 R7 S7
  go_wp2_with fail
  go_ret3
  refine ⟨?_, K1, ?_, HN1.out, ?_⟩
  · rw [HAB.out]
    show Ending.returned _ = _
    congr 3
  · have e : (β1.newCell i c).μ = ((β1.born i c).μ.setPage i ((bornPg c).own 0 true)).setPage i { (bornPg c).own 0 true with first := 1 } := by rw [Mp.setPage_set]; rfl
    have e2 : β1.newCell i c = ⟨(β1.born i c).σ, ((β1.born i c).μ.setPage i ((bornPg c).own 0 true)).setPage i { (bornPg c).own 0 true with first := 1 }, (β1.born i c).heads⟩ := by rw [← e]; rfl
    rw [e2]
    exact HS7.out
  · have T := HT1.out.mono (T := (· ∈ s :: K.fp)) (fun b _ hb => List.mem_cons_of_mem _ hb)
    have TT := (((HT2.out.trans HT3.out.none_).trans HT5.out.none_).trans (HT6.out.mono (T := (· ∈ s :: K1.fp)) (fun b _ hb => List.mem_cons_of_mem _ hb))).trans (HT7.out.mono (T := (· ∈ s :: K1.fp)) (fun b _ hb => List.mem_cons_of_mem _ hb))
    refine T.trans' TT (fun b hb hm => ?_)
    rcases List.mem_cons.1 hm with e | hm
    · simp [e]
    · rcases HN1.out.fresh b hm with h | h
      · simp [h]
      · omega


set_option maxRecDepth 100000 in
theorem SlRep.take_none {w : World} {s pb : Nat} {K : BuL} {β : Bu} {ps : List Int} (R : SlRep w s pb K β ps) (c : Nat) (deny : Bool) (hc : c < 8) (he : ps.getD c 0 = -1)
    (HN0 : Calls Tryz.prog 193 #[.pointer (some ⟨pb, 0, none⟩), .int .i64 0, .bool deny] w fun e w' => e = .returned (.tuple #[.int .u64 0, .bool false, .int .i64 2]) ∧ Touch Nothing w w') :
    Calls Tryz.prog 191 #[.pointer (some ⟨s, 0, none⟩), .int .i64 c, .bool deny] w (Taken w s pb K β ps (.tuple #[.int .u64 0, .bool false, .int .i64 2])) := by
  have c0 := R.pool
  have c1 := R.part c hc
  rw [he] at c1
  have HN := Lib.hid HN0
  have HR := Lib.hid R
  clear R he HN0
  go_enter Tryz.func191, Tryz.ntmps191
  go_wp2_with fail
  refine HN.out.mono ?_
  rintro e w1 ⟨rfl, T1⟩
  have HT1 := Lib.hid T1
  clear T1 c0 c1
  go_wp2_with fail
  go_ret3
  exact ⟨rfl, K, HR.out.touch0 HT1.out, BuL.Next.refl _ _, HT1.out.none_⟩

end Go.Proofs.YtnjcmcnjgdjbiaaGreatDoor
