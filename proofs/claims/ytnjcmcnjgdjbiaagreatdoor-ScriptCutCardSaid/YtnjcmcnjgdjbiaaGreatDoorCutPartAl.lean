/- The walks of package slab's Give, three ways, and of the pool's Give. Conditions: as each theorem states. -/
import Derived.Test.YtnjcmcnjgdjbiaaGreatDoorCutPartAk
import Derived.Test.YtnjcmcnjgdjbiaaGreatDoorCutPartAh
set_option maxRecDepth 100000
set_option maxHeartbeats 2000000
namespace Go.Proofs.YtnjcmcnjgdjbiaaGreatDoor
open Go.RowKit
theorem PoRep.give_ {w : World} {pb : Nat} {K : BuL} {β : Bu} {F : Nat → List Nat} (R : PoRep w pb K β) (I : BInv β F NoHole) {a k : Nat} (hk : k ≤ β.μ.order) (hB : BlkAt β.μ.pages a k 2) :
  Calls Tryz.prog 197 #[.pointer (some ⟨pb, 0, none⟩), .int .u64 (β.addr a : Nat), .int .i64 k] w (Needed w pb K (β.given F a k) (.int .i64 0)) := by
 obtain ⟨-, -, c2⟩ := R.cells
 have HG := Hd (R.bu.give_ I hk hB)
 have HR := Hd R
 clear R I hB hk
 go_enter Tryz.func197, Tryz.ntmps197
 go_wp2_with fail
 refine HG.out.mono ?_
 rintro e w1 ⟨rfl, R1, T1⟩
 have HR1 := Hd R1
 have HT1 := Hd T1
 clear R1 T1
 go_wp2_with fail
 go_ret
 exact ⟨rfl, K, HR.out.next HT1.out (BuL.Next.refl _ _) HR1.out, BuL.Next.refl _ _, HT1.out⟩
def HangOk (μ : Mp) (i : Nat) (h : Int) : Prop := h = -1 ∨ ∃ (j : Nat) (q : Pg), h = j ∧ j ≠ i ∧ μ.pages[j]? = some q ∧ q.kind = 4 ∧ q.next < μ.pages.length
theorem HangOk.page {μ : Mp} {i : Nat} {h : Int} (H : HangOk μ i h) {p : Pg} (hi : μ.pages[i]? = some p) : (μ.hung2 i h).pages[i]? = some { p with next := h, prev := -1 } := by
 have hne : h ≠ i := by
  rcases H with e | ⟨j, q, e, hj, _⟩ <;> omega
 rw [hung2_get _ _ _ _ hne, hi]
 simp
theorem SlRep.hangs_ {w : World} {s pb : Nat} {K : BuL} {β : Bu} {ps : List Int} (R : SlRep w s pb K β ps) (i c : Nat) {p : Pg} (hi : β.μ.pages[i]? = some p) (hk : p.kind = 4) (hc : c < 8) (H : HangOk β.μ i (ps.getD c 0)) :
  Calls Tryz.prog 252 #[.pointer (some ⟨s, 0, none⟩), .int .i64 i, .int .i64 c] w fun e w' => e = .returned (.tuple #[]) ∧ SlRep w' s pb K { β with μ := β.μ.hung2 i (ps.getD c 0) } (ps.set c i) ∧ Touch (· ∈ s :: K.fp) w w' := by
 rcases H with he | ⟨j, q, he, hji, hj, hqk, hqn⟩
 ·have := R.hang_ i c hi hk hc he
  have e : β.μ.hung2 i (ps.getD c 0) = SlRep.hung β.μ i p := by
   unfold Mp.hung2 SlRep.hung
   rw [he]
   simp only [show (-1 : Int) < 0 by decide, if_true]
   rw [modPage_of (j := i) (q := p) _ hi]
  rw [e]
  exact this
 ·have := R.hang2_ i c j hi hk hc he hji hj hqk hqn
  rw [he]
  exact this
theorem SlRep.give_more {w : World} {s pb : Nat} {K : BuL} {β : Bu} {ps : List Int} (R : SlRep w s pb K β ps) (G : Glob w) (hfar : ∀ k ∈ s :: pb :: K.fp, 9 ≤ k) (c i x f : Nat) {p : Pg} (hc : c < 8) (hl : β.μ.pages.length = β.σ.n * 2 ^ β.μ.order)
  (hi : β.μ.pages[i]? = some p) (hk : p.kind = 4) (hcl : p.cls = c) (hx : x < cellsN c) (hb : p.bit x = true) (hf : p.first = (f : Int)) (hfl : f < cellsN c) (hlv : 1 < p.live ∧ p.live ≤ 256) :
  Calls Tryz.prog 196 #[.pointer (some ⟨s, 0, none⟩), .int .u64 (β.addr i + x * wdOf c : Nat)] w
   (Taken w s pb K { β with σ := β.σ.put (β.addr i + x * wdOf c) (wordBytes (β.addr i + f * wdOf c)), μ := β.μ.setPage i (p.give x) } ps (.int .i64 0)) := by
 have c0 := R.pool
 have ls := R.lt s (by simp)
 have hlt := (List.getElem?_eq_some_iff.1 hi).1
 have hlen := R.po.bu.mp.ok.len
 have htop : β.σ.base + 4096 * i + 4096 ≤ 18446744073709551615 := R.po.bu.ok.addr_top R.po.bu.sp.ok hlt
 obtain ⟨u1, u2, u3, u4, u5, u6⟩ := wd_facts hc
 have hin : x * wdOf c + wdOf c ≤ 4096 := by
  have := cell_in c (by omega) hx
  simpa using this
 have hval : p.val = .agg #[.int .i64 p.kind, .int .i64 p.order, .int .i64 (c : Int), .int .i64 p.live, .int .i64 p.next, .int .i64 p.prev, .int .i64 (f : Int), .int .u64 p.b0, .int .u64 p.b1, .int .u64 p.b2, .int .u64 p.b3] := by
  unfold Pg.val
  rw [hcl, hf]
 have hfd := R.find_ G i c x hi hk hcl hc hx hl
 rw [hval, hb] at hfd
 have HFd := Hd hfd
 have HR := Hd R
 have HG := Hd G
 have HFar := Hd hfar
 have HI := Hd hi
 have HK := Hd hk
 have HCl := Hd hcl
 have HBit := Hd hb
 have HL := Hd hl
 have HLv := Hd hlv
 have HX := Hd hx
 have HC := Hd hc
 have HHas : Hid (β.σ.has (β.σ.base + 4096 * i + x * wdOf c) 8) := Hd (R.po.bu.ok.has (i := i) (off := x * wdOf c) (n := 8) hlt (by omega) (by omega))
 have hi3 : i ≤ 1023 := by omega
 have hx256 : x < 256 := by omega
 have hsm := Hd (own_same p x false)
 have hin2 : f * wdOf c + wdOf c ≤ 4096 := by
  have := cell_in c (by omega) hfl
  simpa using this
 have hf256 : f < 256 := by omega
 have hlv1 : (p.live == 1) = false := by rw [beq_eq_false_iff_ne]; omega
 obtain ⟨d, hd⟩ : ∃ d, d = f * wdOf c := ⟨_, rfl⟩
 have hdi : (f : Int) * (wdOf c : Int) = (d : Int) := by rw [hd]; simp
 rw [← hd] at hin2 ⊢
 clear hfl hf hd
 obtain ⟨P, hP⟩ : ∃ P, P = β.addr i + x * wdOf c := ⟨_, rfl⟩
 rw [← hP] at HFd ⊢
 have HP := Hd hP
 have hPle : P ≤ 18446744073709551615 := by unfold Bu.addr at hP; omega
 clear R G hfar hl hi hk hcl hx hb hlv hval hfd hlt hlen hP hin u3 u4 u5 u6
 go_enter Tryz.func196, Tryz.ntmps196
 go_wp2_with fail
 refine HFd.out.mono ?_
 rintro e w1 ⟨rfl, T1⟩
 have d0 : w1.cell? ⟨s, 0, none⟩ = some (.pointer (some ⟨pb, 0, none⟩)) := (HR.out.touch0 T1).pool
 have ls1 : s < w1.heap.size := Nat.lt_of_lt_of_le ls T1.size
 have HT1 := Hd T1
 clear T1 c0 HFd
 go_wp2_with fail
 have T2 := HT1.out.alloc (.cells #[.int .i64 p.kind, .int .i64 p.order, .int .i64 (c : Int), .int .i64 p.live, .int .i64 p.next, .int .i64 p.prev, .int .i64 (f : Int), .int .u64 p.b0, .int .u64 p.b1, .int .u64 p.b2, .int .u64 p.b3] 128)
 have B2 := Blk.new w1 #[.int .i64 p.kind, .int .i64 p.order, .int .i64 (c : Int), .int .i64 p.live, .int .i64 p.next, .int .i64 p.prev, .int .i64 (f : Int), .int .u64 p.b0, .int .u64 p.b1, .int .u64 p.b2, .int .u64 p.b3] 128
 refine ((HR.out.touch0 T2).po.map_).mono ?_
 rintro e w2 ⟨rfl, rfl⟩
 generalize w1.alloc (.cells #[.int .i64 p.kind, .int .i64 p.order, .int .i64 (c : Int), .int .i64 p.live, .int .i64 p.next, .int .i64 p.prev, .int .i64 (f : Int), .int .u64 p.b0, .int .u64 p.b1, .int .u64 p.b2, .int .u64 p.b3] 128) = w2 at *
 have hx2 : w1.heap.size < w2.heap.size := B2.lt
 have hXf : ∀ k, k ∈ s :: pb :: K.fp → k < w1.heap.size := (HR.out.touch0 HT1.out).lt
 have hXk : w1.heap.size ∉ s :: K.fp := fun h => by
  have := hXf w1.heap.size (by rcases List.mem_cons.1 h with h | h <;> simp [h])
  omega
 have hX9 : w.heap.size ≤ w1.heap.size := HT1.out.size
 have HXk := Hd hXk
 have HX9 := Hd hX9
 clear hXf hXk hX9
 generalize hXe : w1.heap.size = X at *
 have S2 := HR.out.touch0 T2
 have HOw := Hd (S2.po.bu.mp.own_ HI.out HK.out x false (by rw [HCl.out]; exact HX.out) (by rw [HBit.out]; rfl) (by have := HLv.out; show 0 ≤ p.live - 1 ∧ p.live - 1 ≤ 256; omega))
 have HT2 := Hd T2
 have HB2 := Hd B2
 have HS2 := Hd S2
 clear T2 B2 S2 d0
 go_wp2_with fail
 refine HOw.out.mono ?_
 rintro e w3 ⟨rfl, r3, t3⟩
 have R3 := HS2.out.paged r3 t3 rfl (List.length_set ..)
 have HB3 := Hd (R3.1.base_ ((List.length_set ..).trans HL.out))
 have HS3 := Hd R3.1
 have HT3 := Hd R3.2
 clear r3 t3 R3 HOw
 go_wp2_with fail
 refine HB3.out.mono ?_
 rintro e w4 ⟨rfl, k4, rfl⟩
 have T4 : Touch (· ∈ s :: K.fp) w2 (w3.drewN k4) := (HT3.out.mono (fun k _ h => List.mem_cons_of_mem _ h)).drewN k4
 have S4 := HS3.out.drewN k4
 generalize w3.drewN k4 = w4 at *
 have B4 := HB2.out.touch T4 HXk.out
 have b2 : w4.cell? ⟨X, 2, none⟩ = some (.int .i64 (c : Int)) := B4.cell 2
 have b3 : w4.cell? ⟨X, 3, none⟩ = some (.int .i64 p.live) := B4.cell 3
 have b6 : w4.cell? ⟨X, 6, none⟩ = some (.int .i64 (f : Int)) := B4.cell 6
 have HT4 := Hd (HT2.out.none_.trans T4)
 have HS4 := Hd S4
 have hp4 : (β.μ.setPage i (p.own x false)).pages[i]? = some (p.own x false) := Mp.setPage_get _ HI.out
 have HP4 := Hd hp4
 have d0 : w4.cell? ⟨s, 0, none⟩ = some (.pointer (some ⟨pb, 0, none⟩)) := S4.pool
 have hfp : ∀ k, k < 9 → ¬ k ∈ s :: K.fp := fun k hk h => by have := HFar.out k (by rcases List.mem_cons.1 h with h | h <;> simp [h]); omega
 have cw : w4.cell? ⟨1, c, none⟩ = some (.int .u64 (wdOf c : Nat)) := (HG.out.touch HT4.out hfp).widths c HC.out
 have hbase : (β.σ.base : Int) + 4096 * (i : Int) + 4096 ≤ 18446744073709551615 := by omega
 have HSp := Hd (fun k => ((S4.drewN k).po.space_))
 have HSW := Hd (fun k => (S4.drewN k).po.bu.sp.setWord_ P (β.σ.base + 4096 * i + d) (by rw [HP.out]; exact HHas.out) (by omega))
 have ev : ((β.σ.base + 4096 * i + d : Nat) : Int) = (β.σ.base : Int) + 4096 * (i : Int) + (d : Int) := by omega
 rw [ev] at HSW
 have hw0 : (wdOf c : Int) ≤ 2048 := by omega
 clear T4 S4 B4 hp4 hfp ev
 generalize wdOf c = wd at *
 generalize hBs : β.σ.base = B at *
 have hc7 : (c : Int) < 8 := by have := HC.out; omega
 have HBs := Hd hBs
 clear hBs
 have HD := Hd (And.intro hdi (And.intro hin2 (And.intro hw0 hbase)))
 clear hdi hin2 hw0 hbase
 have hf0 : ¬ ((f : Int) < 0) := by omega
 have hf1 : (0 : Int) ≤ (f : Int) := by omega
 go_wp2_with fail
 have hdi := HD.out.1
 have hin2 := HD.out.2.1
 have hw0 := HD.out.2.2.1
 have hbase := HD.out.2.2.2
 go_quiet (fail)
 go_wp2_with fail
 refine (HSp.out _).mono ?_
 rintro e w5 ⟨rfl, rfl⟩
 go_wp2_with fail
 refine (HSW.out _).mono ?_
 rintro e w6 ⟨rfl, r6, t6⟩
 have R6 := (HS4.out.drewN nq).po.bu.bytes r6 t6 (Sp.put_same ..)
 have S6 := (HS4.out.drewN nq).next R6.2 (BuL.Next.refl _ _) R6.1
 have HFi := Hd (S6.po.bu.mp.first_ HP4.out (hsm.out.1.trans HK.out) (x : Int) (by omega) (by rw [hsm.out.2.2.1, HCl.out]; have := HX.out; omega))
 have HS6 := Hd S6
 have HT6 := Hd ((HT4.out.drewN nq).trans (R6.2.mono (fun k _ h => List.mem_cons_of_mem s h)))
 clear r6 t6 R6 S6 b2 b3 b6 cw d0
 go_wp2_with fail
 refine HFi.out.mono ?_
 rintro e w7 ⟨rfl, r7, t7⟩
 have R7 := HS6.out.paged r7 t7 rfl (List.length_set ..)
 have e7 : (β.μ.setPage i (p.own x false)).setPage i { p.own x false with first := (x : Int) } = β.μ.setPage i (p.give x) := by rw [Mp.setPage_set]; rfl
 have hS7 : SlRep w7 s pb K { β with σ := β.σ.put P (wordBytes (B + 4096 * i + d)), μ := β.μ.setPage i (p.give x) } ps := by rw [← e7]; exact R7.1
 have HS7 := Hd hS7
 have HT7 := Hd (HT6.out.trans (R7.2.mono (fun k _ h => List.mem_cons_of_mem s h)))
 clear r7 t7 R7 e7 hS7
 go_wp2_with fail
 go_ret
 have ea : β.addr i + d = B + 4096 * i + d := by rw [← HBs.out]; rfl
 rw [ea]
 exact ⟨rfl, K, HS7.out, BuL.Next.refl _ _, HT7.out⟩
theorem SlRep.give_one {w : World} {s pb : Nat} {K : BuL} {β : Bu} {ps : List Int} (R : SlRep w s pb K β ps) (G : Glob w) (hfar : ∀ k ∈ s :: pb :: K.fp, 9 ≤ k) (c i x : Nat) {p : Pg} (hc : c < 8) (hl : β.μ.pages.length = β.σ.n * 2 ^ β.μ.order)
  (hi : β.μ.pages[i]? = some p) (hk : p.kind = 4) (hcl : p.cls = c) (hx : x < cellsN c) (hb : p.bit x = true) (hf : p.first = -1) (hlv : 1 < p.live ∧ p.live ≤ 256) (hg : HangOk (β.μ.setPage i (p.own x false)) i (ps.getD c 0)) :
  Calls Tryz.prog 196 #[.pointer (some ⟨s, 0, none⟩), .int .u64 (β.addr i + x * wdOf c : Nat)] w
   (Taken w s pb K { β with σ := β.σ.put (β.addr i + x * wdOf c) (wordBytes 0), μ := ((β.μ.setPage i (p.own x false)).hung2 i (ps.getD c 0)).setPage i { p.own x false with next := ps.getD c 0, prev := -1, first := (x : Int) } } (ps.set c i) (.int .i64 0)) := by
 have c0 := R.pool
 have ls := R.lt s (by simp)
 have hlt := (List.getElem?_eq_some_iff.1 hi).1
 have hlen := R.po.bu.mp.ok.len
 have htop : β.σ.base + 4096 * i + 4096 ≤ 18446744073709551615 := R.po.bu.ok.addr_top R.po.bu.sp.ok hlt
 obtain ⟨u1, u2, u3, u4, u5, u6⟩ := wd_facts hc
 have hin : x * wdOf c + wdOf c ≤ 4096 := by
  have := cell_in c (by omega) hx
  simpa using this
 have hval : p.val = .agg #[.int .i64 p.kind, .int .i64 p.order, .int .i64 (c : Int), .int .i64 p.live, .int .i64 p.next, .int .i64 p.prev, .int .i64 (-1), .int .u64 p.b0, .int .u64 p.b1, .int .u64 p.b2, .int .u64 p.b3] := by
  unfold Pg.val
  rw [hcl, hf]
 have hfd := R.find_ G i c x hi hk hcl hc hx hl
 rw [hval, hb] at hfd
 have HFd := Hd hfd
 have HR := Hd R
 have HG := Hd G
 have HFar := Hd hfar
 have HI := Hd hi
 have HK := Hd hk
 have HCl := Hd hcl
 have HBit := Hd hb
 have HL := Hd hl
 have HLv := Hd hlv
 have HX := Hd hx
 have HC := Hd hc
 have HHas : Hid (β.σ.has (β.σ.base + 4096 * i + x * wdOf c) 8) := Hd (R.po.bu.ok.has (i := i) (off := x * wdOf c) (n := 8) hlt (by omega) (by omega))
 have hi3 : i ≤ 1023 := by omega
 have hx256 : x < 256 := by omega
 have hsm := Hd (own_same p x false)
 have hlv1 : (p.live == 1) = false := by rw [beq_eq_false_iff_ne]; omega
 have HHg := Hd hg
 clear hf hg
 obtain ⟨P, hP⟩ : ∃ P, P = β.addr i + x * wdOf c := ⟨_, rfl⟩
 rw [← hP] at HFd ⊢
 have HP := Hd hP
 have hPle : P ≤ 18446744073709551615 := by unfold Bu.addr at hP; omega
 clear R G hfar hl hi hk hcl hx hb hlv hval hfd hlt hlen hP hin u3 u4 u5 u6
 go_enter Tryz.func196, Tryz.ntmps196
 go_wp2_with fail
 refine HFd.out.mono ?_
 rintro e w1 ⟨rfl, T1⟩
 have d0 : w1.cell? ⟨s, 0, none⟩ = some (.pointer (some ⟨pb, 0, none⟩)) := (HR.out.touch0 T1).pool
 have ls1 : s < w1.heap.size := Nat.lt_of_lt_of_le ls T1.size
 have HT1 := Hd T1
 clear T1 c0 HFd
 go_wp2_with fail
 have T2 := HT1.out.alloc (.cells #[.int .i64 p.kind, .int .i64 p.order, .int .i64 (c : Int), .int .i64 p.live, .int .i64 p.next, .int .i64 p.prev, .int .i64 (-1), .int .u64 p.b0, .int .u64 p.b1, .int .u64 p.b2, .int .u64 p.b3] 128)
 have B2 := Blk.new w1 #[.int .i64 p.kind, .int .i64 p.order, .int .i64 (c : Int), .int .i64 p.live, .int .i64 p.next, .int .i64 p.prev, .int .i64 (-1), .int .u64 p.b0, .int .u64 p.b1, .int .u64 p.b2, .int .u64 p.b3] 128
 refine ((HR.out.touch0 T2).po.map_).mono ?_
 rintro e w2 ⟨rfl, rfl⟩
 generalize w1.alloc (.cells #[.int .i64 p.kind, .int .i64 p.order, .int .i64 (c : Int), .int .i64 p.live, .int .i64 p.next, .int .i64 p.prev, .int .i64 (-1), .int .u64 p.b0, .int .u64 p.b1, .int .u64 p.b2, .int .u64 p.b3] 128) = w2 at *
 have hx2 : w1.heap.size < w2.heap.size := B2.lt
 have hXf : ∀ k, k ∈ s :: pb :: K.fp → k < w1.heap.size := (HR.out.touch0 HT1.out).lt
 have hXk : w1.heap.size ∉ s :: K.fp := fun h => by
  have := hXf w1.heap.size (by rcases List.mem_cons.1 h with h | h <;> simp [h])
  omega
 have hX9 : w.heap.size ≤ w1.heap.size := HT1.out.size
 have HXk := Hd hXk
 have HX9 := Hd hX9
 clear hXf hXk hX9
 generalize hXe : w1.heap.size = X at *
 have S2 := HR.out.touch0 T2
 have HOw := Hd (S2.po.bu.mp.own_ HI.out HK.out x false (by rw [HCl.out]; exact HX.out) (by rw [HBit.out]; rfl) (by have := HLv.out; show 0 ≤ p.live - 1 ∧ p.live - 1 ≤ 256; omega))
 have HT2 := Hd T2
 have HB2 := Hd B2
 have HS2 := Hd S2
 clear T2 B2 S2 d0
 go_wp2_with fail
 refine HOw.out.mono ?_
 rintro e w3 ⟨rfl, r3, t3⟩
 have R3 := HS2.out.paged r3 t3 rfl (List.length_set ..)
 have HB3 := Hd (R3.1.base_ ((List.length_set ..).trans HL.out))
 have HS3 := Hd R3.1
 have HT3 := Hd R3.2
 clear r3 t3 R3 HOw
 go_wp2_with fail
 refine HB3.out.mono ?_
 rintro e w4 ⟨rfl, k4, rfl⟩
 have T4 : Touch (· ∈ s :: K.fp) w2 (w3.drewN k4) := (HT3.out.mono (fun k _ h => List.mem_cons_of_mem _ h)).drewN k4
 have S4 := HS3.out.drewN k4
 generalize w3.drewN k4 = w4 at *
 have B4 := HB2.out.touch T4 HXk.out
 have b2 : w4.cell? ⟨X, 2, none⟩ = some (.int .i64 (c : Int)) := B4.cell 2
 have b3 : w4.cell? ⟨X, 3, none⟩ = some (.int .i64 p.live) := B4.cell 3
 have b6 : w4.cell? ⟨X, 6, none⟩ = some (.int .i64 (-1)) := B4.cell 6
 have HT4 := Hd (HT2.out.none_.trans T4)
 have HS4 := Hd S4
 have hp4 : (β.μ.setPage i (p.own x false)).pages[i]? = some (p.own x false) := Mp.setPage_get _ HI.out
 have HP4 := Hd hp4
 have d0 : w4.cell? ⟨s, 0, none⟩ = some (.pointer (some ⟨pb, 0, none⟩)) := S4.pool
 have HHa := Hd (S4.hangs_ i c HP4.out (hsm.out.1.trans HK.out) HC.out HHg.out)
 clear T4 S4 hp4
 have HB4 := Hd B4
 clear B4
 generalize wdOf c = wd at *
 go_wp2_with fail
 refine HHa.out.mono ?_
 rintro e w5 ⟨rfl, S5, T5⟩
 have B5 := HB4.out.touch T5 HXk.out
 have b6' : w5.cell? ⟨X, 6, none⟩ = some (.int .i64 (-1)) := B5.cell 6
 have d0' : w5.cell? ⟨s, 0, none⟩ = some (.pointer (some ⟨pb, 0, none⟩)) := S5.pool
 have HSp := Hd S5.po.space_
 have HSW := Hd (S5.po.bu.sp.setWord_ P 0 (by rw [HP.out]; exact HHas.out) (by omega))
 have HS5 := Hd S5
 have HT5 := Hd (HT4.out.trans T5)
 clear S5 T5 B5 b2 b3 b6 d0
 go_wp2_with fail
 refine HSp.out.mono ?_
 rintro e w6 ⟨rfl, rfl⟩
 go_wp2_with fail
 refine HSW.out.mono ?_
 rintro e w6 ⟨rfl, r6, t6⟩
 have R6 := HS5.out.po.bu.bytes r6 t6 (Sp.put_same ..)
 have S6 := HS5.out.next R6.2 (BuL.Next.refl _ _) R6.1
 have hp6 := (HHg.out.page HP4.out)
 have HFi := Hd (S6.po.bu.mp.first_ hp6 (hsm.out.1.trans HK.out) (x : Int) (by omega) (by show (x : Int) < cellsN (p.own x false).cls; rw [hsm.out.2.2.1, HCl.out]; have := HX.out; omega))
 have HS6 := Hd S6
 have HT6 := Hd (HT5.out.trans (R6.2.mono (fun k _ h => List.mem_cons_of_mem s h)))
 clear r6 t6 R6 S6 b6' d0' hp6
 go_wp2_with fail
 refine HFi.out.mono ?_
 rintro e w7 ⟨rfl, r7, t7⟩
 have R7 := HS6.out.paged r7 t7 rfl (List.length_set ..)
 have HS7 := Hd R7.1
 have HT7 := Hd (HT6.out.trans (R7.2.mono (fun k _ h => List.mem_cons_of_mem s h)))
 clear r7 t7 R7
 go_wp2_with fail
 go_ret
 exact ⟨rfl, K, HS7.out, BuL.Next.refl _ _, HT7.out⟩
theorem SlRep.give_last {w : World} {s pb : Nat} {K : BuL} {β : Bu} {ps : List Int} {F : Nat → List Nat} (R : SlRep w s pb K β ps) (G : Glob w) (hfar : ∀ k ∈ s :: pb :: K.fp, 9 ≤ k) (c i x : Nat) {p : Pg} (hc : c < 8) (hl : β.μ.pages.length = β.σ.n * 2 ^ β.μ.order)
  (hi : β.μ.pages[i]? = some p) (hk : p.kind = 4) (hcl : p.cls = c) (hx : x < cellsN c) (hb : p.bit x = true) (hlv : p.live = 1) (hnp : NbOk (β.μ.setPage i (p.own x false)) i p.prev) (hnn : NbOk (β.μ.setPage i (p.own x false)) i p.next) (hne : p.prev = -1 ∨ p.prev ≠ p.next)
  (I : BInv { β with μ := ((β.μ.setPage i (p.own x false)).unhung i (p.own x false)).run i 0 2 } F NoHole) (hB : BlkAt (((β.μ.setPage i (p.own x false)).unhung i (p.own x false)).run i 0 2).pages i 0 2) :
  Calls Tryz.prog 196 #[.pointer (some ⟨s, 0, none⟩), .int .u64 (β.addr i + x * wdOf c : Nat)] w
   (Taken w s pb K (Bu.given { β with μ := ((β.μ.setPage i (p.own x false)).unhung i (p.own x false)).run i 0 2 } F i 0) (unps ps c (p.own x false)) (.int .i64 0)) := by
 have c0 := R.pool
 have ls := R.lt s (by simp)
 have hlt := (List.getElem?_eq_some_iff.1 hi).1
 have hlen := R.po.bu.mp.ok.len
 have htop : β.σ.base + 4096 * i + 4096 ≤ 18446744073709551615 := R.po.bu.ok.addr_top R.po.bu.sp.ok hlt
 obtain ⟨u1, u2, u3, u4, u5, u6⟩ := wd_facts hc
 have hin : x * wdOf c + wdOf c ≤ 4096 := by
  have := cell_in c (by omega) hx
  simpa using this
 have hval : p.val = .agg #[.int .i64 p.kind, .int .i64 p.order, .int .i64 (c : Int), .int .i64 1, .int .i64 p.next, .int .i64 p.prev, .int .i64 p.first, .int .u64 p.b0, .int .u64 p.b1, .int .u64 p.b2, .int .u64 p.b3] := by
  unfold Pg.val
  rw [hcl, hlv]
 have hfd := R.find_ G i c x hi hk hcl hc hx hl
 rw [hval, hb] at hfd
 have HFd := Hd hfd
 have HR := Hd R
 have HG := Hd G
 have HFar := Hd hfar
 have HI := Hd hi
 have HK := Hd hk
 have HCl := Hd hcl
 have HBit := Hd hb
 have HL := Hd hl
 have HLv := Hd hlv
 have HX := Hd hx
 have HC := Hd hc
 have HHas : Hid (β.σ.has (β.σ.base + 4096 * i + x * wdOf c) 8) := Hd (R.po.bu.ok.has (i := i) (off := x * wdOf c) (n := 8) hlt (by omega) (by omega))
 have hi3 : i ≤ 1023 := by omega
 have hx256 : x < 256 := by omega
 have hsm := Hd (own_same p x false)
 have HNb := Hd (And.intro hnp (And.intro hnn hne))
 have HInv := Hd I
 have HBl := Hd hB
 clear hnp hnn hne I hB
 obtain ⟨P, hP⟩ : ∃ P, P = β.addr i + x * wdOf c := ⟨_, rfl⟩
 rw [← hP] at HFd ⊢
 have HP := Hd hP
 have hPle : P ≤ 18446744073709551615 := by unfold Bu.addr at hP; omega
 clear R G hfar hl hi hk hcl hx hb hlv hval hfd hlt hlen hP hin u3 u4 u5 u6
 go_enter Tryz.func196, Tryz.ntmps196
 go_wp2_with fail
 refine HFd.out.mono ?_
 rintro e w1 ⟨rfl, T1⟩
 have d0 : w1.cell? ⟨s, 0, none⟩ = some (.pointer (some ⟨pb, 0, none⟩)) := (HR.out.touch0 T1).pool
 have ls1 : s < w1.heap.size := Nat.lt_of_lt_of_le ls T1.size
 have HT1 := Hd T1
 clear T1 c0 HFd
 go_wp2_with fail
 have T2 := HT1.out.alloc (.cells #[.int .i64 p.kind, .int .i64 p.order, .int .i64 (c : Int), .int .i64 1, .int .i64 p.next, .int .i64 p.prev, .int .i64 p.first, .int .u64 p.b0, .int .u64 p.b1, .int .u64 p.b2, .int .u64 p.b3] 128)
 have B2 := Blk.new w1 #[.int .i64 p.kind, .int .i64 p.order, .int .i64 (c : Int), .int .i64 1, .int .i64 p.next, .int .i64 p.prev, .int .i64 p.first, .int .u64 p.b0, .int .u64 p.b1, .int .u64 p.b2, .int .u64 p.b3] 128
 refine ((HR.out.touch0 T2).po.map_).mono ?_
 rintro e w2 ⟨rfl, rfl⟩
 generalize w1.alloc (.cells #[.int .i64 p.kind, .int .i64 p.order, .int .i64 (c : Int), .int .i64 1, .int .i64 p.next, .int .i64 p.prev, .int .i64 p.first, .int .u64 p.b0, .int .u64 p.b1, .int .u64 p.b2, .int .u64 p.b3] 128) = w2 at *
 have hx2 : w1.heap.size < w2.heap.size := B2.lt
 have hXf : ∀ k, k ∈ s :: pb :: K.fp → k < w1.heap.size := (HR.out.touch0 HT1.out).lt
 have hXk : w1.heap.size ∉ s :: K.fp := fun h => by
  have := hXf w1.heap.size (by rcases List.mem_cons.1 h with h | h <;> simp [h])
  omega
 have hX9 : w.heap.size ≤ w1.heap.size := HT1.out.size
 have HXk := Hd hXk
 have HX9 := Hd hX9
 clear hXf hXk hX9
 generalize hXe : w1.heap.size = X at *
 have S2 := HR.out.touch0 T2
 have HOw := Hd (S2.po.bu.mp.own_ HI.out HK.out x false (by rw [HCl.out]; exact HX.out) (by rw [HBit.out]; rfl) (by have := HLv.out; show 0 ≤ p.live - 1 ∧ p.live - 1 ≤ 256; omega))
 have HT2 := Hd T2
 have HB2 := Hd B2
 have HS2 := Hd S2
 clear T2 B2 S2 d0
 go_wp2_with fail
 refine HOw.out.mono ?_
 rintro e w3 ⟨rfl, r3, t3⟩
 have R3 := HS2.out.paged r3 t3 rfl (List.length_set ..)
 have HB3 := Hd (R3.1.base_ ((List.length_set ..).trans HL.out))
 have HS3 := Hd R3.1
 have HT3 := Hd R3.2
 clear r3 t3 R3 HOw
 go_wp2_with fail
 refine HB3.out.mono ?_
 rintro e w4 ⟨rfl, k4, rfl⟩
 have T4 : Touch (· ∈ s :: K.fp) w2 (w3.drewN k4) := (HT3.out.mono (fun k _ h => List.mem_cons_of_mem _ h)).drewN k4
 have S4 := HS3.out.drewN k4
 generalize w3.drewN k4 = w4 at *
 have B4 := HB2.out.touch T4 HXk.out
 have b2 : w4.cell? ⟨X, 2, none⟩ = some (.int .i64 (c : Int)) := B4.cell 2
 have b3 : w4.cell? ⟨X, 3, none⟩ = some (.int .i64 1) := B4.cell 3
 have b6 : w4.cell? ⟨X, 6, none⟩ = some (.int .i64 p.first) := B4.cell 6
 have HT4 := Hd (HT2.out.none_.trans T4)
 have HS4 := Hd S4
 have hp4 : (β.μ.setPage i (p.own x false)).pages[i]? = some (p.own x false) := Mp.setPage_get _ HI.out
 have HP4 := Hd hp4
 have d0 : w4.cell? ⟨s, 0, none⟩ = some (.pointer (some ⟨pb, 0, none⟩)) := S4.pool
 have HHa := Hd (S4.unhang_ i c HP4.out (hsm.out.1.trans HK.out) HC.out (by rw [hsm.out.2.2.2.2.1]; exact HNb.out.1) (by rw [hsm.out.2.2.2.1]; exact HNb.out.2.1) (by rw [hsm.out.2.2.2.2.1, hsm.out.2.2.2.1]; exact HNb.out.2.2))
 have hbase : (β.σ.base : Int) + 4096 * (i : Int) + 4096 ≤ 18446744073709551615 := by omega
 have hpl : ((β.μ.setPage i (p.own x false)).unhung i (p.own x false)).pages.length = β.μ.pages.length := (unhung_same _ _ _).2.2.trans (List.length_set ..)
 have hil : i < β.μ.pages.length := (List.getElem?_eq_some_iff.1 HI.out).1
 have HPl := Hd (And.intro hpl hil)
 clear T4 S4 hp4 B4 hpl hil
 generalize wdOf c = wd at *
 go_wp2_with fail
 refine HHa.out.mono ?_
 rintro e w5 ⟨rfl, S5, T5⟩
 have HRn := Hd (S5.po.bu.mp.run2_ i 0 (Nat.zero_le _) (by simp) (by rw [HPl.out.1]; have := HPl.out.2; simp; omega))
 have HS5 := Hd S5
 have HT5 := Hd (HT4.out.trans T5)
 clear S5 T5 b2 b3 b6 d0
 go_wp2_with fail
 refine HRn.out.mono ?_
 rintro e w6 ⟨rfl, r6, t6⟩
 have R6 := HS5.out.paged r6 t6 (run_same _ _ _ _).1 (run_len _ _ _ _)
 have d0' : w6.cell? ⟨s, 0, none⟩ = some (.pointer (some ⟨pb, 0, none⟩)) := R6.1.pool
 have hGv := R6.1.po.give_ HInv.out (a := i) (k := 0) (Nat.zero_le _) HBl.out
 have ea : ((Bu.addr { β with μ := ((β.μ.setPage i (p.own x false)).unhung i (p.own x false)).run i 0 2 } i : Nat) : Int) = (β.σ.base : Int) + 4096 * (i : Int) := by
  show ((β.σ.base + 4096 * i : Nat) : Int) = _
  omega
 rw [ea] at hGv
 have HGv := Hd hGv
 have HS6 := Hd R6.1
 have HT6 := Hd (HT5.out.trans (R6.2.mono (fun k _ h => List.mem_cons_of_mem s h)))
 clear r6 t6 R6 hGv ea
 go_wp2_with fail
 refine HGv.out.mono ?_
 rintro e w7 ⟨rfl, K7, P7, N7, T7⟩
 have HS7 := Hd (HS6.out.next T7 N7 P7.bu)
 have HN7 := Hd ((BuL.Next.refl w K).trans N7 HT6.out.size)
 have HT7 := Hd (HT6.out.trans (T7.mono (fun k _ h => List.mem_cons_of_mem s h)))
 clear P7 N7 T7
 go_wp2_with fail
 go_ret
 exact ⟨rfl, K7, HS7.out, HN7.out, HT7.out⟩
theorem give_same (p : Pg) (x : Nat) : (p.give x).kind = p.kind ∧ (p.give x).order = p.order ∧ (p.give x).cls = p.cls ∧ (p.give x).next = p.next ∧ (p.give x).prev = p.prev := by
 obtain ⟨s1, s2, s3, s4, s5, s6⟩ := own_same p x false
 exact ⟨s1, s2, s3, s4, s5⟩
def Beside (β β' : Bu) (i : Nat) : Prop :=
 ∀ j, j ≠ i → (∀ q, β.μ.pages[j]? = some q → ∃ q', β'.μ.pages[j]? = some q' ∧ (q.kind = 4 ∧ SameBut q' q ∨ q.kind ≠ 4 ∧ q' = q)) ∧ (∀ q', β'.μ.pages[j]? = some q' → ∃ q, β.μ.pages[j]? = some q)
theorem Beside.blk {β β' : Bu} {i a k : Nat} (hpg : Beside β β' i) (hi : ∀ q, β.μ.pages[i]? = some q → q.kind = 4) (hne : ¬ Inb a k i) : BlkAt β'.μ.pages a k 2 ↔ BlkAt β.μ.pages a k 2 := by
 constructor
 ·intro h
  refine h.far (fun x hx => ?_)
  have hx' := h.page hx
  have hxi : x ≠ i := by rintro rfl; exact hne hx
  obtain ⟨q, hq⟩ := (hpg x hxi).2 _ hx'
  obtain ⟨q', hq', hs⟩ := (hpg x hxi).1 q hq
  have e := Option.some.inj (hq'.symm.trans hx')
  rcases hs with ⟨h4, hs⟩ | ⟨h4, hs⟩
  ·have := runPg_kind k (x - a)
   rw [← e] at this
   have := hs.kind.1
   omega
  ·rw [hq, hq', hs]
 ·intro h
  refine h.far (fun x hx => ?_)
  have hx' := h.page hx
  have hxi : x ≠ i := by rintro rfl; exact hne hx
  obtain ⟨q', hq', hs⟩ := (hpg x hxi).1 _ hx'
  rcases hs with ⟨h4, hs⟩ | ⟨h4, hs⟩
  ·have := runPg_kind k (x - a)
   omega
  ·rw [hq', hs, hx']
theorem Beside.cell {β β' : Bu} {i j d y : Nat} (hpg : Beside β β' i) (hj : j ≠ i) : Cell β' j d y ↔ Cell β j d y := by
 constructor
 ·rintro ⟨q', hq', h4, hd, hx, hbx⟩
  obtain ⟨q, hq⟩ := (hpg j hj).2 q' hq'
  obtain ⟨q'', hq'', hs⟩ := (hpg j hj).1 q hq
  obtain rfl : q' = q'' := Option.some.inj (hq'.symm.trans hq'')
  rcases hs with ⟨h4', hs⟩ | ⟨h4', hs⟩
  ·refine ⟨q, hq, h4', hs.kind.2.symm.trans hd, hx, ?_⟩
   unfold SameBut at hs
   rw [hs] at hbx
   exact hbx
  ·rw [hs] at h4
   exact (h4' h4).elim
 ·rintro ⟨q, hq, h4, hd, hx, hbx⟩
  obtain ⟨q', hq', hs⟩ := (hpg j hj).1 q hq
  rcases hs with ⟨_, hs⟩ | ⟨h4', _⟩
  ·refine ⟨q', hq', hs.kind.1.trans h4, hs.kind.2.trans hd, hx, ?_⟩
   unfold SameBut at hs
   rw [hs]
   exact hbx
  ·exact (h4' h4).elim
theorem gone_cell {β β' : Bu} {i c f : Nat} {p p' : Pg} (hc : c < 8) (hp : β.μ.pages[i]? = some p) (hk : p.kind = 4) (hcl : p.cls = c) (hf : f < cellsN c) (hb : p.bit f = true)
  (hp' : β'.μ.pages[i]? = some p') (hk' : p'.kind = 4) (hcl' : p'.cls = c) (hbit : ∀ x, x < 256 → p'.bit x = (p.bit x != decide (x = f)))
  (ho : β'.μ.order = β.μ.order) (hbs : β'.σ.base = β.σ.base) (hlm : β'.σ.limit = β.σ.limit) (hn : β'.σ.n = β.σ.n)
  (hby : ∀ q, q < β.addr i + f * wdOf c ∨ β.addr i + f * wdOf c + 8 ≤ q → β'.σ.mem q = β.σ.mem q) (hpg : Beside β β' i) :
  Gone β β' (β.addr i + f * wdOf c) := by
 have ha : ∀ j, β'.addr j = β.addr j := fun j => by unfold Bu.addr; rw [hbs]
 have hle : cellsN c ≤ 256 := (wdOf_cells c (by omega)).2.2.2.2
 have hwd := wdOf_pos hc
 have hni : ∀ {γ : Bu} {a k : Nat} {q : Pg}, γ.μ.pages[i]? = some q → q.kind = 4 → BlkAt γ.μ.pages a k 2 → ¬ Inb a k i := by
  intro γ a k q hq h4 hb hx
  have e := Option.some.inj (hq.symm.trans (hb.page hx))
  have := runPg_kind k (i - a)
  rw [← e] at this
  omega
 have hq4 : ∀ q, β.μ.pages[i]? = some q → q.kind = 4 := fun q hq => by rw [← Option.some.inj (hp.symm.trans hq)]; exact hk
 have hL : Live β (β.addr i + f * wdOf c) (wdOf c) := .inr ⟨i, c, f, hc, ⟨p, hp, hk, hcl, hf, hb⟩, rfl, rfl⟩
 have hcell : ∀ j d x, Cell β' j d x ↔ Cell β j d x ∧ ¬ (j = i ∧ x = f) := by
  intro j d x
  by_cases e : j = i
  ·subst e
   constructor
   ·rintro ⟨q, hq, h4, hd, hx, hbx⟩
    obtain rfl : p' = q := Option.some.inj (hp'.symm.trans hq)
    have : d = c := by omega
    subst this
    rw [hbit x (by omega)] at hbx
    by_cases ex : x = f
    ·subst ex
     rw [hb] at hbx
     simp at hbx
    ·rw [decide_eq_false ex] at hbx
     exact ⟨⟨p, hp, hk, hcl, hx, by simpa using hbx⟩, fun h => ex h.2⟩
   ·rintro ⟨⟨q, hq, h4, hd, hx, hbx⟩, hne⟩
    obtain rfl : p = q := Option.some.inj (hp.symm.trans hq)
    have : d = c := by omega
    subst this
    refine ⟨p', hp', hk', hcl', hx, ?_⟩
    rw [hbit x (by omega), hbx, decide_eq_false (fun h => hne ⟨rfl, h⟩)]
    rfl
  ·rw [hpg.cell e]
   exact ⟨fun h => ⟨h, fun h' => e h'.1⟩, fun h => h.1⟩
 refine ⟨hbs, ho, hlm, hn, fun P S => ?_, fun P S h hne q h1 h2 => hby q (Classical.byContradiction fun hq => hne (h.meet hL h1 h2 (by omega) (by omega)).1)⟩
 constructor
 ·rintro (⟨a, k, hk1, hb1, rfl, rfl⟩ | ⟨j, d, x, hd, hx, rfl, rfl⟩)
  ·have hb2 := (hpg.blk hq4 (hni hp' hk' hb1)).1 hb1
   refine ⟨.inl ⟨a, k, by omega, hb2, ha a, rfl⟩, ?_⟩
   rw [ha]
   intro e
   have := cell_lt hc hf
   unfold Bu.addr at e
   have : a = i := by omega
   subst this
   exact hni hp hk hb2 (inb_self _ _)
  ·obtain ⟨h1, h2⟩ := (hcell j d x).1 hx
   refine ⟨.inr ⟨j, d, x, hd, h1, by rw [ha], rfl⟩, ?_⟩
   rw [ha]
   intro e
   have hL' : Live β (β.addr j + x * wdOf d) (wdOf d) := .inr ⟨j, d, x, hd, h1, rfl, rfl⟩
   have hw := wdOf_pos hd
   have hm := hL'.meet hL (q := β.addr j + x * wdOf d) (by omega) (by omega) (by omega) (by omega)
   have := wdOf_inj hm.2
   subst this
   obtain ⟨q, hq, h4, hdl, hxl, _⟩ := h1
   have l1 := cell_lt hd hxl
   have l2 := cell_lt hd hf
   unfold Bu.addr at e
   have : j = i := by omega
   subst this
   have : x * wdOf d = f * wdOf d := by omega
   exact h2 ⟨rfl, Nat.eq_of_mul_eq_mul_right (by omega) this⟩
 ·rintro ⟨⟨a, k, hk1, hb1, rfl, rfl⟩ | ⟨j, d, x, hd, hx, rfl, rfl⟩, hne⟩
  ·exact .inl ⟨a, k, by omega, (hpg.blk hq4 (hni hp hk hb1)).2 hb1, (ha a).symm, rfl⟩
  ·refine .inr ⟨j, d, x, hd, (hcell j d x).2 ⟨hx, ?_⟩, by rw [ha], rfl⟩
   rintro ⟨rfl, rfl⟩
   obtain ⟨q, hq, h4, hdl, hxl, _⟩ := hx
   obtain rfl : p = q := Option.some.inj (hp.symm.trans hq)
   have : d = c := by omega
   subst this
   exact hne rfl
theorem Nums.both {β : Bu} {μ' : Mp} (N : Nums β) (p v : Nat) (ho : μ'.order = β.μ.order) (hl : μ'.pages.length = β.μ.pages.length) : Nums { β with σ := β.σ.setWord p v, μ := μ' } := by
 have M := N.pages' ho hl
 exact ⟨M.full, M.size, M.le, M.pages, M.top, M.so, M.al⟩
theorem BInv.turn {β : Bu} {F : Nat → List Nat} (I : BInv β F NoHole) {μ' : Mp} {i d v : Nat} {p : Pg} (hp : β.μ.pages[i]? = some p) (h4 : p.kind = 4) (hd : d + 8 ≤ 4096) (ho : μ'.order = β.μ.order) (hpr : μ'.pairs = β.μ.pairs) (hl : μ'.pages.length = β.μ.pages.length)
  (hpg : ∀ (x : Nat) (q : Pg), β.μ.pages[x]? = some q → ∃ q' : Pg, μ'.pages[x]? = some q' ∧ (q.kind = 4 ∧ q'.kind = 4 ∧ q'.order = 0 ∨ q.kind ≠ 4 ∧ q' = q)) :
  BInv { β with σ := β.σ.setWord (β.addr i + d) v, μ := μ' } F NoHole := by
 have I1 := I.slabs ho hpr hl hpg
 refine I1.write' (σ' := β.σ.setWord (β.addr i + d) v) rfl (fun k hk j hj off hof => ?_)
 have hk' : k ≤ β.μ.order := by rw [← ho]; exact hk
 have hb := (I.free k hk' j hj).page (inb_self j k)
 have hji : j ≠ i := by
  rintro rfl
  have e := Option.some.inj (hp.symm.trans hb)
  rw [e] at h4
  simp [runPg, plainPg] at h4
 refine setWord_mem _ _ _ _ ?_
 show β.σ.base + 4096 * j + off < _ ∨ _ ≤ β.σ.base + 4096 * j + off
 unfold Bu.addr
 omega
theorem word_far_page (σ : Sp) (b i j d v off : Nat) (hd : d + 8 ≤ 4096) (hji : j ≠ i) (ho : off < 4096) : (σ.setWord (b + 4096 * i + d) v).mem (b + 4096 * j + off) = σ.mem (b + 4096 * j + off) := by
 refine setWord_mem _ _ _ _ ?_
 omega
theorem HS.giveA {β : Bu} {ps : List Int} {F C L : Nat → List Nat} (I : HS β ps F C L) {i c x f : Nat} {u : List Nat} {p : Pg} (hc : c < 8) (hp : β.μ.pages[i]? = some p) (h4 : p.kind = 4) (hcl : p.cls = c) (hx : x < cellsN c) (hb : p.bit x = true) (h1 : 1 < p.live) (hC : C i = f :: u) :
  HS { β with σ := β.σ.setWord (β.addr i + x * wdOf c) (β.addr i + f * wdOf c), μ := β.μ.setPage i (p.give x) } ps F (upd C i (x :: f :: u)) L ∧
  Gone β { β with σ := β.σ.setWord (β.addr i + x * wdOf c) (β.addr i + f * wdOf c), μ := β.μ.setPage i (p.give x) } (β.addr i + x * wdOf c) := by
 have hcn : p.cls.toNat = c := by rw [hcl]; rfl
 have hlt := (List.getElem?_eq_some_iff.1 hp).1
 have htop := I.inv.top
 have D := I.slab.pages i p hp h4
 rw [hC] at D
 have w1 := wdOf_pos hc
 have l1 := cell_lt hc hx
 have D' := D.give (x := x) (by rw [hcl]; exact hx) hb h1 (by unfold Bu.addr; omega) (β.σ.setWord (β.addr i + x * wdOf c) (β.addr i + f * wdOf c)) (by rw [hcn]; rfl)
 obtain ⟨g1, g2, g3, g4, g5⟩ := give_same p x
 have hset : (β.μ.setPage i (p.give x)).pages[i]? = some (p.give x) := List.getElem?_set_self hlt
 have hne : ∀ y, y ≠ i → (β.μ.setPage i (p.give x)).pages[y]? = β.μ.pages[y]? := fun y h => List.getElem?_set_ne (fun e => h e.symm)
 have hB : Beside β { β with σ := β.σ.setWord (β.addr i + x * wdOf c) (β.addr i + f * wdOf c), μ := β.μ.setPage i (p.give x) } i := by
  refine fun j hj => ⟨fun q hq => ⟨q, (hne j hj).trans hq, ?_⟩, fun q hq => ⟨q, (hne j hj).symm.trans hq⟩⟩
  by_cases e : q.kind = 4
  ·exact .inl ⟨e, SameBut.refl q⟩
  ·exact .inr ⟨e, rfl⟩
 have hx256 : x < 256 := by have := (wdOf_cells c (by omega)).2.2.2.2; omega
 refine ⟨⟨I.inv.turn hp h4 (by omega) rfl rfl (List.length_set ..) (fun y q hq => ?_), I.slab.cell hp h4 rfl (g1.trans h4) g3 ⟨g4, g5⟩ (by rw [hC]; simp) D' (fun j hj off ho => word_far_page _ _ _ _ _ _ _ (by omega) hj ho), I.nums.both _ _ rfl (List.length_set ..)⟩, ?_⟩
 ·by_cases e : y = i
  ·subst e
   obtain rfl : p = q := Option.some.inj (hp.symm.trans hq)
   exact ⟨_, hset, .inl ⟨h4, g1.trans h4, g2.trans D.order⟩⟩
  ·refine ⟨q, (hne y e).trans hq, ?_⟩
   by_cases e4 : q.kind = 4
   ·exact .inl ⟨e4, e4, (I.slab.pages y q hq e4).order⟩
   ·exact .inr ⟨e4, rfl⟩
 ·exact gone_cell hc hp h4 hcl hx hb hset (g1.trans h4) (g3.trans hcl) (fun y hy => own_bit p x y false hx256 hy) rfl rfl rfl rfl (fun q hq => setWord_mem _ _ _ _ hq) hB
theorem SInv.hangOk {β : Bu} {ps : List Int} {C L : Nat → List Nat} (S : SInv β ps C L) {i c : Nat} {p' : Pg} (hc : c < 8) (hi : i ∉ L c) : HangOk (β.μ.setPage i p') i (ps.getD c 0) := by
 have D := S.lists c hc
 have hh := D.head
 cases hL : L c with
 | nil => rw [hL] at hh; exact .inl hh
 | cons j t =>
  rw [hL] at hh D hi
  have hji : j ≠ i := fun e => hi (by simp [e])
  obtain ⟨q, hq, h4, _, _⟩ := S.cls_of hc (i := j) (by rw [hL]; simp)
  refine .inr ⟨j, q, hh, hji, (List.getElem?_set_ne (fun e => hji e.symm)).trans hq, h4, ?_⟩
  have hn := PL.nextIs (a := []) D
  rw [nextF_of hq] at hn
  rw [hn, show (β.μ.setPage i p').pages.length = β.μ.pages.length from List.length_set ..]
  cases t with
  | nil => show (-1 : Int) < _; omega
  | cons y t =>
   obtain ⟨q', hq', _⟩ := S.cls_of hc (i := y) (by rw [hL]; simp)
   have := (List.getElem?_eq_some_iff.1 hq').1
   show (y : Int) < _
   omega
def Mp.hungB (μ : Mp) (i x : Nat) (p : Pg) (h : Int) : Mp := ((μ.setPage i (p.own x false)).hung2 i h).setPage i { p.own x false with next := h, prev := -1, first := (x : Int) }
theorem HS.giveB {β : Bu} {ps : List Int} {F C L : Nat → List Nat} (I : HS β ps F C L) {i c x : Nat} {p : Pg} (hc : c < 8) (hp : β.μ.pages[i]? = some p) (h4 : p.kind = 4) (hcl : p.cls = c) (hx : x < cellsN c) (hb : p.bit x = true) (h1 : 1 < p.live) (hC : C i = []) :
  HangOk (β.μ.setPage i (p.own x false)) i (ps.getD c 0) ∧
  HS { β with σ := β.σ.setWord (β.addr i + x * wdOf c) 0, μ := β.μ.hungB i x p (ps.getD c 0) } (ps.set c i) F (upd C i [x]) (upd L c (i :: L c)) ∧
  Gone β { β with σ := β.σ.setWord (β.addr i + x * wdOf c) 0, μ := β.μ.hungB i x p (ps.getD c 0) } (β.addr i + x * wdOf c) := by
 have hcn : p.cls.toNat = c := by rw [hcl]; rfl
 have hlt := (List.getElem?_eq_some_iff.1 hp).1
 have htop := I.inv.top
 have D := I.slab.pages i p hp h4
 rw [hC] at D
 have w1 := wdOf_pos hc
 have l1 := cell_lt hc hx
 have hnot : ∀ d, d < 8 → i ∉ L d := by
  intro d hd hm
  obtain ⟨_, _, _, _, hne⟩ := I.slab.cls_of hd hm
  exact hne hC
 have HO := I.slab.hangOk (p' := p.own x false) hc (hnot c hc)
 have D' := D.give (x := x) (by rw [hcl]; exact hx) hb h1 (by unfold Bu.addr; omega) (β.σ.setWord (β.addr i + x * wdOf c) 0) (by rw [hcn]; rfl)
 obtain ⟨g1, g2, g3, g4, g5⟩ := give_same p x
 have hhi : ps.getD c 0 ≠ (i : Int) := by
  rcases HO with e | ⟨j, q, e, hj, _⟩ <;> omega
 have hG := hung2_get (β.μ.setPage i (p.own x false)) i (ps.getD c 0)
 obtain ⟨hs1, hs2, hs3⟩ := hung2_same (β.μ.setPage i (p.own x false)) i (ps.getD c 0)
 have hlen : ((β.μ.setPage i (p.own x false)).hung2 i (ps.getD c 0)).pages.length = β.μ.pages.length := hs3.trans (List.length_set ..)
 obtain ⟨p', hp'e⟩ : ∃ p', p' = ({ p.own x false with next := ps.getD c 0, prev := -1, first := (x : Int) } : Pg) := ⟨_, rfl⟩
 have hsb : SameBut p' (p.give x) := by rw [hp'e]; rfl
 have hset : (β.μ.hungB i x p (ps.getD c 0)).pages[i]? = some p' := by
  unfold Mp.hungB
  rw [hp'e]
  exact List.getElem?_set_self (by rw [hlen]; exact hlt)
 have hne : ∀ y, y ≠ i → (β.μ.hungB i x p (ps.getD c 0)).pages[y]? = (β.μ.pages[y]?).map (fun q => { q with prev := if (y : Int) = ps.getD c 0 then (i : Int) else q.prev }) := by
  intro y hy
  unfold Mp.hungB
  rw [show (((β.μ.setPage i (p.own x false)).hung2 i (ps.getD c 0)).setPage i _).pages[y]? = ((β.μ.setPage i (p.own x false)).hung2 i (ps.getD c 0)).pages[y]? from List.getElem?_set_ne (fun e => hy e.symm), hG y hhi,
   show (β.μ.setPage i (p.own x false)).pages[y]? = β.μ.pages[y]? from List.getElem?_set_ne (fun e => hy e.symm)]
  simp only [if_neg hy]
 have hlb : (β.μ.hungB i x p (ps.getD c 0)).pages.length = β.μ.pages.length := (List.length_set ..).trans hlen
 -- a page beside i that is no slab page is not the head
 have hfar : ∀ (y : Nat) (q : Pg), y ≠ i → β.μ.pages[y]? = some q → q.kind ≠ 4 → (y : Int) ≠ ps.getD c 0 := by
  intro y q hy hq hq4 e
  rcases HO with e' | ⟨j, q', e', hj, hq', h4', _⟩
  ·omega
  ·have : y = j := by omega
   subst this
   rw [show (β.μ.setPage i (p.own x false)).pages[y]? = β.μ.pages[y]? from List.getElem?_set_ne (fun e => hy e.symm)] at hq'
   rw [Option.some.inj (hq.symm.trans hq')] at hq4
   exact hq4 h4'
 have hone : ∀ (y : Nat) (q : Pg), y ≠ i → β.μ.pages[y]? = some q → ∃ q', (β.μ.hungB i x p (ps.getD c 0)).pages[y]? = some q' ∧ (q.kind = 4 ∧ SameBut q' q ∨ q.kind ≠ 4 ∧ q' = q) := by
  intro y q hy hq
  rw [hne y hy, hq]
  refine ⟨_, rfl, ?_⟩
  by_cases e4 : q.kind = 4
  ·exact .inl ⟨e4, sameBut_mk q _ _⟩
  ·refine .inr ⟨e4, ?_⟩
   show ({ q with prev := if (y : Int) = ps.getD c 0 then (i : Int) else q.prev } : Pg) = q
   rw [if_neg (hfar y q hy hq e4)]
 have hB : Beside β { β with σ := β.σ.setWord (β.addr i + x * wdOf c) 0, μ := β.μ.hungB i x p (ps.getD c 0) } i := by
  refine fun j hj => ⟨fun q hq => hone j q hj hq, fun q hq => ?_⟩
  have hq : (β.μ.hungB i x p (ps.getD c 0)).pages[j]? = some q := hq
  rw [hne j hj] at hq
  cases h : β.μ.pages[j]? with
  | none => rw [h] at hq; simp at hq
  | some q0 => exact ⟨q0, rfl⟩
 have hx256 : x < 256 := by have := (wdOf_cells c (by omega)).2.2.2.2; omega
 have hk' : p'.kind = 4 := hsb.kind.1.trans (g1.trans h4)
 have hc' : p'.cls = c := hsb.kind.2.trans (g3.trans hcl)
 refine ⟨HO, ⟨I.inv.turn hp h4 (by omega) hs1 hs2 hlb (fun y q hq => ?_), ?_, I.nums.both _ _ hs1 hlb⟩, ?_⟩
 ·by_cases e : y = i
  ·subst e
   obtain rfl : p = q := Option.some.inj (hp.symm.trans hq)
   refine ⟨p', hset, .inl ⟨h4, hk', ?_⟩⟩
   rw [hp'e]
   exact g2.trans D.order
  ·obtain ⟨q', hq', hs⟩ := hone y q e hq
   refine ⟨q', hq', ?_⟩
   rcases hs with ⟨e4, hs⟩ | h
   ·refine .inl ⟨e4, hs.kind.1.trans e4, ?_⟩
    have h0 := (I.slab.pages y q hq e4).order
    unfold SameBut at hs
    rw [hs]
    exact h0
   ·exact .inr h
 ·refine I.slab.hang (p' := p') hc hnot rfl (fun j q0 hj _ _ off ho => word_far_page _ _ _ _ _ _ _ (by omega) hj ho) (fun y hy => hne y hy) hset hk' hc' (by rw [hp'e]; exact ⟨rfl, rfl⟩) (by simp) ?_
  exact (hsb.cells D').1
 ·refine gone_cell hc hp h4 hcl hx hb hset hk' hc' (fun y hy => ?_) hs1 rfl rfl rfl (fun q hq => setWord_mem _ _ _ _ hq) hB
  rw [hp'e]
  exact own_bit p x y false hx256 hy
theorem nodup_le : ∀ (n : Nat) {l : List Nat}, l.Nodup → (∀ a ∈ l, a < n) → l.length ≤ n
 | 0, l, _, hl => by
  cases l with
  | nil => simp
  | cons a t => have := hl a (by simp); omega
 | n + 1, l, h, hl => by
  by_cases hn : n ∈ l
  ·have h1 := nodup_le n (l := l.erase n) (h.erase n) (fun a ha => by
    have h2 := (h.mem_erase_iff).1 ha
    have := hl a h2.2
    have := h2.1
    omega)
   rw [List.length_erase_of_mem hn] at h1
   omega
  ·have h1 := nodup_le n h (fun a ha => by
    have := hl a ha
    have : a ≠ n := by rintro rfl; exact hn ha
    omega)
   omega
theorem nodup_miss {l : List Nat} {n x y : Nat} (h : l.Nodup) (hl : ∀ a ∈ l, a < n) (hx : x ∉ l) (hy : y ∉ l) (hxn : x < n) (hyn : y < n) (hxy : x ≠ y) : l.length + 2 ≤ n := by
 have h1 : (x :: y :: l).Nodup := by
  refine List.nodup_cons.2 ⟨?_, List.nodup_cons.2 ⟨hy, h⟩⟩
  simp only [List.mem_cons, not_or]
  exact ⟨hxy, hx⟩
 have := nodup_le n h1 (fun a ha => by
  simp only [List.mem_cons] at ha
  rcases ha with rfl | rfl | ha
  ·exact hxn
  ·exact hyn
  ·exact hl a ha)
 simpa using this
def Mp.freed (μ : Mp) (i x : Nat) (p : Pg) : Mp := ((μ.setPage i (p.own x false)).unhung i (p.own x false)).run i 0 2
theorem HS.giveC {β : Bu} {ps : List Int} {F C L : Nat → List Nat} (I : HS β ps F C L) {i c x : Nat} {p : Pg} (hc : c < 8) (hp : β.μ.pages[i]? = some p) (h4 : p.kind = 4) (hcl : p.cls = c) (hx : x < cellsN c) (hb : p.bit x = true) (h1 : p.live = 1) :
  i ∈ L c ∧ HS { β with μ := β.μ.freed i x p } (unps ps c (p.own x false)) F (upd C i []) (upd L c ((L c).erase i)) ∧ BlkAt (β.μ.freed i x p).pages i 0 2 ∧
  (∀ P S, Live { β with μ := β.μ.freed i x p } P S ∧ P ≠ β.addr i ↔ Live β P S ∧ P ≠ β.addr i + x * wdOf c) := by
 have hlt := (List.getElem?_eq_some_iff.1 hp).1
 have D := I.slab.pages i p hp h4
 have hcn : cellsN p.cls = cellsN c := by rw [hcl]
 have w1 := wdOf_pos hc
 have l1 := cell_lt hc hx
 have hle := wdOf_cells c (by omega)
 have hxn : x ∉ C i := fun h => by
  have := ((D.mem x).1 h).2
  rw [hb] at this
  simp at this
 have hCne : C i ≠ [] := by
  intro e
  have := D.live
  rw [e, hcn, h1] at this
  simp at this
  omega
 have him : i ∈ L c := (I.slab.mem c hc i).2 ⟨p, hp, h4, hcl, hCne⟩
 -- no other cell lives there
 have honly : ∀ y, y < cellsN c → p.bit y = true → y = x := by
  intro y hy hby
  refine Classical.byContradiction (fun hyx => ?_)
  have hyn : y ∉ C i := fun h => by
   have := ((D.mem y).1 h).2
   rw [hby] at this
   simp at this
  have := nodup_miss D.nodup (fun a ha => ((D.mem a).1 ha).1) hyn hxn (by rw [hcn]; exact hy) (by rw [hcn]; exact hx) hyx
  have := D.live
  omega
 obtain ⟨o1, o2, o3, o4, o5, o6⟩ := own_same p x false
 obtain ⟨nb1, nb2, nb3⟩ := I.slab.nb hc him hp
 have hpi : (p.own x false).prev ≠ i ∧ (p.own x false).next ≠ i := by
  rw [o5, o4]
  constructor
  ·rcases nb1 with h | ⟨j, q, e, hji, _⟩ <;> omega
  ·rcases nb2 with h | ⟨j, q, e, hji, _⟩ <;> omega
 have hU := fun y => unhung_get (β.μ.setPage i (p.own x false)) i (p.own x false) y hpi.1 hpi.2
 obtain ⟨us1, us2, us3⟩ := unhung_same (β.μ.setPage i (p.own x false)) i (p.own x false)
 have hlen : ((β.μ.setPage i (p.own x false)).unhung i (p.own x false)).pages.length = β.μ.pages.length := us3.trans (List.length_set ..)
 have hset : (β.μ.setPage i (p.own x false)).pages[i]? = some (p.own x false) := List.getElem?_set_self hlt
 have hne : ∀ y, y ≠ i → (β.μ.setPage i (p.own x false)).pages[y]? = β.μ.pages[y]? := fun y h => List.getElem?_set_ne (fun e => h e.symm)
 -- neighbours are slab pages
 have hnb : ∀ {n : Int}, NbOk β.μ i n → ∀ (y : Nat) (q : Pg), β.μ.pages[y]? = some q → q.kind ≠ 4 → (y : Int) ≠ n := by
  rintro n (h | ⟨j, q', e, _, hq', hk', _⟩) y q hq hk
  ·omega
  ·intro e'
   have : y = j := by omega
   subst this
   rw [Option.some.inj (hq.symm.trans hq')] at hk
   exact hk hk'
 have hone : ∀ (y : Nat) (q : Pg), y ≠ i → β.μ.pages[y]? = some q → ∃ q', ((β.μ.setPage i (p.own x false)).unhung i (p.own x false)).pages[y]? = some q' ∧ (q.kind = 4 ∧ SameBut q' q ∨ q.kind ≠ 4 ∧ q' = q) := by
  intro y q hy hq
  rw [hU y, hne y hy, hq]
  refine ⟨_, rfl, ?_⟩
  by_cases e4 : q.kind = 4
  ·exact .inl ⟨e4, sameBut_mk q _ _⟩
  ·refine .inr ⟨e4, ?_⟩
   show ({ q with next := if y = i then -1 else if (y : Int) = (p.own x false).prev then (p.own x false).next else q.next, prev := if y = i then -1 else if (y : Int) = (p.own x false).next then (p.own x false).prev else q.prev } : Pg) = q
   rw [if_neg hy, if_neg hy, if_neg (by rw [o5]; exact hnb nb1 y q hq e4), if_neg (by rw [o4]; exact hnb nb2 y q hq e4)]
 have hi1 : ∃ q', ((β.μ.setPage i (p.own x false)).unhung i (p.own x false)).pages[i]? = some q' ∧ q'.kind = 4 ∧ q'.order = 0 := by
  rw [hU i, hset]
  exact ⟨_, rfl, o1.trans h4, o2.trans D.order⟩
 obtain ⟨qi, hqi, hqk, hqo⟩ := hi1
 have I1 : BInv { β with μ := (β.μ.setPage i (p.own x false)).unhung i (p.own x false) } F NoHole := I.inv.slabs us1 us2 hlen (fun y q hq => by
  by_cases e : y = i
  ·subst e
   obtain rfl : p = q := Option.some.inj (hp.symm.trans hq)
   exact ⟨qi, hqi, .inl ⟨h4, hqk, hqo⟩⟩
  ·obtain ⟨q', hq', hs⟩ := hone y q e hq
   refine ⟨q', hq', ?_⟩
   rcases hs with ⟨e4, hs⟩ | h
   ·refine .inl ⟨e4, hs.kind.1.trans e4, ?_⟩
    have h0 := (I.slab.pages y q hq e4).order
    unfold SameBut at hs
    rw [hs]
    exact h0
   ·exact .inr h)
 have I2 := I1.openSlab (i := i) hqi hqk
 obtain ⟨I3, K3, B3⟩ := I2.live (a := i) (k := 0) (Nat.zero_le _) (Nat.one_dvd _) (fun y hy => .inr (by unfold Inb at hy; omega))
 have hH : (fun y => (NoHole y ∨ y = i) ∧ ¬ Inb i 0 y) = NoHole := funext fun y => propext ⟨fun h => by
  rcases h.1 with h' | h'
  ·exact h'
  ·exact (h.2 (by rw [h']; exact inb_self _ _)).elim, fun h => h.elim⟩
 rw [hH] at I3
 obtain ⟨rs1, rs2⟩ := run_same ((β.μ.setPage i (p.own x false)).unhung i (p.own x false)) i 0 2
 have hlf : (β.μ.freed i x p).pages.length = β.μ.pages.length := (run_len _ _ _ _).trans hlen
 have hf : ∀ y, y ≠ i → (β.μ.freed i x p).pages[y]? = ((β.μ.setPage i (p.own x false)).unhung i (p.own x false)).pages[y]? := fun y hy => run_out (fun h => hy (by unfold Inb at h; omega))
 have hfi : ∀ q, (β.μ.freed i x p).pages[i]? = some q → q.kind = 2 := by
  intro q hq
  have e := Option.some.inj (hq.symm.trans (B3.page (inb_self i 0)))
  rw [e]
  simp [runPg, plainPg]
 have hBe : Beside β { β with μ := β.μ.freed i x p } i := by
  refine fun j hj => ⟨fun q hq => ?_, fun q hq => ?_⟩
  ·obtain ⟨q', hq', hs⟩ := hone j q hj hq
   exact ⟨q', (hf j hj).trans hq', hs⟩
  ·have hq : (β.μ.freed i x p).pages[j]? = some q := hq
   rw [hf j hj, hU j, hne j hj] at hq
   cases h : β.μ.pages[j]? with
   | none => rw [h] at hq; simp at hq
   | some q0 => exact ⟨q0, rfl⟩
 have S3 : SInv { β with μ := β.μ.freed i x p } (unps ps c (p.own x false)) (upd C i []) (upd L c ((L c).erase i)) :=
  I.slab.unhang (p' := p.own x false) hc him hp ⟨o4, o5⟩ rfl (fun j q0 _ _ _ off _ => rfl) (fun y hy => hf y hy) (fun q hq hq4 => by have := hfi q hq; omega)
 refine ⟨him, ⟨I3, S3, I.nums.pages' (rs1.trans us1) hlf⟩, B3, fun P S => ?_⟩
 have hq4 : ∀ q, β.μ.pages[i]? = some q → q.kind = 4 := fun q hq => by rw [← Option.some.inj (hp.symm.trans hq)]; exact h4
 have hnin : ∀ {a k : Nat}, BlkAt β.μ.pages a k 2 → ¬ Inb a k i := by
  intro a k hb' hx'
  have e := Option.some.inj (hp.symm.trans (hb'.page hx'))
  have := runPg_kind k (i - a)
  rw [← e] at this
  omega
 constructor
 ·rintro ⟨⟨a, k, hk1, hb1, rfl, rfl⟩ | ⟨j, d, y, hd, hy, rfl, rfl⟩, hPne⟩
  ·have hai : ¬ Inb a k i := by
    intro h
    have := hb1.same B3 h (inb_self i 0)
    rw [this.1] at hPne
    exact hPne rfl
   have hb2 := (hBe.blk hq4 hai).1 hb1
   refine ⟨.inl ⟨a, k, by have : k ≤ (β.μ.freed i x p).order := hk1; rwa [show (β.μ.freed i x p).order = β.μ.order from rs1.trans us1] at this, hb2, rfl, rfl⟩, ?_⟩
   show β.σ.base + 4096 * a ≠ _
   intro e
   unfold Bu.addr at e
   have : a = i := by omega
   subst this
   exact hai (inb_self _ _)
  ·have hji : j ≠ i := by
    rintro rfl
    obtain ⟨q, hq, hq4, _⟩ := hy
    have := hfi q hq
    omega
   have hy' := (hBe.cell hji).1 hy
   refine ⟨.inr ⟨j, d, y, hd, hy', rfl, rfl⟩, ?_⟩
   show β.σ.base + 4096 * j + y * wdOf d ≠ _
   obtain ⟨q, hq, hq4, hql, hyl, _⟩ := hy'
   have := cell_lt hd hyl
   have := wdOf_pos hd
   unfold Bu.addr
   omega
 ·rintro ⟨⟨a, k, hk1, hb1, rfl, rfl⟩ | ⟨j, d, y, hd, hy, rfl, rfl⟩, hPne⟩
  ·have hai := hnin hb1
   refine ⟨.inl ⟨a, k, ?_, (hBe.blk hq4 hai).2 hb1, rfl, rfl⟩, ?_⟩
   ·show k ≤ (β.μ.freed i x p).order
    rw [show (β.μ.freed i x p).order = β.μ.order from rs1.trans us1]
    exact hk1
   ·unfold Bu.addr
    intro e
    have : a = i := by omega
    subst this
    exact hai (inb_self _ _)
  ·by_cases hji : j = i
   ·subst hji
    obtain ⟨q, hq, hq4, hql, hyl, hyb⟩ := hy
    obtain rfl : p = q := Option.some.inj (hp.symm.trans hq)
    have : d = c := by omega
    subst this
    rw [honly y hyl hyb] at hPne
    exact (hPne rfl).elim
   ·refine ⟨.inr ⟨j, d, y, hd, (hBe.cell hji).2 hy, rfl, rfl⟩, ?_⟩
    obtain ⟨q, hq, hq4, hql, hyl, _⟩ := hy
    have := cell_lt hd hyl
    have := wdOf_pos hd
    unfold Bu.addr
    omega
theorem HS.giveCell {β : Bu} {ps : List Int} {F C L : Nat → List Nat} (I : HS β ps F C L) {i c x : Nat} (hc : c < 8) (hx : Cell β i c x) :
  ∃ β' ps' F' C' L', HS β' ps' F' C' L' ∧ Gone β β' (β.addr i + x * wdOf c) ∧
   ∀ (w : World) (s pb : Nat) (K : BuL), SlRep w s pb K β ps → Glob w → (∀ k ∈ s :: pb :: K.fp, 9 ≤ k) → Calls Tryz.prog 196 #[.pointer (some ⟨s, 0, none⟩), .int .u64 (β.addr i + x * wdOf c : Nat)] w (Taken w s pb K β' ps' (.int .i64 0)) := by
 obtain ⟨p, hp, h4, hcl, hxl, hb⟩ := hx
 have D := I.slab.pages i p hp h4
 have hlv : p.live ≤ 256 := by
  have h1 := D.live
  have := (wdOf_cells p.cls D.cls).2.2.2.2
  omega
 by_cases h1 : p.live = 1
 ·obtain ⟨him, H2, B2, hL⟩ := I.giveC hc hp h4 hcl hxl hb h1
  obtain ⟨nb1, nb2, nb3⟩ := I.slab.nb hc him hp
  have hnb : ∀ {n : Int}, NbOk β.μ i n → NbOk (β.μ.setPage i (p.own x false)) i n := by
   rintro n (h | ⟨j, q, e, hji, hq, hk, a1, a2⟩)
   ·exact .inl h
   ·refine .inr ⟨j, q, e, hji, (List.getElem?_set_ne (fun e => hji e.symm)).trans hq, hk, ?_, ?_⟩
    ·rw [show (β.μ.setPage i (p.own x false)).pages.length = β.μ.pages.length from List.length_set ..]; exact a1
    ·rw [show (β.μ.setPage i (p.own x false)).pages.length = β.μ.pages.length from List.length_set ..]; exact a2
  obtain ⟨H3, G3⟩ := H2.giveBig (a := i) (k := 0) (Nat.zero_le _) B2
  refine ⟨_, _, _, _, _, H3, ⟨G3.base, ?_, G3.limit, G3.n, fun P S => (G3.live P S).trans (hL P S), ?_⟩, fun w s pb K R G far => R.give_last G far c i x hc I.nums.full hp h4 hcl hxl hb h1 (hnb nb1) (hnb nb2) nb3 H2.inv B2⟩
  ·rw [G3.order]
   exact (run_same _ _ _ _).1.trans (unhung_same _ _ _).1
  ·intro P S h hne q hq1 hq2
   have h' := (hL P S).2 ⟨h, hne⟩
   exact G3.byte P S h'.1 h'.2 q hq1 hq2
 ·have hlv1 : 1 < p.live := by have := D.some_; omega
  cases hC : C i with
  | nil =>
   obtain ⟨HO, H, G0⟩ := I.giveB hc hp h4 hcl hxl hb hlv1 hC
   have hf : p.first = -1 := by have := D.first; rw [hC] at this; exact this
   exact ⟨_, _, _, _, _, H, G0, fun w s pb K R G far => R.give_one G far c i x hc I.nums.full hp h4 hcl hxl hb hf ⟨hlv1, hlv⟩ HO⟩
  | cons f u =>
   obtain ⟨H, G0⟩ := I.giveA hc hp h4 hcl hxl hb hlv1 hC
   have hf : p.first = (f : Int) := by have := D.first; rw [hC] at this; exact this
   have hfl := ((D.mem f).1 (by rw [hC]; simp)).1
   rw [hcl] at hfl
   exact ⟨_, _, _, _, _, H, G0, fun w s pb K R G far => R.give_more G far c i x f hc I.nums.full hp h4 hcl hxl hb hf hfl ⟨hlv1, hlv⟩⟩
end Go.Proofs.YtnjcmcnjgdjbiaaGreatDoor
namespace Go.Proofs.YtnjcmcnjgdjbiaaGreatDoor
open Go.RowKit Go.MuLone
def NoneAt (β : Bu) (p : Nat) : Prop := ∀ P S, Live β P S → p < P ∨ P + S ≤ p
theorem HS.endOf {β : Bu} {ps : List Int} {F C L : Nat → List Nat} (I : HS β ps F C L) : β.σ.base + β.σ.size * β.σ.n = β.σ.base + 4096 * β.μ.pages.length := by
 rw [I.nums.size, I.nums.full, Nat.mul_assoc, Nat.mul_comm (2 ^ β.μ.order)]
theorem cell_of {A wd off x : Nat} (hA : wd ∣ A) (hA4 : A % 4096 = 0) (hw : 0 < wd) (hx : x = off / wd) (_ho : off < 4096) (hin : x * wd + wd ≤ 4096) : (A + off) / wd * wd = A + x * wd ∧ (A + off) / wd * wd % 4096 / wd = x := by
 obtain ⟨M, rfl⟩ := hA
 have h1 : (wd * M + off) / wd = M + off / wd := Nat.mul_add_div hw M off
 rw [h1, ← hx, Nat.add_mul, Nat.mul_comm M wd]
 refine ⟨rfl, ?_⟩
 have h2 : (wd * M + x * wd) % 4096 = x * wd := by omega
 rw [h2]
 exact Nat.mul_div_cancel _ hw
theorem HS.base_al {β : Bu} {ps : List Int} {F C L : Nat → List Nat} (I : HS β ps F C L) : β.σ.base % 4096 = 0 := by
 have h := I.nums.al
 have : (4096 * 2 ^ β.μ.order) ∣ β.σ.base := Nat.dvd_of_mod_eq_zero h
 exact Nat.mod_eq_zero_of_dvd (Nat.dvd_trans (Nat.dvd_mul_right _ _) this)
theorem HS.block {β : Bu} {ps : List Int} {F C L : Nat → List Nat} (I : HS β ps F C L) (p : Nat) (hp : p < 18446744073709551616) :
  (∃ P S, Live β P S ∧ P ≤ p ∧ p < P + S ∧ ∀ (m : Int) (w : World) (hb s pb : Nat) (K : BuL), HpRep m w hb s pb K β ps → Calls Tryz.prog 110 #[.pointer (some ⟨hb, 0, none⟩), .int .u64 p] w (Blocked w P S true)) ∨
  (NoneAt β p ∧ ∃ P S : Nat, ∀ (m : Int) (w : World) (hb s pb : Nat) (K : BuL), HpRep m w hb s pb K β ps → Calls Tryz.prog 110 #[.pointer (some ⟨hb, 0, none⟩), .int .u64 p] w (Blocked w P S false)) := by
 have hno : ∀ {Q : Prop}, (∀ (x off : Nat) (q : Pg), p = β.σ.base + 4096 * x + off → off < 4096 → β.μ.pages[x]? = some q → (q.kind = 2 ∨ q.kind = 3 ∨ q.kind = 4) → False) → Q → NoneAt β p ∧ Q := by
  intro Q h hQ
  refine ⟨fun P S hL => Classical.byContradiction (fun hc => ?_), hQ⟩
  obtain ⟨x, off, q, e, ho, hq, hk⟩ := hL.pages (q := p) (by omega) (by omega)
  exact h x off q e ho hq hk
 have hend := I.endOf
 by_cases h1 : p < β.σ.base
 ·exact .inr (hno (fun x off q e _ _ _ => by omega) ⟨0, 0, fun m w hb s pb K R => R.block_lo p h1⟩)
 by_cases h2 : β.σ.base + 4096 * β.μ.pages.length ≤ p
 ·refine .inr (hno (fun x off q e ho hq _ => ?_) ⟨0, 0, fun m w hb s pb K R => R.block_hi p (by omega) (by omega)⟩)
  have := (List.getElem?_eq_some_iff.1 hq).1
  omega
 obtain ⟨i, hi⟩ : ∃ i, i = (p - β.σ.base) / 4096 := ⟨_, rfl⟩
 obtain ⟨off, hoff⟩ : ∃ off, off = (p - β.σ.base) % 4096 := ⟨_, rfl⟩
 have hpe : p = β.σ.base + 4096 * i + off := by omega
 have ho4 : off < 4096 := by omega
 have hil : i < β.μ.pages.length := by omega
 obtain ⟨pg, hpg⟩ : ∃ pg, β.μ.pages[i]? = some pg := ⟨_, List.getElem?_eq_getElem hil⟩
 by_cases h4 : pg.kind = 4
 ·have D := I.slab.pages i pg hpg h4
  obtain ⟨c, hcc⟩ : ∃ c : Nat, pg.cls = c := ⟨pg.cls.toNat, by have := D.cls; omega⟩
  have hc : c < 8 := by have := D.cls; omega
  obtain ⟨u1, u2, u3, u4, u5, u6⟩ := wd_facts hc
  have hx : off / wdOf c < cellsN c := by
   rw [← u6]
   refine (Nat.div_lt_iff_lt_mul (by omega)).2 ?_
   rw [u3]
   exact ho4
  have hin := cell_lt hc hx
  have hd4 : wdOf c ∣ 4096 := ⟨4096 / wdOf c, by rw [Nat.mul_comm]; exact u3.symm⟩
  have hb4 := I.base_al
  have hdA : wdOf c ∣ β.σ.base + 4096 * i := Nat.dvd_trans hd4 (Nat.dvd_of_mod_eq_zero (by omega))
  obtain ⟨e1, e2⟩ := cell_of hdA (by omega) (by omega) rfl ho4 hin
  rw [← hpe] at e1 e2
  have hIS : InSlab β p i c pg := ⟨hpg, h4, hcc, by omega, hi.symm⟩
  have hdiv := Nat.div_add_mod off (wdOf c)
  have hmod := Nat.mod_lt off (show 0 < wdOf c by omega)
  rw [Nat.mul_comm] at hdiv
  have hcell : cellAt p c = off / wdOf c := e2
  cases hbit : pg.bit (off / wdOf c) with
  | true =>
   left
   refine ⟨β.addr i + off / wdOf c * wdOf c, wdOf c, .inr ⟨i, c, _, hc, ⟨pg, hpg, h4, hcc, hx, hbit⟩, rfl, rfl⟩, ?_, ?_, fun m w hb s pb K R => ?_⟩
   ·unfold Bu.addr; omega
   ·unfold Bu.addr; omega
   ·have := R.block_slab p i c hIS
    rw [e1, hcell, hbit] at this
    exact this
  | false =>
   right
   refine ⟨fun P S hL => Classical.byContradiction (fun hc' => ?_), p / wdOf c * wdOf c, wdOf c, fun m w hb s pb K R => ?_⟩
   ·rcases hL with ⟨a, k, hk, hb, rfl, rfl⟩ | ⟨j, d, y, hd, ⟨q, hq, hq4, hql, hyl, hyb⟩, rfl, rfl⟩
    ·unfold Bu.addr at hc'
     have hin' : Inb a k i := ⟨by omega, by omega⟩
     have e := Option.some.inj (hpg.symm.trans (hb.page hin'))
     have := runPg_kind k (i - a)
     rw [← e] at this
     omega
    ·have := cell_lt hd hyl
     unfold Bu.addr at hc'
     have : j = i := by omega
     subst this
     obtain rfl : pg = q := Option.some.inj (hpg.symm.trans hq)
     have : d = c := by omega
     subst this
     have h5 : off / wdOf d * wdOf d < y * wdOf d + wdOf d := by omega
     have h6 : y * wdOf d < off / wdOf d * wdOf d + wdOf d := by omega
     rw [← Nat.succ_mul] at h5 h6
     have h7 := Nat.lt_of_mul_lt_mul_right h5
     have h8 := Nat.lt_of_mul_lt_mul_right h6
     have : y = off / wdOf d := by omega
     rw [this, hbit] at hyb
     simp at hyb
   ·have := R.block_slab p i c hIS
    rw [hcell, hbit] at this
    exact this
 by_cases h23 : pg.kind = 2 ∨ pg.kind = 3
 ·left
  obtain ⟨a, k, hk, hb, hin, hko, ha, _⟩ := I.inv.isLive hpg h23
  refine ⟨β.addr a, 4096 * 2 ^ k, .inl ⟨a, k, hk, hb, rfl, rfl⟩, ?_, ?_, fun m w hb' s pb K R => ?_⟩
  ·have := hin.1; unfold Bu.addr; omega
  ·have := hin.2; unfold Bu.addr; omega
  ·have := R.block_big p i k hpg h23 hko (by omega) (by omega) hi.symm hp
   rw [← ha] at this
   exact this
 ·refine .inr (hno (fun x off' q e ho hq hk => ?_) ⟨0, 0, fun m w hb s pb K R => R.block_free p i hpg ⟨fun h => h23 (.inl h), fun h => h23 (.inr h), h4⟩ (by omega) (by omega) hi.symm hp⟩)
  have : x = i := by omega
  subst this
  obtain rfl : pg = q := Option.some.inj (hpg.symm.trans hq)
  rcases hk with h | h | h
  ·exact h23 (.inl h)
  ·exact h23 (.inr h)
  ·exact h4 h
def Started (w : World) (P size : Nat) (er : Int) (e : Ending) (w' : World) : Prop :=
 e = .returned (.tuple #[.agg #[.int .u64 P, .int .u64 size], .int .i64 er]) ∧ Touch Nothing w w'
theorem start_off {w : World} (hb p P size : Nat) (hne : ((P : Int) == (p : Int)) = false)
  (HB : ∀ W, Touch Nothing w W → Calls Tryz.prog 110 #[.pointer (some ⟨hb, 0, none⟩), .int .u64 p] W (Blocked W P size true)) :
  Calls Tryz.prog 99 #[.pointer (some ⟨hb, 0, none⟩), .int .u64 p] w (Started w 0 0 1) := by
 have T0 := Hd (show Touch Nothing w (w.alloc (.cells #[.int .u64 0, .int .u64 0] 71)) from (Touch.refl _ _).alloc _)
 have B0 := Hd (Blk.new w #[.int .u64 0, .int .u64 0] 71)
 have H := Hd (HB _ T0.out)
 have hne' : ¬ ((P : Int) = (p : Int)) := by simpa using hne
 clear HB
 go_enter Tryz.func99, Tryz.ntmps99
 go_wp2_with fail
 refine H.out.mono ?_
 rintro e w1 ⟨rfl, T1⟩
 have B1 := B0.out.touch T1 (fun h => h)
 have c0 := B1.cell 0
 have c1 := B1.cell 1
 have f0 := B1.free 0
 have f1 := B1.free 1
 have lt1 : w.heap.size < w1.heap.size := B1.lt
 have HT := Hd (T0.out.trans T1)
 have HB3 := Hd (((B1.set 0 (.int .u64 0)).set 1 (.int .u64 0)).alloc (.cells #[.int .u64 P, .int .u64 size] 71))
 simp at c0 c1
 clear B1 T1
 go_wp2_with fail
 have d0 := HB3.out.cell 0
 have d1 := HB3.out.cell 1
 simp at d0 d1
 have T5 : Touch (· = w.heap.size) w1 (((w1.setCell ⟨w.heap.size, 0, none⟩ (.int .u64 0)).setCell ⟨w.heap.size, 1, none⟩ (.int .u64 0)).alloc (.cells #[.int .u64 P, .int .u64 size] 71)) := ((Touch.cellAt w1 w.heap.size 0 (.int .u64 0)).trans (Touch.cellAt _ w.heap.size 1 (.int .u64 0))).alloc _
 exact bodyPost_ret (v := .tuple #[.agg #[.int .u64 0, .int .u64 0], .int .i64 1]) (by simp [results, Tryz.results99, go_sem, d0, d1]) rfl ⟨rfl, HT.out.trans' T5 (fun i hi e => by omega)⟩
theorem start_yes {w : World} (hb p size : Nat)
  (HB : ∀ W, Touch Nothing w W → Calls Tryz.prog 110 #[.pointer (some ⟨hb, 0, none⟩), .int .u64 p] W (Blocked W p size true)) :
  Calls Tryz.prog 99 #[.pointer (some ⟨hb, 0, none⟩), .int .u64 p] w (Started w p size 0) := by
 have T0 := Hd (show Touch Nothing w (w.alloc (.cells #[.int .u64 0, .int .u64 0] 71)) from (Touch.refl _ _).alloc _)
 have B0 := Hd (Blk.new w #[.int .u64 0, .int .u64 0] 71)
 have H := Hd (HB _ T0.out)
 clear HB
 go_enter Tryz.func99, Tryz.ntmps99
 go_wp2_with fail
 refine H.out.mono ?_
 rintro e w1 ⟨rfl, T1⟩
 have B1 := B0.out.touch T1 (fun h => h)
 have c0 := B1.cell 0
 have c1 := B1.cell 1
 have f0 := B1.free 0
 have f1 := B1.free 1
 have lt1 : w.heap.size < w1.heap.size := B1.lt
 have HT := Hd (T0.out.trans T1)
 have HB3 := Hd (((B1.set 0 (.int .u64 p)).set 1 (.int .u64 size)).alloc (.cells #[.int .u64 p, .int .u64 size] 71))
 simp at c0 c1
 clear B1 T1
 go_wp2_with fail
 have d0 := HB3.out.cell 0
 have d1 := HB3.out.cell 1
 simp at d0 d1
 have T5 : Touch (· = w.heap.size) w1 (((w1.setCell ⟨w.heap.size, 0, none⟩ (.int .u64 p)).setCell ⟨w.heap.size, 1, none⟩ (.int .u64 size)).alloc (.cells #[.int .u64 p, .int .u64 size] 71)) := ((Touch.cellAt w1 w.heap.size 0 (.int .u64 p)).trans (Touch.cellAt _ w.heap.size 1 (.int .u64 size))).alloc _
 exact bodyPost_ret (v := .tuple #[.agg #[.int .u64 p, .int .u64 size], .int .i64 0]) (by simp [results, Tryz.results99, go_sem, d0, d1]) rfl ⟨rfl, HT.out.trans' T5 (fun i hi e => by omega)⟩
theorem HS.start {β : Bu} {ps : List Int} {F C L : Nat → List Nat} (I : HS β ps F C L) (p : Nat) (hp : p < 18446744073709551616) :
  (∃ S, Live β p S ∧ ∀ (m : Int) (w : World) (hb s pb : Nat) (K : BuL), HpRep m w hb s pb K β ps → Calls Tryz.prog 99 #[.pointer (some ⟨hb, 0, none⟩), .int .u64 p] w (Started w p S 0)) ∨
  ((∀ S, ¬ Live β p S) ∧ ∀ (m : Int) (w : World) (hb s pb : Nat) (K : BuL), HpRep m w hb s pb K β ps → Calls Tryz.prog 99 #[.pointer (some ⟨hb, 0, none⟩), .int .u64 p] w (Started w 0 0 1)) := by
 have hpos : ∀ {P S}, Live β P S → 0 < S := by
  rintro P S (⟨a, k, _, _, _, rfl⟩ | ⟨i, c, x, hc, _, _, rfl⟩)
  ·have := pow0 k; omega
  ·have := wdOf_pos hc; omega
 rcases I.block p hp with ⟨P, S, hL, h1, h2, H⟩ | ⟨hno, P, S, H⟩
 ·by_cases e : P = p
  ·subst e
   exact .inl ⟨S, hL, fun m w hb s pb K R => start_yes hb P S (fun W T => H m W hb s pb K (R.touch0 T))⟩
  ·refine .inr ⟨fun S' hL' => ?_, fun m w hb s pb K R => start_off hb p P S (by rw [beq_eq_false_iff_ne]; omega) (fun W T => H m W hb s pb K (R.touch0 T))⟩
   have := hpos hL'
   exact e (hL.meet hL' h1 h2 (Nat.le_refl _) (by omega)).1
 ·refine .inr ⟨fun S' hL' => ?_, fun m w hb s pb K R => start_no hb p P S (fun W T => H m W hb s pb K (R.touch0 T))⟩
  have := hpos hL'
  have := hno p S' hL'
  omega
def GaveAs (w : World) (Q : World → World → Prop) (e : Ending) (w' : World) : Prop := e = .returned (.tuple #[]) ∧ ∃ W, Touch Nothing w W ∧ Q W w'
theorem give_small {w : World} (hb s P r : Nat) (Q : World → World → Prop) (c6 : w.cell? ⟨hb, 6, none⟩ = some (.pointer (some ⟨s, 0, none⟩))) (lhb : hb < w.heap.size) (hr : (r : Int) < 4096)
  (HT : ∀ W, Touch Nothing w W → Calls Tryz.prog 196 #[.pointer (some ⟨s, 0, none⟩), .int .u64 P] W fun e w' => e = .returned (.int .i64 0) ∧ Q W w') :
  Calls Tryz.prog 141 #[.pointer (some ⟨hb, 0, none⟩), .agg #[.int .u64 P, .int .u64 r]] w (GaveAs w Q) := by
 have T0 := Hd (fun k => ((Touch.refl Nothing w).alloc (.cells #[.int .u64 P, .int .u64 r] 71)).drewN k)
 have HTk := Hd (fun k => HT _ (T0.out k))
 have hcf : ∀ (us : Array Value) (W : World), (callFunc 196 us).run Tryz.prog W = .ok (.enter 196 us) W := fun us W => by simp [go_sem]
 have HCF := Hd hcf
 clear hcf HT
 go_enter Tryz.func141, Tryz.ntmps141
 go_wp2_with fail
 go_region_law (refine step_call_list _ (by rfl) 196 #[.tmp 10, .tmp 12] #[87, 33] (by rfl) #[.pointer (some ⟨s, 0, none⟩), .int .u64 P] (by rfl) (HTk.out 1) (HCF.out _ _) ?_; rintro e w1 ⟨rfl, hQ⟩; refine ⟨_, rfl, ?_⟩; have HQ := Hd hQ; clear hQ)
 all_goals
  go_wp2_with fail
  go_end0
  exact ⟨rfl, _, T0.out 1, HQ.out⟩
theorem give_big {w : World} (hb pb P r o : Nat) (Q : World → World → Prop) (c5 : w.cell? ⟨hb, 5, none⟩ = some (.pointer (some ⟨pb, 0, none⟩))) (lhb : hb < w.heap.size) (hr : (4096 : Int) ≤ r) (hr2 : r ≤ 1048576) (hc : (Lib.bitLen (r / 4096) : Int) - 1 = o)
  (HT : ∀ W, Touch Nothing w W → Calls Tryz.prog 197 #[.pointer (some ⟨pb, 0, none⟩), .int .u64 P, .int .i64 o] W fun e w' => e = .returned (.int .i64 0) ∧ Q W w') :
  Calls Tryz.prog 141 #[.pointer (some ⟨hb, 0, none⟩), .agg #[.int .u64 P, .int .u64 r]] w (GaveAs w Q) := by
 have T0 := Hd (fun k => ((Touch.refl Nothing w).alloc (.cells #[.int .u64 P, .int .u64 r] 71)).drewN k)
 have HTk := Hd (fun k => HT _ (T0.out k))
 have HC := Hd (fun W => order_ r W (by omega))
 rw [hc] at HC
 have hcf : ∀ (us : Array Value) (W : World), (callFunc 197 us).run Tryz.prog W = .ok (.enter 197 us) W := fun us W => by simp [go_sem]
 have hcf2 : ∀ (us : Array Value) (W : World), (callFunc 138 us).run Tryz.prog W = .ok (.enter 138 us) W := fun us W => by simp [go_sem]
 have HCF := Hd hcf
 have HCF2 := Hd hcf2
 clear hcf hcf2 HT hc
 go_enter Tryz.func141, Tryz.ntmps141
 go_wp2_with fail
 go_region_law (first | (refine step_call_list _ (by rfl) 138 #[.tmp 21] #[33] (by rfl) #[.int .u64 r] (by rfl) (HC.out _) (HCF2.out _ _) ?_; rintro e w1 ⟨rfl, rfl⟩; refine ⟨_, rfl, ?_⟩) | (refine step_call_list _ (by rfl) 197 #[.tmp 17, .tmp 19, .tmp 22] #[84, 33, 3] (by rfl) #[.pointer (some ⟨pb, 0, none⟩), .int .u64 P, .int .i64 o] (by rfl) (HTk.out 1) (HCF.out _ _) ?_; rintro e w1 ⟨rfl, hQ⟩; refine ⟨_, rfl, ?_⟩; have HQ := Hd hQ; clear hQ))
 all_goals
  go_wp2_with fail
  go_end0
  exact ⟨rfl, _, T0.out 1, HQ.out⟩
end Go.Proofs.YtnjcmcnjgdjbiaaGreatDoor
