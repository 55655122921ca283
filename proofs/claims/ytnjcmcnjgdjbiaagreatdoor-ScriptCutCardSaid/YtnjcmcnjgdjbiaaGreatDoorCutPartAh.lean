/- Package malloc: block of an address beyond the heap, on a free page, in a block of whole pages; start in general. Conditions: as each theorem states. -/
import Derived.Test.YtnjcmcnjgdjbiaaGreatDoorCutPartAg
import Derived.Test.YtnjcmcnjgdjbiaaGreatDoorCutPartAf
set_option maxRecDepth 100000
set_option maxHeartbeats 1000000
namespace Go.Proofs.YtnjcmcnjgdjbiaaGreatDoor
open Go.RowKit Go.MuLone
theorem block_hi_cells (hb pb sb base p : Nat) (w : World)
  (c2 : w.cell? ⟨hb, 2, none⟩ = some (.int .u64 base)) (c5 : w.cell? ⟨hb, 5, none⟩ = some (.pointer (some ⟨pb, 0, none⟩))) (lhb : hb < w.heap.size) (E : Nat) (h1 : ¬ (p < base)) (h2 : E ≤ p)
  (hS : ∀ W, Touch Nothing w W → Calls Tryz.prog 60 #[.pointer (some ⟨pb, 0, none⟩)] W fun e w' => e = .returned (.pointer (some ⟨sb, 0, none⟩)) ∧ W = w')
  (hE : ∀ W, Touch Nothing w W → Calls Tryz.prog 61 #[.pointer (some ⟨sb, 0, none⟩)] W fun e w' => e = .returned (.int .u64 E) ∧ ∃ k, w' = W.drewN k) :
  Calls Tryz.prog 110 #[.pointer (some ⟨hb, 0, none⟩), .int .u64 p] w (Blocked w 0 0 false) := by
 have T0 := Hd (show Touch Nothing w (w.alloc (.cells #[.int .u64 0, .int .u64 0] 71)) from (Touch.refl _ _).alloc _)
 have HS := Hd hS
 have HE := Hd hE
 clear hS hE
 go_enter Tryz.func110, Tryz.ntmps110
 go_wp2_with fail
 refine (HS.out _ T0.out).mono ?_
 rintro e w1 ⟨rfl, rfl⟩
 go_wp2_with fail
 refine (HE.out _ T0.out).mono ?_
 rintro e w1 ⟨rfl, k1, rfl⟩
 have B1 := (Blk.new w #[.int .u64 0, .int .u64 0] 71).drewN k1
 have T1 : Touch Nothing w ((w.alloc (.cells #[.int .u64 0, .int .u64 0] 71)).drewN k1) := T0.out.drewN k1
 generalize (w.alloc (.cells #[.int .u64 0, .int .u64 0] 71)).drewN k1 = w1 at *
 have f0 := B1.free 0
 have f1 := B1.free 1
 have z0 := B1.cell 0
 have z1 := B1.cell 1
 have b0 := ((B1.set 0 (.int .u64 0)).set 1 (.int .u64 0)).cell 0
 have b1 := ((B1.set 0 (.int .u64 0)).set 1 (.int .u64 0)).cell 1
 simp at z0 z1 b0 b1
 go_wp2_with fail
 have T5 : Touch (· = w.heap.size) w1 ((w1.setCell ⟨w.heap.size, 0, none⟩ (.int .u64 0)).setCell ⟨w.heap.size, 1, none⟩ (.int .u64 0)) := (Touch.cellAt w1 w.heap.size 0 (.int .u64 0)).trans (Touch.cellAt _ w.heap.size 1 (.int .u64 0))
 exact bodyPost_ret (v := .tuple #[.agg #[.int .u64 0, .int .u64 0], .bool false]) (by simp [results, Tryz.results110, go_sem, b0, b1]) rfl ⟨rfl, T1.trans' T5 (fun i hi e => by omega)⟩
theorem block_free_cells (hb pb sb mb base p i d : Nat) (pg : Pg) (w : World)
  (c2 : w.cell? ⟨hb, 2, none⟩ = some (.int .u64 base)) (c5 : w.cell? ⟨hb, 5, none⟩ = some (.pointer (some ⟨pb, 0, none⟩))) (lhb : hb < w.heap.size) (E : Nat) (h1 : ¬ (p < base)) (h2 : p < E)
  (hS : ∀ W, Touch Nothing w W → Calls Tryz.prog 60 #[.pointer (some ⟨pb, 0, none⟩)] W fun e w' => e = .returned (.pointer (some ⟨sb, 0, none⟩)) ∧ W = w')
  (hE : ∀ W, Touch Nothing w W → Calls Tryz.prog 61 #[.pointer (some ⟨sb, 0, none⟩)] W fun e w' => e = .returned (.int .u64 E) ∧ ∃ k, w' = W.drewN k)
  (hM : ∀ W, Touch Nothing w W → Calls Tryz.prog 63 #[.pointer (some ⟨pb, 0, none⟩)] W fun e w' => e = .returned (.pointer (some ⟨mb, 0, none⟩)) ∧ W = w')
  (hA : ∀ W, Touch Nothing w W → Calls Tryz.prog 65 #[.pointer (some ⟨mb, 0, none⟩), .int .i64 i] W fun e w' => e = .returned (.tuple #[pg.val, .bool true]) ∧ Touch Nothing W w')
  (hk2 : pg.kind ≠ 2) (hk3 : pg.kind ≠ 3) (hk4 : pg.kind ≠ 4)
  (e1 : (p : Int) - base = (d : Nat)) (e1' : (d : Int) / 4096 = i) (hi : i ≤ 1023) (hp : p ≤ 18446744073709551615) :
  Calls Tryz.prog 110 #[.pointer (some ⟨hb, 0, none⟩), .int .u64 p] w (Blocked w 0 0 false) := by
 have T0 := Hd (show Touch Nothing w (w.alloc (.cells #[.int .u64 0, .int .u64 0] 71)) from (Touch.refl _ _).alloc _)
 have HS := Hd hS
 have HE := Hd hE
 have HM := Hd hM
 have HA := Hd hA
 clear hS hE hM hA
 go_enter Tryz.func110, Tryz.ntmps110
 go_wp2_with fail
 refine (HS.out _ T0.out).mono ?_
 rintro e w1 ⟨rfl, rfl⟩
 go_wp2_with fail
 refine (HE.out _ T0.out).mono ?_
 rintro e w1 ⟨rfl, k1, rfl⟩
 go_wp2_with fail
 have T1 : Touch Nothing w ((w.alloc (.cells #[.int .u64 0, .int .u64 0] 71)).drewN k1) := T0.out.drewN k1
 have B1 := (Blk.new w #[.int .u64 0, .int .u64 0] 71).drewN k1
 have d5 : ((w.alloc (.cells #[.int .u64 0, .int .u64 0] 71)).drewN k1).cell? ⟨hb, 5, none⟩ = some (.pointer (some ⟨pb, 0, none⟩)) := (T1.cell (p := ⟨hb, 5, none⟩) lhb (fun h => h)).trans c5
 refine (HM.out _ T1).mono ?_
 rintro e w2 ⟨rfl, rfl⟩
 have HT1 := Hd T1
 have HB1 := Hd B1
 clear T1 B1
 go_wp2_with fail
 refine (HA.out _ HT1.out).mono ?_
 rintro e w2 ⟨rfl, T2⟩
 have B2 := HB1.out.touch T2 (fun h => h)
 have f0 := B2.free 0
 have f1 := B2.free 1
 have b0 := B2.cell 0
 have b1 := B2.cell 1
 have lb : w.heap.size < w2.heap.size := B2.lt
 have HB2 := Hd B2
 have HT2 := Hd (HT1.out.trans T2)
 simp at b0 b1
 clear B2 T2 d5
 unfold Pg.val
 have B3 := ((HB2.out.set 0 (.int .u64 0)).set 1 (.int .u64 0)).alloc (.cells #[.int .i64 pg.kind, .int .i64 pg.order, .int .i64 pg.cls, .int .i64 pg.live, .int .i64 pg.next, .int .i64 pg.prev, .int .i64 pg.first, .int .u64 pg.b0, .int .u64 pg.b1, .int .u64 pg.b2, .int .u64 pg.b3] 128)
 have b0' := B3.cell 0
 have b1' := B3.cell 1
 simp at b0' b1'
 clear B3
 go_wp2_with fail
 have T5 : ∀ w3 : World, Touch (· = w.heap.size) w3 ((w3.setCell ⟨w.heap.size, 0, none⟩ (.int .u64 0)).setCell ⟨w.heap.size, 1, none⟩ (.int .u64 0)) := fun w3 => (Touch.cellAt w3 w.heap.size 0 (.int .u64 0)).trans (Touch.cellAt _ w.heap.size 1 (.int .u64 0))
 exact bodyPost_ret (v := .tuple #[.agg #[.int .u64 0, .int .u64 0], .bool false]) (by simp [results, Tryz.results110, go_sem, b0', b1']) rfl ⟨rfl, (HT2.out.trans' (T5 _) (fun i hi e => by omega)).alloc _⟩
theorem block_big_cells (hb pb sb mb base p i d o a P S y : Nat) (pg : Pg) (w : World)
  (c2 : w.cell? ⟨hb, 2, none⟩ = some (.int .u64 base)) (c5 : w.cell? ⟨hb, 5, none⟩ = some (.pointer (some ⟨pb, 0, none⟩))) (lhb : hb < w.heap.size) (E : Nat) (h1 : ¬ (p < base)) (h2 : p < E)
  (hS : ∀ W, Touch Nothing w W → Calls Tryz.prog 60 #[.pointer (some ⟨pb, 0, none⟩)] W fun e w' => e = .returned (.pointer (some ⟨sb, 0, none⟩)) ∧ W = w')
  (hE : ∀ W, Touch Nothing w W → Calls Tryz.prog 61 #[.pointer (some ⟨sb, 0, none⟩)] W fun e w' => e = .returned (.int .u64 E) ∧ ∃ k, w' = W.drewN k)
  (hM : ∀ W, Touch Nothing w W → Calls Tryz.prog 63 #[.pointer (some ⟨pb, 0, none⟩)] W fun e w' => e = .returned (.pointer (some ⟨mb, 0, none⟩)) ∧ W = w')
  (hA : ∀ W, Touch Nothing w W → Calls Tryz.prog 65 #[.pointer (some ⟨mb, 0, none⟩), .int .i64 i] W fun e w' => e = .returned (.tuple #[pg.val, .bool true]) ∧ Touch Nothing W w')
  (hH : ∀ W, Touch Nothing w W → Calls Tryz.prog 168 #[.pointer (some ⟨mb, 0, none⟩), .int .i64 i] W fun e w' => e = .returned (.int .i64 a) ∧ Touch Nothing W w')
  (hk : pg.kind = 2 ∨ pg.kind = 3) (ho : pg.order = o) (hmin : min o 64 = o) (_ho0 : (0 : Int) ≤ o) (hS1 : IntKind.u64.wrap (4096 * 2 ^ o) = (S : Int))
  (e1 : (p : Int) - base = (d : Nat)) (e1' : (d : Int) / 4096 = i) (hi : i ≤ 1023) (_hp : p ≤ 18446744073709551615)
  (ha : a ≤ 1023) (ey : (a : Int) * 4096 = y) (hy : y ≤ 4194304) (eP : (base : Int) + y = P) (hP : P ≤ 18446744073709551615) :
  Calls Tryz.prog 110 #[.pointer (some ⟨hb, 0, none⟩), .int .u64 p] w (Blocked w P S true) := by
 have T0 := Hd (show Touch Nothing w (w.alloc (.cells #[.int .u64 0, .int .u64 0] 71)) from (Touch.refl _ _).alloc _)
 have HS := Hd hS
 have HE := Hd hE
 have HM := Hd hM
 have HA := Hd hA
 have HH := Hd hH
 clear hS hE hM hA hH
 go_enter Tryz.func110, Tryz.ntmps110
 go_wp2_with fail
 refine (HS.out _ T0.out).mono ?_
 rintro e w1 ⟨rfl, rfl⟩
 go_wp2_with fail
 refine (HE.out _ T0.out).mono ?_
 rintro e w1 ⟨rfl, k1, rfl⟩
 go_wp2_with fail
 have T1 : Touch Nothing w ((w.alloc (.cells #[.int .u64 0, .int .u64 0] 71)).drewN k1) := T0.out.drewN k1
 have B1 := (Blk.new w #[.int .u64 0, .int .u64 0] 71).drewN k1
 have d5 : ((w.alloc (.cells #[.int .u64 0, .int .u64 0] 71)).drewN k1).cell? ⟨hb, 5, none⟩ = some (.pointer (some ⟨pb, 0, none⟩)) := (T1.cell (p := ⟨hb, 5, none⟩) lhb (fun h => h)).trans c5
 refine (HM.out _ T1).mono ?_
 rintro e w2 ⟨rfl, rfl⟩
 have HT1 := Hd T1
 have HB1 := Hd B1
 clear T1 B1
 go_wp2_with fail
 refine (HA.out _ HT1.out).mono ?_
 rintro e w2 ⟨rfl, T2⟩
 have HB2 := Hd (HB1.out.touch T2 (fun h => h))
 have HT2 := Hd (HT1.out.trans T2)
 have hlw2 : hb < w2.heap.size := Nat.lt_of_lt_of_le lhb HT2.out.size
 have d5' : w2.cell? ⟨hb, 5, none⟩ = some (.pointer (some ⟨pb, 0, none⟩)) := (HT2.out.cell (p := ⟨hb, 5, none⟩) lhb (fun h => h)).trans c5
 clear T2 d5
 unfold Pg.val
 rw [ho]
 rcases hk with hk | hk
 all_goals
  rw [hk]
  go_wp2_with fail
  have B3 := Hd (Blk.new w2 #[.int .i64 pg.kind, .int .i64 o, .int .i64 pg.cls, .int .i64 pg.live, .int .i64 pg.next, .int .i64 pg.prev, .int .i64 pg.first, .int .u64 pg.b0, .int .u64 pg.b1, .int .u64 pg.b2, .int .u64 pg.b3] 128)
  have T3 := (Touch.refl Nothing w2).alloc (.cells #[.int .i64 pg.kind, .int .i64 o, .int .i64 pg.cls, .int .i64 pg.live, .int .i64 pg.next, .int .i64 pg.prev, .int .i64 pg.first, .int .u64 pg.b0, .int .u64 pg.b1, .int .u64 pg.b2, .int .u64 pg.b3] 128)
  rw [hk] at B3 T3
  have HT3 := Hd (HT2.out.trans T3)
  have HB3 := Hd (HB2.out.touch T3 (fun h => h))
  clear T3
  generalize hW : w2.alloc (.cells #[.int .i64 _, .int .i64 o, .int .i64 pg.cls, .int .i64 pg.live, .int .i64 pg.next, .int .i64 pg.prev, .int .i64 pg.first, .int .u64 pg.b0, .int .u64 pg.b1, .int .u64 pg.b2, .int .u64 pg.b3] 128) = w3 at *
  have d5 : w3.cell? ⟨hb, 5, none⟩ = some (.pointer (some ⟨pb, 0, none⟩)) := (HT3.out.cell (p := ⟨hb, 5, none⟩) lhb (fun h => h)).trans c5
  refine (HM.out _ HT3.out).mono ?_
  rintro e w4 ⟨rfl, rfl⟩
  go_wp2_with fail
  refine (HH.out _ HT3.out).mono ?_
  rintro e w4 ⟨rfl, T4⟩
  have HT4 := Hd (HT3.out.trans T4)
  have B4 := HB3.out.touch T4 (fun h => h)
  have b0 := B4.cell 0
  have b1 := B4.cell 1
  have f0 := B4.free 0
  have f1 := B4.free 1
  have C4 := B3.out.touch T4 (fun h => h)
  have g0 := C4.cell 1
  have lw := B4.lt
  have HB4 := Hd ((B4.set 0 (.int .u64 P)).set 1 (.int .u64 S))
  simp at b0 b1 g0
  clear B4 C4 T4 d5
  have d2 : w4.cell? ⟨hb, 2, none⟩ = some (.int .u64 base) := (HT4.out.cell (p := ⟨hb, 2, none⟩) lhb (fun h => h)).trans c2
  go_wp2_with fail
  go_region
  all_goals
   go_wp2_with fail
   have d0 := HB4.out.drew.cell 0
   have d1 := HB4.out.drew.cell 1
   simp at d0 d1
   have T5 : Touch (· = w.heap.size) w4 ((w4.setCell ⟨w.heap.size, 0, none⟩ (.int .u64 P)).setCell ⟨w.heap.size, 1, none⟩ (.int .u64 S)).drew := ((Touch.cellAt w4 w.heap.size 0 (.int .u64 P)).trans (Touch.cellAt _ w.heap.size 1 (.int .u64 S))).drew
   exact bodyPost_ret (v := .tuple #[.agg #[.int .u64 P, .int .u64 S], .bool true]) (by simp [results, Tryz.results110, go_sem, d0, d1]) rfl ⟨rfl, HT4.out.trans' T5 (fun i hi e => by omega)⟩
theorem HpRep.block_hi {m : Int} {w : World} {hb s pb : Nat} {K : BuL} {β : Bu} {ps : List Int} (R : HpRep m w hb s pb K β ps) (p : Nat) (h1 : β.σ.base ≤ p) (h2 : β.σ.base + β.σ.size * β.σ.n ≤ p) :
  Calls Tryz.prog 110 #[.pointer (some ⟨hb, 0, none⟩), .int .u64 p] w (Blocked w 0 0 false) := by
 obtain ⟨-, c2, -, c5, -, -⟩ := R.cells
 exact block_hi_cells hb pb K.L.sb β.σ.base p w c2 c5 R.blk.lt _ (by omega) h2 (fun W T => (R.sl.po.touch0 T).space_) (fun W T => (R.sl.po.touch0 T).bu.sp.end_)
theorem HpRep.block_free {m : Int} {w : World} {hb s pb : Nat} {K : BuL} {β : Bu} {ps : List Int} (R : HpRep m w hb s pb K β ps) (p i : Nat) {pg : Pg} (hi : β.μ.pages[i]? = some pg) (hk : pg.kind ≠ 2 ∧ pg.kind ≠ 3 ∧ pg.kind ≠ 4)
  (h1 : β.σ.base ≤ p) (h2 : p < β.σ.base + β.σ.size * β.σ.n) (h3 : (p - β.σ.base) / 4096 = i) (hp : p < 18446744073709551616) :
  Calls Tryz.prog 110 #[.pointer (some ⟨hb, 0, none⟩), .int .u64 p] w (Blocked w 0 0 false) := by
 obtain ⟨-, c2, -, c5, -, -⟩ := R.cells
 have hlt := (List.getElem?_eq_some_iff.1 hi).1
 have hlen := R.sl.po.bu.mp.ok.len
 exact block_free_cells hb pb K.L.sb K.M.mb β.σ.base p i (p - β.σ.base) pg w c2 c5 R.blk.lt _ (by omega) h2 (fun W T => (R.sl.po.touch0 T).space_) (fun W T => (R.sl.po.touch0 T).bu.sp.end_) (fun W T => (R.sl.po.touch0 T).map_)
  (fun W T => (R.sl.po.touch0 T).bu.mp.at_ hi) hk.1 hk.2.1 hk.2.2 (by omega) (by omega) (by omega) (by omega)
theorem HpRep.block_big {m : Int} {w : World} {hb s pb : Nat} {K : BuL} {β : Bu} {ps : List Int} (R : HpRep m w hb s pb K β ps) (p i o : Nat) {pg : Pg} (hi : β.μ.pages[i]? = some pg) (hk : pg.kind = 2 ∨ pg.kind = 3) (ho : pg.order = o)
  (h1 : β.σ.base ≤ p) (h2 : p < β.σ.base + β.σ.size * β.σ.n) (h3 : (p - β.σ.base) / 4096 = i) (hp : p < 18446744073709551616) :
  Calls Tryz.prog 110 #[.pointer (some ⟨hb, 0, none⟩), .int .u64 p] w (Blocked w (β.addr (i / 2 ^ o * 2 ^ o)) (4096 * 2 ^ o) true) := by
 obtain ⟨-, c2, -, c5, -, -⟩ := R.cells
 have hlt := (List.getElem?_eq_some_iff.1 hi).1
 have hlen := R.sl.po.bu.mp.ok.len
 have h8 := (R.sl.po.bu.mp.ok.page pg (List.mem_of_getElem? hi)).order
 have ho8 : o ≤ 8 := by omega
 have hle : i / 2 ^ o * 2 ^ o ≤ i := Nat.div_mul_le_self _ _
 have htop := R.sl.po.bu.ok.addr_top R.sl.po.bu.sp.ok hlt
 unfold Bu.addr at htop ⊢
 refine block_big_cells hb pb K.L.sb K.M.mb β.σ.base p i (p - β.σ.base) o (i / 2 ^ o * 2 ^ o) _ _ (4096 * (i / 2 ^ o * 2 ^ o)) pg w c2 c5 R.blk.lt _ (by omega) h2 (fun W T => (R.sl.po.touch0 T).space_) (fun W T => (R.sl.po.touch0 T).bu.sp.end_) (fun W T => (R.sl.po.touch0 T).map_)
  (fun W T => (R.sl.po.touch0 T).bu.mp.at_ hi) (fun W T => (R.sl.po.touch0 T).bu.mp.head_ hi o ho) hk ho (by omega) (by omega) (wrap_size ho8) (by omega) (by omega) (by omega) (by omega) (by omega) ?_ ?_ ?_ ?_
 all_goals
  generalize i / 2 ^ o * 2 ^ o = y at *
  omega
end Go.Proofs.YtnjcmcnjgdjbiaaGreatDoor
namespace Go.Proofs.YtnjcmcnjgdjbiaaGreatDoor
def nx (σ : Sp) (b i : Nat) : Nat := σ.word (b + 4096 * i)
def pv (σ : Sp) (b i : Nat) : Nat := σ.word (b + 4096 * i + 8)
theorem setWord_at (σ : Sp) (p v : Nat) (hv : v < 18446744073709551616) : (σ.setWord p v).word p = v := Sp.word_here σ p v hv
theorem setWord_off (σ : Sp) (p v q : Nat) (h : q + 8 ≤ p ∨ p + 8 ≤ q) : (σ.setWord p v).word q = σ.word q := Sp.word_far σ p q _ h
theorem nx_setN (σ : Sp) (b i j v : Nat) (hv : v < 18446744073709551616) : nx (σ.setWord (b + 4096 * i) v) b j = if j = i then v else nx σ b j := by
 unfold nx
 split
 ·next h => subst h; exact setWord_at _ _ _ hv
 ·next h => exact setWord_off _ _ _ _ (by omega)
theorem pv_setN (σ : Sp) (b i j v : Nat) : pv (σ.setWord (b + 4096 * i) v) b j = pv σ b j := by
 unfold pv
 exact setWord_off _ _ _ _ (by omega)
theorem nx_setP (σ : Sp) (b i j v : Nat) : nx (σ.setWord (b + 4096 * i + 8) v) b j = nx σ b j := by
 unfold nx
 exact setWord_off _ _ _ _ (by omega)
theorem pv_setP (σ : Sp) (b i j v : Nat) (hv : v < 18446744073709551616) : pv (σ.setWord (b + 4096 * i + 8) v) b j = if j = i then v else pv σ b j := by
 unfold pv
 split
 ·next h => subst h; exact setWord_at _ _ _ hv
 ·next h => exact setWord_off _ _ _ _ (by omega)
def DL (σ : Sp) (b : Nat) : Nat → Nat → List Nat → Prop
 | _, h, [] => h = 0
 | pr, h, i :: t => h = b + 4096 * i ∧ pv σ b i = pr ∧ DL σ b (b + 4096 * i) (nx σ b i) t
theorem DL.congr {σ σ' : Sp} {b : Nat} : ∀ {l : List Nat} {pr h : Nat}, (∀ i ∈ l, nx σ' b i = nx σ b i ∧ pv σ' b i = pv σ b i) → DL σ b pr h l → DL σ' b pr h l
 | [], _, _, _, D => D
 | i :: t, pr, h, H, D => by
  obtain ⟨h1, h2⟩ := H i (by simp)
  refine ⟨D.1, h2.trans D.2.1, ?_⟩
  rw [h1]
  exact DL.congr (fun j hj => H j (by simp [hj])) D.2.2
theorem DL.congr1 {σ σ' : Sp} {b pr pr' h : Nat} : ∀ {l : List Nat}, (∀ i ∈ l, nx σ' b i = nx σ b i) → (∀ i ∈ l.tail, pv σ' b i = pv σ b i) → (∀ i ∈ l.head?, pv σ' b i = pr') → DL σ b pr h l → DL σ' b pr' h l
 | [], _, _, _, D => D
 | i :: t, hn, hp, hh, D => by
  refine ⟨D.1, hh i (by simp), ?_⟩
  rw [hn i (by simp)]
  exact DL.congr (fun j hj => ⟨hn j (by simp [hj]), hp j (by simpa using hj)⟩) D.2.2
theorem pushed_nx (σ : Sp) (b h i j : Nat) (h64 : h < 18446744073709551616) (hh : h = 0 ∨ ∃ k, h = b + 4096 * k) : nx (pushed σ h (b + 4096 * i)) b j = if j = i then h else nx σ b j := by
 unfold pushed
 split
 ·rw [nx_setP, nx_setN _ _ _ _ _ h64]
 ·rcases hh with e | ⟨k, e⟩
  ·contradiction
  ·rw [show (σ.setWord (b + 4096 * i) h |>.setWord (b + 4096 * i + 8) 0).setWord (h + 8) (b + 4096 * i) = (σ.setWord (b + 4096 * i) h |>.setWord (b + 4096 * i + 8) 0).setWord (b + 4096 * k + 8) (b + 4096 * i) by rw [e], nx_setP, nx_setP, nx_setN _ _ _ _ _ h64]
theorem pushed_pv (σ : Sp) (b h i j : Nat) (hi : b + 4096 * i < 18446744073709551616) (hh : h = 0 ∨ ∃ k, k ≠ i ∧ h = b + 4096 * k) : pv (pushed σ h (b + 4096 * i)) b j = if j = i then 0 else if h = b + 4096 * j ∧ h ≠ 0 then b + 4096 * i else pv σ b j := by
 unfold pushed
 split
 ·next h0 =>
  rw [pv_setP _ _ _ _ _ (by omega), pv_setN]
  simp [h0]
 ·next h0 =>
  rcases hh with e | ⟨k, hk, e⟩
  ·contradiction
  ·subst e
   rw [pv_setP _ _ _ _ _ hi, pv_setP _ _ _ _ _ (by omega), pv_setN]
   by_cases e1 : j = k
   ·subst e1
    rw [if_pos rfl, if_neg hk, if_pos ⟨rfl, h0⟩]
   ·by_cases e2 : j = i
    ·subst e2; simp [e1]
    ·have : ¬ (b + 4096 * k = b + 4096 * j) := by omega
     rw [if_neg e1, if_neg e2, if_neg e2, if_neg (fun h => this h.1)]
theorem DL.pv_pos {σ : Sp} {b k : Nat} (b0 : 0 < b) : ∀ {l : List Nat} {pr h : Nat}, pr ≠ 0 → DL σ b pr h l → k ∈ l → pv σ b k ≠ 0
 | [], _, _, _, _, hk => by simp at hk
 | i :: t, pr, h, hp, D, hk => by
  rcases List.mem_cons.1 hk with rfl | hk
  ·rw [D.2.1]; exact hp
  ·exact DL.pv_pos b0 (by omega) D.2.2 hk
theorem DL.push {σ : Sp} {b h i : Nat} {l : List Nat} (b0 : 0 < b) (hi : i ∉ l) (top : ∀ j ∈ i :: l, b + 4096 * j < 18446744073709551616) (D : DL σ b 0 h l) : DL (pushed σ h (b + 4096 * i)) b 0 (b + 4096 * i) (i :: l) := by
 have hh : h = 0 ∨ ∃ k, k ≠ i ∧ h = b + 4096 * k ∧ k ∈ l := by
  cases l with
  | nil => exact .inl D
  | cons k t => exact .inr ⟨k, fun e => hi (by simp [e]), D.1, by simp⟩
 have hh1 : h = 0 ∨ ∃ k, h = b + 4096 * k := hh.imp id (fun ⟨k, _, e, _⟩ => ⟨k, e⟩)
 have hh2 : h = 0 ∨ ∃ k, k ≠ i ∧ h = b + 4096 * k := hh.imp id (fun ⟨k, n, e, _⟩ => ⟨k, n, e⟩)
 have h64 : h < 18446744073709551616 := by
  rcases hh with e | ⟨k, _, e, hk⟩
  ·omega
  ·rw [e]; exact top k (by simp [hk])
 have hi64 := top i (by simp)
 refine ⟨rfl, ?_, ?_⟩
 ·rw [pushed_pv σ b h i i hi64 hh2]; simp
 ·rw [pushed_nx σ b h i i h64 hh1]
  simp only [if_true]
  cases l with
  | nil => exact D
  | cons k t =>
   have hki : k ≠ i := fun e => hi (by simp [e])
   have hh0 := D.1
   refine ⟨D.1, ?_, ?_⟩
   ·rw [pushed_pv σ b h i k hi64 hh2]
    simp only [hki, if_false]
    rw [if_pos ⟨hh0, by omega⟩]
   ·rw [pushed_nx σ b h i k h64 hh1]
    simp only [hki, if_false]
    by_cases hkt : k ∈ t
    ·-- a list with a page twice has no end
     exact (DL.pv_pos b0 (by omega) D.2.2 hkt D.2.1).elim
    ·refine DL.congr (fun j hj => ?_) D.2.2
     have hji : j ≠ i := fun e => hi (by simp [e ▸ hj])
     have hjk : j ≠ k := fun e => hkt (e ▸ hj)
     rw [pushed_nx σ b h i j h64 hh1, pushed_pv σ b h i j hi64 hh2]
     have : ¬ (h = b + 4096 * j ∧ h ≠ 0) := by omega
     simp [hji, this]
theorem last_some {α : Type} {l : List α} (h : l ≠ []) : ∃ u, l.getLast? = some u := by
 cases hl : l.getLast? with
 | none => exact (h (List.getLast?_eq_none_iff.1 hl)).elim
 | some u => exact ⟨u, rfl⟩
def hdP (b : Nat) : List Nat → Nat
 | [] => 0
 | y :: _ => b + 4096 * y
def lsP (b pr : Nat) (l : List Nat) : Nat := match l.getLast? with | none => pr | some y => b + 4096 * y
theorem lsP_some {b pr y : Nat} {l : List Nat} (h : l.getLast? = some y) : lsP b pr l = b + 4096 * y := by unfold lsP; rw [h]
theorem DL.prevOf {σ : Sp} {b x : Nat} {t : List Nat} : ∀ {a : List Nat} {pr h : Nat}, DL σ b pr h (a ++ x :: t) → pv σ b x = lsP b pr a
 | [], _, _, D => D.2.1
 | [y], _, _, D => D.2.2.2.1
 | y :: z :: a, pr, h, D => by
  have := DL.prevOf (a := z :: a) D.2.2
  obtain ⟨u, hu⟩ := last_some (l := z :: a) (by simp)
  rw [this, lsP_some hu, lsP_some ((List.getLast?_cons_cons).trans hu)]
theorem DL.nextOf {σ : Sp} {b x y : Nat} {t : List Nat} : ∀ {a : List Nat} {pr h : Nat}, DL σ b pr h (a ++ y :: x :: t) → nx σ b y = b + 4096 * x
 | [], _, _, D => D.2.2.1
 | _ :: a, _, _, D => DL.nextOf (a := a) D.2.2
theorem DL.nx0 {σ : Sp} {b x : Nat} : ∀ {a : List Nat} {pr h : Nat}, DL σ b pr h (a ++ [x]) → nx σ b x = 0
 | [], _, _, D => D.2.2
 | _ :: a, _, _, D => DL.nx0 (a := a) D.2.2
theorem DL.nextIs {σ : Sp} {b x : Nat} {a t : List Nat} {pr h : Nat} (D : DL σ b pr h (a ++ x :: t)) : nx σ b x = hdP b t := by
 cases t with
 | nil => exact DL.nx0 D
 | cons y t => exact DL.nextOf D
theorem removed_nx (σ : Sp) (b next prev j : Nat) (n64 : next < 18446744073709551616) (hn : next = 0 ∨ ∃ k, next = b + 4096 * k) (hp : prev = 0 ∨ ∃ k, prev = b + 4096 * k) :
  nx (removed σ next prev) b j = if prev = b + 4096 * j ∧ prev ≠ 0 then next else nx σ b j := by
 have h1 : nx (removed1 σ next prev) b j = if prev = b + 4096 * j ∧ prev ≠ 0 then next else nx σ b j := by
  unfold removed1
  split
  ·next h => simp [h]
  ·next h =>
   obtain ⟨k, e⟩ := hp.resolve_left h
   subst e
   rw [nx_setN _ _ _ _ _ n64]
   by_cases e : j = k
   ·subst e; rw [if_pos rfl, if_pos ⟨rfl, h⟩]
   ·have : ¬ (b + 4096 * k = b + 4096 * j) := by omega
    rw [if_neg e, if_neg (fun h => this h.1)]
 unfold removed
 split
 ·exact h1
 ·next h =>
  obtain ⟨k, e⟩ := hn.resolve_left h
  rw [← h1]
  generalize removed1 σ next prev = τ
  rw [e, nx_setP]
theorem removed_pv (σ : Sp) (b next prev j : Nat) (p64 : prev < 18446744073709551616) (hn : next = 0 ∨ ∃ k, next = b + 4096 * k) (hp : prev = 0 ∨ ∃ k, prev = b + 4096 * k) :
  pv (removed σ next prev) b j = if next = b + 4096 * j ∧ next ≠ 0 then prev else pv σ b j := by
 have h1 : pv (removed1 σ next prev) b j = pv σ b j := by
  unfold removed1
  split
  ·rfl
  ·next h =>
   obtain ⟨k, e⟩ := hp.resolve_left h
   rw [e, pv_setN]
 unfold removed
 split
 ·next h => rw [h1]; simp [h]
 ·next h =>
  obtain ⟨k, e⟩ := hn.resolve_left h
  rw [← h1]
  generalize removed1 σ next prev = τ
  rw [e, pv_setP _ _ _ _ _ p64]
  rw [e] at h
  by_cases e : j = k
  ·subst e; rw [if_pos rfl, if_pos ⟨rfl, h⟩]
  ·have : ¬ (b + 4096 * k = b + 4096 * j) := by omega
   rw [if_neg e, if_neg (fun h => this h.1)]
theorem DL.remove {σ : Sp} {b x next prev : Nat} {t : List Nat} (b0 : 0 < b) (hnx : next = nx σ b x) (hpv : prev = pv σ b x) (n64 : next < 18446744073709551616) (p64 : prev < 18446744073709551616) :
  ∀ {a : List Nat} {pr h : Nat}, DL σ b pr h (a ++ x :: t) → (a ++ x :: t).Nodup → (pr = 0 ∨ ∃ q, pr = b + 4096 * q ∧ q ∉ a ++ x :: t) → DL (removed σ next prev) b pr (if a = [] then next else h) (a ++ t)
 | [], pr, h, D, N, hq => by
  have hn := D.nextIs (a := [])
  have hp : prev = pr := hpv.trans D.2.1
  rw [← hnx] at hn
  have hn' : next = 0 ∨ ∃ k, next = b + 4096 * k := by
   cases t with
   | nil => exact .inl hn
   | cons y t => exact .inr ⟨y, hn⟩
  have hp' : prev = 0 ∨ ∃ k, prev = b + 4096 * k := by rw [hp]; exact hq.imp id (fun ⟨q, e, _⟩ => ⟨q, e⟩)
  have D2 := D.2.2
  rw [← hnx] at D2
  simp only [if_true, List.nil_append]
  simp only [List.nil_append, List.nodup_cons] at N
  refine DL.congr1 (fun i hi => ?_) (fun i hi => ?_) (fun i hi => ?_) D2
  ·rw [removed_nx _ _ _ _ _ n64 hn' hp']
   rw [if_neg]
   rintro ⟨e, ne⟩
   rcases hq with e0 | ⟨q, eq, hq⟩
   ·exact ne (hp.trans e0)
   ·have : q = i := by omega
    exact hq (by simp [this, hi])
  ·rw [removed_pv _ _ _ _ _ p64 hn' hp']
   rw [if_neg]
   rintro ⟨e, ne⟩
   cases t with
   | nil => simp at hi
   | cons y t =>
    have hn : next = b + 4096 * y := hn
    have : y = i := by omega
    subst this
    simp only [List.nodup_cons] at N
    exact N.2.1 (by simpa using hi)
  ·rw [removed_pv _ _ _ _ _ p64 hn' hp']
   cases t with
   | nil => simp at hi
   | cons y t =>
    obtain rfl : y = i := by simpa using hi
    have hn : next = b + 4096 * y := hn
    rw [if_pos ⟨hn, by omega⟩, hp]
 | y :: a, pr, h, D, N, hq => by
  have hN := N
  simp only [List.cons_append, List.nodup_cons] at N
  have ih := DL.remove b0 hnx hpv n64 p64 (a := a) D.2.2 N.2 (.inr ⟨y, rfl, N.1⟩)
  have hn := DL.nextIs (a := y :: a) D
  have hp := DL.prevOf (a := y :: a) D
  rw [← hnx] at hn
  rw [← hpv] at hp
  have hn' : next = 0 ∨ ∃ k, next = b + 4096 * k := by
   cases t with
   | nil => exact .inl hn
   | cons z t => exact .inr ⟨z, hn⟩
  have hp' : prev = 0 ∨ ∃ k, prev = b + 4096 * k := by
   obtain ⟨z, hz⟩ := last_some (l := y :: a) (by simp)
   rw [lsP_some hz] at hp
   exact .inr ⟨z, hp⟩
  have hyx : y ≠ x := fun e => N.1 (by simp [e])
  have hyt : y ∉ t := fun e => N.1 (by simp [e])
  refine ⟨by simpa using D.1, ?_, ?_⟩
  ·rw [removed_pv _ _ _ _ _ p64 hn' hp', if_neg, D.2.1]
   rintro ⟨e, ne⟩
   cases t with
   | nil => exact ne hn
   | cons z t =>
    have hn : next = b + 4096 * z := hn
    have : z = y := by omega
    exact hyt (by simp [this])
  ·rw [removed_nx _ _ _ _ _ n64 hn' hp']
   cases a with
   | nil =>
    have hp1 : prev = b + 4096 * y := hp
    rw [if_pos ⟨hp1, by omega⟩]
    simpa using ih
   | cons z a =>
    rw [if_neg]
    ·simpa using ih
    rintro ⟨e, ne⟩
    obtain ⟨u, hu⟩ := last_some (l := z :: a) (by simp)
    rw [lsP_some ((List.getLast?_cons_cons).trans hu)] at hp
    have hm : u ∈ z :: a := List.mem_of_getLast? hu
    have : u = y := by omega
    rw [this] at hm
    exact N.1 (List.mem_append_left _ hm)
theorem DL.neigh {σ : Sp} {b h x : Nat} {a t : List Nat} (b0 : 0 < b) (D : DL σ b 0 h (a ++ x :: t)) (N : (a ++ x :: t).Nodup) :
  (pv σ b x = 0 ↔ b + 4096 * x = h) ∧ (pv σ b x ≠ 0 → ∃ y ∈ a, pv σ b x = b + 4096 * y ∧ nx σ b y = b + 4096 * x) ∧ (nx σ b x ≠ 0 → ∃ y ∈ t, nx σ b x = b + 4096 * y ∧ pv σ b y = b + 4096 * x) ∧ (pv σ b x = 0 ↔ a = []) := by
 have hp := D.prevOf
 have hn := D.nextIs
 refine ⟨?_, ?_, ?_, ?_⟩
 ·cases a with
  | nil =>
   have h1 : pv σ b x = 0 := hp
   have h2 := D.1
   simp [h1, h2]
  | cons y a =>
   have h1 := D.1
   obtain ⟨z, hz⟩ := last_some (l := y :: a) (by simp)
   rw [lsP_some hz] at hp
   have h2 : y ≠ x := by
    rintro rfl
    simp at N
   constructor
   ·intro e; omega
   ·intro e; omega
 ·intro ne
  rcases List.eq_nil_or_concat a with rfl | ⟨a', y, rfl⟩
  ·exact (ne hp).elim
  ·refine ⟨y, by simp, ?_, ?_⟩
   ·rw [hp]; exact lsP_some (by simp)
   ·rw [List.concat_eq_append, List.append_assoc] at D
    exact DL.nextOf D
 ·intro ne
  cases t with
  | nil => exact (ne hn).elim
  | cons y t =>
   refine ⟨y, by simp, hn, ?_⟩
   have D' : DL σ b 0 h ((a ++ [x]) ++ y :: t) := by simpa using D
   exact D'.prevOf.trans (lsP_some (by simp))
 ·cases a with
  | nil => simpa [lsP] using hp
  | cons y a =>
   obtain ⟨z, hz⟩ := last_some (l := y :: a) (by simp)
   rw [lsP_some hz] at hp
   simp
   omega
theorem put_mem (σ : Sp) (p a : Nat) (bs : List Nat) (h : a < p ∨ p + bs.length ≤ a) : (σ.put p bs).mem a = σ.mem a := by
 unfold Sp.put
 simp only
 rw [if_neg (by omega)]
theorem setWord_mem (σ : Sp) (p v a : Nat) (h : a < p ∨ p + 8 ≤ a) : (σ.setWord p v).mem a = σ.mem a := put_mem σ p a _ h
theorem pushed_mem (σ : Sp) (b h i x off : Nat) (ho : off < 4096) (hi : x ≠ i) (hh : h = 0 ∨ ∃ k, k ≠ x ∧ h = b + 4096 * k) : (pushed σ h (b + 4096 * i)).mem (b + 4096 * x + off) = σ.mem (b + 4096 * x + off) := by
 unfold pushed
 split
 ·rw [setWord_mem _ _ _ _ (by omega), setWord_mem _ _ _ _ (by omega)]
 ·rcases hh with e | ⟨k, hk, e⟩
  ·contradiction
  ·rw [setWord_mem _ _ _ _ (by omega), setWord_mem _ _ _ _ (by omega), setWord_mem _ _ _ _ (by omega)]
theorem removed_mem (σ : Sp) (b next prev x off : Nat) (ho : off < 4096) (hn : next = 0 ∨ ∃ k, k ≠ x ∧ next = b + 4096 * k) (hp : prev = 0 ∨ ∃ k, k ≠ x ∧ prev = b + 4096 * k) : (removed σ next prev).mem (b + 4096 * x + off) = σ.mem (b + 4096 * x + off) := by
 have h1 : (removed1 σ next prev).mem (b + 4096 * x + off) = σ.mem (b + 4096 * x + off) := by
  unfold removed1
  split
  ·rfl
  ·next h =>
   obtain ⟨k, hk, e⟩ := hp.resolve_left h
   rw [setWord_mem _ _ _ _ (by omega)]
 unfold removed
 split
 ·exact h1
 ·next h =>
  obtain ⟨k, hk, e⟩ := hn.resolve_left h
  rw [setWord_mem _ _ _ _ (by omega), h1]
def Inb (a k x : Nat) : Prop := a ≤ x ∧ x < a + 2 ^ k
structure BlkAt (ps : List Pg) (a k : Nat) (kd : Int) : Prop where
 al : 2 ^ k ∣ a
 at_ : ∀ j, j < 2 ^ k → ps[a + j]? = some (runPg kd k j)
theorem pow0 (k : Nat) : 0 < 2 ^ k := Nat.pow_pos (by omega)
theorem al_eq {a k x : Nat} (h : 2 ^ k ∣ a) (hx : Inb a k x) : a = x / 2 ^ k * 2 ^ k := by
 obtain ⟨m, rfl⟩ := h
 have h1 := hx.1
 have h2 := hx.2
 have : x / 2 ^ k = m := Nat.div_eq_of_lt_le (by rw [Nat.mul_comm]; exact h1) (by rw [Nat.succ_mul, Nat.mul_comm]; omega)
 rw [this, Nat.mul_comm]
theorem inb_self (a k : Nat) : Inb a k a := ⟨Nat.le_refl _, by have := pow0 k; omega⟩
theorem BlkAt.page {ps : List Pg} {a k : Nat} {kd : Int} (h : BlkAt ps a k kd) {x : Nat} (hx : Inb a k x) : ps[x]? = some (runPg kd k (x - a)) := by
 have := h.at_ (x - a) (by have := hx.1; have := hx.2; omega)
 rwa [show a + (x - a) = x by have := hx.1; omega] at this
theorem BlkAt.le {ps : List Pg} {a k : Nat} {kd : Int} (h : BlkAt ps a k kd) : a + 2 ^ k ≤ ps.length := by
 have := pow0 k
 have := (List.getElem?_eq_some_iff.1 (h.at_ (2 ^ k - 1) (by omega))).1
 omega
theorem BlkAt.same {ps : List Pg} {a k a' k' x : Nat} {kd kd' : Int} (h : BlkAt ps a k kd) (h' : BlkAt ps a' k' kd') (hx : Inb a k x) (hx' : Inb a' k' x) : a = a' ∧ k = k' ∧ kd = kd' := by
 have e := (h.page hx).symm.trans (h'.page hx')
 have e := Option.some.inj e
 have e1 : ((k : Nat) : Int) = k' := congrArg Pg.order e
 obtain rfl : k = k' := by omega
 have ea : a = a' := (al_eq h.al hx).trans (al_eq h'.al hx').symm
 subst ea
 refine ⟨rfl, rfl, ?_⟩
 have e2 : (runPg kd k (x - a)).kind = (runPg kd' k (x - a)).kind := congrArg Pg.kind e
 simp only [runPg, plainPg] at e2
 split at e2 <;> omega
theorem BlkAt.far {ps ps' : List Pg} {a k : Nat} {kd : Int} (h : BlkAt ps a k kd) (H : ∀ x, Inb a k x → ps'[x]? = ps[x]?) : BlkAt ps' a k kd :=
 ⟨h.al, fun j hj => (H (a + j) ⟨by omega, by omega⟩).trans (h.at_ j hj)⟩
def LiveAt (o : Nat) (ps : List Pg) (H : Nat → Prop) (x : Nat) : Prop :=
 (∃ a k, k ≤ o ∧ BlkAt ps a k 2 ∧ Inb a k x ∧ ∀ y, H y → ¬ Inb a k y) ∨ ∃ p, ps[x]? = some p ∧ p.kind = 4 ∧ p.order = 0
structure BInv (β : Bu) (F : Nat → List Nat) (H : Nat → Prop) : Prop where
 ord : β.μ.order ≤ 8
 heads : β.heads.length = β.μ.order + 1
 prl : β.μ.pairs.length = β.μ.order
 base : 0 < β.σ.base
 top : β.σ.base + 4096 * β.μ.pages.length < 18446744073709551616
 full : 2 ^ β.μ.order ∣ β.μ.pages.length
 hole : ∀ x, H x → x < β.μ.pages.length
 lists : ∀ k, k ≤ β.μ.order → DL β.σ β.σ.base 0 (β.heads.getD k 0) (F k)
 nodup : ∀ k, k ≤ β.μ.order → (F k).Nodup
 free : ∀ k, k ≤ β.μ.order → ∀ i ∈ F k, BlkAt β.μ.pages i k 0
 apart : ∀ k, k ≤ β.μ.order → ∀ i ∈ F k, ∀ x, H x → ¬ Inb i k x
 tile : ∀ x, x < β.μ.pages.length → ¬ H x → (∃ k, k ≤ β.μ.order ∧ ∃ h ∈ F k, Inb h k x) ∨ LiveAt β.μ.order β.μ.pages H x
 pairN : ∀ k, k < β.μ.order → (β.μ.pairs.getD k ⟨0, []⟩).n = β.μ.pages.length / 2 ^ (k + 1)
 pairW : ∀ k, k < β.μ.order → (β.μ.pairs.getD k ⟨0, []⟩).ws.length = ((β.μ.pairs.getD k ⟨0, []⟩).n + 63) / 64
 pair : ∀ k, k < β.μ.order → ∀ q, bitOf (β.μ.pairs.getD k ⟨0, []⟩).ws q = (decide (2 * q * 2 ^ k ∈ F k) != decide ((2 * q + 1) * 2 ^ k ∈ F k))
 merged : ∀ k, k < β.μ.order → ∀ q, ¬ (2 * q * 2 ^ k ∈ F k ∧ (2 * q + 1) * 2 ^ k ∈ F k)
def Upen (o : Nat) (F : Nat → List Nat) (H : Nat → Prop) (x : Nat) : Prop := H x ∨ ∃ k, k ≤ o ∧ ∃ h ∈ F k, Inb h k x
structure Keeps (β β' : Bu) (O : Nat → Prop) : Prop where
 base : β'.σ.base = β.σ.base
 len : β'.μ.pages.length = β.μ.pages.length
 order : β'.μ.order = β.μ.order
 n : β'.σ.n = β.σ.n
 limit : β'.σ.limit = β.σ.limit
 size : β'.σ.size = β.σ.size
 so : β'.σ.order = β.σ.order
 page : ∀ x, ¬ O x → β'.μ.pages[x]? = β.μ.pages[x]?
 byte : ∀ x off, ¬ O x → off < 4096 → β'.σ.mem (β.σ.base + 4096 * x + off) = β.σ.mem (β.σ.base + 4096 * x + off)
 slab : ∀ (x : Nat) (p : Pg), β'.μ.pages[x]? = some p → p.kind = 4 → β.μ.pages[x]? = some p
theorem Keeps.refl (β : Bu) (O : Nat → Prop) : Keeps β β O := ⟨rfl, rfl, rfl, rfl, rfl, rfl, rfl, fun _ _ => rfl, fun _ _ _ _ => rfl, fun _ _ h _ => h⟩
theorem Keeps.trans {β β' β'' : Bu} {O O' : Nat → Prop} (h : Keeps β β' O) (k : Keeps β' β'' O') (hO : ∀ x, O' x → O x) : Keeps β β'' O :=
 ⟨k.base.trans h.base, k.len.trans h.len, k.order.trans h.order, k.n.trans h.n, k.limit.trans h.limit, k.size.trans h.size, k.so.trans h.so,
  fun x hx => (k.page x (fun e => hx (hO x e))).trans (h.page x hx),
  fun x off hx ho => by
   have := k.byte x off (fun e => hx (hO x e)) ho
   rw [h.base] at this
   exact this.trans (h.byte x off hx ho),
  fun x p hp hk => h.slab x p (k.slab x p hp hk) hk⟩
def upd (F : Nat → List Nat) (k : Nat) (l : List Nat) : Nat → List Nat := fun j => if j = k then l else F j
theorem upd_self (F : Nat → List Nat) (k : Nat) (l : List Nat) : upd F k l k = l := by simp [upd]
theorem upd_ne (F : Nat → List Nat) {k j : Nat} (l : List Nat) (h : j ≠ k) : upd F k l j = F j := by simp [upd, h]
def mate (a k : Nat) : Nat := if a / 2 ^ k % 2 = 0 then a + 2 ^ k else a - 2 ^ k
theorem half_form {k x : Nat} (h : 2 ^ k ∣ x) : x = 2 * (x / 2 ^ (k + 1)) * 2 ^ k ∧ x / 2 ^ k % 2 = 0 ∨ x = (2 * (x / 2 ^ (k + 1)) + 1) * 2 ^ k ∧ x / 2 ^ k % 2 = 1 := by
 obtain ⟨m, rfl⟩ := h
 have p := pow0 k
 have e1 : 2 ^ k * m / 2 ^ (k + 1) = m / 2 := by
  rw [Nat.pow_succ, Nat.mul_div_mul_left _ _ p]
 have e2 : 2 ^ k * m / 2 ^ k = m := Nat.mul_div_cancel_left _ p
 rw [e1, e2]
 rcases Nat.mod_two_eq_zero_or_one m with h | h
 ·left
  refine ⟨?_, h⟩
  rw [Nat.mul_comm (2 ^ k)]
  congr 1
  omega
 ·right
  refine ⟨?_, h⟩
  rw [Nat.mul_comm (2 ^ k)]
  congr 1
  omega
theorem half_div (k q : Nat) : 2 * q * 2 ^ k / 2 ^ (k + 1) = q ∧ (2 * q + 1) * 2 ^ k / 2 ^ (k + 1) = q := by
 have p := pow0 k
 rw [Nat.pow_succ, Nat.mul_comm _ (2 ^ k), Nat.mul_comm _ (2 ^ k), Nat.mul_div_mul_left _ _ p, Nat.mul_div_mul_left _ _ p]
 omega
theorem half_mod (k q : Nat) : 2 * q * 2 ^ k / 2 ^ k = 2 * q ∧ (2 * q + 1) * 2 ^ k / 2 ^ k = 2 * q + 1 :=
 ⟨Nat.mul_div_cancel _ (pow0 k), Nat.mul_div_cancel _ (pow0 k)⟩
theorem half_ne (k q : Nat) : 2 * q * 2 ^ k ≠ (2 * q + 1) * 2 ^ k := by
 intro e
 have := Nat.eq_of_mul_eq_mul_right (pow0 k) e
 omega
theorem mate_lo (k q : Nat) : mate (2 * q * 2 ^ k) k = (2 * q + 1) * 2 ^ k := by
 unfold mate
 rw [(half_mod k q).1, if_pos (by omega), Nat.add_mul, Nat.one_mul]
theorem mate_hi (k q : Nat) : mate ((2 * q + 1) * 2 ^ k) k = 2 * q * 2 ^ k := by
 unfold mate
 rw [(half_mod k q).2, if_neg (by omega), Nat.add_mul, Nat.one_mul]
 omega
theorem pair_turn {l l' : List Nat} {k x q : Nat} {b : Bool} (h : 2 ^ k ∣ x) (hx : (x ∈ l) = ¬ (x ∈ l')) (ho : ∀ y, y ≠ x → (y ∈ l' ↔ y ∈ l)) (hb : b = (decide (2 * q * 2 ^ k ∈ l) != decide ((2 * q + 1) * 2 ^ k ∈ l))) :
  (b != decide (q = x / 2 ^ (k + 1))) = (decide (2 * q * 2 ^ k ∈ l') != decide ((2 * q + 1) * 2 ^ k ∈ l')) := by
 subst hb
 have hd := half_div k q
 have hne := half_ne k q
 by_cases hq : q = x / 2 ^ (k + 1)
 ·rcases half_form h with ⟨e, _⟩ | ⟨e, _⟩
  ·rw [← hq] at e
   have h2 := ho ((2 * q + 1) * 2 ^ k) (by rw [e]; exact fun x => hne x.symm)
   rw [← e]
   have hx' : (x ∈ l) ↔ ¬ (x ∈ l') := iff_of_eq hx
   rw [show decide ((2 * q + 1) * 2 ^ k ∈ l') = decide ((2 * q + 1) * 2 ^ k ∈ l) from decide_eq_decide.2 h2, show decide (x ∈ l) = !decide (x ∈ l') by rw [← decide_not]; exact decide_eq_decide.2 hx', decide_eq_true hq]
   cases decide (x ∈ l') <;> cases decide ((2 * q + 1) * 2 ^ k ∈ l) <;> rfl
  ·rw [← hq] at e
   have h2 := ho (2 * q * 2 ^ k) (by rw [e]; exact hne)
   rw [← e]
   have hx' : (x ∈ l) ↔ ¬ (x ∈ l') := iff_of_eq hx
   rw [show decide (2 * q * 2 ^ k ∈ l') = decide (2 * q * 2 ^ k ∈ l) from decide_eq_decide.2 h2, show decide (x ∈ l) = !decide (x ∈ l') by rw [← decide_not]; exact decide_eq_decide.2 hx', decide_eq_true hq]
   cases decide (x ∈ l') <;> cases decide (2 * q * 2 ^ k ∈ l) <;> rfl
 ·rw [decide_eq_false hq]
  have h1 := ho (2 * q * 2 ^ k) (by rintro rfl; exact hq hd.1.symm)
  have h2 := ho ((2 * q + 1) * 2 ^ k) (by rintro rfl; exact hq hd.2.symm)
  have e1 : decide (2 * q * 2 ^ k ∈ l') = decide (2 * q * 2 ^ k ∈ l) := decide_eq_decide.2 h1
  have e2 : decide ((2 * q + 1) * 2 ^ k ∈ l') = decide ((2 * q + 1) * 2 ^ k ∈ l) := decide_eq_decide.2 h2
  rw [e1, e2, Bool.bne_false]
theorem turned_same (β : Bu) (i j : Nat) : (β.turned i j).σ = β.σ ∧ (β.turned i j).heads = β.heads ∧ (β.turned i j).μ.pages = β.μ.pages ∧ (β.turned i j).μ.order = β.μ.order ∧ (β.turned i j).μ.pairs.length = β.μ.pairs.length := by
 unfold Bu.turned
 split
 ·exact ⟨rfl, rfl, rfl, rfl, rfl⟩
 ·exact ⟨rfl, rfl, rfl, rfl, by simp [Mp.flip]⟩
theorem turned_pairs (β : Bu) (i j k : Nat) (hk : k < β.μ.order) (hl : β.μ.pairs.length = β.μ.order) : (β.turned i j).μ.pairs.getD k ⟨0, []⟩ = if k = j then (β.μ.pairs.getD k ⟨0, []⟩).flip (i / 2 ^ (k + 1)) else β.μ.pairs.getD k ⟨0, []⟩ := by
 unfold Bu.turned
 split
 ·rw [if_neg (by omega)]
 ·simp only [Mp.flip, List.getD_eq_getElem?_getD]
  split
  ·next e => subst e; rw [List.getElem?_set_self (by omega)]; simp
  ·next e => rw [List.getElem?_set_ne (fun x => e x.symm)]
theorem BInv.lt {β : Bu} {F : Nat → List Nat} {H : Nat → Prop} (I : BInv β F H) {k i : Nat} (hk : k ≤ β.μ.order) (hi : i ∈ F k) : i + 2 ^ k ≤ β.μ.pages.length ∧ i < β.μ.pages.length := by
 have := (I.free k hk i hi).le
 have := pow0 k
 omega
theorem BInv.one {β : Bu} {F : Nat → List Nat} {H : Nat → Prop} (I : BInv β F H) {k k' i i' x : Nat} (hk : k ≤ β.μ.order) (hi : i ∈ F k) (hk' : k' ≤ β.μ.order) (hi' : i' ∈ F k') (h : Inb i k x) (h' : Inb i' k' x) : i = i' ∧ k = k' := by
 have := (I.free k hk i hi).same (I.free k' hk' i' hi') h h'
 exact ⟨this.1, this.2.1⟩
theorem BInv.addr_lt {β : Bu} {F : Nat → List Nat} {H : Nat → Prop} (I : BInv β F H) {i : Nat} (h : i < β.μ.pages.length) : β.σ.base + 4096 * i < 18446744073709551616 := by
 have := I.top
 omega
theorem BInv.pair_lt {β : Bu} {F : Nat → List Nat} {H : Nat → Prop} (I : BInv β F H) {k i : Nat} (hk : k < β.μ.order) (hi : i < β.μ.pages.length) : i / 2 ^ (k + 1) < (β.μ.pairs.getD k ⟨0, []⟩).n := by
 rw [I.pairN k hk]
 have hd : 2 ^ (k + 1) ∣ β.μ.pages.length := Nat.dvd_trans (Nat.pow_dvd_pow 2 (by omega)) I.full
 rw [Nat.div_lt_iff_lt_mul (pow0 _), Nat.div_mul_cancel hd]
 exact hi
theorem BInv.pair_ws {β : Bu} {F : Nat → List Nat} {H : Nat → Prop} (I : BInv β F H) {k i : Nat} (hk : k < β.μ.order) (hi : i < β.μ.pages.length) : i / 2 ^ (k + 1) / 64 < (β.μ.pairs.getD k ⟨0, []⟩).ws.length := by
 have := I.pair_lt hk hi
 rw [I.pairW k hk]
 omega
theorem BInv.pairs_turn {β β' : Bu} {F : Nat → List Nat} {H : Nat → Prop} (I : BInv β F H) (hp : β'.μ.pairs = β.μ.pairs) (ho : β'.μ.order = β.μ.order) {k x : Nat} {l' : List Nat} (hx : 2 ^ k ∣ x) (hxl : x < β.μ.pages.length) (hm : (x ∈ F k) = ¬ (x ∈ l')) (hl : ∀ y, y ≠ x → (y ∈ l' ↔ y ∈ F k)) :
  ∀ j, j < β.μ.order → (((β'.turned x k).μ.pairs.getD j ⟨0, []⟩).n = (β.μ.pairs.getD j ⟨0, []⟩).n ∧ ((β'.turned x k).μ.pairs.getD j ⟨0, []⟩).ws.length = (β.μ.pairs.getD j ⟨0, []⟩).ws.length ∧
   ∀ q, bitOf ((β'.turned x k).μ.pairs.getD j ⟨0, []⟩).ws q = (decide (2 * q * 2 ^ j ∈ upd F k l' j) != decide ((2 * q + 1) * 2 ^ j ∈ upd F k l' j))) := by
 intro j hj
 rw [turned_pairs β' x k j (by omega) (by rw [hp, ho]; exact I.prl), hp]
 split
 ·next e =>
  subst e
  rw [upd_self]
  refine ⟨rfl, by simp [PSet.flip, flipW], fun q => ?_⟩
  rw [show ((β.μ.pairs.getD j ⟨0, []⟩).flip (x / 2 ^ (j + 1))).ws = flipW (β.μ.pairs.getD j ⟨0, []⟩).ws (x / 2 ^ (j + 1)) from rfl, bitOf_flip _ _ _ (I.pair_ws hj hxl)]
  exact pair_turn hx hm hl (I.pair j hj q)
 ·next e =>
  rw [upd_ne _ _ e]
  exact ⟨rfl, rfl, I.pair j hj⟩
theorem removed_fields (σ : Sp) (next prev : Nat) : (removed σ next prev).base = σ.base ∧ (removed σ next prev).n = σ.n ∧ (removed σ next prev).limit = σ.limit ∧ (removed σ next prev).size = σ.size ∧ (removed σ next prev).order = σ.order := by
 have h1 : (removed1 σ next prev).base = σ.base ∧ (removed1 σ next prev).n = σ.n ∧ (removed1 σ next prev).limit = σ.limit ∧ (removed1 σ next prev).size = σ.size ∧ (removed1 σ next prev).order = σ.order := by
  unfold removed1
  split <;> exact ⟨rfl, rfl, rfl, rfl, rfl⟩
 unfold removed
 split
 ·exact h1
 ·exact h1
def Bu.detach (β : Bu) (k x : Nat) : Bu :=
 { β with σ := removed β.σ (nx β.σ β.σ.base x) (pv β.σ β.σ.base x), heads := β.heads.set k (if pv β.σ β.σ.base x = 0 then nx β.σ β.σ.base x else β.heads.getD k 0) }
theorem detach_μ (β : Bu) (k x : Nat) : (β.detach k x).μ = β.μ := by unfold Bu.detach; rfl
theorem detach_σ (β : Bu) (k x : Nat) : (β.detach k x).σ = removed β.σ (nx β.σ β.σ.base x) (pv β.σ β.σ.base x) := by unfold Bu.detach; rfl
theorem detach_heads (β : Bu) (k x : Nat) : (β.detach k x).heads = β.heads.set k (if pv β.σ β.σ.base x = 0 then nx β.σ β.σ.base x else β.heads.getD k 0) := by unfold Bu.detach; rfl
theorem getD_set_self (l : List Nat) (k v : Nat) (h : k < l.length) : (l.set k v).getD k 0 = v := by
 rw [List.getD_eq_getElem?_getD, List.getElem?_set_self h]; rfl
theorem getD_set_ne (l : List Nat) (k j v : Nat) (h : j ≠ k) : (l.set k v).getD j 0 = l.getD j 0 := by
 rw [List.getD_eq_getElem?_getD, List.getD_eq_getElem?_getD, List.getElem?_set_ne (fun x => h x.symm)]
theorem BInv.links {β : Bu} {F : Nat → List Nat} {H : Nat → Prop} (I : BInv β F H) {k x : Nat} (hk : k ≤ β.μ.order) (hx : x ∈ F k) :
  (nx β.σ β.σ.base x = 0 ∨ ∃ y ∈ F k, y ≠ x ∧ nx β.σ β.σ.base x = β.σ.base + 4096 * y ∧ pv β.σ β.σ.base y = β.σ.base + 4096 * x) ∧
  (pv β.σ β.σ.base x = 0 ∨ ∃ y ∈ F k, y ≠ x ∧ pv β.σ β.σ.base x = β.σ.base + 4096 * y ∧ nx β.σ β.σ.base y = β.σ.base + 4096 * x) ∧
  (pv β.σ β.σ.base x = 0 ↔ β.σ.base + 4096 * x = β.heads.getD k 0) := by
 obtain ⟨a, t, hF⟩ := List.append_of_mem hx
 have D := I.lists k hk
 have N := I.nodup k hk
 rw [hF] at D N ⊢
 obtain ⟨h1, h2, h3, h4⟩ := D.neigh I.base N
 have N' := N
 rw [List.nodup_append] at N
 obtain ⟨_, N2, N3⟩ := N
 refine ⟨?_, ?_, h1⟩
 ·by_cases e : nx β.σ β.σ.base x = 0
  ·exact .inl e
  ·obtain ⟨y, hy, e1, e2⟩ := h3 e
   refine .inr ⟨y, by simp [hy], ?_, e1, e2⟩
   rintro rfl
   simp only [List.nodup_cons] at N2
   exact N2.1 hy
 ·by_cases e : pv β.σ β.σ.base x = 0
  ·exact .inl e
  ·obtain ⟨y, hy, e1, e2⟩ := h2 e
   refine .inr ⟨y, by simp [hy], ?_, e1, e2⟩
   rintro rfl
   exact N3 y hy y (by simp) rfl
theorem BInv.detach {β : Bu} {F : Nat → List Nat} {H : Nat → Prop} (I : BInv β F H) {k x : Nat} (hk : k ≤ β.μ.order) (hx : x ∈ F k) :
  BInv ((β.detach k x).turned x k) (upd F k ((F k).erase x)) (fun y => H y ∨ Inb x k y) ∧ Keeps β ((β.detach k x).turned x k) (Upen β.μ.order F H) ∧
  ∀ y, Upen β.μ.order (upd F k ((F k).erase x)) (fun y => H y ∨ Inb x k y) y ↔ Upen β.μ.order F H y := by
 have hB := I.free k hk x hx
 have hN := I.nodup k hk
 have hxl := (I.lt hk hx).2
 obtain ⟨tσ, th, tp, to_, tl⟩ := turned_same (β.detach k x) x k
 rw [detach_μ] at tp to_ tl
 rw [detach_σ] at tσ
 rw [detach_heads] at th
 have hlk := I.links hk hx
 have hn' : nx β.σ β.σ.base x = 0 ∨ ∃ y, nx β.σ β.σ.base x = β.σ.base + 4096 * y := hlk.1.imp id (fun ⟨y, _, _, e, _⟩ => ⟨y, e⟩)
 have hp' : pv β.σ β.σ.base x = 0 ∨ ∃ y, pv β.σ β.σ.base x = β.σ.base + 4096 * y := hlk.2.1.imp id (fun ⟨y, _, _, e, _⟩ => ⟨y, e⟩)
 have n64 : nx β.σ β.σ.base x < 18446744073709551616 := by
  rcases hlk.1 with e | ⟨y, hy, _, e, _⟩
  ·omega
  ·rw [e]; exact I.addr_lt (I.lt hk hy).2
 have p64 : pv β.σ β.σ.base x < 18446744073709551616 := by
  rcases hlk.2.1 with e | ⟨y, hy, _, e, _⟩
  ·omega
  ·rw [e]; exact I.addr_lt (I.lt hk hy).2
 have hme : ∀ y, y ∈ (F k).erase x ↔ y ≠ x ∧ y ∈ F k := fun y => hN.mem_erase_iff
 have hsub : ∀ j, ∀ y ∈ upd F k ((F k).erase x) j, y ∈ F j := by
  intro j y hy
  unfold upd at hy
  split at hy
  ·next e => subst e; exact ((hme y).1 hy).2
  ·exact hy
 have hback : ∀ j, ∀ y ∈ F j, (j = k → y ≠ x) → y ∈ upd F k ((F k).erase x) j := by
  intro j y hy hne
  unfold upd
  split
  ·next e => subst e; exact (hme y).2 ⟨hne rfl, hy⟩
  ·exact hy
 have hPT := I.pairs_turn (β' := β.detach k x) (by rw [detach_μ]) (by rw [detach_μ]) (x := x) (k := k) (l' := (F k).erase x) hB.al hxl (by simp [hme, hx]) (fun y hy => by rw [hme]; simp [hy])
 obtain ⟨hbase, hsame⟩ := removed_fields β.σ (nx β.σ β.σ.base x) (pv β.σ β.σ.base x)
 have hxu : ∀ y, Inb x k y → Upen β.μ.order F H y := fun y hy => .inr ⟨k, hk, x, hx, hy⟩
 refine ⟨?_, ?_, ?_⟩
 ·constructor
  ·rw [to_]; exact I.ord
  ·rw [th, to_, List.length_set]; exact I.heads
  ·rw [tl, to_]; exact I.prl
  ·rw [tσ, hbase]; exact I.base
  ·rw [tσ, hbase, tp]; exact I.top
  ·rw [to_, tp]; exact I.full
  ·rw [tp]
   rintro y (hy | hy)
   ·exact I.hole y hy
   ·have := (I.lt hk hx).1; have := hy.2; omega
  ·rw [to_, tσ, th, hbase]
   intro j hj
   by_cases e : j = k
   ·subst e
    rw [upd_self, getD_set_self _ _ _ (by rw [I.heads]; omega)]
    obtain ⟨a, t, hF⟩ := List.append_of_mem hx
    have D := I.lists j hk
    have N := hN
    rw [hF] at D N
    have h4 := (D.neigh I.base N).2.2.2
    have R := DL.remove I.base rfl rfl n64 p64 D N (.inl rfl)
    have hxa : x ∉ a := by
     intro h
     rw [List.nodup_append] at N
     exact N.2.2 x h x (by simp) rfl
    rw [hF, List.erase_append_right _ hxa]
    simp only [List.erase_cons_head]
    by_cases ha : a = []
    ·rw [if_pos (h4.2 ha)]
     rw [if_pos ha] at R
     exact R
    ·rw [if_neg (fun e => ha (h4.1 e))]
     rw [if_neg ha] at R
     exact R
   ·rw [upd_ne _ _ e, getD_set_ne _ _ _ _ e]
    refine DL.congr (fun i hi => ?_) (I.lists j hj)
    have hne : ∀ y ∈ F k, y ≠ i := by
     rintro y hy rfl
     exact e (I.one hj hi hk hy (inb_self _ _) (inb_self _ _)).2
    refine ⟨?_, ?_⟩
    ·rw [removed_nx _ _ _ _ _ n64 hn' hp', if_neg]
     rintro ⟨e1, e0⟩
     rcases hlk.2.1 with h | ⟨y, hy, _, e2, _⟩
     ·exact e0 h
     ·exact hne y hy (by omega)
    ·rw [removed_pv _ _ _ _ _ p64 hn' hp', if_neg]
     rintro ⟨e1, e0⟩
     rcases hlk.1 with h | ⟨y, hy, _, e2, _⟩
     ·exact e0 h
     ·exact hne y hy (by omega)
  ·rw [to_]
   intro j hj
   unfold upd
   split
   ·exact hN.erase x
   ·exact I.nodup j hj
  ·rw [to_, tp]
   exact fun j hj y hy => I.free j hj y (hsub j y hy)
  ·rw [to_]
   rintro j hj y hy z (hz | hz) hyz
   ·exact I.apart j hj y (hsub j y hy) z hz hyz
   ·obtain ⟨rfl, rfl⟩ := I.one hj (hsub j y hy) hk hx hyz hz
    rw [upd_self] at hy
    exact ((hme y).1 hy).1 rfl
  ·rw [to_, tp]
   intro y hy hny
   rcases I.tile y hy (fun h => hny (.inl h)) with ⟨j, hj, h, hh, hyh⟩ | h
   ·left
    refine ⟨j, hj, h, hback j h hh ?_, hyh⟩
    rintro rfl rfl
    exact hny (.inr hyh)
   ·right
    rcases h with ⟨a, m, hm, hb, hy1, hap⟩ | h
    ·refine .inl ⟨a, m, hm, hb, hy1, ?_⟩
     rintro z (hz | hz) hz1
     ·exact hap z hz hz1
     ·have := hb.same hB hz1 hz
      omega
    ·exact .inr h
  ·rw [to_, tp]
   intro j hj
   rw [(hPT j hj).1]
   exact I.pairN j hj
  ·rw [to_]
   intro j hj
   rw [(hPT j hj).1, (hPT j hj).2.1]
   exact I.pairW j hj
  ·rw [to_]
   exact fun j hj => (hPT j hj).2.2
  ·rw [to_]
   exact fun j hj q h => I.merged j hj q ⟨hsub _ _ h.1, hsub _ _ h.2⟩
 ·refine ⟨by rw [tσ, hbase], by rw [tp], by rw [to_], by rw [tσ, hsame.1], by rw [tσ, hsame.2.1], by rw [tσ, hsame.2.2.1], by rw [tσ, hsame.2.2.2], fun y _ => by rw [tp], fun y off hy ho => ?_, fun y p hp _ => by rw [tp] at hp; exact hp⟩
  rw [tσ]
  refine removed_mem _ _ _ _ _ _ ho ?_ ?_
  ·rcases hlk.1 with e | ⟨z, hz, _, e, _⟩
   ·exact .inl e
   ·refine .inr ⟨z, ?_, e⟩
    rintro rfl
    exact hy (.inr ⟨k, hk, z, hz, inb_self _ _⟩)
  ·rcases hlk.2.1 with e | ⟨z, hz, _, e, _⟩
   ·exact .inl e
   ·refine .inr ⟨z, ?_, e⟩
    rintro rfl
    exact hy (.inr ⟨k, hk, z, hz, inb_self _ _⟩)
 ·intro y
  constructor
  ·rintro ((h | h) | ⟨j, hj, h, hh, hy⟩)
   ·exact .inl h
   ·exact hxu y h
   ·exact .inr ⟨j, hj, h, hsub j h hh, hy⟩
  ·rintro (h | ⟨j, hj, h, hh, hy⟩)
   ·exact .inl (.inl h)
   ·by_cases e : j = k ∧ h = x
    ·obtain ⟨rfl, rfl⟩ := e
     exact .inl (.inr hy)
    ·exact .inr ⟨j, hj, h, hback j h hh (fun e1 e2 => e ⟨e1, e2⟩), hy⟩
theorem runIn {μ : Mp} {a k x : Nat} {kd : Int} (hx : Inb a k x) (hl : a + 2 ^ k ≤ μ.pages.length) : (μ.run a k kd).pages[x]? = some (runPg kd k (x - a)) := by
 have := hx.1
 have := hx.2
 have h := runL_get μ.pages a kd k (2 ^ k) (x - a) (by omega) (by omega)
 rwa [show a + (x - a) = x by omega] at h
theorem run_out {μ : Mp} {a k x : Nat} {kd : Int} (hx : ¬ Inb a k x) : (μ.run a k kd).pages[x]? = μ.pages[x]? := by
 refine runL_far μ.pages a kd k (2 ^ k) x ?_
 unfold Inb at hx
 omega
theorem run_slab {μ : Mp} {a k x : Nat} {kd : Int} {p : Pg} (hd : kd = 0 ∨ kd = 2) (hl : a + 2 ^ k ≤ μ.pages.length) (hp : (μ.run a k kd).pages[x]? = some p) (h4 : p.kind = 4) : μ.pages[x]? = some p := by
 by_cases hx : Inb a k x
 ·rw [runIn hx hl] at hp
  have e := Option.some.inj hp
  rw [← e] at h4
  simp only [runPg, plainPg] at h4
  split at h4 <;> omega
 ·rwa [run_out hx] at hp
theorem run_len (μ : Mp) (a k : Nat) (kd : Int) : (μ.run a k kd).pages.length = μ.pages.length := runL_len _ _ _ _ _
theorem run_blk {μ : Mp} {a k : Nat} {kd : Int} (al : 2 ^ k ∣ a) (hl : a + 2 ^ k ≤ μ.pages.length) : BlkAt (μ.run a k kd).pages a k kd :=
 ⟨al, fun j hj => by
  have := runIn (μ := μ) (kd := kd) (x := a + j) (a := a) (k := k) ⟨by omega, by omega⟩ hl
  rwa [show a + j - a = j by omega] at this⟩
theorem inb_lt {a k n : Nat} (h : ∀ y, Inb a k y → y < n) : a + 2 ^ k ≤ n := by
 have := pow0 k
 have := h (a + 2 ^ k - 1) ⟨by omega, by omega⟩
 omega
theorem BInv.pages {β : Bu} {F : Nat → List Nat} {H H' : Nat → Prop} {μ' : Mp} (I : BInv β F H) (ho : μ'.order = β.μ.order) (hp : μ'.pairs = β.μ.pairs) (hl : μ'.pages.length = β.μ.pages.length)
  (hH : ∀ x, H' x → H x) (hpg : ∀ x, ¬ H x → μ'.pages[x]? = β.μ.pages[x]?) (hin : ∀ x, H x → ¬ H' x → LiveAt β.μ.order μ'.pages H' x) : BInv { β with μ := μ' } F H' := by
 have hfree : ∀ k, k ≤ β.μ.order → ∀ i ∈ F k, BlkAt μ'.pages i k 0 := fun k hk i hi => (I.free k hk i hi).far (fun x hx => hpg x (fun h => I.apart k hk i hi x h hx))
 constructor
 ·show μ'.order ≤ 8; rw [ho]; exact I.ord
 ·show β.heads.length = μ'.order + 1; rw [ho]; exact I.heads
 ·show μ'.pairs.length = μ'.order; rw [ho, hp]; exact I.prl
 ·exact I.base
 ·show β.σ.base + 4096 * μ'.pages.length < _; rw [hl]; exact I.top
 ·show 2 ^ μ'.order ∣ μ'.pages.length; rw [ho, hl]; exact I.full
 ·intro x hx; show x < μ'.pages.length; rw [hl]; exact I.hole x (hH x hx)
 ·show ∀ k, k ≤ μ'.order → _; rw [ho]; exact I.lists
 ·show ∀ k, k ≤ μ'.order → _; rw [ho]; exact I.nodup
 ·show ∀ k, k ≤ μ'.order → _; rw [ho]; exact hfree
 ·show ∀ k, k ≤ μ'.order → _; rw [ho]; exact fun k hk i hi x hx => I.apart k hk i hi x (hH x hx)
 ·show ∀ x, x < μ'.pages.length → ¬ H' x → (∃ k, k ≤ μ'.order ∧ _) ∨ LiveAt μ'.order μ'.pages H' x
  rw [ho, hl]
  intro x hx hn
  by_cases h : H x
  ·exact .inr (hin x h hn)
  ·rcases I.tile x hx h with h1 | ⟨a, k, hk, hb, hy, hap⟩ | ⟨p, hp1, hp2⟩
   ·exact .inl h1
   ·exact .inr (.inl ⟨a, k, hk, hb.far (fun y hy => hpg y (fun h => hap y h hy)), hy, fun y hy => hap y (hH y hy)⟩)
   ·exact .inr (.inr ⟨p, (hpg x h).trans hp1, hp2⟩)
 ·show ∀ k, k < μ'.order → (μ'.pairs.getD k _).n = μ'.pages.length / _; rw [ho, hp, hl]; exact I.pairN
 ·show ∀ k, k < μ'.order → (μ'.pairs.getD k _).ws.length = ((μ'.pairs.getD k _).n + 63) / 64; rw [ho, hp]; exact I.pairW
 ·show ∀ k, k < μ'.order → ∀ q, bitOf (μ'.pairs.getD k _).ws q = _; rw [ho, hp]; exact I.pair
 ·show ∀ k, k < μ'.order → _; rw [ho]; exact I.merged
theorem BInv.live {β : Bu} {F : Nat → List Nat} {H : Nat → Prop} (I : BInv β F H) {a k : Nat} (hk : k ≤ β.μ.order) (al : 2 ^ k ∣ a) (hH : ∀ y, Inb a k y → H y) :
  BInv { β with μ := β.μ.run a k 2 } F (fun y => H y ∧ ¬ Inb a k y) ∧ Keeps β { β with μ := β.μ.run a k 2 } (Inb a k) ∧ BlkAt (β.μ.run a k 2).pages a k 2 := by
 have hl := inb_lt (fun y hy => I.hole y (hH y hy))
 have hb := run_blk (μ := β.μ) (kd := 2) al hl
 refine ⟨I.pages rfl rfl (run_len _ _ _ _) (fun x h => h.1) (fun x h => run_out (fun e => h (hH x e))) (fun x h hn => .inl ⟨a, k, hk, hb, ?_, fun y hy => hy.2⟩), ⟨rfl, run_len _ _ _ _, rfl, rfl, rfl, rfl, rfl, fun x h => run_out h, fun x off _ _ => rfl, fun x p hp h4 => run_slab (.inr rfl) hl hp h4⟩, hb⟩
 exact Classical.byContradiction (fun e => hn ⟨h, e⟩)
theorem BInv.slab {β : Bu} {F : Nat → List Nat} {H : Nat → Prop} (I : BInv β F H) {i : Nat} {p : Pg} (hH : H i) (hk : p.kind = 4) (ho : p.order = 0) :
  BInv { β with μ := β.μ.setPage i p } F (fun y => H y ∧ y ≠ i) := by
 have hl := I.hole i hH
 have hs : (β.μ.setPage i p).pages[i]? = some p := List.getElem?_set_self hl
 have hn : ∀ x, x ≠ i → (β.μ.setPage i p).pages[x]? = β.μ.pages[x]? := fun x h => List.getElem?_set_ne (fun e => h e.symm)
 refine I.pages rfl rfl (List.length_set ..) (fun x h => h.1) (fun x h => hn x (by rintro rfl; exact h hH)) (fun x h hn' => ?_)
 have : x = i := Classical.byContradiction (fun e => hn' ⟨h, e⟩)
 subst this
 exact .inr ⟨p, hs, hk, ho⟩
theorem BInv.open_ {β : Bu} {F : Nat → List Nat} {H H' : Nat → Prop} (I : BInv β F H) (hH : ∀ x, H x → H' x) (hl : ∀ x, H' x → x < β.μ.pages.length)
  (hf : ∀ k, k ≤ β.μ.order → ∀ i ∈ F k, ∀ x, H' x → ¬ Inb i k x)
  (ht : ∀ a k, k ≤ β.μ.order → BlkAt β.μ.pages a k 2 → (∀ y, H y → ¬ Inb a k y) → ∀ y, H' y → Inb a k y → ∀ x, Inb a k x → H' x) : BInv β F H' := by
 refine ⟨I.ord, I.heads, I.prl, I.base, I.top, I.full, hl, I.lists, I.nodup, I.free, hf, ?_, I.pairN, I.pairW, I.pair, I.merged⟩
 intro x hx hn
 rcases I.tile x hx (fun h => hn (hH x h)) with h1 | ⟨a, k, hk, hb, hy, hap⟩ | h
 ·exact .inl h1
 ·exact .inr (.inl ⟨a, k, hk, hb, hy, fun y hy1 hy2 => hn (ht a k hk hb hap y hy1 hy2 x hy)⟩)
 ·exact .inr (.inr h)
theorem BInv.openLive {β : Bu} {F : Nat → List Nat} {H : Nat → Prop} (I : BInv β F H) {a k : Nat} (hb : BlkAt β.μ.pages a k 2) : BInv β F (fun y => H y ∨ Inb a k y) := by
 refine I.open_ (fun x h => .inl h) ?_ ?_ ?_
 ·rintro x (h | h)
  ·exact I.hole x h
  ·have := hb.le; have := h.2; omega
 ·rintro j hj i hi x (h | h) hx
  ·exact I.apart j hj i hi x h hx
  ·have := (I.free j hj i hi).same hb hx h
   omega
 ·rintro a' k' hk' hb' hap y (h | h) hy x hx
  ·exact (hap y h hy).elim
  ·obtain ⟨rfl, rfl, -⟩ := hb'.same hb hy h
   exact .inr hx
theorem BInv.openSlab {β : Bu} {F : Nat → List Nat} {H : Nat → Prop} (I : BInv β F H) {i : Nat} {p : Pg} (hi : β.μ.pages[i]? = some p) (hk : p.kind = 4) : BInv β F (fun y => H y ∨ y = i) := by
 have hkind : ∀ {a k kd}, BlkAt β.μ.pages a k kd → Inb a k i → kd = 4 ∨ kd = 3 := by
  intro a k kd hb hx
  have e := Option.some.inj (hi.symm.trans (hb.page hx))
  rw [e] at hk
  simp only [runPg, plainPg] at hk
  split at hk <;> omega
 refine I.open_ (fun x h => .inl h) ?_ ?_ ?_
 ·rintro x (h | rfl)
  ·exact I.hole x h
  ·exact (List.getElem?_eq_some_iff.1 hi).1
 ·rintro j hj a ha x (h | rfl) hx
  ·exact I.apart j hj a ha x h hx
  ·have := hkind (I.free j hj a ha) hx
   omega
 ·rintro a' k' hk' hb' hap y (h | rfl) hy x hx
  ·exact (hap y h hy).elim
  ·have := hkind hb' hy
   omega
theorem BInv.write {β : Bu} {F : Nat → List Nat} {H : Nat → Prop} {σ' : Sp} (I : BInv β F H) (hb : σ'.base = β.σ.base) (hw : ∀ k, k ≤ β.μ.order → ∀ i ∈ F k, nx σ' β.σ.base i = nx β.σ β.σ.base i ∧ pv σ' β.σ.base i = pv β.σ β.σ.base i) : BInv { β with σ := σ' } F H := by
 refine ⟨I.ord, I.heads, I.prl, ?_, ?_, I.full, I.hole, ?_, I.nodup, I.free, I.apart, I.tile, I.pairN, I.pairW, I.pair, I.merged⟩
 ·show 0 < σ'.base; rw [hb]; exact I.base
 ·show σ'.base + _ < _; rw [hb]; exact I.top
 ·show ∀ k, k ≤ β.μ.order → DL σ' σ'.base 0 _ _
  rw [hb]
  exact fun k hk => DL.congr (hw k hk) (I.lists k hk)
theorem BInv.write' {β : Bu} {F : Nat → List Nat} {H : Nat → Prop} {σ' : Sp} (I : BInv β F H) (hb : σ'.base = β.σ.base) (hw : ∀ k, k ≤ β.μ.order → ∀ i ∈ F k, ∀ off, off < 16 → σ'.mem (β.σ.base + 4096 * i + off) = β.σ.mem (β.σ.base + 4096 * i + off)) : BInv { β with σ := σ' } F H := by
 refine I.write hb (fun k hk i hi => ⟨?_, ?_⟩)
 ·refine leBytes_congr (fun a h1 h2 => ?_)
  have := hw k hk i hi (a - (β.σ.base + 4096 * i)) (by omega)
  rwa [show β.σ.base + 4096 * i + (a - (β.σ.base + 4096 * i)) = a by omega] at this
 ·refine leBytes_congr (fun a h1 h2 => ?_)
  have := hw k hk i hi (a - (β.σ.base + 4096 * i)) (by omega)
  rwa [show β.σ.base + 4096 * i + (a - (β.σ.base + 4096 * i)) = a by omega] at this
theorem BInv.head {β : Bu} {F : Nat → List Nat} {H : Nat → Prop} (I : BInv β F H) {k : Nat} (hk : k ≤ β.μ.order) :
  (β.heads.getD k 0 = 0 ∧ F k = []) ∨ ∃ y t, F k = y :: t ∧ β.heads.getD k 0 = β.σ.base + 4096 * y ∧ pv β.σ β.σ.base y = 0 := by
 have D := I.lists k hk
 cases h : F k with
 | nil => rw [h] at D; exact .inl ⟨D, rfl⟩
 | cons y t => rw [h] at D; exact .inr ⟨y, t, rfl, D.1, D.2.1⟩
theorem enter_μ (β : Bu) (a k : Nat) : (β.enter a k).μ = β.μ.run a k 0 := by unfold Bu.enter; rfl
theorem enter_σ (β : Bu) (a k : Nat) : (β.enter a k).σ = pushed β.σ (β.heads.getD k 0) (β.addr a) := by unfold Bu.enter; rfl
theorem enter_heads (β : Bu) (a k : Nat) : (β.enter a k).heads = β.heads.set k (β.addr a) := by unfold Bu.enter; rfl
theorem run_same (μ : Mp) (a k : Nat) (kd : Int) : (μ.run a k kd).order = μ.order ∧ (μ.run a k kd).pairs = μ.pairs := by unfold Mp.run Mp.runK; exact ⟨rfl, rfl⟩
theorem BInv.attach {β : Bu} {F : Nat → List Nat} {H : Nat → Prop} (I : BInv β F H) {a k : Nat} (hk : k ≤ β.μ.order) (al : 2 ^ k ∣ a) (hH : ∀ y, Inb a k y → H y) (hm : k < β.μ.order → mate a k ∉ F k) :
  BInv ((β.enter a k).turned a k) (upd F k (a :: F k)) (fun y => H y ∧ ¬ Inb a k y) ∧ Keeps β ((β.enter a k).turned a k) (Upen β.μ.order F H) ∧
  (∀ y, Upen β.μ.order (upd F k (a :: F k)) (fun y => H y ∧ ¬ Inb a k y) y ↔ Upen β.μ.order F H y) := by
 have hl := inb_lt (fun y hy => I.hole y (hH y hy))
 have hal : a < β.μ.pages.length := I.hole a (hH a (inb_self a k))
 obtain ⟨tσ, th, tp, to_, tl⟩ := turned_same (β.enter a k) a k
 obtain ⟨ro, rp⟩ := run_same β.μ a k 0
 rw [enter_μ] at tp to_ tl
 rw [ro] at to_
 rw [rp] at tl
 rw [enter_σ] at tσ
 rw [enter_heads] at th
 have hna : ∀ j, j ≤ β.μ.order → a ∉ F j := fun j hj h => I.apart j hj a h a (hH a (inb_self a k)) (inb_self a j)
 have hpre : ∀ j, j ≤ β.μ.order → ∀ y ∈ F j, ∀ z, Inb y j z → ¬ H z := fun j hj y hy z hz h => I.apart j hj y hy z h hz
 have I1 : BInv { β with μ := β.μ.run a k 0 } F H := I.pages ro rp (run_len _ _ _ _) (fun _ h => h) (fun x h => run_out (fun e => h (hH x e))) (fun x h hn => (hn h).elim)
 have hPT := I.pairs_turn (β' := β.enter a k) (by rw [enter_μ, rp]) (by rw [enter_μ, ro]) (x := a) (k := k) (l' := a :: F k) al hal (by simp [hna k hk]) (fun y hy => by simp [hy])
 have hbase := (pushed_same β.σ (β.heads.getD k 0) (β.addr a)).1
 have hsub : ∀ j, ∀ y ∈ upd F k (a :: F k) j, y ∈ F j ∨ (j = k ∧ y = a) := by
  intro j y hy
  unfold upd at hy
  split at hy
  ·next e =>
   subst e
   rcases List.mem_cons.1 hy with rfl | hy
   ·exact .inr ⟨rfl, rfl⟩
   ·exact .inl hy
  ·exact .inl hy
 have hback : ∀ j, ∀ y ∈ F j, y ∈ upd F k (a :: F k) j := by
  intro j y hy
  unfold upd
  split
  ·next e => subst e; exact List.mem_cons_of_mem _ hy
  ·exact hy
 have hhd : β.heads.getD k 0 = 0 ∨ ∃ y, y ∈ F k ∧ β.heads.getD k 0 = β.σ.base + 4096 * y := by
  rcases I.head hk with ⟨h, _⟩ | ⟨y, t, e, h, _⟩
  ·exact .inl h
  ·exact .inr ⟨y, by simp [e], h⟩
 have hhd1 : β.heads.getD k 0 = 0 ∨ ∃ y, β.heads.getD k 0 = β.σ.base + 4096 * y := hhd.imp id (fun ⟨y, _, e⟩ => ⟨y, e⟩)
 have hhd2 : β.heads.getD k 0 = 0 ∨ ∃ y, y ≠ a ∧ β.heads.getD k 0 = β.σ.base + 4096 * y := hhd.imp id (fun ⟨y, hy, e⟩ => ⟨y, by rintro rfl; exact hna k hk hy, e⟩)
 have h64 : β.heads.getD k 0 < 18446744073709551616 := by
  rcases hhd with e | ⟨y, hy, e⟩
  ·omega
  ·rw [e]; exact I.addr_lt (I.lt hk hy).2
 refine ⟨?_, ?_, ?_⟩
 ·constructor
  ·rw [to_]; exact I.ord
  ·rw [th, to_, List.length_set]; exact I.heads
  ·rw [tl, to_]; exact I.prl
  ·rw [tσ, hbase]; exact I.base
  ·rw [tσ, hbase, tp, run_len]; exact I.top
  ·rw [to_, tp, run_len]; exact I.full
  ·rw [tp, run_len]
   exact fun x hx => I.hole x hx.1
  ·rw [to_, tσ, th, hbase]
   intro j hj
   unfold Bu.addr
   by_cases e : j = k
   ·subst e
    rw [upd_self, getD_set_self _ _ _ (by rw [I.heads]; omega)]
    refine DL.push I.base (hna j hk) ?_ (I.lists j hk)
    intro y hy
    rcases List.mem_cons.1 hy with rfl | hy
    ·exact I.addr_lt hal
    ·exact I.addr_lt (I.lt hk hy).2
   ·rw [upd_ne _ _ e, getD_set_ne _ _ _ _ e]
    refine DL.congr (fun i hi => ?_) (I.lists j hj)
    have hia : i ≠ a := by rintro rfl; exact hna j hj hi
    refine ⟨?_, ?_⟩
    ·rw [pushed_nx _ _ _ _ _ h64 hhd1, if_neg hia]
    ·rw [pushed_pv _ _ _ _ _ (I.addr_lt hal) hhd2, if_neg hia, if_neg]
     rintro ⟨e1, e0⟩
     rcases hhd with h | ⟨y, hy, e2⟩
     ·exact e0 h
     ·have : y = i := by omega
      subst this
      exact e (I.one hj hi hk hy (inb_self _ _) (inb_self _ _)).2
  ·rw [to_]
   intro j hj
   unfold upd
   split
   ·exact List.nodup_cons.2 ⟨hna k hk, I.nodup k hk⟩
   ·exact I.nodup j hj
  ·rw [to_, tp]
   intro j hj y hy
   rcases hsub j y hy with h | ⟨rfl, rfl⟩
   ·exact I1.free j hj y h
   ·exact run_blk al hl
  ·rw [to_]
   intro j hj y hy z hz hyz
   rcases hsub j y hy with h | ⟨rfl, rfl⟩
   ·exact I.apart j hj y h z hz.1 hyz
   ·exact hz.2 hyz
  ·rw [to_, tp, run_len]
   intro y hy hny
   by_cases hya : Inb a k y
   ·exact .inl ⟨k, hk, a, by rw [upd_self]; simp, hya⟩
   ·rcases I1.tile y (by rw [run_len]; exact hy) (fun h => hny ⟨h, hya⟩) with ⟨j, hj, h, hh, hyh⟩ | ⟨b, m, hm', hb, hy1, hap⟩ | h
    ·exact .inl ⟨j, hj, h, hback j h hh, hyh⟩
    ·exact .inr (.inl ⟨b, m, hm', hb, hy1, fun z hz => hap z hz.1⟩)
    ·exact .inr (.inr h)
  ·rw [to_, tp, run_len]
   intro j hj
   rw [(hPT j hj).1]
   exact I.pairN j hj
  ·rw [to_]
   intro j hj
   rw [(hPT j hj).1, (hPT j hj).2.1]
   exact I.pairW j hj
  ·rw [to_]
   exact fun j hj => (hPT j hj).2.2
  ·rw [to_]
   rintro j hj q ⟨h1, h2⟩
   rcases hsub _ _ h1 with g1 | ⟨rfl, e1⟩
   ·rcases hsub _ _ h2 with g2 | ⟨rfl, e2⟩
    ·exact I.merged j hj q ⟨g1, g2⟩
    ·refine hm hj ?_
     rw [← e2, mate_hi]
     exact g1
   ·rcases hsub _ _ h2 with g2 | ⟨_, e2⟩
    ·refine hm hj ?_
     rw [← e1, mate_lo]
     exact g2
    ·exact half_ne j q (e1.trans e2.symm)
 ·have hs := pushed_same β.σ (β.heads.getD k 0) (β.addr a)
  refine ⟨by rw [tσ, hbase], by rw [tp, run_len], by rw [to_], by rw [tσ]; exact hs.2.2.2.2, by rw [tσ]; exact hs.2.1, by rw [tσ]; exact hs.2.2.2.1, by rw [tσ]; exact hs.2.2.1, fun y hy => by rw [tp]; exact run_out (fun e => hy (.inl (hH y e))), fun y off hy ho => ?_, fun y p hp h4 => by rw [tp] at hp; exact run_slab (.inl rfl) hl hp h4⟩
  rw [tσ]
  refine pushed_mem _ _ _ _ _ _ ho ?_ ?_
  ·rintro rfl; exact hy (.inl (hH y (inb_self _ _)))
  ·refine hhd.imp id (fun ⟨z, hz, e⟩ => ⟨z, ?_, e⟩)
   rintro rfl
   exact hy (.inr ⟨k, hk, z, hz, inb_self _ _⟩)
 ·intro y
  constructor
  ·rintro (h | ⟨j, hj, h, hh, hy⟩)
   ·exact .inl h.1
   ·rcases hsub j h hh with h' | ⟨rfl, rfl⟩
    ·exact .inr ⟨j, hj, h, h', hy⟩
    ·exact .inl (hH y hy)
  ·rintro (h | ⟨j, hj, h, hh, hy⟩)
   ·by_cases e : Inb a k y
    ·exact .inr ⟨k, hk, a, by rw [upd_self]; simp, e⟩
    ·exact .inl ⟨h, e⟩
   ·exact .inr ⟨j, hj, h, hback j h hh, hy⟩
abbrev NoHole : Nat → Prop := fun _ => False
def Bu.Has (β : Bu) : Prop := ∀ i off n, i < β.μ.pages.length → 0 < n → off + n ≤ 4096 → β.σ.has (β.σ.base + 4096 * i + off) n
theorem Keeps.has {β β' : Bu} {O : Nat → Prop} (h : Keeps β β' O) (H : β.Has) : β'.Has := by
 intro i off n hi hn ho
 rw [h.len] at hi
 have := H i off n hi hn ho
 rw [h.base]
 exact ⟨this.pos, by rw [h.base]; exact this.lo, by rw [h.base, h.size, h.n]; exact this.reg, by rw [h.base, h.size]; exact this.fit⟩
theorem Bu.ok.has' {β : Bu} (o : β.ok) : β.Has := fun _ _ _ hi hn hf => o.has hi hn hf
theorem popped_eq (β : Bu) (k x : Nat) (h : pv β.σ β.σ.base x = 0) : β.popped k (nx β.σ β.σ.base x) = β.detach k x := by
 unfold Bu.popped Bu.detach
 rw [h]
 simp
theorem cut1_eq (β : Bu) (s i : Nat) (h : i ≠ β.μ.order) : β.cut1 s i = (β.enter s i).turned s i := by
 unfold Bu.cut1 Bu.turned
 rw [if_neg]
 exact h
theorem turned_top (β : Bu) (a : Nat) : β.turned a β.μ.order = β := by
 unfold Bu.turned
 rw [if_pos rfl]
theorem BInv.hd {β : Bu} {F : Nat → List Nat} {H : Nat → Prop} (I : BInv β F H) (hs : β.Has) {k : Nat} (hk : k ≤ β.μ.order) : β.heads.getD k 0 ≠ 0 → β.σ.has (β.heads.getD k 0) 16 ∧ β.σ.word (β.heads.getD k 0 + 8) = 0 := by
 intro ne
 rcases I.head hk with ⟨h, _⟩ | ⟨y, t, e, h, hp⟩
 ·exact (ne h).elim
 ·rw [h]
  exact ⟨hs y 0 16 (I.lt hk (by rw [e]; simp)).2 (by omega) (by omega), hp⟩
theorem tmod_dvd {a k : Nat} (h : 2 ^ k ∣ a) : (a : Int).tmod (2 ^ k : Nat) = 0 := by
 obtain ⟨m, rfl⟩ := h
 exact (Int.ofNat_tmod _ _).symm.trans (by simp)
def cutF (F : Nat → List Nat) (i j : Nat) : Nat → Nat → List Nat
 | 0 => F
 | m + 1 => upd (cutF F i j m) (j - 1 - m) ((i + 2 ^ (j - 1 - m)) :: cutF F i j m (j - 1 - m))
theorem half_up {i k : Nat} (h : 2 ^ (k + 1) ∣ i) : 2 ^ k ∣ i + 2 ^ k ∧ mate (i + 2 ^ k) k = i := by
 obtain ⟨q, rfl⟩ := h
 have e : 2 ^ (k + 1) * q = 2 * q * 2 ^ k := by rw [Nat.pow_succ, Nat.mul_assoc, Nat.mul_comm]
 have e2 : 2 ^ (k + 1) * q + 2 ^ k = (2 * q + 1) * 2 ^ k := by rw [e, Nat.add_mul, Nat.one_mul]
 rw [e2, mate_hi, e]
 exact ⟨Nat.dvd_mul_left _ _, rfl⟩
theorem BInv.cut1 {β : Bu} {F : Nat → List Nat} {i k : Nat} (I : BInv β F (Inb i (k + 1))) (hk : k < β.μ.order) (al : 2 ^ (k + 1) ∣ i) (hs : β.Has) :
  CutOk β (i + 2 ^ k) k ∧ BInv (β.cut1 (i + 2 ^ k) k) (upd F k ((i + 2 ^ k) :: F k)) (Inb i k) ∧ Keeps β (β.cut1 (i + 2 ^ k) k) (Upen β.μ.order F (Inb i (k + 1))) ∧
  (∀ y, Upen β.μ.order (upd F k ((i + 2 ^ k) :: F k)) (Inb i k) y ↔ Upen β.μ.order F (Inb i (k + 1)) y) := by
 obtain ⟨al', hm⟩ := half_up al
 have hp : 2 ^ (k + 1) = 2 ^ k + 2 ^ k := by rw [Nat.pow_succ]; omega
 have p0 := pow0 k
 have hin : ∀ y, Inb (i + 2 ^ k) k y → Inb i (k + 1) y := fun y hy => ⟨by have := hy.1; omega, by have := hy.2; omega⟩
 have hle := inb_lt (fun y hy => I.hole y hy)
 have hHe : ∀ y, (Inb i (k + 1) y ∧ ¬ Inb (i + 2 ^ k) k y) ↔ Inb i k y := by
  intro y
  unfold Inb
  omega
 obtain ⟨I', K', U'⟩ := I.attach (a := i + 2 ^ k) (k := k) (by omega) al' hin (fun _ => by
  rw [hm]
  intro h
  exact I.apart k (by omega) i h i (inb_self _ _) (inb_self _ _))
 have hfun : (fun y => Inb i (k + 1) y ∧ ¬ Inb (i + 2 ^ k) k y) = Inb i k := funext fun y => propext (hHe y)
 rw [hfun] at I' U'
 rw [cut1_eq _ _ _ (by omega)]
 refine ⟨⟨hk, tmod_dvd al', by omega, I.hd hs (by omega), I.pair_lt hk (by omega)⟩, I', K', U'⟩
theorem BInv.cutN {β : Bu} {F : Nat → List Nat} {i j : Nat} (I : BInv β F (Inb i j)) (hj : j ≤ β.μ.order) (al : 2 ^ j ∣ i) (hs : β.Has) : ∀ m, m ≤ j →
  BInv (β.cutN i j m) (cutF F i j m) (Inb i (j - m)) ∧ Keeps β (β.cutN i j m) (Upen β.μ.order F (Inb i j)) ∧ (∀ y, Upen β.μ.order (cutF F i j m) (Inb i (j - m)) y ↔ Upen β.μ.order F (Inb i j) y) ∧
  (∀ m', m' < m → CutOk (β.cutN i j m') (i + 2 ^ (j - 1 - m')) (j - 1 - m'))
 | 0, _ => ⟨I, Keeps.refl _ _, fun _ => Iff.rfl, fun _ h => by omega⟩
 | m + 1, hm => by
  obtain ⟨I1, K1, U1, C1⟩ := BInv.cutN I hj al hs m (by omega)
  obtain ⟨k, hk⟩ : ∃ k, k = j - 1 - m := ⟨_, rfl⟩
  have e1 : j - m = k + 1 := by omega
  have e2 : j - (m + 1) = k := by omega
  rw [e1] at I1 U1
  have al' : 2 ^ (k + 1) ∣ i := Nat.dvd_trans (Nat.pow_dvd_pow 2 (by omega)) al
  obtain ⟨C, I2, K2, U2⟩ := I1.cut1 (by rw [K1.order]; omega) al' (K1.has hs)
  rw [K1.order] at K2 U2
  rw [e2]
  show BInv ((β.cutN i j m).cut1 (i + 2 ^ (j - 1 - m)) (j - 1 - m)) (upd (cutF F i j m) (j - 1 - m) _) _ ∧ Keeps β ((β.cutN i j m).cut1 (i + 2 ^ (j - 1 - m)) (j - 1 - m)) _ ∧ (∀ y, Upen β.μ.order (upd (cutF F i j m) (j - 1 - m) _) _ y ↔ _) ∧ _
  rw [← hk]
  refine ⟨I2, K1.trans K2 (fun x hx => (U1 x).1 hx), fun y => (U2 y).trans (U1 y), fun m' hm' => ?_⟩
  by_cases e : m' = m
  ·subst e
   rw [← hk]
   exact C
  ·exact C1 m' (by omega)
theorem BInv.took {β : Bu} {F : Nat → List Nat} (I : BInv β F NoHole) (hs : β.Has) {i j o : Nat} {t : List Nat} (lo : o ≤ j) (hj : j ≤ β.μ.order) (hnone : ∀ k, o ≤ k → k < j → F k = []) (hF : F j = i :: t) :
  TakeOk β i j o (nx β.σ β.σ.base i) ∧ BInv (β.took i j o (nx β.σ β.σ.base i)) (cutF (upd F j t) i j (j - o)) NoHole ∧ Keeps β (β.took i j o (nx β.σ β.σ.base i)) (Upen β.μ.order F NoHole) ∧
  BlkAt (β.took i j o (nx β.σ β.σ.base i)).μ.pages i o 2 ∧ (∀ y, Upen β.μ.order (cutF (upd F j t) i j (j - o)) NoHole y ↔ Upen β.μ.order F NoHole y ∧ ¬ Inb i o y) ∧ (∀ y, Inb i o y → Upen β.μ.order F NoHole y) := by
 have hi : i ∈ F j := by rw [hF]; simp
 have hlt := I.lt hj hi
 have al := (I.free j hj i hi).al
 have D := I.lists j hj
 rw [hF] at D
 have hpv := D.2.1
 have her : (F j).erase i = t := by rw [hF]; simp
 obtain ⟨I1, K1, U1⟩ := I.detach hj hi
 rw [her] at I1 U1
 rw [← popped_eq _ _ _ hpv] at I1 K1
 generalize hβ1 : (β.popped j (nx β.σ β.σ.base i)).turned i j = β1 at I1 K1
 have hH : (fun y => NoHole y ∨ Inb i j y) = Inb i j := funext fun y => propext ⟨fun h => h.resolve_left id, .inr⟩
 rw [hH] at I1 U1
 have hs1 := K1.has hs
 obtain ⟨I2, K2, U2, C2⟩ := I1.cutN (by rw [K1.order]; exact hj) al hs1 (j - o) (by omega)
 rw [K1.order] at K2 U2
 rw [show j - (j - o) = o by omega] at I2 U2
 have alo : 2 ^ o ∣ i := Nat.dvd_trans (Nat.pow_dvd_pow 2 lo) al
 have ho2 : (β1.cutN i j (j - o)).μ.order = β.μ.order := K2.order.trans K1.order
 obtain ⟨I3, K3, B3⟩ := I2.live (a := i) (k := o) (by rw [ho2]; omega) alo (fun _ h => h)
 have hH3 : (fun y => Inb i o y ∧ ¬ Inb i o y) = NoHole := funext fun y => propext ⟨fun h => h.2 h.1, fun h => h.elim⟩
 rw [hH3] at I3
 have hU : ∀ y, Inb i o y → Upen β.μ.order F NoHole y := fun y hy => (U1 y).1 ((U2 y).1 (.inl hy))
 have htook : β.took i j o (nx β.σ β.σ.base i) = { β1.cutN i j (j - o) with μ := (β1.cutN i j (j - o)).μ.run i o 2 } := by
  unfold Bu.took Bu.cut
  rw [hβ1]
 rw [htook]
 have hl2 : (β1.cutN i j (j - o)).μ.pages.length = β.μ.pages.length := K2.len.trans K1.len
 refine ⟨⟨lo, hj, ?_, D.1, hlt.2, rfl, hpv, ?_, fun h => I.pair_lt h hlt.2, ?_, ?_, tmod_dvd alo, ?_⟩, I3, ?_, B3, ?_, hU⟩
 ·intro k h1 h2
  rcases I.head (k := k) (by omega) with ⟨h, _⟩ | ⟨y, t', e, _⟩
  ·exact h
  ·rw [hnone k h1 h2] at e; simp at e
 ·intro ne
  rcases (I.links hj hi).1 with h | ⟨y, hy, _, e1, e2⟩
  ·exact (ne h).elim
  ·rw [e1]
   exact ⟨hs y 0 16 (I.lt hj hy).2 (by omega) (by omega), e2⟩
 ·rw [hβ1]
  exact C2
 ·rw [hβ1, ho2]
  omega
 ·rw [hβ1, hl2]
  have : 2 ^ o ≤ 2 ^ j := Nat.pow_le_pow_right (by omega) lo
  omega
 ·exact (K1.trans K2 (fun x hx => (U1 x).1 hx)).trans K3 (fun x hx => hU x hx)
 ·intro y
  have h2 := (U2 y).trans (U1 y)
  constructor
  ·rintro (h | h)
   ·exact h.elim
   ·refine ⟨h2.1 (.inr h), fun hy => ?_⟩
    obtain ⟨k, hk, x, hx, hxy⟩ := h
    exact I2.apart k (by rw [ho2]; exact hk) x hx y hy hxy
  ·rintro ⟨h, hy⟩
   rcases h2.2 h with h | h
   ·exact (hy h).elim
   ·exact .inr h
end Go.Proofs.YtnjcmcnjgdjbiaaGreatDoor
