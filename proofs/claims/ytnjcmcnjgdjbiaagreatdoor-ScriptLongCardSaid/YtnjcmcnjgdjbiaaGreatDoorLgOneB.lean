/- The walk of script's One at some of its operations, each under its method's contract. Conditions: the address is told. -/
import Derived.Test.YtnjcmcnjgdjbiaaGreatDoorLgOnes
namespace Go.Proofs.YtnjcmcnjgdjbiaaGreatDoor
open Go.RowKit

set_option maxRecDepth 100000 in
set_option maxHeartbeats 4000000 in
theorem one_8 {w : World} (hb q : Nat) (c : CallV) (av : Value) (S : Nat → Prop) (hS : ∀ k, S k → k < w.heap.size) (Q : AnsV → World → World → Prop) (hQ : ∀ an W W1, Q an W W1 → Touch S W W1)
    (hop : c.op = 8)
    (HAd : Hid (∀ W, Touch Nothing w W → Calls Tryz.prog 38 #[c.val, av] W fun e w' => e = .returned (.tuple #[.int .u64 q, .bool true]) ∧ Touch Nothing W w'))
    (HMe : Hid (∀ W, Touch Nothing w W → Calls Tryz.prog 46 #[c.doer hb q] W fun e w' => ∃ an : AnsV, e = .returned an.val ∧ Q an W w')) :
    Calls Tryz.prog 22 #[.pointer (some ⟨hb, 0, none⟩), c.val, av] w (Done w Q) := by
  have HS := Lib.hid hS
  have HQ := Lib.hid hQ
  obtain ⟨op, ref, p, a, b, deny, dp, dn, dc⟩ := c
  simp only at hop
  subst hop
  unfold CallV.val CallV.doer at *
  clear hS hQ
  go_enter Tryz.func22, Tryz.ntmps22
  go_wp2_with fail
  refine (HAd.out _ (((Touch.refl _ w).alloc _).alloc _)).mono ?_
  rintro e w1 ⟨rfl, T1⟩
  have B0 := (((Blk.new w #[.int .i64 8, .int .i64 ref, .int .u64 p, .int .u64 a, .int .u64 b, .bool deny, .slice dp dn dc] 43).alloc (.cells #[.int .i64 0, .int .u64 0, .slice none 0 0, .int .u64 0, .int .u64 0, .int .i64 0, .int .i64 0] 38)).touch T1 (fun h => h))
  have R0 := ((Blk.new (w.alloc (.cells #[.int .i64 8, .int .i64 ref, .int .u64 p, .int .u64 a, .int .u64 b, .bool deny, .slice dp dn dc] 43)) #[.int .i64 0, .int .u64 0, .slice none 0 0, .int .u64 0, .int .u64 0, .int .i64 0, .int .i64 0] 38).touch T1 (fun h => h))
  have hsz : (w.alloc (.cells #[.int .i64 8, .int .i64 ref, .int .u64 p, .int .u64 a, .int .u64 b, .bool deny, .slice dp dn dc] 43)).heap.size = w.heap.size + 1 := by simp
  rw [hsz] at R0
  have HT1 := Lib.hid ((((Touch.refl Nothing w).alloc (.cells #[.int .i64 8, .int .i64 ref, .int .u64 p, .int .u64 a, .int .u64 b, .bool deny, .slice dp dn dc] 43)).alloc (.cells #[.int .i64 0, .int .u64 0, .slice none 0 0, .int .u64 0, .int .u64 0, .int .i64 0, .int .i64 0] 38)).trans T1)
  have k0 : w1.cell? ⟨w.heap.size, 0, none⟩ = some (.int .i64 8) := B0.cell 0
  have k1 : w1.cell? ⟨w.heap.size, 1, none⟩ = some (.int .i64 ref) := B0.cell 1
  have k2 : w1.cell? ⟨w.heap.size, 2, none⟩ = some (.int .u64 p) := B0.cell 2
  have k3 : w1.cell? ⟨w.heap.size, 3, none⟩ = some (.int .u64 a) := B0.cell 3
  have k4 : w1.cell? ⟨w.heap.size, 4, none⟩ = some (.int .u64 b) := B0.cell 4
  have k5 : w1.cell? ⟨w.heap.size, 5, none⟩ = some (.bool deny) := B0.cell 5
  have k6 : w1.cell? ⟨w.heap.size, 6, none⟩ = some (.slice dp dn dc) := B0.cell 6
  have HB0 := Lib.hid B0
  have HR0 := Lib.hid R0
  clear B0 R0 T1 hsz
  have HNe0 := Lib.hid (show ¬ (w.heap.size = w1.heap.size + 1) by have := HB0.out.lt; omega)
  have hmm := @run_makeMap Tryz.prog
  have hmf : ∀ (fn : Fn) (first cap : Array Value) (w : World), (Instr.makeFunc fn first cap).run Tryz.prog w = .ok (.func fn first cap) w := fun _ _ _ _ => rfl
  have HM := Lib.hid (FnMap.made (w1.alloc (.cells #[.pointer (some ⟨hb, 0, none⟩), .int .u64 q, .int .i64 8, .int .i64 ref, .int .u64 p, .int .u64 a, .int .u64 b, .bool deny, .slice dp dn dc] 103)) (.agg #[.pointer (some ⟨hb, 0, none⟩), .int .u64 q, .int .i64 8, .int .i64 ref, .int .u64 p, .int .u64 a, .int .u64 b, .bool deny, .slice dp dn dc]))
  have HBd := Lib.hid ((Blk.new w1 #[.pointer (some ⟨hb, 0, none⟩), .int .u64 q, .int .i64 8, .int .i64 ref, .int .u64 p, .int .u64 a, .int .u64 b, .bool deny, .slice dp dn dc] 103).alloc (.map #[] 0))
  have TT : Touch Nothing w1 ((w1.alloc (.cells #[.pointer (some ⟨hb, 0, none⟩), .int .u64 q, .int .i64 8, .int .i64 ref, .int .u64 p, .int .u64 a, .int .u64 b, .bool deny, .slice dp dn dc] 103)).alloc (.map #[] 0)) := ((Touch.refl Nothing w1).alloc _).alloc _
  have HTT := Lib.hid TT
  have HT := Lib.hid (Touch.refl (· = w1.heap.size + 1) ((w1.alloc (.cells #[.pointer (some ⟨hb, 0, none⟩), .int .u64 q, .int .i64 8, .int .i64 ref, .int .u64 p, .int .u64 a, .int .u64 b, .bool deny, .slice dp dn dc] 103)).alloc (.map #[] 0)))
  have HNe := Lib.hid (show ¬ (w1.heap.size = w1.heap.size + 1) by omega)
  have hsz1 : (w1.alloc (.cells #[.pointer (some ⟨hb, 0, none⟩), .int .u64 q, .int .i64 8, .int .i64 ref, .int .u64 p, .int .u64 a, .int .u64 b, .bool deny, .slice dp dn dc] 103)).heap.size = w1.heap.size + 1 := by simp
  rw [hsz1] at HM
  have d0 : True := trivial
  have d1 : True := trivial
  have d2 : True := trivial
  have d3 : True := trivial
  have d4 : True := trivial
  have d5 : True := trivial
  have d6 : True := trivial
  have d7 : True := trivial
  have d8 : True := trivial
  have d9 : True := trivial
  clear TT hsz1
  go_wp2_with (first | (refine wpList_lookup_there rfl _ _ rfl _ _ _ rfl HM.out 8 rfl (by decide) 46 (by decide) ?_) | (refine wpList_insert_fn rfl _ _ _ rfl _ _ _ rfl HM.out (by decide) _ _ rfl (by decide) rfl ?_; intro w9 hown hgrow; have X := And.intro (Lib.hid hown) (Lib.hid (HT.out.trans (Touch.of_grown hgrow (fun k hk => (Option.some.inj hk).symm)))); clear HM HT d9 d0 d1 d2 d3 d4 d5 d6 d7 d8 hown hgrow; obtain ⟨HM, HT⟩ := X; have d0 : World.cell? _ ⟨w1.heap.size, 0, none⟩ = some (.pointer (some ⟨hb, 0, none⟩)) := (HBd.out.touch HT.out HNe.out).cell 0; have d1 : World.cell? _ ⟨w1.heap.size, 1, none⟩ = some (.int .u64 q) := (HBd.out.touch HT.out HNe.out).cell 1; have d2 : World.cell? _ ⟨w1.heap.size, 2, none⟩ = some (.int .i64 8) := (HBd.out.touch HT.out HNe.out).cell 2; have d3 : World.cell? _ ⟨w1.heap.size, 3, none⟩ = some (.int .i64 ref) := (HBd.out.touch HT.out HNe.out).cell 3; have d4 : World.cell? _ ⟨w1.heap.size, 4, none⟩ = some (.int .u64 p) := (HBd.out.touch HT.out HNe.out).cell 4; have d5 : World.cell? _ ⟨w1.heap.size, 5, none⟩ = some (.int .u64 a) := (HBd.out.touch HT.out HNe.out).cell 5; have d6 : World.cell? _ ⟨w1.heap.size, 6, none⟩ = some (.int .u64 b) := (HBd.out.touch HT.out HNe.out).cell 6; have d7 : World.cell? _ ⟨w1.heap.size, 7, none⟩ = some (.bool deny) := (HBd.out.touch HT.out HNe.out).cell 7; have d8 : World.cell? _ ⟨w1.heap.size, 8, none⟩ = some (.slice dp dn dc) := (HBd.out.touch HT.out HNe.out).cell 8; have d9 : World.cell? _ ⟨w.heap.size, 0, none⟩ = some (.int .i64 8) := ((HB0.out.touch HTT.out (fun h => h)).touch HT.out HNe0.out).cell 0))
  have hsw := HT1.out.size
  have HT9 := Lib.hid ((HT1.out.trans HTT.out).trans' HT.out (fun i hi e => by omega))
  have HR9 := Lib.hid (((HR0.out.touch HTT.out (fun h => h))).touch HT.out (show ¬ (w.heap.size + 1 = w1.heap.size + 1) by have := HR0.out.lt; omega))
  clear hsw d0 d1 d2 d3 d4 d5 d6 d7 d8 d9 k0 k1 k2 k3 k4 k5 k6
  refine (HMe.out _ HT9.out).mono ?_
  rintro e w10 ⟨⟨ae, avv, adp, adn, adc, ah, al, abl, afr⟩, rfl, hq⟩
  unfold AnsV.val at *
  have R10 := HR9.out.touch (HQ.out _ _ _ hq) (fun h => by have := HS.out _ h; omega)
  have z0 : w10.cell? ⟨w.heap.size + 1, 0, none⟩ = some (.int .i64 0) := R10.cell 0
  have f0 := R10.free 0
  have z1 : w10.cell? ⟨w.heap.size + 1, 1, none⟩ = some (.int .u64 0) := R10.cell 1
  have f1 := R10.free 1
  have z2 : w10.cell? ⟨w.heap.size + 1, 2, none⟩ = some (.slice none 0 0) := R10.cell 2
  have f2 := R10.free 2
  have z3 : w10.cell? ⟨w.heap.size + 1, 3, none⟩ = some (.int .u64 0) := R10.cell 3
  have f3 := R10.free 3
  have z4 : w10.cell? ⟨w.heap.size + 1, 4, none⟩ = some (.int .u64 0) := R10.cell 4
  have f4 := R10.free 4
  have z5 : w10.cell? ⟨w.heap.size + 1, 5, none⟩ = some (.int .i64 0) := R10.cell 5
  have f5 := R10.free 5
  have z6 : w10.cell? ⟨w.heap.size + 1, 6, none⟩ = some (.int .i64 0) := R10.cell 6
  have f6 := R10.free 6
  have HR11 := Lib.hid (((((((R10.set 0 (.int .i64 ae)).set 1 (.int .u64 avv)).set 2 (.slice adp adn adc)).set 3 (.int .u64 ah)).set 4 (.int .u64 al)).set 5 (.int .i64 abl)).set 6 (.int .i64 afr))
  have hq' := Lib.hid hq
  clear R10 hq
  go_wp2_with fail
  have y0 := HR11.out.cell 0
  have y1 := HR11.out.cell 1
  have y2 := HR11.out.cell 2
  have y3 := HR11.out.cell 3
  have y4 := HR11.out.cell 4
  have y5 := HR11.out.cell 5
  have y6 := HR11.out.cell 6
  simp at y0 y1 y2 y3 y4 y5 y6
  have TR := Lib.hid (((((((Touch.cellAt w10 (w.heap.size + 1) 0 (.int .i64 ae)).trans (Touch.cellAt _ (w.heap.size + 1) 1 (.int .u64 avv))).trans (Touch.cellAt _ (w.heap.size + 1) 2 (.slice adp adn adc))).trans (Touch.cellAt _ (w.heap.size + 1) 3 (.int .u64 ah))).trans (Touch.cellAt _ (w.heap.size + 1) 4 (.int .u64 al))).trans (Touch.cellAt _ (w.heap.size + 1) 5 (.int .i64 abl))).trans (Touch.cellAt _ (w.heap.size + 1) 6 (.int .i64 afr)))
  exact bodyPost_ret (v := .agg #[.int .i64 ae, .int .u64 avv, .slice adp adn adc, .int .u64 ah, .int .u64 al, .int .i64 abl, .int .i64 afr]) (by simp [results, Tryz.results22, go_sem, y0, y1, y2, y3, y4, y5, y6]) rfl ⟨_, rfl, _, w10, w.heap.size + 1, HT9.out, hq'.out, by omega, HR9.out.lt, TR.out⟩


set_option maxRecDepth 100000 in
set_option maxHeartbeats 4000000 in
theorem one_11 {w : World} (hb q : Nat) (c : CallV) (av : Value) (S : Nat → Prop) (hS : ∀ k, S k → k < w.heap.size) (Q : AnsV → World → World → Prop) (hQ : ∀ an W W1, Q an W W1 → Touch S W W1)
    (hop : c.op = 11)
    (HAd : Hid (∀ W, Touch Nothing w W → Calls Tryz.prog 38 #[c.val, av] W fun e w' => e = .returned (.tuple #[.int .u64 q, .bool true]) ∧ Touch Nothing W w'))
    (HMe : Hid (∀ W, Touch Nothing w W → Calls Tryz.prog 49 #[c.doer hb q] W fun e w' => ∃ an : AnsV, e = .returned an.val ∧ Q an W w')) :
    Calls Tryz.prog 22 #[.pointer (some ⟨hb, 0, none⟩), c.val, av] w (Done w Q) := by
  have HS := Lib.hid hS
  have HQ := Lib.hid hQ
  obtain ⟨op, ref, p, a, b, deny, dp, dn, dc⟩ := c
  simp only at hop
  subst hop
  unfold CallV.val CallV.doer at *
  clear hS hQ
  go_enter Tryz.func22, Tryz.ntmps22
  go_wp2_with fail
  refine (HAd.out _ (((Touch.refl _ w).alloc _).alloc _)).mono ?_
  rintro e w1 ⟨rfl, T1⟩
  have B0 := (((Blk.new w #[.int .i64 11, .int .i64 ref, .int .u64 p, .int .u64 a, .int .u64 b, .bool deny, .slice dp dn dc] 43).alloc (.cells #[.int .i64 0, .int .u64 0, .slice none 0 0, .int .u64 0, .int .u64 0, .int .i64 0, .int .i64 0] 38)).touch T1 (fun h => h))
  have R0 := ((Blk.new (w.alloc (.cells #[.int .i64 11, .int .i64 ref, .int .u64 p, .int .u64 a, .int .u64 b, .bool deny, .slice dp dn dc] 43)) #[.int .i64 0, .int .u64 0, .slice none 0 0, .int .u64 0, .int .u64 0, .int .i64 0, .int .i64 0] 38).touch T1 (fun h => h))
  have hsz : (w.alloc (.cells #[.int .i64 11, .int .i64 ref, .int .u64 p, .int .u64 a, .int .u64 b, .bool deny, .slice dp dn dc] 43)).heap.size = w.heap.size + 1 := by simp
  rw [hsz] at R0
  have HT1 := Lib.hid ((((Touch.refl Nothing w).alloc (.cells #[.int .i64 11, .int .i64 ref, .int .u64 p, .int .u64 a, .int .u64 b, .bool deny, .slice dp dn dc] 43)).alloc (.cells #[.int .i64 0, .int .u64 0, .slice none 0 0, .int .u64 0, .int .u64 0, .int .i64 0, .int .i64 0] 38)).trans T1)
  have k0 : w1.cell? ⟨w.heap.size, 0, none⟩ = some (.int .i64 11) := B0.cell 0
  have k1 : w1.cell? ⟨w.heap.size, 1, none⟩ = some (.int .i64 ref) := B0.cell 1
  have k2 : w1.cell? ⟨w.heap.size, 2, none⟩ = some (.int .u64 p) := B0.cell 2
  have k3 : w1.cell? ⟨w.heap.size, 3, none⟩ = some (.int .u64 a) := B0.cell 3
  have k4 : w1.cell? ⟨w.heap.size, 4, none⟩ = some (.int .u64 b) := B0.cell 4
  have k5 : w1.cell? ⟨w.heap.size, 5, none⟩ = some (.bool deny) := B0.cell 5
  have k6 : w1.cell? ⟨w.heap.size, 6, none⟩ = some (.slice dp dn dc) := B0.cell 6
  have HB0 := Lib.hid B0
  have HR0 := Lib.hid R0
  clear B0 R0 T1 hsz
  have HNe0 := Lib.hid (show ¬ (w.heap.size = w1.heap.size + 1) by have := HB0.out.lt; omega)
  have hmm := @run_makeMap Tryz.prog
  have hmf : ∀ (fn : Fn) (first cap : Array Value) (w : World), (Instr.makeFunc fn first cap).run Tryz.prog w = .ok (.func fn first cap) w := fun _ _ _ _ => rfl
  have HM := Lib.hid (FnMap.made (w1.alloc (.cells #[.pointer (some ⟨hb, 0, none⟩), .int .u64 q, .int .i64 11, .int .i64 ref, .int .u64 p, .int .u64 a, .int .u64 b, .bool deny, .slice dp dn dc] 103)) (.agg #[.pointer (some ⟨hb, 0, none⟩), .int .u64 q, .int .i64 11, .int .i64 ref, .int .u64 p, .int .u64 a, .int .u64 b, .bool deny, .slice dp dn dc]))
  have HBd := Lib.hid ((Blk.new w1 #[.pointer (some ⟨hb, 0, none⟩), .int .u64 q, .int .i64 11, .int .i64 ref, .int .u64 p, .int .u64 a, .int .u64 b, .bool deny, .slice dp dn dc] 103).alloc (.map #[] 0))
  have TT : Touch Nothing w1 ((w1.alloc (.cells #[.pointer (some ⟨hb, 0, none⟩), .int .u64 q, .int .i64 11, .int .i64 ref, .int .u64 p, .int .u64 a, .int .u64 b, .bool deny, .slice dp dn dc] 103)).alloc (.map #[] 0)) := ((Touch.refl Nothing w1).alloc _).alloc _
  have HTT := Lib.hid TT
  have HT := Lib.hid (Touch.refl (· = w1.heap.size + 1) ((w1.alloc (.cells #[.pointer (some ⟨hb, 0, none⟩), .int .u64 q, .int .i64 11, .int .i64 ref, .int .u64 p, .int .u64 a, .int .u64 b, .bool deny, .slice dp dn dc] 103)).alloc (.map #[] 0)))
  have HNe := Lib.hid (show ¬ (w1.heap.size = w1.heap.size + 1) by omega)
  have hsz1 : (w1.alloc (.cells #[.pointer (some ⟨hb, 0, none⟩), .int .u64 q, .int .i64 11, .int .i64 ref, .int .u64 p, .int .u64 a, .int .u64 b, .bool deny, .slice dp dn dc] 103)).heap.size = w1.heap.size + 1 := by simp
  rw [hsz1] at HM
  have d0 : True := trivial
  have d1 : True := trivial
  have d2 : True := trivial
  have d3 : True := trivial
  have d4 : True := trivial
  have d5 : True := trivial
  have d6 : True := trivial
  have d7 : True := trivial
  have d8 : True := trivial
  have d9 : True := trivial
  clear TT hsz1
  go_wp2_with (first | (refine wpList_lookup_there rfl _ _ rfl _ _ _ rfl HM.out 11 rfl (by decide) 49 (by decide) ?_) | (refine wpList_insert_fn rfl _ _ _ rfl _ _ _ rfl HM.out (by decide) _ _ rfl (by decide) rfl ?_; intro w9 hown hgrow; have X := And.intro (Lib.hid hown) (Lib.hid (HT.out.trans (Touch.of_grown hgrow (fun k hk => (Option.some.inj hk).symm)))); clear HM HT d9 d0 d1 d2 d3 d4 d5 d6 d7 d8 hown hgrow; obtain ⟨HM, HT⟩ := X; have d0 : World.cell? _ ⟨w1.heap.size, 0, none⟩ = some (.pointer (some ⟨hb, 0, none⟩)) := (HBd.out.touch HT.out HNe.out).cell 0; have d1 : World.cell? _ ⟨w1.heap.size, 1, none⟩ = some (.int .u64 q) := (HBd.out.touch HT.out HNe.out).cell 1; have d2 : World.cell? _ ⟨w1.heap.size, 2, none⟩ = some (.int .i64 11) := (HBd.out.touch HT.out HNe.out).cell 2; have d3 : World.cell? _ ⟨w1.heap.size, 3, none⟩ = some (.int .i64 ref) := (HBd.out.touch HT.out HNe.out).cell 3; have d4 : World.cell? _ ⟨w1.heap.size, 4, none⟩ = some (.int .u64 p) := (HBd.out.touch HT.out HNe.out).cell 4; have d5 : World.cell? _ ⟨w1.heap.size, 5, none⟩ = some (.int .u64 a) := (HBd.out.touch HT.out HNe.out).cell 5; have d6 : World.cell? _ ⟨w1.heap.size, 6, none⟩ = some (.int .u64 b) := (HBd.out.touch HT.out HNe.out).cell 6; have d7 : World.cell? _ ⟨w1.heap.size, 7, none⟩ = some (.bool deny) := (HBd.out.touch HT.out HNe.out).cell 7; have d8 : World.cell? _ ⟨w1.heap.size, 8, none⟩ = some (.slice dp dn dc) := (HBd.out.touch HT.out HNe.out).cell 8; have d9 : World.cell? _ ⟨w.heap.size, 0, none⟩ = some (.int .i64 11) := ((HB0.out.touch HTT.out (fun h => h)).touch HT.out HNe0.out).cell 0))
  have hsw := HT1.out.size
  have HT9 := Lib.hid ((HT1.out.trans HTT.out).trans' HT.out (fun i hi e => by omega))
  have HR9 := Lib.hid (((HR0.out.touch HTT.out (fun h => h))).touch HT.out (show ¬ (w.heap.size + 1 = w1.heap.size + 1) by have := HR0.out.lt; omega))
  clear hsw d0 d1 d2 d3 d4 d5 d6 d7 d8 d9 k0 k1 k2 k3 k4 k5 k6
  refine (HMe.out _ HT9.out).mono ?_
  rintro e w10 ⟨⟨ae, avv, adp, adn, adc, ah, al, abl, afr⟩, rfl, hq⟩
  unfold AnsV.val at *
  have R10 := HR9.out.touch (HQ.out _ _ _ hq) (fun h => by have := HS.out _ h; omega)
  have z0 : w10.cell? ⟨w.heap.size + 1, 0, none⟩ = some (.int .i64 0) := R10.cell 0
  have f0 := R10.free 0
  have z1 : w10.cell? ⟨w.heap.size + 1, 1, none⟩ = some (.int .u64 0) := R10.cell 1
  have f1 := R10.free 1
  have z2 : w10.cell? ⟨w.heap.size + 1, 2, none⟩ = some (.slice none 0 0) := R10.cell 2
  have f2 := R10.free 2
  have z3 : w10.cell? ⟨w.heap.size + 1, 3, none⟩ = some (.int .u64 0) := R10.cell 3
  have f3 := R10.free 3
  have z4 : w10.cell? ⟨w.heap.size + 1, 4, none⟩ = some (.int .u64 0) := R10.cell 4
  have f4 := R10.free 4
  have z5 : w10.cell? ⟨w.heap.size + 1, 5, none⟩ = some (.int .i64 0) := R10.cell 5
  have f5 := R10.free 5
  have z6 : w10.cell? ⟨w.heap.size + 1, 6, none⟩ = some (.int .i64 0) := R10.cell 6
  have f6 := R10.free 6
  have HR11 := Lib.hid (((((((R10.set 0 (.int .i64 ae)).set 1 (.int .u64 avv)).set 2 (.slice adp adn adc)).set 3 (.int .u64 ah)).set 4 (.int .u64 al)).set 5 (.int .i64 abl)).set 6 (.int .i64 afr))
  have hq' := Lib.hid hq
  clear R10 hq
  go_wp2_with fail
  have y0 := HR11.out.cell 0
  have y1 := HR11.out.cell 1
  have y2 := HR11.out.cell 2
  have y3 := HR11.out.cell 3
  have y4 := HR11.out.cell 4
  have y5 := HR11.out.cell 5
  have y6 := HR11.out.cell 6
  simp at y0 y1 y2 y3 y4 y5 y6
  have TR := Lib.hid (((((((Touch.cellAt w10 (w.heap.size + 1) 0 (.int .i64 ae)).trans (Touch.cellAt _ (w.heap.size + 1) 1 (.int .u64 avv))).trans (Touch.cellAt _ (w.heap.size + 1) 2 (.slice adp adn adc))).trans (Touch.cellAt _ (w.heap.size + 1) 3 (.int .u64 ah))).trans (Touch.cellAt _ (w.heap.size + 1) 4 (.int .u64 al))).trans (Touch.cellAt _ (w.heap.size + 1) 5 (.int .i64 abl))).trans (Touch.cellAt _ (w.heap.size + 1) 6 (.int .i64 afr)))
  exact bodyPost_ret (v := .agg #[.int .i64 ae, .int .u64 avv, .slice adp adn adc, .int .u64 ah, .int .u64 al, .int .i64 abl, .int .i64 afr]) (by simp [results, Tryz.results22, go_sem, y0, y1, y2, y3, y4, y5, y6]) rfl ⟨_, rfl, _, w10, w.heap.size + 1, HT9.out, hq'.out, by omega, HR9.out.lt, TR.out⟩


set_option maxRecDepth 100000 in
set_option maxHeartbeats 4000000 in
theorem one_12 {w : World} (hb q : Nat) (c : CallV) (av : Value) (S : Nat → Prop) (hS : ∀ k, S k → k < w.heap.size) (Q : AnsV → World → World → Prop) (hQ : ∀ an W W1, Q an W W1 → Touch S W W1)
    (hop : c.op = 12)
    (HAd : Hid (∀ W, Touch Nothing w W → Calls Tryz.prog 38 #[c.val, av] W fun e w' => e = .returned (.tuple #[.int .u64 q, .bool true]) ∧ Touch Nothing W w'))
    (HMe : Hid (∀ W, Touch Nothing w W → Calls Tryz.prog 50 #[c.doer hb q] W fun e w' => ∃ an : AnsV, e = .returned an.val ∧ Q an W w')) :
    Calls Tryz.prog 22 #[.pointer (some ⟨hb, 0, none⟩), c.val, av] w (Done w Q) := by
  have HS := Lib.hid hS
  have HQ := Lib.hid hQ
  obtain ⟨op, ref, p, a, b, deny, dp, dn, dc⟩ := c
  simp only at hop
  subst hop
  unfold CallV.val CallV.doer at *
  clear hS hQ
  go_enter Tryz.func22, Tryz.ntmps22
  go_wp2_with fail
  refine (HAd.out _ (((Touch.refl _ w).alloc _).alloc _)).mono ?_
  rintro e w1 ⟨rfl, T1⟩
  have B0 := (((Blk.new w #[.int .i64 12, .int .i64 ref, .int .u64 p, .int .u64 a, .int .u64 b, .bool deny, .slice dp dn dc] 43).alloc (.cells #[.int .i64 0, .int .u64 0, .slice none 0 0, .int .u64 0, .int .u64 0, .int .i64 0, .int .i64 0] 38)).touch T1 (fun h => h))
  have R0 := ((Blk.new (w.alloc (.cells #[.int .i64 12, .int .i64 ref, .int .u64 p, .int .u64 a, .int .u64 b, .bool deny, .slice dp dn dc] 43)) #[.int .i64 0, .int .u64 0, .slice none 0 0, .int .u64 0, .int .u64 0, .int .i64 0, .int .i64 0] 38).touch T1 (fun h => h))
  have hsz : (w.alloc (.cells #[.int .i64 12, .int .i64 ref, .int .u64 p, .int .u64 a, .int .u64 b, .bool deny, .slice dp dn dc] 43)).heap.size = w.heap.size + 1 := by simp
  rw [hsz] at R0
  have HT1 := Lib.hid ((((Touch.refl Nothing w).alloc (.cells #[.int .i64 12, .int .i64 ref, .int .u64 p, .int .u64 a, .int .u64 b, .bool deny, .slice dp dn dc] 43)).alloc (.cells #[.int .i64 0, .int .u64 0, .slice none 0 0, .int .u64 0, .int .u64 0, .int .i64 0, .int .i64 0] 38)).trans T1)
  have k0 : w1.cell? ⟨w.heap.size, 0, none⟩ = some (.int .i64 12) := B0.cell 0
  have k1 : w1.cell? ⟨w.heap.size, 1, none⟩ = some (.int .i64 ref) := B0.cell 1
  have k2 : w1.cell? ⟨w.heap.size, 2, none⟩ = some (.int .u64 p) := B0.cell 2
  have k3 : w1.cell? ⟨w.heap.size, 3, none⟩ = some (.int .u64 a) := B0.cell 3
  have k4 : w1.cell? ⟨w.heap.size, 4, none⟩ = some (.int .u64 b) := B0.cell 4
  have k5 : w1.cell? ⟨w.heap.size, 5, none⟩ = some (.bool deny) := B0.cell 5
  have k6 : w1.cell? ⟨w.heap.size, 6, none⟩ = some (.slice dp dn dc) := B0.cell 6
  have HB0 := Lib.hid B0
  have HR0 := Lib.hid R0
  clear B0 R0 T1 hsz
  have HNe0 := Lib.hid (show ¬ (w.heap.size = w1.heap.size + 1) by have := HB0.out.lt; omega)
  have hmm := @run_makeMap Tryz.prog
  have hmf : ∀ (fn : Fn) (first cap : Array Value) (w : World), (Instr.makeFunc fn first cap).run Tryz.prog w = .ok (.func fn first cap) w := fun _ _ _ _ => rfl
  have HM := Lib.hid (FnMap.made (w1.alloc (.cells #[.pointer (some ⟨hb, 0, none⟩), .int .u64 q, .int .i64 12, .int .i64 ref, .int .u64 p, .int .u64 a, .int .u64 b, .bool deny, .slice dp dn dc] 103)) (.agg #[.pointer (some ⟨hb, 0, none⟩), .int .u64 q, .int .i64 12, .int .i64 ref, .int .u64 p, .int .u64 a, .int .u64 b, .bool deny, .slice dp dn dc]))
  have HBd := Lib.hid ((Blk.new w1 #[.pointer (some ⟨hb, 0, none⟩), .int .u64 q, .int .i64 12, .int .i64 ref, .int .u64 p, .int .u64 a, .int .u64 b, .bool deny, .slice dp dn dc] 103).alloc (.map #[] 0))
  have TT : Touch Nothing w1 ((w1.alloc (.cells #[.pointer (some ⟨hb, 0, none⟩), .int .u64 q, .int .i64 12, .int .i64 ref, .int .u64 p, .int .u64 a, .int .u64 b, .bool deny, .slice dp dn dc] 103)).alloc (.map #[] 0)) := ((Touch.refl Nothing w1).alloc _).alloc _
  have HTT := Lib.hid TT
  have HT := Lib.hid (Touch.refl (· = w1.heap.size + 1) ((w1.alloc (.cells #[.pointer (some ⟨hb, 0, none⟩), .int .u64 q, .int .i64 12, .int .i64 ref, .int .u64 p, .int .u64 a, .int .u64 b, .bool deny, .slice dp dn dc] 103)).alloc (.map #[] 0)))
  have HNe := Lib.hid (show ¬ (w1.heap.size = w1.heap.size + 1) by omega)
  have hsz1 : (w1.alloc (.cells #[.pointer (some ⟨hb, 0, none⟩), .int .u64 q, .int .i64 12, .int .i64 ref, .int .u64 p, .int .u64 a, .int .u64 b, .bool deny, .slice dp dn dc] 103)).heap.size = w1.heap.size + 1 := by simp
  rw [hsz1] at HM
  have d0 : True := trivial
  have d1 : True := trivial
  have d2 : True := trivial
  have d3 : True := trivial
  have d4 : True := trivial
  have d5 : True := trivial
  have d6 : True := trivial
  have d7 : True := trivial
  have d8 : True := trivial
  have d9 : True := trivial
  clear TT hsz1
  go_wp2_with (first | (refine wpList_lookup_there rfl _ _ rfl _ _ _ rfl HM.out 12 rfl (by decide) 50 (by decide) ?_) | (refine wpList_insert_fn rfl _ _ _ rfl _ _ _ rfl HM.out (by decide) _ _ rfl (by decide) rfl ?_; intro w9 hown hgrow; have X := And.intro (Lib.hid hown) (Lib.hid (HT.out.trans (Touch.of_grown hgrow (fun k hk => (Option.some.inj hk).symm)))); clear HM HT d9 d0 d1 d2 d3 d4 d5 d6 d7 d8 hown hgrow; obtain ⟨HM, HT⟩ := X; have d0 : World.cell? _ ⟨w1.heap.size, 0, none⟩ = some (.pointer (some ⟨hb, 0, none⟩)) := (HBd.out.touch HT.out HNe.out).cell 0; have d1 : World.cell? _ ⟨w1.heap.size, 1, none⟩ = some (.int .u64 q) := (HBd.out.touch HT.out HNe.out).cell 1; have d2 : World.cell? _ ⟨w1.heap.size, 2, none⟩ = some (.int .i64 12) := (HBd.out.touch HT.out HNe.out).cell 2; have d3 : World.cell? _ ⟨w1.heap.size, 3, none⟩ = some (.int .i64 ref) := (HBd.out.touch HT.out HNe.out).cell 3; have d4 : World.cell? _ ⟨w1.heap.size, 4, none⟩ = some (.int .u64 p) := (HBd.out.touch HT.out HNe.out).cell 4; have d5 : World.cell? _ ⟨w1.heap.size, 5, none⟩ = some (.int .u64 a) := (HBd.out.touch HT.out HNe.out).cell 5; have d6 : World.cell? _ ⟨w1.heap.size, 6, none⟩ = some (.int .u64 b) := (HBd.out.touch HT.out HNe.out).cell 6; have d7 : World.cell? _ ⟨w1.heap.size, 7, none⟩ = some (.bool deny) := (HBd.out.touch HT.out HNe.out).cell 7; have d8 : World.cell? _ ⟨w1.heap.size, 8, none⟩ = some (.slice dp dn dc) := (HBd.out.touch HT.out HNe.out).cell 8; have d9 : World.cell? _ ⟨w.heap.size, 0, none⟩ = some (.int .i64 12) := ((HB0.out.touch HTT.out (fun h => h)).touch HT.out HNe0.out).cell 0))
  have hsw := HT1.out.size
  have HT9 := Lib.hid ((HT1.out.trans HTT.out).trans' HT.out (fun i hi e => by omega))
  have HR9 := Lib.hid (((HR0.out.touch HTT.out (fun h => h))).touch HT.out (show ¬ (w.heap.size + 1 = w1.heap.size + 1) by have := HR0.out.lt; omega))
  clear hsw d0 d1 d2 d3 d4 d5 d6 d7 d8 d9 k0 k1 k2 k3 k4 k5 k6
  refine (HMe.out _ HT9.out).mono ?_
  rintro e w10 ⟨⟨ae, avv, adp, adn, adc, ah, al, abl, afr⟩, rfl, hq⟩
  unfold AnsV.val at *
  have R10 := HR9.out.touch (HQ.out _ _ _ hq) (fun h => by have := HS.out _ h; omega)
  have z0 : w10.cell? ⟨w.heap.size + 1, 0, none⟩ = some (.int .i64 0) := R10.cell 0
  have f0 := R10.free 0
  have z1 : w10.cell? ⟨w.heap.size + 1, 1, none⟩ = some (.int .u64 0) := R10.cell 1
  have f1 := R10.free 1
  have z2 : w10.cell? ⟨w.heap.size + 1, 2, none⟩ = some (.slice none 0 0) := R10.cell 2
  have f2 := R10.free 2
  have z3 : w10.cell? ⟨w.heap.size + 1, 3, none⟩ = some (.int .u64 0) := R10.cell 3
  have f3 := R10.free 3
  have z4 : w10.cell? ⟨w.heap.size + 1, 4, none⟩ = some (.int .u64 0) := R10.cell 4
  have f4 := R10.free 4
  have z5 : w10.cell? ⟨w.heap.size + 1, 5, none⟩ = some (.int .i64 0) := R10.cell 5
  have f5 := R10.free 5
  have z6 : w10.cell? ⟨w.heap.size + 1, 6, none⟩ = some (.int .i64 0) := R10.cell 6
  have f6 := R10.free 6
  have HR11 := Lib.hid (((((((R10.set 0 (.int .i64 ae)).set 1 (.int .u64 avv)).set 2 (.slice adp adn adc)).set 3 (.int .u64 ah)).set 4 (.int .u64 al)).set 5 (.int .i64 abl)).set 6 (.int .i64 afr))
  have hq' := Lib.hid hq
  clear R10 hq
  go_wp2_with fail
  have y0 := HR11.out.cell 0
  have y1 := HR11.out.cell 1
  have y2 := HR11.out.cell 2
  have y3 := HR11.out.cell 3
  have y4 := HR11.out.cell 4
  have y5 := HR11.out.cell 5
  have y6 := HR11.out.cell 6
  simp at y0 y1 y2 y3 y4 y5 y6
  have TR := Lib.hid (((((((Touch.cellAt w10 (w.heap.size + 1) 0 (.int .i64 ae)).trans (Touch.cellAt _ (w.heap.size + 1) 1 (.int .u64 avv))).trans (Touch.cellAt _ (w.heap.size + 1) 2 (.slice adp adn adc))).trans (Touch.cellAt _ (w.heap.size + 1) 3 (.int .u64 ah))).trans (Touch.cellAt _ (w.heap.size + 1) 4 (.int .u64 al))).trans (Touch.cellAt _ (w.heap.size + 1) 5 (.int .i64 abl))).trans (Touch.cellAt _ (w.heap.size + 1) 6 (.int .i64 afr)))
  exact bodyPost_ret (v := .agg #[.int .i64 ae, .int .u64 avv, .slice adp adn adc, .int .u64 ah, .int .u64 al, .int .i64 abl, .int .i64 afr]) (by simp [results, Tryz.results22, go_sem, y0, y1, y2, y3, y4, y5, y6]) rfl ⟨_, rfl, _, w10, w.heap.size + 1, HT9.out, hq'.out, by omega, HR9.out.lt, TR.out⟩


set_option maxRecDepth 100000 in
set_option maxHeartbeats 4000000 in
theorem one_3 {w : World} (hb q : Nat) (c : CallV) (av : Value) (S : Nat → Prop) (hS : ∀ k, S k → k < w.heap.size) (Q : AnsV → World → World → Prop) (hQ : ∀ an W W1, Q an W W1 → Touch S W W1)
    (hop : c.op = 3)
    (HAd : Hid (∀ W, Touch Nothing w W → Calls Tryz.prog 38 #[c.val, av] W fun e w' => e = .returned (.tuple #[.int .u64 q, .bool true]) ∧ Touch Nothing W w'))
    (HMe : Hid (∀ W, Touch Nothing w W → Calls Tryz.prog 41 #[c.doer hb q] W fun e w' => ∃ an : AnsV, e = .returned an.val ∧ Q an W w')) :
    Calls Tryz.prog 22 #[.pointer (some ⟨hb, 0, none⟩), c.val, av] w (Done w Q) := by
  have HS := Lib.hid hS
  have HQ := Lib.hid hQ
  obtain ⟨op, ref, p, a, b, deny, dp, dn, dc⟩ := c
  simp only at hop
  subst hop
  unfold CallV.val CallV.doer at *
  clear hS hQ
  go_enter Tryz.func22, Tryz.ntmps22
  go_wp2_with fail
  refine (HAd.out _ (((Touch.refl _ w).alloc _).alloc _)).mono ?_
  rintro e w1 ⟨rfl, T1⟩
  have B0 := (((Blk.new w #[.int .i64 3, .int .i64 ref, .int .u64 p, .int .u64 a, .int .u64 b, .bool deny, .slice dp dn dc] 43).alloc (.cells #[.int .i64 0, .int .u64 0, .slice none 0 0, .int .u64 0, .int .u64 0, .int .i64 0, .int .i64 0] 38)).touch T1 (fun h => h))
  have R0 := ((Blk.new (w.alloc (.cells #[.int .i64 3, .int .i64 ref, .int .u64 p, .int .u64 a, .int .u64 b, .bool deny, .slice dp dn dc] 43)) #[.int .i64 0, .int .u64 0, .slice none 0 0, .int .u64 0, .int .u64 0, .int .i64 0, .int .i64 0] 38).touch T1 (fun h => h))
  have hsz : (w.alloc (.cells #[.int .i64 3, .int .i64 ref, .int .u64 p, .int .u64 a, .int .u64 b, .bool deny, .slice dp dn dc] 43)).heap.size = w.heap.size + 1 := by simp
  rw [hsz] at R0
  have HT1 := Lib.hid ((((Touch.refl Nothing w).alloc (.cells #[.int .i64 3, .int .i64 ref, .int .u64 p, .int .u64 a, .int .u64 b, .bool deny, .slice dp dn dc] 43)).alloc (.cells #[.int .i64 0, .int .u64 0, .slice none 0 0, .int .u64 0, .int .u64 0, .int .i64 0, .int .i64 0] 38)).trans T1)
  have k0 : w1.cell? ⟨w.heap.size, 0, none⟩ = some (.int .i64 3) := B0.cell 0
  have k1 : w1.cell? ⟨w.heap.size, 1, none⟩ = some (.int .i64 ref) := B0.cell 1
  have k2 : w1.cell? ⟨w.heap.size, 2, none⟩ = some (.int .u64 p) := B0.cell 2
  have k3 : w1.cell? ⟨w.heap.size, 3, none⟩ = some (.int .u64 a) := B0.cell 3
  have k4 : w1.cell? ⟨w.heap.size, 4, none⟩ = some (.int .u64 b) := B0.cell 4
  have k5 : w1.cell? ⟨w.heap.size, 5, none⟩ = some (.bool deny) := B0.cell 5
  have k6 : w1.cell? ⟨w.heap.size, 6, none⟩ = some (.slice dp dn dc) := B0.cell 6
  have HB0 := Lib.hid B0
  have HR0 := Lib.hid R0
  clear B0 R0 T1 hsz
  have HNe0 := Lib.hid (show ¬ (w.heap.size = w1.heap.size + 1) by have := HB0.out.lt; omega)
  have hmm := @run_makeMap Tryz.prog
  have hmf : ∀ (fn : Fn) (first cap : Array Value) (w : World), (Instr.makeFunc fn first cap).run Tryz.prog w = .ok (.func fn first cap) w := fun _ _ _ _ => rfl
  have HM := Lib.hid (FnMap.made (w1.alloc (.cells #[.pointer (some ⟨hb, 0, none⟩), .int .u64 q, .int .i64 3, .int .i64 ref, .int .u64 p, .int .u64 a, .int .u64 b, .bool deny, .slice dp dn dc] 103)) (.agg #[.pointer (some ⟨hb, 0, none⟩), .int .u64 q, .int .i64 3, .int .i64 ref, .int .u64 p, .int .u64 a, .int .u64 b, .bool deny, .slice dp dn dc]))
  have HBd := Lib.hid ((Blk.new w1 #[.pointer (some ⟨hb, 0, none⟩), .int .u64 q, .int .i64 3, .int .i64 ref, .int .u64 p, .int .u64 a, .int .u64 b, .bool deny, .slice dp dn dc] 103).alloc (.map #[] 0))
  have TT : Touch Nothing w1 ((w1.alloc (.cells #[.pointer (some ⟨hb, 0, none⟩), .int .u64 q, .int .i64 3, .int .i64 ref, .int .u64 p, .int .u64 a, .int .u64 b, .bool deny, .slice dp dn dc] 103)).alloc (.map #[] 0)) := ((Touch.refl Nothing w1).alloc _).alloc _
  have HTT := Lib.hid TT
  have HT := Lib.hid (Touch.refl (· = w1.heap.size + 1) ((w1.alloc (.cells #[.pointer (some ⟨hb, 0, none⟩), .int .u64 q, .int .i64 3, .int .i64 ref, .int .u64 p, .int .u64 a, .int .u64 b, .bool deny, .slice dp dn dc] 103)).alloc (.map #[] 0)))
  have HNe := Lib.hid (show ¬ (w1.heap.size = w1.heap.size + 1) by omega)
  have hsz1 : (w1.alloc (.cells #[.pointer (some ⟨hb, 0, none⟩), .int .u64 q, .int .i64 3, .int .i64 ref, .int .u64 p, .int .u64 a, .int .u64 b, .bool deny, .slice dp dn dc] 103)).heap.size = w1.heap.size + 1 := by simp
  rw [hsz1] at HM
  have d0 : True := trivial
  have d1 : True := trivial
  have d2 : True := trivial
  have d3 : True := trivial
  have d4 : True := trivial
  have d5 : True := trivial
  have d6 : True := trivial
  have d7 : True := trivial
  have d8 : True := trivial
  have d9 : True := trivial
  clear TT hsz1
  go_wp2_with (first | (refine wpList_lookup_there rfl _ _ rfl _ _ _ rfl HM.out 3 rfl (by decide) 41 (by decide) ?_) | (refine wpList_insert_fn rfl _ _ _ rfl _ _ _ rfl HM.out (by decide) _ _ rfl (by decide) rfl ?_; intro w9 hown hgrow; have X := And.intro (Lib.hid hown) (Lib.hid (HT.out.trans (Touch.of_grown hgrow (fun k hk => (Option.some.inj hk).symm)))); clear HM HT d9 d0 d1 d2 d3 d4 d5 d6 d7 d8 hown hgrow; obtain ⟨HM, HT⟩ := X; have d0 : World.cell? _ ⟨w1.heap.size, 0, none⟩ = some (.pointer (some ⟨hb, 0, none⟩)) := (HBd.out.touch HT.out HNe.out).cell 0; have d1 : World.cell? _ ⟨w1.heap.size, 1, none⟩ = some (.int .u64 q) := (HBd.out.touch HT.out HNe.out).cell 1; have d2 : World.cell? _ ⟨w1.heap.size, 2, none⟩ = some (.int .i64 3) := (HBd.out.touch HT.out HNe.out).cell 2; have d3 : World.cell? _ ⟨w1.heap.size, 3, none⟩ = some (.int .i64 ref) := (HBd.out.touch HT.out HNe.out).cell 3; have d4 : World.cell? _ ⟨w1.heap.size, 4, none⟩ = some (.int .u64 p) := (HBd.out.touch HT.out HNe.out).cell 4; have d5 : World.cell? _ ⟨w1.heap.size, 5, none⟩ = some (.int .u64 a) := (HBd.out.touch HT.out HNe.out).cell 5; have d6 : World.cell? _ ⟨w1.heap.size, 6, none⟩ = some (.int .u64 b) := (HBd.out.touch HT.out HNe.out).cell 6; have d7 : World.cell? _ ⟨w1.heap.size, 7, none⟩ = some (.bool deny) := (HBd.out.touch HT.out HNe.out).cell 7; have d8 : World.cell? _ ⟨w1.heap.size, 8, none⟩ = some (.slice dp dn dc) := (HBd.out.touch HT.out HNe.out).cell 8; have d9 : World.cell? _ ⟨w.heap.size, 0, none⟩ = some (.int .i64 3) := ((HB0.out.touch HTT.out (fun h => h)).touch HT.out HNe0.out).cell 0))
  have hsw := HT1.out.size
  have HT9 := Lib.hid ((HT1.out.trans HTT.out).trans' HT.out (fun i hi e => by omega))
  have HR9 := Lib.hid (((HR0.out.touch HTT.out (fun h => h))).touch HT.out (show ¬ (w.heap.size + 1 = w1.heap.size + 1) by have := HR0.out.lt; omega))
  clear hsw d0 d1 d2 d3 d4 d5 d6 d7 d8 d9 k0 k1 k2 k3 k4 k5 k6
  refine (HMe.out _ HT9.out).mono ?_
  rintro e w10 ⟨⟨ae, avv, adp, adn, adc, ah, al, abl, afr⟩, rfl, hq⟩
  unfold AnsV.val at *
  have R10 := HR9.out.touch (HQ.out _ _ _ hq) (fun h => by have := HS.out _ h; omega)
  have z0 : w10.cell? ⟨w.heap.size + 1, 0, none⟩ = some (.int .i64 0) := R10.cell 0
  have f0 := R10.free 0
  have z1 : w10.cell? ⟨w.heap.size + 1, 1, none⟩ = some (.int .u64 0) := R10.cell 1
  have f1 := R10.free 1
  have z2 : w10.cell? ⟨w.heap.size + 1, 2, none⟩ = some (.slice none 0 0) := R10.cell 2
  have f2 := R10.free 2
  have z3 : w10.cell? ⟨w.heap.size + 1, 3, none⟩ = some (.int .u64 0) := R10.cell 3
  have f3 := R10.free 3
  have z4 : w10.cell? ⟨w.heap.size + 1, 4, none⟩ = some (.int .u64 0) := R10.cell 4
  have f4 := R10.free 4
  have z5 : w10.cell? ⟨w.heap.size + 1, 5, none⟩ = some (.int .i64 0) := R10.cell 5
  have f5 := R10.free 5
  have z6 : w10.cell? ⟨w.heap.size + 1, 6, none⟩ = some (.int .i64 0) := R10.cell 6
  have f6 := R10.free 6
  have HR11 := Lib.hid (((((((R10.set 0 (.int .i64 ae)).set 1 (.int .u64 avv)).set 2 (.slice adp adn adc)).set 3 (.int .u64 ah)).set 4 (.int .u64 al)).set 5 (.int .i64 abl)).set 6 (.int .i64 afr))
  have hq' := Lib.hid hq
  clear R10 hq
  go_wp2_with fail
  have y0 := HR11.out.cell 0
  have y1 := HR11.out.cell 1
  have y2 := HR11.out.cell 2
  have y3 := HR11.out.cell 3
  have y4 := HR11.out.cell 4
  have y5 := HR11.out.cell 5
  have y6 := HR11.out.cell 6
  simp at y0 y1 y2 y3 y4 y5 y6
  have TR := Lib.hid (((((((Touch.cellAt w10 (w.heap.size + 1) 0 (.int .i64 ae)).trans (Touch.cellAt _ (w.heap.size + 1) 1 (.int .u64 avv))).trans (Touch.cellAt _ (w.heap.size + 1) 2 (.slice adp adn adc))).trans (Touch.cellAt _ (w.heap.size + 1) 3 (.int .u64 ah))).trans (Touch.cellAt _ (w.heap.size + 1) 4 (.int .u64 al))).trans (Touch.cellAt _ (w.heap.size + 1) 5 (.int .i64 abl))).trans (Touch.cellAt _ (w.heap.size + 1) 6 (.int .i64 afr)))
  exact bodyPost_ret (v := .agg #[.int .i64 ae, .int .u64 avv, .slice adp adn adc, .int .u64 ah, .int .u64 al, .int .i64 abl, .int .i64 afr]) (by simp [results, Tryz.results22, go_sem, y0, y1, y2, y3, y4, y5, y6]) rfl ⟨_, rfl, _, w10, w.heap.size + 1, HT9.out, hq'.out, by omega, HR9.out.lt, TR.out⟩


set_option maxRecDepth 100000 in
set_option maxHeartbeats 4000000 in
theorem one_4 {w : World} (hb q : Nat) (c : CallV) (av : Value) (S : Nat → Prop) (hS : ∀ k, S k → k < w.heap.size) (Q : AnsV → World → World → Prop) (hQ : ∀ an W W1, Q an W W1 → Touch S W W1)
    (hop : c.op = 4)
    (HAd : Hid (∀ W, Touch Nothing w W → Calls Tryz.prog 38 #[c.val, av] W fun e w' => e = .returned (.tuple #[.int .u64 q, .bool true]) ∧ Touch Nothing W w'))
    (HMe : Hid (∀ W, Touch Nothing w W → Calls Tryz.prog 42 #[c.doer hb q] W fun e w' => ∃ an : AnsV, e = .returned an.val ∧ Q an W w')) :
    Calls Tryz.prog 22 #[.pointer (some ⟨hb, 0, none⟩), c.val, av] w (Done w Q) := by
  have HS := Lib.hid hS
  have HQ := Lib.hid hQ
  obtain ⟨op, ref, p, a, b, deny, dp, dn, dc⟩ := c
  simp only at hop
  subst hop
  unfold CallV.val CallV.doer at *
  clear hS hQ
  go_enter Tryz.func22, Tryz.ntmps22
  go_wp2_with fail
  refine (HAd.out _ (((Touch.refl _ w).alloc _).alloc _)).mono ?_
  rintro e w1 ⟨rfl, T1⟩
  have B0 := (((Blk.new w #[.int .i64 4, .int .i64 ref, .int .u64 p, .int .u64 a, .int .u64 b, .bool deny, .slice dp dn dc] 43).alloc (.cells #[.int .i64 0, .int .u64 0, .slice none 0 0, .int .u64 0, .int .u64 0, .int .i64 0, .int .i64 0] 38)).touch T1 (fun h => h))
  have R0 := ((Blk.new (w.alloc (.cells #[.int .i64 4, .int .i64 ref, .int .u64 p, .int .u64 a, .int .u64 b, .bool deny, .slice dp dn dc] 43)) #[.int .i64 0, .int .u64 0, .slice none 0 0, .int .u64 0, .int .u64 0, .int .i64 0, .int .i64 0] 38).touch T1 (fun h => h))
  have hsz : (w.alloc (.cells #[.int .i64 4, .int .i64 ref, .int .u64 p, .int .u64 a, .int .u64 b, .bool deny, .slice dp dn dc] 43)).heap.size = w.heap.size + 1 := by simp
  rw [hsz] at R0
  have HT1 := Lib.hid ((((Touch.refl Nothing w).alloc (.cells #[.int .i64 4, .int .i64 ref, .int .u64 p, .int .u64 a, .int .u64 b, .bool deny, .slice dp dn dc] 43)).alloc (.cells #[.int .i64 0, .int .u64 0, .slice none 0 0, .int .u64 0, .int .u64 0, .int .i64 0, .int .i64 0] 38)).trans T1)
  have k0 : w1.cell? ⟨w.heap.size, 0, none⟩ = some (.int .i64 4) := B0.cell 0
  have k1 : w1.cell? ⟨w.heap.size, 1, none⟩ = some (.int .i64 ref) := B0.cell 1
  have k2 : w1.cell? ⟨w.heap.size, 2, none⟩ = some (.int .u64 p) := B0.cell 2
  have k3 : w1.cell? ⟨w.heap.size, 3, none⟩ = some (.int .u64 a) := B0.cell 3
  have k4 : w1.cell? ⟨w.heap.size, 4, none⟩ = some (.int .u64 b) := B0.cell 4
  have k5 : w1.cell? ⟨w.heap.size, 5, none⟩ = some (.bool deny) := B0.cell 5
  have k6 : w1.cell? ⟨w.heap.size, 6, none⟩ = some (.slice dp dn dc) := B0.cell 6
  have HB0 := Lib.hid B0
  have HR0 := Lib.hid R0
  clear B0 R0 T1 hsz
  have HNe0 := Lib.hid (show ¬ (w.heap.size = w1.heap.size + 1) by have := HB0.out.lt; omega)
  have hmm := @run_makeMap Tryz.prog
  have hmf : ∀ (fn : Fn) (first cap : Array Value) (w : World), (Instr.makeFunc fn first cap).run Tryz.prog w = .ok (.func fn first cap) w := fun _ _ _ _ => rfl
  have HM := Lib.hid (FnMap.made (w1.alloc (.cells #[.pointer (some ⟨hb, 0, none⟩), .int .u64 q, .int .i64 4, .int .i64 ref, .int .u64 p, .int .u64 a, .int .u64 b, .bool deny, .slice dp dn dc] 103)) (.agg #[.pointer (some ⟨hb, 0, none⟩), .int .u64 q, .int .i64 4, .int .i64 ref, .int .u64 p, .int .u64 a, .int .u64 b, .bool deny, .slice dp dn dc]))
  have HBd := Lib.hid ((Blk.new w1 #[.pointer (some ⟨hb, 0, none⟩), .int .u64 q, .int .i64 4, .int .i64 ref, .int .u64 p, .int .u64 a, .int .u64 b, .bool deny, .slice dp dn dc] 103).alloc (.map #[] 0))
  have TT : Touch Nothing w1 ((w1.alloc (.cells #[.pointer (some ⟨hb, 0, none⟩), .int .u64 q, .int .i64 4, .int .i64 ref, .int .u64 p, .int .u64 a, .int .u64 b, .bool deny, .slice dp dn dc] 103)).alloc (.map #[] 0)) := ((Touch.refl Nothing w1).alloc _).alloc _
  have HTT := Lib.hid TT
  have HT := Lib.hid (Touch.refl (· = w1.heap.size + 1) ((w1.alloc (.cells #[.pointer (some ⟨hb, 0, none⟩), .int .u64 q, .int .i64 4, .int .i64 ref, .int .u64 p, .int .u64 a, .int .u64 b, .bool deny, .slice dp dn dc] 103)).alloc (.map #[] 0)))
  have HNe := Lib.hid (show ¬ (w1.heap.size = w1.heap.size + 1) by omega)
  have hsz1 : (w1.alloc (.cells #[.pointer (some ⟨hb, 0, none⟩), .int .u64 q, .int .i64 4, .int .i64 ref, .int .u64 p, .int .u64 a, .int .u64 b, .bool deny, .slice dp dn dc] 103)).heap.size = w1.heap.size + 1 := by simp
  rw [hsz1] at HM
  have d0 : True := trivial
  have d1 : True := trivial
  have d2 : True := trivial
  have d3 : True := trivial
  have d4 : True := trivial
  have d5 : True := trivial
  have d6 : True := trivial
  have d7 : True := trivial
  have d8 : True := trivial
  have d9 : True := trivial
  clear TT hsz1
  go_wp2_with (first | (refine wpList_lookup_there rfl _ _ rfl _ _ _ rfl HM.out 4 rfl (by decide) 42 (by decide) ?_) | (refine wpList_insert_fn rfl _ _ _ rfl _ _ _ rfl HM.out (by decide) _ _ rfl (by decide) rfl ?_; intro w9 hown hgrow; have X := And.intro (Lib.hid hown) (Lib.hid (HT.out.trans (Touch.of_grown hgrow (fun k hk => (Option.some.inj hk).symm)))); clear HM HT d9 d0 d1 d2 d3 d4 d5 d6 d7 d8 hown hgrow; obtain ⟨HM, HT⟩ := X; have d0 : World.cell? _ ⟨w1.heap.size, 0, none⟩ = some (.pointer (some ⟨hb, 0, none⟩)) := (HBd.out.touch HT.out HNe.out).cell 0; have d1 : World.cell? _ ⟨w1.heap.size, 1, none⟩ = some (.int .u64 q) := (HBd.out.touch HT.out HNe.out).cell 1; have d2 : World.cell? _ ⟨w1.heap.size, 2, none⟩ = some (.int .i64 4) := (HBd.out.touch HT.out HNe.out).cell 2; have d3 : World.cell? _ ⟨w1.heap.size, 3, none⟩ = some (.int .i64 ref) := (HBd.out.touch HT.out HNe.out).cell 3; have d4 : World.cell? _ ⟨w1.heap.size, 4, none⟩ = some (.int .u64 p) := (HBd.out.touch HT.out HNe.out).cell 4; have d5 : World.cell? _ ⟨w1.heap.size, 5, none⟩ = some (.int .u64 a) := (HBd.out.touch HT.out HNe.out).cell 5; have d6 : World.cell? _ ⟨w1.heap.size, 6, none⟩ = some (.int .u64 b) := (HBd.out.touch HT.out HNe.out).cell 6; have d7 : World.cell? _ ⟨w1.heap.size, 7, none⟩ = some (.bool deny) := (HBd.out.touch HT.out HNe.out).cell 7; have d8 : World.cell? _ ⟨w1.heap.size, 8, none⟩ = some (.slice dp dn dc) := (HBd.out.touch HT.out HNe.out).cell 8; have d9 : World.cell? _ ⟨w.heap.size, 0, none⟩ = some (.int .i64 4) := ((HB0.out.touch HTT.out (fun h => h)).touch HT.out HNe0.out).cell 0))
  have hsw := HT1.out.size
  have HT9 := Lib.hid ((HT1.out.trans HTT.out).trans' HT.out (fun i hi e => by omega))
  have HR9 := Lib.hid (((HR0.out.touch HTT.out (fun h => h))).touch HT.out (show ¬ (w.heap.size + 1 = w1.heap.size + 1) by have := HR0.out.lt; omega))
  clear hsw d0 d1 d2 d3 d4 d5 d6 d7 d8 d9 k0 k1 k2 k3 k4 k5 k6
  refine (HMe.out _ HT9.out).mono ?_
  rintro e w10 ⟨⟨ae, avv, adp, adn, adc, ah, al, abl, afr⟩, rfl, hq⟩
  unfold AnsV.val at *
  have R10 := HR9.out.touch (HQ.out _ _ _ hq) (fun h => by have := HS.out _ h; omega)
  have z0 : w10.cell? ⟨w.heap.size + 1, 0, none⟩ = some (.int .i64 0) := R10.cell 0
  have f0 := R10.free 0
  have z1 : w10.cell? ⟨w.heap.size + 1, 1, none⟩ = some (.int .u64 0) := R10.cell 1
  have f1 := R10.free 1
  have z2 : w10.cell? ⟨w.heap.size + 1, 2, none⟩ = some (.slice none 0 0) := R10.cell 2
  have f2 := R10.free 2
  have z3 : w10.cell? ⟨w.heap.size + 1, 3, none⟩ = some (.int .u64 0) := R10.cell 3
  have f3 := R10.free 3
  have z4 : w10.cell? ⟨w.heap.size + 1, 4, none⟩ = some (.int .u64 0) := R10.cell 4
  have f4 := R10.free 4
  have z5 : w10.cell? ⟨w.heap.size + 1, 5, none⟩ = some (.int .i64 0) := R10.cell 5
  have f5 := R10.free 5
  have z6 : w10.cell? ⟨w.heap.size + 1, 6, none⟩ = some (.int .i64 0) := R10.cell 6
  have f6 := R10.free 6
  have HR11 := Lib.hid (((((((R10.set 0 (.int .i64 ae)).set 1 (.int .u64 avv)).set 2 (.slice adp adn adc)).set 3 (.int .u64 ah)).set 4 (.int .u64 al)).set 5 (.int .i64 abl)).set 6 (.int .i64 afr))
  have hq' := Lib.hid hq
  clear R10 hq
  go_wp2_with fail
  have y0 := HR11.out.cell 0
  have y1 := HR11.out.cell 1
  have y2 := HR11.out.cell 2
  have y3 := HR11.out.cell 3
  have y4 := HR11.out.cell 4
  have y5 := HR11.out.cell 5
  have y6 := HR11.out.cell 6
  simp at y0 y1 y2 y3 y4 y5 y6
  have TR := Lib.hid (((((((Touch.cellAt w10 (w.heap.size + 1) 0 (.int .i64 ae)).trans (Touch.cellAt _ (w.heap.size + 1) 1 (.int .u64 avv))).trans (Touch.cellAt _ (w.heap.size + 1) 2 (.slice adp adn adc))).trans (Touch.cellAt _ (w.heap.size + 1) 3 (.int .u64 ah))).trans (Touch.cellAt _ (w.heap.size + 1) 4 (.int .u64 al))).trans (Touch.cellAt _ (w.heap.size + 1) 5 (.int .i64 abl))).trans (Touch.cellAt _ (w.heap.size + 1) 6 (.int .i64 afr)))
  exact bodyPost_ret (v := .agg #[.int .i64 ae, .int .u64 avv, .slice adp adn adc, .int .u64 ah, .int .u64 al, .int .i64 abl, .int .i64 afr]) (by simp [results, Tryz.results22, go_sem, y0, y1, y2, y3, y4, y5, y6]) rfl ⟨_, rfl, _, w10, w.heap.size + 1, HT9.out, hq'.out, by omega, HR9.out.lt, TR.out⟩

end Go.Proofs.YtnjcmcnjgdjbiaaGreatDoor

