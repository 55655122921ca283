/- The walks of a doer's methods (printed by wip/tools/meth.py). Conditions: the heap's method has its contract. The walk of a doer's read. Conditions: Heap.Read's contract. -/
import Derived.Test.YtnjcmcnjgdjbiaaGreatDoorLgOnes
import Derived.Test.YtnjcmcnjgdjbiaaGreatDoorLgHeapb
namespace Go.Proofs.YtnjcmcnjgdjbiaaGreatDoor
open Go.RowKit

theorem AnsV.errVal (er : Int) : (errAns er).val = .agg #[.int .i64 er, .int .u64 0, .slice none 0 0, .int .u64 0, .int .u64 0, .int .i64 0, .int .i64 0] := rfl

set_option maxRecDepth 100000 in
set_option maxHeartbeats 1000000 in
theorem meth_calloc {w : World} {hb s pb : Nat} {K : BuL} {β β' : Bu} {ps ps' : List Int} (R : HpRep 0 w hb s pb K β ps) (c : CallV) (q : Nat) (p : Nat) (er : Int) 
    (HM : ∀ W, HpRep 0 W hb s pb K β ps → Calls Tryz.prog 89 #[.pointer (some ⟨hb, 0, none⟩), .int .u64 c.a, .int .u64 c.b, .bool c.deny] W (Heaped W hb s pb K β' ps' (.tuple #[.int .u64 p, .int .i64 er]))) :
    Calls Tryz.prog 40 #[c.doer hb q] w fun e w' => ∃ an : AnsV, e = .returned an.val ∧ QHp hb s pb K β' ps' (numAns p er) an w w' := by
  obtain ⟨op, ref, pp, a, b, deny, dp, dn, dc⟩ := c
  unfold CallV.doer at *
  have T0 : Touch Nothing w ((w.alloc (.cells #[.pointer (some ⟨hb, 0, none⟩), .int .u64 q, .int .i64 op, .int .i64 ref, .int .u64 pp, .int .u64 a, .int .u64 b, .bool deny, .slice dp dn dc] 103)).alloc (.cells #[.int .i64 0, .int .u64 0, .slice none 0 0, .int .u64 0, .int .u64 0, .int .i64 0, .int .i64 0] 38)) := ((Touch.refl _ w).alloc _).alloc _
  have hsz : (w.alloc (.cells #[.pointer (some ⟨hb, 0, none⟩), .int .u64 q, .int .i64 op, .int .i64 ref, .int .u64 pp, .int .u64 a, .int .u64 b, .bool deny, .slice dp dn dc] 103)).heap.size = w.heap.size + 1 := by simp
  have R0 := Blk.new (w.alloc (.cells #[.pointer (some ⟨hb, 0, none⟩), .int .u64 q, .int .i64 op, .int .i64 ref, .int .u64 pp, .int .u64 a, .int .u64 b, .bool deny, .slice dp dn dc] 103)) #[.int .i64 0, .int .u64 0, .slice none 0 0, .int .u64 0, .int .u64 0, .int .i64 0, .int .i64 0] 38
  rw [hsz] at R0
  have HM0 := Lib.hid (HM _ (R.touch0 T0))
  have HR0 := Lib.hid R0
  have HT0 := Lib.hid T0
  have HV := Lib.hid (value_ p er)
  have HR := Lib.hid R
  have hlt := R.lt
  have HL := Lib.hid hlt
  clear R HM T0 R0 hsz hlt
  go_enter Tryz.func40, Tryz.ntmps40
  go_wp2_with fail
  generalize (w.alloc (.cells #[.pointer (some ⟨hb, 0, none⟩), .int .u64 q, .int .i64 op, .int .i64 ref, .int .u64 pp, .int .u64 a, .int .u64 b, .bool deny, .slice dp dn dc] 103)).alloc (.cells #[.int .i64 0, .int .u64 0, .slice none 0 0, .int .u64 0, .int .u64 0, .int .i64 0, .int .i64 0] 38) = w1 at *
  refine HM0.out.mono ?_
  rintro e w2 hH
  have HH := Lib.hid hH
  obtain ⟨rfl, K', R2, N2, T2⟩ := hH
  have hnot : ¬ (w.heap.size + 1 ∈ hb :: s :: K.fp) := fun h => by
    simp only [List.mem_cons] at h
    rcases h with h | h | h
    · have := HL.out hb (by simp); omega
    · have := HL.out s (by simp); omega
    · have := HL.out (w.heap.size + 1) (by simp [h]); omega
  have B2 := Lib.hid (HR0.out.touch T2 hnot)
  clear R2 N2 T2 hnot
  go_wp2_with fail
  refine (HV.out _).mono ?_
  rintro e w3 ⟨rfl, T3⟩
  have R3 := B2.out.touch T3 (fun h => h)
  have HT3 := Lib.hid T3
  have z0 : w3.cell? ⟨w.heap.size + 1, 0, none⟩ = some (.int .i64 0) := R3.cell 0
  have f0 := R3.free 0
  have z1 : w3.cell? ⟨w.heap.size + 1, 1, none⟩ = some (.int .u64 0) := R3.cell 1
  have f1 := R3.free 1
  have z2 : w3.cell? ⟨w.heap.size + 1, 2, none⟩ = some (.slice none 0 0) := R3.cell 2
  have f2 := R3.free 2
  have z3 : w3.cell? ⟨w.heap.size + 1, 3, none⟩ = some (.int .u64 0) := R3.cell 3
  have f3 := R3.free 3
  have z4 : w3.cell? ⟨w.heap.size + 1, 4, none⟩ = some (.int .u64 0) := R3.cell 4
  have f4 := R3.free 4
  have z5 : w3.cell? ⟨w.heap.size + 1, 5, none⟩ = some (.int .i64 0) := R3.cell 5
  have f5 := R3.free 5
  have z6 : w3.cell? ⟨w.heap.size + 1, 6, none⟩ = some (.int .i64 0) := R3.cell 6
  have f6 := R3.free 6
  generalize hN : numAns p er = an at *
  have HN := Lib.hid hN
  have HB := Lib.hid (laid7_blk R3 an)
  have HTL := Lib.hid (laid7_touch w3 (w.heap.size + 1) an)
  clear R3 T3 hN
  obtain ⟨ae, avv, adp, adn, adc, ah, al, abl, afr⟩ := an
  unfold laid7 at *
  unfold AnsV.val at *
  go_wp2_with fail
  have y0 := HB.out.cell 0
  have y1 := HB.out.cell 1
  have y2 := HB.out.cell 2
  have y3 := HB.out.cell 3
  have y4 := HB.out.cell 4
  have y5 := HB.out.cell 5
  have y6 := HB.out.cell 6
  simp [AnsV.cells] at y0 y1 y2 y3 y4 y5 y6
  exact bodyPost_ret (v := .agg #[.int .i64 ae, .int .u64 avv, .slice adp adn adc, .int .u64 ah, .int .u64 al, .int .i64 abl, .int .i64 afr]) (by simp [results, Tryz.results40, go_sem, y0, y1, y2, y3, y4, y5, y6]) rfl ⟨⟨ae, avv, adp, adn, adc, ah, al, abl, afr⟩, rfl, HN.out.symm, Heaped.out HR.out HT0.out HH.out (by omega) HR0.out.lt (HT3.out.none_.trans HTL.out)⟩

set_option maxRecDepth 100000 in
set_option maxHeartbeats 1000000 in
theorem meth_usable {w : World} {hb s pb : Nat} {K : BuL} {β β' : Bu} {ps ps' : List Int} (R : HpRep 0 w hb s pb K β ps) (c : CallV) (q : Nat) (p : Nat) (er : Int) 
    (HM : ∀ W, HpRep 0 W hb s pb K β ps → Calls Tryz.prog 56 #[.pointer (some ⟨hb, 0, none⟩), .int .u64 q] W (Heaped W hb s pb K β' ps' (.tuple #[.int .u64 p, .int .i64 er]))) :
    Calls Tryz.prog 44 #[c.doer hb q] w fun e w' => ∃ an : AnsV, e = .returned an.val ∧ QHp hb s pb K β' ps' (numAns p er) an w w' := by
  obtain ⟨op, ref, pp, a, b, deny, dp, dn, dc⟩ := c
  unfold CallV.doer at *
  have T0 : Touch Nothing w ((w.alloc (.cells #[.pointer (some ⟨hb, 0, none⟩), .int .u64 q, .int .i64 op, .int .i64 ref, .int .u64 pp, .int .u64 a, .int .u64 b, .bool deny, .slice dp dn dc] 103)).alloc (.cells #[.int .i64 0, .int .u64 0, .slice none 0 0, .int .u64 0, .int .u64 0, .int .i64 0, .int .i64 0] 38)) := ((Touch.refl _ w).alloc _).alloc _
  have hsz : (w.alloc (.cells #[.pointer (some ⟨hb, 0, none⟩), .int .u64 q, .int .i64 op, .int .i64 ref, .int .u64 pp, .int .u64 a, .int .u64 b, .bool deny, .slice dp dn dc] 103)).heap.size = w.heap.size + 1 := by simp
  have R0 := Blk.new (w.alloc (.cells #[.pointer (some ⟨hb, 0, none⟩), .int .u64 q, .int .i64 op, .int .i64 ref, .int .u64 pp, .int .u64 a, .int .u64 b, .bool deny, .slice dp dn dc] 103)) #[.int .i64 0, .int .u64 0, .slice none 0 0, .int .u64 0, .int .u64 0, .int .i64 0, .int .i64 0] 38
  rw [hsz] at R0
  have HM0 := Lib.hid (HM _ (R.touch0 T0))
  have HR0 := Lib.hid R0
  have HT0 := Lib.hid T0
  have HV := Lib.hid (value_ p er)
  have HR := Lib.hid R
  have hlt := R.lt
  have HL := Lib.hid hlt
  clear R HM T0 R0 hsz hlt
  go_enter Tryz.func44, Tryz.ntmps44
  go_wp2_with fail
  generalize (w.alloc (.cells #[.pointer (some ⟨hb, 0, none⟩), .int .u64 q, .int .i64 op, .int .i64 ref, .int .u64 pp, .int .u64 a, .int .u64 b, .bool deny, .slice dp dn dc] 103)).alloc (.cells #[.int .i64 0, .int .u64 0, .slice none 0 0, .int .u64 0, .int .u64 0, .int .i64 0, .int .i64 0] 38) = w1 at *
  refine HM0.out.mono ?_
  rintro e w2 hH
  have HH := Lib.hid hH
  obtain ⟨rfl, K', R2, N2, T2⟩ := hH
  have hnot : ¬ (w.heap.size + 1 ∈ hb :: s :: K.fp) := fun h => by
    simp only [List.mem_cons] at h
    rcases h with h | h | h
    · have := HL.out hb (by simp); omega
    · have := HL.out s (by simp); omega
    · have := HL.out (w.heap.size + 1) (by simp [h]); omega
  have B2 := Lib.hid (HR0.out.touch T2 hnot)
  clear R2 N2 T2 hnot
  go_wp2_with fail
  refine (HV.out _).mono ?_
  rintro e w3 ⟨rfl, T3⟩
  have R3 := B2.out.touch T3 (fun h => h)
  have HT3 := Lib.hid T3
  have z0 : w3.cell? ⟨w.heap.size + 1, 0, none⟩ = some (.int .i64 0) := R3.cell 0
  have f0 := R3.free 0
  have z1 : w3.cell? ⟨w.heap.size + 1, 1, none⟩ = some (.int .u64 0) := R3.cell 1
  have f1 := R3.free 1
  have z2 : w3.cell? ⟨w.heap.size + 1, 2, none⟩ = some (.slice none 0 0) := R3.cell 2
  have f2 := R3.free 2
  have z3 : w3.cell? ⟨w.heap.size + 1, 3, none⟩ = some (.int .u64 0) := R3.cell 3
  have f3 := R3.free 3
  have z4 : w3.cell? ⟨w.heap.size + 1, 4, none⟩ = some (.int .u64 0) := R3.cell 4
  have f4 := R3.free 4
  have z5 : w3.cell? ⟨w.heap.size + 1, 5, none⟩ = some (.int .i64 0) := R3.cell 5
  have f5 := R3.free 5
  have z6 : w3.cell? ⟨w.heap.size + 1, 6, none⟩ = some (.int .i64 0) := R3.cell 6
  have f6 := R3.free 6
  generalize hN : numAns p er = an at *
  have HN := Lib.hid hN
  have HB := Lib.hid (laid7_blk R3 an)
  have HTL := Lib.hid (laid7_touch w3 (w.heap.size + 1) an)
  clear R3 T3 hN
  obtain ⟨ae, avv, adp, adn, adc, ah, al, abl, afr⟩ := an
  unfold laid7 at *
  unfold AnsV.val at *
  go_wp2_with fail
  have y0 := HB.out.cell 0
  have y1 := HB.out.cell 1
  have y2 := HB.out.cell 2
  have y3 := HB.out.cell 3
  have y4 := HB.out.cell 4
  have y5 := HB.out.cell 5
  have y6 := HB.out.cell 6
  simp [AnsV.cells] at y0 y1 y2 y3 y4 y5 y6
  exact bodyPost_ret (v := .agg #[.int .i64 ae, .int .u64 avv, .slice adp adn adc, .int .u64 ah, .int .u64 al, .int .i64 abl, .int .i64 afr]) (by simp [results, Tryz.results44, go_sem, y0, y1, y2, y3, y4, y5, y6]) rfl ⟨⟨ae, avv, adp, adn, adc, ah, al, abl, afr⟩, rfl, HN.out.symm, Heaped.out HR.out HT0.out HH.out (by omega) HR0.out.lt (HT3.out.none_.trans HTL.out)⟩

set_option maxRecDepth 100000 in
set_option maxHeartbeats 1000000 in
theorem meth_load {w : World} {hb s pb : Nat} {K : BuL} {β β' : Bu} {ps ps' : List Int} (R : HpRep 0 w hb s pb K β ps) (c : CallV) (q : Nat) (p : Nat) (er : Int) (hp : p < 256)
    (HM : ∀ W, HpRep 0 W hb s pb K β ps → Calls Tryz.prog 93 #[.pointer (some ⟨hb, 0, none⟩), .int .u64 q] W (Heaped W hb s pb K β' ps' (.tuple #[.int .u8 p, .int .i64 er]))) :
    Calls Tryz.prog 45 #[c.doer hb q] w fun e w' => ∃ an : AnsV, e = .returned an.val ∧ QHp hb s pb K β' ps' (numAns p er) an w w' := by
  obtain ⟨op, ref, pp, a, b, deny, dp, dn, dc⟩ := c
  unfold CallV.doer at *
  have T0 : Touch Nothing w ((w.alloc (.cells #[.pointer (some ⟨hb, 0, none⟩), .int .u64 q, .int .i64 op, .int .i64 ref, .int .u64 pp, .int .u64 a, .int .u64 b, .bool deny, .slice dp dn dc] 103)).alloc (.cells #[.int .i64 0, .int .u64 0, .slice none 0 0, .int .u64 0, .int .u64 0, .int .i64 0, .int .i64 0] 38)) := ((Touch.refl _ w).alloc _).alloc _
  have hsz : (w.alloc (.cells #[.pointer (some ⟨hb, 0, none⟩), .int .u64 q, .int .i64 op, .int .i64 ref, .int .u64 pp, .int .u64 a, .int .u64 b, .bool deny, .slice dp dn dc] 103)).heap.size = w.heap.size + 1 := by simp
  have R0 := Blk.new (w.alloc (.cells #[.pointer (some ⟨hb, 0, none⟩), .int .u64 q, .int .i64 op, .int .i64 ref, .int .u64 pp, .int .u64 a, .int .u64 b, .bool deny, .slice dp dn dc] 103)) #[.int .i64 0, .int .u64 0, .slice none 0 0, .int .u64 0, .int .u64 0, .int .i64 0, .int .i64 0] 38
  rw [hsz] at R0
  have HM0 := Lib.hid (HM _ (R.touch0 T0))
  have HR0 := Lib.hid R0
  have HT0 := Lib.hid T0
  have HV := Lib.hid (value_ p er)
  have HR := Lib.hid R
  have hlt := R.lt
  have HL := Lib.hid hlt
  clear R HM T0 R0 hsz hlt
  go_enter Tryz.func45, Tryz.ntmps45
  go_wp2_with fail
  generalize (w.alloc (.cells #[.pointer (some ⟨hb, 0, none⟩), .int .u64 q, .int .i64 op, .int .i64 ref, .int .u64 pp, .int .u64 a, .int .u64 b, .bool deny, .slice dp dn dc] 103)).alloc (.cells #[.int .i64 0, .int .u64 0, .slice none 0 0, .int .u64 0, .int .u64 0, .int .i64 0, .int .i64 0] 38) = w1 at *
  refine HM0.out.mono ?_
  rintro e w2 hH
  have HH := Lib.hid hH
  obtain ⟨rfl, K', R2, N2, T2⟩ := hH
  have hnot : ¬ (w.heap.size + 1 ∈ hb :: s :: K.fp) := fun h => by
    simp only [List.mem_cons] at h
    rcases h with h | h | h
    · have := HL.out hb (by simp); omega
    · have := HL.out s (by simp); omega
    · have := HL.out (w.heap.size + 1) (by simp [h]); omega
  have B2 := Lib.hid (HR0.out.touch T2 hnot)
  clear R2 N2 T2 hnot
  go_wp2_with fail
  refine (HV.out _).mono ?_
  rintro e w3 ⟨rfl, T3⟩
  have R3 := B2.out.touch T3 (fun h => h)
  have HT3 := Lib.hid T3
  have z0 : w3.cell? ⟨w.heap.size + 1, 0, none⟩ = some (.int .i64 0) := R3.cell 0
  have f0 := R3.free 0
  have z1 : w3.cell? ⟨w.heap.size + 1, 1, none⟩ = some (.int .u64 0) := R3.cell 1
  have f1 := R3.free 1
  have z2 : w3.cell? ⟨w.heap.size + 1, 2, none⟩ = some (.slice none 0 0) := R3.cell 2
  have f2 := R3.free 2
  have z3 : w3.cell? ⟨w.heap.size + 1, 3, none⟩ = some (.int .u64 0) := R3.cell 3
  have f3 := R3.free 3
  have z4 : w3.cell? ⟨w.heap.size + 1, 4, none⟩ = some (.int .u64 0) := R3.cell 4
  have f4 := R3.free 4
  have z5 : w3.cell? ⟨w.heap.size + 1, 5, none⟩ = some (.int .i64 0) := R3.cell 5
  have f5 := R3.free 5
  have z6 : w3.cell? ⟨w.heap.size + 1, 6, none⟩ = some (.int .i64 0) := R3.cell 6
  have f6 := R3.free 6
  generalize hN : numAns p er = an at *
  have HN := Lib.hid hN
  have HB := Lib.hid (laid7_blk R3 an)
  have HTL := Lib.hid (laid7_touch w3 (w.heap.size + 1) an)
  clear R3 T3 hN
  obtain ⟨ae, avv, adp, adn, adc, ah, al, abl, afr⟩ := an
  unfold laid7 at *
  unfold AnsV.val at *
  go_wp2_with fail
  have y0 := HB.out.cell 0
  have y1 := HB.out.cell 1
  have y2 := HB.out.cell 2
  have y3 := HB.out.cell 3
  have y4 := HB.out.cell 4
  have y5 := HB.out.cell 5
  have y6 := HB.out.cell 6
  simp [AnsV.cells] at y0 y1 y2 y3 y4 y5 y6
  exact bodyPost_ret (v := .agg #[.int .i64 ae, .int .u64 avv, .slice adp adn adc, .int .u64 ah, .int .u64 al, .int .i64 abl, .int .i64 afr]) (by simp [results, Tryz.results45, go_sem, y0, y1, y2, y3, y4, y5, y6]) rfl ⟨⟨ae, avv, adp, adn, adc, ah, al, abl, afr⟩, rfl, HN.out.symm, Heaped.out HR.out HT0.out HH.out (by omega) HR0.out.lt (HT3.out.none_.trans HTL.out)⟩

set_option maxRecDepth 100000 in
set_option maxHeartbeats 1000000 in
theorem meth_free {w : World} {hb s pb : Nat} {K : BuL} {β β' : Bu} {ps ps' : List Int} (R : HpRep 0 w hb s pb K β ps) (c : CallV) (q : Nat) (er : Int) 
    (HM : ∀ W, HpRep 0 W hb s pb K β ps → Calls Tryz.prog 92 #[.pointer (some ⟨hb, 0, none⟩), .int .u64 q] W (Heaped W hb s pb K β' ps' (.int .i64 er))) :
    Calls Tryz.prog 43 #[c.doer hb q] w fun e w' => ∃ an : AnsV, e = .returned an.val ∧ QHp hb s pb K β' ps' (errAns er) an w w' := by
  obtain ⟨op, ref, pp, a, b, deny, dp, dn, dc⟩ := c
  unfold CallV.doer at *
  have T0 : Touch Nothing w ((w.alloc (.cells #[.pointer (some ⟨hb, 0, none⟩), .int .u64 q, .int .i64 op, .int .i64 ref, .int .u64 pp, .int .u64 a, .int .u64 b, .bool deny, .slice dp dn dc] 103)).alloc (.cells #[.int .i64 0, .int .u64 0, .slice none 0 0, .int .u64 0, .int .u64 0, .int .i64 0, .int .i64 0] 38)) := ((Touch.refl _ w).alloc _).alloc _
  have hsz : (w.alloc (.cells #[.pointer (some ⟨hb, 0, none⟩), .int .u64 q, .int .i64 op, .int .i64 ref, .int .u64 pp, .int .u64 a, .int .u64 b, .bool deny, .slice dp dn dc] 103)).heap.size = w.heap.size + 1 := by simp
  have R0 := Blk.new (w.alloc (.cells #[.pointer (some ⟨hb, 0, none⟩), .int .u64 q, .int .i64 op, .int .i64 ref, .int .u64 pp, .int .u64 a, .int .u64 b, .bool deny, .slice dp dn dc] 103)) #[.int .i64 0, .int .u64 0, .slice none 0 0, .int .u64 0, .int .u64 0, .int .i64 0, .int .i64 0] 38
  rw [hsz] at R0
  have HM0 := Lib.hid (HM _ (R.touch0 T0))
  have HR0 := Lib.hid R0
  have HT0 := Lib.hid T0
  have HR := Lib.hid R
  have hlt := R.lt
  have HL := Lib.hid hlt
  clear R HM T0 R0 hsz hlt
  go_enter Tryz.func43, Tryz.ntmps43
  go_wp2_with fail
  generalize (w.alloc (.cells #[.pointer (some ⟨hb, 0, none⟩), .int .u64 q, .int .i64 op, .int .i64 ref, .int .u64 pp, .int .u64 a, .int .u64 b, .bool deny, .slice dp dn dc] 103)).alloc (.cells #[.int .i64 0, .int .u64 0, .slice none 0 0, .int .u64 0, .int .u64 0, .int .i64 0, .int .i64 0] 38) = w1 at *
  refine HM0.out.mono ?_
  rintro e w2 hH
  have HH := Lib.hid hH
  obtain ⟨rfl, K', R2, N2, T2⟩ := hH
  have hnot : ¬ (w.heap.size + 1 ∈ hb :: s :: K.fp) := fun h => by
    simp only [List.mem_cons] at h
    rcases h with h | h | h
    · have := HL.out hb (by simp); omega
    · have := HL.out s (by simp); omega
    · have := HL.out (w.heap.size + 1) (by simp [h]); omega
  have B2 := Lib.hid (HR0.out.touch T2 hnot)
  clear R2 N2 T2 hnot
  have R3 := B2.out
  have z0 : w2.cell? ⟨w.heap.size + 1, 0, none⟩ = some (.int .i64 0) := R3.cell 0
  have f0 := R3.free 0
  have z1 : w2.cell? ⟨w.heap.size + 1, 1, none⟩ = some (.int .u64 0) := R3.cell 1
  have f1 := R3.free 1
  have z2 : w2.cell? ⟨w.heap.size + 1, 2, none⟩ = some (.slice none 0 0) := R3.cell 2
  have f2 := R3.free 2
  have z3 : w2.cell? ⟨w.heap.size + 1, 3, none⟩ = some (.int .u64 0) := R3.cell 3
  have f3 := R3.free 3
  have z4 : w2.cell? ⟨w.heap.size + 1, 4, none⟩ = some (.int .u64 0) := R3.cell 4
  have f4 := R3.free 4
  have z5 : w2.cell? ⟨w.heap.size + 1, 5, none⟩ = some (.int .i64 0) := R3.cell 5
  have f5 := R3.free 5
  have z6 : w2.cell? ⟨w.heap.size + 1, 6, none⟩ = some (.int .i64 0) := R3.cell 6
  have f6 := R3.free 6
  have HB := Lib.hid (laid7_blk R3 (errAns er))
  have HTL := Lib.hid (laid7_touch w2 (w.heap.size + 1) (errAns er))
  clear R3
  unfold errAns at *
  unfold laid7 at *
  go_wp2_with fail
  have y0 := HB.out.cell 0
  have y1 := HB.out.cell 1
  have y2 := HB.out.cell 2
  have y3 := HB.out.cell 3
  have y4 := HB.out.cell 4
  have y5 := HB.out.cell 5
  have y6 := HB.out.cell 6
  simp [AnsV.cells] at y0 y1 y2 y3 y4 y5 y6
  exact bodyPost_ret (v := .agg #[.int .i64 er, .int .u64 0, .slice none 0 0, .int .u64 0, .int .u64 0, .int .i64 0, .int .i64 0]) (by simp [results, Tryz.results43, go_sem, y0, y1, y2, y3, y4, y5, y6]) rfl ⟨errAns er, rfl, rfl, Heaped.out HR.out HT0.out HH.out (by omega) HR0.out.lt HTL.out⟩

set_option maxRecDepth 100000 in
set_option maxHeartbeats 1000000 in
theorem meth_store {w : World} {hb s pb : Nat} {K : BuL} {β β' : Bu} {ps ps' : List Int} (R : HpRep 0 w hb s pb K β ps) (c : CallV) (q : Nat) (er : Int) (ha : c.a < 256)
    (HM : ∀ W, HpRep 0 W hb s pb K β ps → Calls Tryz.prog 94 #[.pointer (some ⟨hb, 0, none⟩), .int .u64 q, .int .u8 c.a] W (Heaped W hb s pb K β' ps' (.int .i64 er))) :
    Calls Tryz.prog 46 #[c.doer hb q] w fun e w' => ∃ an : AnsV, e = .returned an.val ∧ QHp hb s pb K β' ps' (errAns er) an w w' := by
  obtain ⟨op, ref, pp, a, b, deny, dp, dn, dc⟩ := c
  replace ha : a < 256 := ha
  unfold CallV.doer at *
  have T0 : Touch Nothing w ((w.alloc (.cells #[.pointer (some ⟨hb, 0, none⟩), .int .u64 q, .int .i64 op, .int .i64 ref, .int .u64 pp, .int .u64 a, .int .u64 b, .bool deny, .slice dp dn dc] 103)).alloc (.cells #[.int .i64 0, .int .u64 0, .slice none 0 0, .int .u64 0, .int .u64 0, .int .i64 0, .int .i64 0] 38)) := ((Touch.refl _ w).alloc _).alloc _
  have hsz : (w.alloc (.cells #[.pointer (some ⟨hb, 0, none⟩), .int .u64 q, .int .i64 op, .int .i64 ref, .int .u64 pp, .int .u64 a, .int .u64 b, .bool deny, .slice dp dn dc] 103)).heap.size = w.heap.size + 1 := by simp
  have R0 := Blk.new (w.alloc (.cells #[.pointer (some ⟨hb, 0, none⟩), .int .u64 q, .int .i64 op, .int .i64 ref, .int .u64 pp, .int .u64 a, .int .u64 b, .bool deny, .slice dp dn dc] 103)) #[.int .i64 0, .int .u64 0, .slice none 0 0, .int .u64 0, .int .u64 0, .int .i64 0, .int .i64 0] 38
  rw [hsz] at R0
  have HM0 := Lib.hid (HM _ (R.touch0 T0))
  have HR0 := Lib.hid R0
  have HT0 := Lib.hid T0
  have HR := Lib.hid R
  have hlt := R.lt
  have HL := Lib.hid hlt
  clear R HM T0 R0 hsz hlt
  go_enter Tryz.func46, Tryz.ntmps46
  go_wp2_with fail
  generalize (w.alloc (.cells #[.pointer (some ⟨hb, 0, none⟩), .int .u64 q, .int .i64 op, .int .i64 ref, .int .u64 pp, .int .u64 a, .int .u64 b, .bool deny, .slice dp dn dc] 103)).alloc (.cells #[.int .i64 0, .int .u64 0, .slice none 0 0, .int .u64 0, .int .u64 0, .int .i64 0, .int .i64 0] 38) = w1 at *
  refine HM0.out.mono ?_
  rintro e w2 hH
  have HH := Lib.hid hH
  obtain ⟨rfl, K', R2, N2, T2⟩ := hH
  have hnot : ¬ (w.heap.size + 1 ∈ hb :: s :: K.fp) := fun h => by
    simp only [List.mem_cons] at h
    rcases h with h | h | h
    · have := HL.out hb (by simp); omega
    · have := HL.out s (by simp); omega
    · have := HL.out (w.heap.size + 1) (by simp [h]); omega
  have B2 := Lib.hid (HR0.out.touch T2 hnot)
  clear R2 N2 T2 hnot
  have R3 := B2.out
  have z0 : w2.cell? ⟨w.heap.size + 1, 0, none⟩ = some (.int .i64 0) := R3.cell 0
  have f0 := R3.free 0
  have z1 : w2.cell? ⟨w.heap.size + 1, 1, none⟩ = some (.int .u64 0) := R3.cell 1
  have f1 := R3.free 1
  have z2 : w2.cell? ⟨w.heap.size + 1, 2, none⟩ = some (.slice none 0 0) := R3.cell 2
  have f2 := R3.free 2
  have z3 : w2.cell? ⟨w.heap.size + 1, 3, none⟩ = some (.int .u64 0) := R3.cell 3
  have f3 := R3.free 3
  have z4 : w2.cell? ⟨w.heap.size + 1, 4, none⟩ = some (.int .u64 0) := R3.cell 4
  have f4 := R3.free 4
  have z5 : w2.cell? ⟨w.heap.size + 1, 5, none⟩ = some (.int .i64 0) := R3.cell 5
  have f5 := R3.free 5
  have z6 : w2.cell? ⟨w.heap.size + 1, 6, none⟩ = some (.int .i64 0) := R3.cell 6
  have f6 := R3.free 6
  have HB := Lib.hid (laid7_blk R3 (errAns er))
  have HTL := Lib.hid (laid7_touch w2 (w.heap.size + 1) (errAns er))
  clear R3
  unfold errAns at *
  unfold laid7 at *
  go_wp2_with fail
  have y0 := HB.out.cell 0
  have y1 := HB.out.cell 1
  have y2 := HB.out.cell 2
  have y3 := HB.out.cell 3
  have y4 := HB.out.cell 4
  have y5 := HB.out.cell 5
  have y6 := HB.out.cell 6
  simp [AnsV.cells] at y0 y1 y2 y3 y4 y5 y6
  exact bodyPost_ret (v := .agg #[.int .i64 er, .int .u64 0, .slice none 0 0, .int .u64 0, .int .u64 0, .int .i64 0, .int .i64 0]) (by simp [results, Tryz.results46, go_sem, y0, y1, y2, y3, y4, y5, y6]) rfl ⟨errAns er, rfl, rfl, Heaped.out HR.out HT0.out HH.out (by omega) HR0.out.lt HTL.out⟩

set_option maxRecDepth 100000 in
set_option maxHeartbeats 1000000 in
theorem meth_write {w : World} {hb s pb : Nat} {K : BuL} {β β' : Bu} {ps ps' : List Int} (R : HpRep 0 w hb s pb K β ps) (c : CallV) (q : Nat) (er : Int) (ha : c.dn ≤ 65536)
    (HM : ∀ W, Touch Nothing w W → HpRep 0 W hb s pb K β ps → Calls Tryz.prog 97 #[.pointer (some ⟨hb, 0, none⟩), .int .u64 q, .slice c.dp c.dn c.dc] W (Heaped W hb s pb K β' ps' (.int .i64 er))) :
    Calls Tryz.prog 50 #[c.doer hb q] w fun e w' => ∃ an : AnsV, e = .returned an.val ∧ QHp hb s pb K β' ps' (errAns er) an w w' := by
  obtain ⟨op, ref, pp, a, b, deny, dp, dn, dc⟩ := c
  replace ha : dn ≤ 65536 := ha
  unfold CallV.doer at *
  have T0 : Touch Nothing w ((w.alloc (.cells #[.pointer (some ⟨hb, 0, none⟩), .int .u64 q, .int .i64 op, .int .i64 ref, .int .u64 pp, .int .u64 a, .int .u64 b, .bool deny, .slice dp dn dc] 103)).alloc (.cells #[.int .i64 0, .int .u64 0, .slice none 0 0, .int .u64 0, .int .u64 0, .int .i64 0, .int .i64 0] 38)) := ((Touch.refl _ w).alloc _).alloc _
  have hsz : (w.alloc (.cells #[.pointer (some ⟨hb, 0, none⟩), .int .u64 q, .int .i64 op, .int .i64 ref, .int .u64 pp, .int .u64 a, .int .u64 b, .bool deny, .slice dp dn dc] 103)).heap.size = w.heap.size + 1 := by simp
  have R0 := Blk.new (w.alloc (.cells #[.pointer (some ⟨hb, 0, none⟩), .int .u64 q, .int .i64 op, .int .i64 ref, .int .u64 pp, .int .u64 a, .int .u64 b, .bool deny, .slice dp dn dc] 103)) #[.int .i64 0, .int .u64 0, .slice none 0 0, .int .u64 0, .int .u64 0, .int .i64 0, .int .i64 0] 38
  rw [hsz] at R0
  have HM0 := Lib.hid (HM _ T0 (R.touch0 T0))
  have HR0 := Lib.hid R0
  have HT0 := Lib.hid T0
  have HR := Lib.hid R
  have hlt := R.lt
  have HL := Lib.hid hlt
  clear R HM T0 R0 hsz hlt
  go_enter Tryz.func50, Tryz.ntmps50
  go_wp2_with fail
  generalize (w.alloc (.cells #[.pointer (some ⟨hb, 0, none⟩), .int .u64 q, .int .i64 op, .int .i64 ref, .int .u64 pp, .int .u64 a, .int .u64 b, .bool deny, .slice dp dn dc] 103)).alloc (.cells #[.int .i64 0, .int .u64 0, .slice none 0 0, .int .u64 0, .int .u64 0, .int .i64 0, .int .i64 0] 38) = w1 at *
  refine HM0.out.mono ?_
  rintro e w2 hH
  have HH := Lib.hid hH
  obtain ⟨rfl, K', R2, N2, T2⟩ := hH
  have hnot : ¬ (w.heap.size + 1 ∈ hb :: s :: K.fp) := fun h => by
    simp only [List.mem_cons] at h
    rcases h with h | h | h
    · have := HL.out hb (by simp); omega
    · have := HL.out s (by simp); omega
    · have := HL.out (w.heap.size + 1) (by simp [h]); omega
  have B2 := Lib.hid (HR0.out.touch T2 hnot)
  clear R2 N2 T2 hnot
  have R3 := B2.out
  have z0 : w2.cell? ⟨w.heap.size + 1, 0, none⟩ = some (.int .i64 0) := R3.cell 0
  have f0 := R3.free 0
  have z1 : w2.cell? ⟨w.heap.size + 1, 1, none⟩ = some (.int .u64 0) := R3.cell 1
  have f1 := R3.free 1
  have z2 : w2.cell? ⟨w.heap.size + 1, 2, none⟩ = some (.slice none 0 0) := R3.cell 2
  have f2 := R3.free 2
  have z3 : w2.cell? ⟨w.heap.size + 1, 3, none⟩ = some (.int .u64 0) := R3.cell 3
  have f3 := R3.free 3
  have z4 : w2.cell? ⟨w.heap.size + 1, 4, none⟩ = some (.int .u64 0) := R3.cell 4
  have f4 := R3.free 4
  have z5 : w2.cell? ⟨w.heap.size + 1, 5, none⟩ = some (.int .i64 0) := R3.cell 5
  have f5 := R3.free 5
  have z6 : w2.cell? ⟨w.heap.size + 1, 6, none⟩ = some (.int .i64 0) := R3.cell 6
  have f6 := R3.free 6
  have HB := Lib.hid (laid7_blk R3 (errAns er))
  have HTL := Lib.hid (laid7_touch w2 (w.heap.size + 1) (errAns er))
  clear R3
  unfold errAns at *
  unfold laid7 at *
  go_wp2_with fail
  have y0 := HB.out.cell 0
  have y1 := HB.out.cell 1
  have y2 := HB.out.cell 2
  have y3 := HB.out.cell 3
  have y4 := HB.out.cell 4
  have y5 := HB.out.cell 5
  have y6 := HB.out.cell 6
  simp [AnsV.cells] at y0 y1 y2 y3 y4 y5 y6
  exact bodyPost_ret (v := .agg #[.int .i64 er, .int .u64 0, .slice none 0 0, .int .u64 0, .int .u64 0, .int .i64 0, .int .i64 0]) (by simp [results, Tryz.results50, go_sem, y0, y1, y2, y3, y4, y5, y6]) rfl ⟨errAns er, rfl, rfl, Heaped.out HR.out HT0.out HH.out (by omega) HR0.out.lt HTL.out⟩

end Go.Proofs.YtnjcmcnjgdjbiaaGreatDoor

namespace Go.Proofs.YtnjcmcnjgdjbiaaGreatDoor
open Go.RowKit

/-- a reading's answer: the bytes in a new block -/
def QRead (hb s pb : Nat) (K : BuL) (β : Bu) (ps : List Int) (n : Nat) (bs : List Value) (an : AnsV) (w w' : World) : Prop :=
  ∃ g, an = ⟨0, 0, some ⟨g, 0, none⟩, n, n, 0, 0, 0, 0⟩ ∧ w.heap.size ≤ g ∧ Blk w' g 5 bs ∧ HpRep 0 w' hb s pb K β ps ∧ Touch (· = hb) w w'

theorem Looked.out {w W w1 w2 : World} {hb s pb b : Nat} {K : BuL} {β : Bu} {ps : List Int} {v : Value} {e : Ending} (R : HpRep 0 w hb s pb K β ps) (T0 : Touch Nothing w W) (H : Looked W hb s pb K β ps v e w1) (hb1 : w.heap.size ≤ b) (T2 : Touch (· = b) w1 w2) :
    HpRep 0 w2 hb s pb K β ps ∧ Touch (· = hb) w w2 := by
  obtain ⟨-, R1, T1⟩ := H
  have hl := R.lt
  have hne : ∀ k ∈ hb :: s :: pb :: K.fp, ¬ k = b := by
    intro k hk e
    have := hl k hk
    omega
  have hg := R.glob.size
  exact ⟨R1.touch T2 hne (fun k hk e => by omega), (T0.none_.trans T1).trans' T2 (fun i hi e => by omega)⟩

set_option maxRecDepth 100000 in
set_option maxHeartbeats 1000000 in
theorem meth_read {w : World} {hb s pb : Nat} {K : BuL} {β : Bu} {ps : List Int} (R : HpRep 0 w hb s pb K β ps) (c : CallV) (q : Nat) (bs : List Value) (ha : c.a ≤ 65536)
    (HM : ∀ W, HpRep 0 W hb s pb K β ps → Calls Tryz.prog 28 #[.pointer (some ⟨hb, 0, none⟩), .int .u64 q, .int .u64 c.a] W (ReadAs W hb s pb K β ps c.a bs)) :
    Calls Tryz.prog 49 #[c.doer hb q] w fun e w' => ∃ an : AnsV, e = .returned an.val ∧ QRead hb s pb K β ps c.a bs an w w' := by
  obtain ⟨op, ref, pp, a, b, deny, dp, dn, dc⟩ := c
  replace ha : a ≤ 65536 := ha
  unfold CallV.doer at *
  have T0 : Touch Nothing w ((w.alloc (.cells #[.pointer (some ⟨hb, 0, none⟩), .int .u64 q, .int .i64 op, .int .i64 ref, .int .u64 pp, .int .u64 a, .int .u64 b, .bool deny, .slice dp dn dc] 103)).alloc (.cells #[.int .i64 0, .int .u64 0, .slice none 0 0, .int .u64 0, .int .u64 0, .int .i64 0, .int .i64 0] 38)) := ((Touch.refl _ w).alloc _).alloc _
  have hsz : (w.alloc (.cells #[.pointer (some ⟨hb, 0, none⟩), .int .u64 q, .int .i64 op, .int .i64 ref, .int .u64 pp, .int .u64 a, .int .u64 b, .bool deny, .slice dp dn dc] 103)).heap.size = w.heap.size + 1 := by simp
  have R0 := Blk.new (w.alloc (.cells #[.pointer (some ⟨hb, 0, none⟩), .int .u64 q, .int .i64 op, .int .i64 ref, .int .u64 pp, .int .u64 a, .int .u64 b, .bool deny, .slice dp dn dc] 103)) #[.int .i64 0, .int .u64 0, .slice none 0 0, .int .u64 0, .int .u64 0, .int .i64 0, .int .i64 0] 38
  rw [hsz] at R0
  have HM0 := Lib.hid (HM _ (R.touch0 T0))
  have HR0 := Lib.hid R0
  have HT0 := Lib.hid T0
  have HR := Lib.hid R
  have hlt := R.lt
  have HL := Lib.hid hlt
  clear R HM T0 R0 hsz hlt
  go_enter Tryz.func49, Tryz.ntmps49
  go_wp2_with fail
  generalize (w.alloc (.cells #[.pointer (some ⟨hb, 0, none⟩), .int .u64 q, .int .i64 op, .int .i64 ref, .int .u64 pp, .int .u64 a, .int .u64 b, .bool deny, .slice dp dn dc] 103)).alloc (.cells #[.int .i64 0, .int .u64 0, .slice none 0 0, .int .u64 0, .int .u64 0, .int .i64 0, .int .i64 0] 38) = w1 at *
  refine HM0.out.mono ?_
  rintro e w2 ⟨g, hg, G2, hH⟩
  have HG := Lib.hid G2
  have HH := Lib.hid hH
  obtain ⟨rfl, R2, T2⟩ := hH
  have hnot : ¬ (w.heap.size + 1 = hb) := fun h => by
    have := HL.out hb (by simp); omega
  have B2 := Lib.hid (HR0.out.touch T2 hnot)
  have hbg : w.heap.size + 1 < g := Nat.lt_of_lt_of_le HR0.out.lt hg
  clear R2 T2 hnot G2
  have R3 := B2.out
  have z0 : w2.cell? ⟨w.heap.size + 1, 0, none⟩ = some (.int .i64 0) := R3.cell 0
  have f0 := R3.free 0
  have z1 : w2.cell? ⟨w.heap.size + 1, 1, none⟩ = some (.int .u64 0) := R3.cell 1
  have f1 := R3.free 1
  have z2 : w2.cell? ⟨w.heap.size + 1, 2, none⟩ = some (.slice none 0 0) := R3.cell 2
  have f2 := R3.free 2
  have z3 : w2.cell? ⟨w.heap.size + 1, 3, none⟩ = some (.int .u64 0) := R3.cell 3
  have f3 := R3.free 3
  have z4 : w2.cell? ⟨w.heap.size + 1, 4, none⟩ = some (.int .u64 0) := R3.cell 4
  have f4 := R3.free 4
  have z5 : w2.cell? ⟨w.heap.size + 1, 5, none⟩ = some (.int .i64 0) := R3.cell 5
  have f5 := R3.free 5
  have z6 : w2.cell? ⟨w.heap.size + 1, 6, none⟩ = some (.int .i64 0) := R3.cell 6
  have f6 := R3.free 6
  have HB := Lib.hid (laid7_blk R3 ⟨0, 0, some ⟨g, 0, none⟩, a, a, 0, 0, 0, 0⟩)
  have HTL := Lib.hid (laid7_touch w2 (w.heap.size + 1) ⟨0, 0, some ⟨g, 0, none⟩, a, a, 0, 0, 0, 0⟩)
  clear R3
  unfold laid7 at *
  go_wp2_with fail
  have y0 := HB.out.cell 0
  have y1 := HB.out.cell 1
  have y2 := HB.out.cell 2
  have y3 := HB.out.cell 3
  have y4 := HB.out.cell 4
  have y5 := HB.out.cell 5
  have y6 := HB.out.cell 6
  simp [AnsV.cells] at y0 y1 y2 y3 y4 y5 y6
  have HO := Looked.out HR.out HT0.out HH.out (show w.heap.size ≤ w.heap.size + 1 by omega) HTL.out
  have hs0 := HT0.out.size
  exact bodyPost_ret (v := .agg #[.int .i64 0, .int .u64 0, .slice (some ⟨g, 0, none⟩) a a, .int .u64 0, .int .u64 0, .int .i64 0, .int .i64 0]) (by simp [results, Tryz.results49, go_sem, y0, y1, y2, y3, y4, y5, y6]) rfl
    ⟨⟨0, 0, some ⟨g, 0, none⟩, a, a, 0, 0, 0, 0⟩, rfl, g, rfl, by omega, HG.out.touch HTL.out (fun h => by omega), HO.1, HO.2⟩

end Go.Proofs.YtnjcmcnjgdjbiaaGreatDoor

