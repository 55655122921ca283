/- The walks of a doer's other methods, and of the ways in which they refuse (printed by wip/tools/meth2.py). Conditions: as each theorem states. -/
import Derived.Test.YtnjcmcnjgdjbiaaGreatDoorCutPartAm
import Derived.Test.YtnjcmcnjgdjbiaaGreatDoorCutPartAr
import Derived.Test.YtnjcmcnjgdjbiaaGreatDoorCutPartAs
set_option maxRecDepth 100000
set_option maxHeartbeats 1000000
namespace Go.Proofs.YtnjcmcnjgdjbiaaGreatDoor
open Go.RowKit
theorem meth_aligned {w : World} {hb s pb : Nat} {K : BuL} {β β' : Bu} {ps ps' : List Int} (R : HpRep 0 w hb s pb K β ps) (c : CallV) (q : Nat) (p : Nat) (er : Int)
  (HM : ∀ W, HpRep 0 W hb s pb K β ps → Calls Tryz.prog 90 #[.pointer (some ⟨hb, 0, none⟩), .int .u64 c.a, .int .u64 c.b, .bool c.deny] W (Heaped W hb s pb K β' ps' (.tuple #[.int .u64 p, .int .i64 er]))) :
  Calls Tryz.prog 41 #[c.doer hb q] w fun e w' => ∃ an : AnsV, e = .returned an.val ∧ QHp hb s pb K β' ps' (numAns p er) an w w' := by
 obtain ⟨op, ref, pp, a, b, deny, dp, dn, dc⟩ := c
 unfold CallV.doer at *
 have T0 : Touch Nothing w ((w.alloc (.cells #[.pointer (some ⟨hb, 0, none⟩), .int .u64 q, .int .i64 op, .int .i64 ref, .int .u64 pp, .int .u64 a, .int .u64 b, .bool deny, .slice dp dn dc] 103)).alloc (.cells #[.int .i64 0, .int .u64 0, .slice none 0 0, .int .u64 0, .int .u64 0, .int .i64 0, .int .i64 0] 38)) := ((Touch.refl _ w).alloc _).alloc _
 have hsz : (w.alloc (.cells #[.pointer (some ⟨hb, 0, none⟩), .int .u64 q, .int .i64 op, .int .i64 ref, .int .u64 pp, .int .u64 a, .int .u64 b, .bool deny, .slice dp dn dc] 103)).heap.size = w.heap.size + 1 := by simp
 have R0 := Blk.new (w.alloc (.cells #[.pointer (some ⟨hb, 0, none⟩), .int .u64 q, .int .i64 op, .int .i64 ref, .int .u64 pp, .int .u64 a, .int .u64 b, .bool deny, .slice dp dn dc] 103)) #[.int .i64 0, .int .u64 0, .slice none 0 0, .int .u64 0, .int .u64 0, .int .i64 0, .int .i64 0] 38
 rw [hsz] at R0
 have HM0 := Hd (HM _ (R.touch0 T0))
 have HR0 := Hd R0
 have HT0 := Hd T0
 have HV := Hd (value_ p er)
 have HR := Hd R
 have hlt := R.lt
 have HL := Hd hlt
 clear R HM T0 R0 hsz hlt
 go_enter Tryz.func41, Tryz.ntmps41
 go_wp2_with fail
 generalize (w.alloc (.cells #[.pointer (some ⟨hb, 0, none⟩), .int .u64 q, .int .i64 op, .int .i64 ref, .int .u64 pp, .int .u64 a, .int .u64 b, .bool deny, .slice dp dn dc] 103)).alloc (.cells #[.int .i64 0, .int .u64 0, .slice none 0 0, .int .u64 0, .int .u64 0, .int .i64 0, .int .i64 0] 38) = w1 at *
 refine HM0.out.mono ?_
 rintro e w2 hH
 have HH := Hd hH
 obtain ⟨rfl, K', R2, N2, T2⟩ := hH
 have hnot : ¬ (w.heap.size + 1 ∈ hb :: s :: K.fp) := fun h => by
  simp only [List.mem_cons] at h
  rcases h with h | h | h
  ·have := HL.out hb (by simp); omega
  ·have := HL.out s (by simp); omega
  ·have := HL.out (w.heap.size + 1) (by simp [h]); omega
 have B2 := Hd (HR0.out.touch T2 hnot)
 clear R2 N2 T2 hnot
 go_wp2_with fail
 refine (HV.out _).mono ?_
 rintro e w3 ⟨rfl, T3⟩
 have R3 := B2.out.touch T3 (fun h => h)
 have HT3 := Hd T3
 obtain ⟨z0, f0, z1, f1, z2, f2, z3, f3, z4, f4, z5, f5, z6, f6⟩ := R3.all7
 generalize hN : numAns p er = an at *
 have HN := Hd hN
 have HB := Hd (laid7_blk R3 an)
 have HTL := Hd (laid7_touch w3 (w.heap.size + 1) an)
 clear R3 T3 hN
 obtain ⟨ae, avv, adp, adn, adc, ah, al, abl, afr⟩ := an
 unfold laid7 at *
 unfold AnsV.val at *
 go_wp2_with fail
 obtain ⟨y0, y1, y2, y3, y4, y5, y6⟩ := ans7 HB.out
 exact bodyPost_ret (v := .agg #[.int .i64 ae, .int .u64 avv, .slice adp adn adc, .int .u64 ah, .int .u64 al, .int .i64 abl, .int .i64 afr]) (by simp [results, Tryz.results41, go_sem, y0, y1, y2, y3, y4, y5, y6]) rfl ⟨⟨ae, avv, adp, adn, adc, ah, al, abl, afr⟩, rfl, HN.out.symm, Heaped.out HR.out HT0.out HH.out (by omega) HR0.out.lt (HT3.out.none_.trans HTL.out)⟩
theorem meth_realloc {w : World} {hb s pb : Nat} {K : BuL} {β β' : Bu} {ps ps' : List Int} (R : HpRep 0 w hb s pb K β ps) (c : CallV) (q : Nat) (p : Nat) (er : Int)
  (HM : ∀ W, HpRep 0 W hb s pb K β ps → Calls Tryz.prog 91 #[.pointer (some ⟨hb, 0, none⟩), .int .u64 q, .int .u64 c.a, .bool c.deny] W (Heaped W hb s pb K β' ps' (.tuple #[.int .u64 p, .int .i64 er]))) :
  Calls Tryz.prog 42 #[c.doer hb q] w fun e w' => ∃ an : AnsV, e = .returned an.val ∧ QHp hb s pb K β' ps' (numAns p er) an w w' := by
 obtain ⟨op, ref, pp, a, b, deny, dp, dn, dc⟩ := c
 unfold CallV.doer at *
 have T0 : Touch Nothing w ((w.alloc (.cells #[.pointer (some ⟨hb, 0, none⟩), .int .u64 q, .int .i64 op, .int .i64 ref, .int .u64 pp, .int .u64 a, .int .u64 b, .bool deny, .slice dp dn dc] 103)).alloc (.cells #[.int .i64 0, .int .u64 0, .slice none 0 0, .int .u64 0, .int .u64 0, .int .i64 0, .int .i64 0] 38)) := ((Touch.refl _ w).alloc _).alloc _
 have hsz : (w.alloc (.cells #[.pointer (some ⟨hb, 0, none⟩), .int .u64 q, .int .i64 op, .int .i64 ref, .int .u64 pp, .int .u64 a, .int .u64 b, .bool deny, .slice dp dn dc] 103)).heap.size = w.heap.size + 1 := by simp
 have R0 := Blk.new (w.alloc (.cells #[.pointer (some ⟨hb, 0, none⟩), .int .u64 q, .int .i64 op, .int .i64 ref, .int .u64 pp, .int .u64 a, .int .u64 b, .bool deny, .slice dp dn dc] 103)) #[.int .i64 0, .int .u64 0, .slice none 0 0, .int .u64 0, .int .u64 0, .int .i64 0, .int .i64 0] 38
 rw [hsz] at R0
 have HM0 := Hd (HM _ (R.touch0 T0))
 have HR0 := Hd R0
 have HT0 := Hd T0
 have HV := Hd (value_ p er)
 have HR := Hd R
 have hlt := R.lt
 have HL := Hd hlt
 clear R HM T0 R0 hsz hlt
 go_enter Tryz.func42, Tryz.ntmps42
 go_wp2_with fail
 generalize (w.alloc (.cells #[.pointer (some ⟨hb, 0, none⟩), .int .u64 q, .int .i64 op, .int .i64 ref, .int .u64 pp, .int .u64 a, .int .u64 b, .bool deny, .slice dp dn dc] 103)).alloc (.cells #[.int .i64 0, .int .u64 0, .slice none 0 0, .int .u64 0, .int .u64 0, .int .i64 0, .int .i64 0] 38) = w1 at *
 refine HM0.out.mono ?_
 rintro e w2 hH
 have HH := Hd hH
 obtain ⟨rfl, K', R2, N2, T2⟩ := hH
 have hnot : ¬ (w.heap.size + 1 ∈ hb :: s :: K.fp) := fun h => by
  simp only [List.mem_cons] at h
  rcases h with h | h | h
  ·have := HL.out hb (by simp); omega
  ·have := HL.out s (by simp); omega
  ·have := HL.out (w.heap.size + 1) (by simp [h]); omega
 have B2 := Hd (HR0.out.touch T2 hnot)
 clear R2 N2 T2 hnot
 go_wp2_with fail
 refine (HV.out _).mono ?_
 rintro e w3 ⟨rfl, T3⟩
 have R3 := B2.out.touch T3 (fun h => h)
 have HT3 := Hd T3
 obtain ⟨z0, f0, z1, f1, z2, f2, z3, f3, z4, f4, z5, f5, z6, f6⟩ := R3.all7
 generalize hN : numAns p er = an at *
 have HN := Hd hN
 have HB := Hd (laid7_blk R3 an)
 have HTL := Hd (laid7_touch w3 (w.heap.size + 1) an)
 clear R3 T3 hN
 obtain ⟨ae, avv, adp, adn, adc, ah, al, abl, afr⟩ := an
 unfold laid7 at *
 unfold AnsV.val at *
 go_wp2_with fail
 obtain ⟨y0, y1, y2, y3, y4, y5, y6⟩ := ans7 HB.out
 exact bodyPost_ret (v := .agg #[.int .i64 ae, .int .u64 avv, .slice adp adn adc, .int .u64 ah, .int .u64 al, .int .i64 abl, .int .i64 afr]) (by simp [results, Tryz.results42, go_sem, y0, y1, y2, y3, y4, y5, y6]) rfl ⟨⟨ae, avv, adp, adn, adc, ah, al, abl, afr⟩, rfl, HN.out.symm, Heaped.out HR.out HT0.out HH.out (by omega) HR0.out.lt (HT3.out.none_.trans HTL.out)⟩
theorem meth_loadWord {w : World} {hb s pb : Nat} {K : BuL} {β β' : Bu} {ps ps' : List Int} (R : HpRep 0 w hb s pb K β ps) (c : CallV) (q : Nat) (p : Nat) (er : Int)
  (HM : ∀ W, HpRep 0 W hb s pb K β ps → Calls Tryz.prog 95 #[.pointer (some ⟨hb, 0, none⟩), .int .u64 q] W (Heaped W hb s pb K β' ps' (.tuple #[.int .u64 p, .int .i64 er]))) :
  Calls Tryz.prog 47 #[c.doer hb q] w fun e w' => ∃ an : AnsV, e = .returned an.val ∧ QHp hb s pb K β' ps' (numAns p er) an w w' := by
 obtain ⟨op, ref, pp, a, b, deny, dp, dn, dc⟩ := c
 unfold CallV.doer at *
 have T0 : Touch Nothing w ((w.alloc (.cells #[.pointer (some ⟨hb, 0, none⟩), .int .u64 q, .int .i64 op, .int .i64 ref, .int .u64 pp, .int .u64 a, .int .u64 b, .bool deny, .slice dp dn dc] 103)).alloc (.cells #[.int .i64 0, .int .u64 0, .slice none 0 0, .int .u64 0, .int .u64 0, .int .i64 0, .int .i64 0] 38)) := ((Touch.refl _ w).alloc _).alloc _
 have hsz : (w.alloc (.cells #[.pointer (some ⟨hb, 0, none⟩), .int .u64 q, .int .i64 op, .int .i64 ref, .int .u64 pp, .int .u64 a, .int .u64 b, .bool deny, .slice dp dn dc] 103)).heap.size = w.heap.size + 1 := by simp
 have R0 := Blk.new (w.alloc (.cells #[.pointer (some ⟨hb, 0, none⟩), .int .u64 q, .int .i64 op, .int .i64 ref, .int .u64 pp, .int .u64 a, .int .u64 b, .bool deny, .slice dp dn dc] 103)) #[.int .i64 0, .int .u64 0, .slice none 0 0, .int .u64 0, .int .u64 0, .int .i64 0, .int .i64 0] 38
 rw [hsz] at R0
 have HM0 := Hd (HM _ (R.touch0 T0))
 have HR0 := Hd R0
 have HT0 := Hd T0
 have HV := Hd (value_ p er)
 have HR := Hd R
 have hlt := R.lt
 have HL := Hd hlt
 clear R HM T0 R0 hsz hlt
 go_enter Tryz.func47, Tryz.ntmps47
 go_wp2_with fail
 generalize (w.alloc (.cells #[.pointer (some ⟨hb, 0, none⟩), .int .u64 q, .int .i64 op, .int .i64 ref, .int .u64 pp, .int .u64 a, .int .u64 b, .bool deny, .slice dp dn dc] 103)).alloc (.cells #[.int .i64 0, .int .u64 0, .slice none 0 0, .int .u64 0, .int .u64 0, .int .i64 0, .int .i64 0] 38) = w1 at *
 refine HM0.out.mono ?_
 rintro e w2 hH
 have HH := Hd hH
 obtain ⟨rfl, K', R2, N2, T2⟩ := hH
 have hnot : ¬ (w.heap.size + 1 ∈ hb :: s :: K.fp) := fun h => by
  simp only [List.mem_cons] at h
  rcases h with h | h | h
  ·have := HL.out hb (by simp); omega
  ·have := HL.out s (by simp); omega
  ·have := HL.out (w.heap.size + 1) (by simp [h]); omega
 have B2 := Hd (HR0.out.touch T2 hnot)
 clear R2 N2 T2 hnot
 go_wp2_with fail
 refine (HV.out _).mono ?_
 rintro e w3 ⟨rfl, T3⟩
 have R3 := B2.out.touch T3 (fun h => h)
 have HT3 := Hd T3
 obtain ⟨z0, f0, z1, f1, z2, f2, z3, f3, z4, f4, z5, f5, z6, f6⟩ := R3.all7
 generalize hN : numAns p er = an at *
 have HN := Hd hN
 have HB := Hd (laid7_blk R3 an)
 have HTL := Hd (laid7_touch w3 (w.heap.size + 1) an)
 clear R3 T3 hN
 obtain ⟨ae, avv, adp, adn, adc, ah, al, abl, afr⟩ := an
 unfold laid7 at *
 unfold AnsV.val at *
 go_wp2_with fail
 obtain ⟨y0, y1, y2, y3, y4, y5, y6⟩ := ans7 HB.out
 exact bodyPost_ret (v := .agg #[.int .i64 ae, .int .u64 avv, .slice adp adn adc, .int .u64 ah, .int .u64 al, .int .i64 abl, .int .i64 afr]) (by simp [results, Tryz.results47, go_sem, y0, y1, y2, y3, y4, y5, y6]) rfl ⟨⟨ae, avv, adp, adn, adc, ah, al, abl, afr⟩, rfl, HN.out.symm, Heaped.out HR.out HT0.out HH.out (by omega) HR0.out.lt (HT3.out.none_.trans HTL.out)⟩
theorem meth_storeWord {w : World} {hb s pb : Nat} {K : BuL} {β β' : Bu} {ps ps' : List Int} (R : HpRep 0 w hb s pb K β ps) (c : CallV) (q : Nat) (er : Int)
  (HM : ∀ W, HpRep 0 W hb s pb K β ps → Calls Tryz.prog 96 #[.pointer (some ⟨hb, 0, none⟩), .int .u64 q, .int .u64 c.a] W (Heaped W hb s pb K β' ps' (.int .i64 er))) :
  Calls Tryz.prog 48 #[c.doer hb q] w fun e w' => ∃ an : AnsV, e = .returned an.val ∧ QHp hb s pb K β' ps' (errAns er) an w w' := by
 obtain ⟨op, ref, pp, a, b, deny, dp, dn, dc⟩ := c
 unfold CallV.doer at *
 have T0 : Touch Nothing w ((w.alloc (.cells #[.pointer (some ⟨hb, 0, none⟩), .int .u64 q, .int .i64 op, .int .i64 ref, .int .u64 pp, .int .u64 a, .int .u64 b, .bool deny, .slice dp dn dc] 103)).alloc (.cells #[.int .i64 0, .int .u64 0, .slice none 0 0, .int .u64 0, .int .u64 0, .int .i64 0, .int .i64 0] 38)) := ((Touch.refl _ w).alloc _).alloc _
 have hsz : (w.alloc (.cells #[.pointer (some ⟨hb, 0, none⟩), .int .u64 q, .int .i64 op, .int .i64 ref, .int .u64 pp, .int .u64 a, .int .u64 b, .bool deny, .slice dp dn dc] 103)).heap.size = w.heap.size + 1 := by simp
 have R0 := Blk.new (w.alloc (.cells #[.pointer (some ⟨hb, 0, none⟩), .int .u64 q, .int .i64 op, .int .i64 ref, .int .u64 pp, .int .u64 a, .int .u64 b, .bool deny, .slice dp dn dc] 103)) #[.int .i64 0, .int .u64 0, .slice none 0 0, .int .u64 0, .int .u64 0, .int .i64 0, .int .i64 0] 38
 rw [hsz] at R0
 have HM0 := Hd (HM _ (R.touch0 T0))
 have HR0 := Hd R0
 have HT0 := Hd T0
 have HR := Hd R
 have hlt := R.lt
 have HL := Hd hlt
 clear R HM T0 R0 hsz hlt
 go_enter Tryz.func48, Tryz.ntmps48
 go_wp2_with fail
 generalize (w.alloc (.cells #[.pointer (some ⟨hb, 0, none⟩), .int .u64 q, .int .i64 op, .int .i64 ref, .int .u64 pp, .int .u64 a, .int .u64 b, .bool deny, .slice dp dn dc] 103)).alloc (.cells #[.int .i64 0, .int .u64 0, .slice none 0 0, .int .u64 0, .int .u64 0, .int .i64 0, .int .i64 0] 38) = w1 at *
 refine HM0.out.mono ?_
 rintro e w2 hH
 have HH := Hd hH
 obtain ⟨rfl, K', R2, N2, T2⟩ := hH
 have hnot : ¬ (w.heap.size + 1 ∈ hb :: s :: K.fp) := fun h => by
  simp only [List.mem_cons] at h
  rcases h with h | h | h
  ·have := HL.out hb (by simp); omega
  ·have := HL.out s (by simp); omega
  ·have := HL.out (w.heap.size + 1) (by simp [h]); omega
 have B2 := Hd (HR0.out.touch T2 hnot)
 clear R2 N2 T2 hnot
 have R3 := B2.out
 obtain ⟨z0, f0, z1, f1, z2, f2, z3, f3, z4, f4, z5, f5, z6, f6⟩ := R3.all7
 have HB := Hd (laid7_blk R3 (errAns er))
 have HTL := Hd (laid7_touch w2 (w.heap.size + 1) (errAns er))
 clear R3
 unfold errAns at *
 unfold laid7 at *
 go_wp2_with fail
 obtain ⟨y0, y1, y2, y3, y4, y5, y6⟩ := ans7 HB.out
 simp at y0 y1 y2 y3 y4 y5 y6
 exact bodyPost_ret (v := .agg #[.int .i64 er, .int .u64 0, .slice none 0 0, .int .u64 0, .int .u64 0, .int .i64 0, .int .i64 0]) (by simp [results, Tryz.results48, go_sem, y0, y1, y2, y3, y4, y5, y6]) rfl ⟨errAns er, rfl, rfl, Heaped.out HR.out HT0.out HH.out (by omega) HR0.out.lt HTL.out⟩
theorem meth_storeAny {w : World} {hb s pb : Nat} {K : BuL} {β β' : Bu} {ps ps' : List Int} (R : HpRep 0 w hb s pb K β ps) (c : CallV) (q : Nat) (er : Int)
  (HM : ∀ W, HpRep 0 W hb s pb K β ps → Calls Tryz.prog 94 #[.pointer (some ⟨hb, 0, none⟩), .int .u64 q, .int .u8 (c.a % 256 : Nat)] W (Heaped W hb s pb K β' ps' (.int .i64 er))) :
  Calls Tryz.prog 46 #[c.doer hb q] w fun e w' => ∃ an : AnsV, e = .returned an.val ∧ QHp hb s pb K β' ps' (errAns er) an w w' := by
 obtain ⟨op, ref, pp, a, b, deny, dp, dn, dc⟩ := c
 have hwa : IntKind.u8.wrap (a : Int) = ((a % 256 : Nat) : Int) := by unfold IntKind.wrap; simp [IntKind.signed, IntKind.bits]
 unfold CallV.doer at *
 have T0 : Touch Nothing w ((w.alloc (.cells #[.pointer (some ⟨hb, 0, none⟩), .int .u64 q, .int .i64 op, .int .i64 ref, .int .u64 pp, .int .u64 a, .int .u64 b, .bool deny, .slice dp dn dc] 103)).alloc (.cells #[.int .i64 0, .int .u64 0, .slice none 0 0, .int .u64 0, .int .u64 0, .int .i64 0, .int .i64 0] 38)) := ((Touch.refl _ w).alloc _).alloc _
 have hsz : (w.alloc (.cells #[.pointer (some ⟨hb, 0, none⟩), .int .u64 q, .int .i64 op, .int .i64 ref, .int .u64 pp, .int .u64 a, .int .u64 b, .bool deny, .slice dp dn dc] 103)).heap.size = w.heap.size + 1 := by simp
 have R0 := Blk.new (w.alloc (.cells #[.pointer (some ⟨hb, 0, none⟩), .int .u64 q, .int .i64 op, .int .i64 ref, .int .u64 pp, .int .u64 a, .int .u64 b, .bool deny, .slice dp dn dc] 103)) #[.int .i64 0, .int .u64 0, .slice none 0 0, .int .u64 0, .int .u64 0, .int .i64 0, .int .i64 0] 38
 rw [hsz] at R0
 have HM0 := Hd (HM _ (R.touch0 T0))
 have HR0 := Hd R0
 have HT0 := Hd T0
 have HR := Hd R
 have hlt := R.lt
 have HL := Hd hlt
 clear R HM T0 R0 hsz hlt
 go_enter Tryz.func46, Tryz.ntmps46
 go_wp2_with fail
 generalize (w.alloc (.cells #[.pointer (some ⟨hb, 0, none⟩), .int .u64 q, .int .i64 op, .int .i64 ref, .int .u64 pp, .int .u64 a, .int .u64 b, .bool deny, .slice dp dn dc] 103)).alloc (.cells #[.int .i64 0, .int .u64 0, .slice none 0 0, .int .u64 0, .int .u64 0, .int .i64 0, .int .i64 0] 38) = w1 at *
 refine HM0.out.mono ?_
 rintro e w2 hH
 have HH := Hd hH
 obtain ⟨rfl, K', R2, N2, T2⟩ := hH
 have hnot : ¬ (w.heap.size + 1 ∈ hb :: s :: K.fp) := fun h => by
  simp only [List.mem_cons] at h
  rcases h with h | h | h
  ·have := HL.out hb (by simp); omega
  ·have := HL.out s (by simp); omega
  ·have := HL.out (w.heap.size + 1) (by simp [h]); omega
 have B2 := Hd (HR0.out.touch T2 hnot)
 clear R2 N2 T2 hnot
 have R3 := B2.out
 obtain ⟨z0, f0, z1, f1, z2, f2, z3, f3, z4, f4, z5, f5, z6, f6⟩ := R3.all7
 have HB := Hd (laid7_blk R3 (errAns er))
 have HTL := Hd (laid7_touch w2 (w.heap.size + 1) (errAns er))
 clear R3
 unfold errAns at *
 unfold laid7 at *
 go_wp2_with fail
 obtain ⟨y0, y1, y2, y3, y4, y5, y6⟩ := ans7 HB.out
 simp at y0 y1 y2 y3 y4 y5 y6
 exact bodyPost_ret (v := .agg #[.int .i64 er, .int .u64 0, .slice none 0 0, .int .u64 0, .int .u64 0, .int .i64 0, .int .i64 0]) (by simp [results, Tryz.results46, go_sem, y0, y1, y2, y3, y4, y5, y6]) rfl ⟨errAns er, rfl, rfl, Heaped.out HR.out HT0.out HH.out (by omega) HR0.out.lt HTL.out⟩
theorem meth_trim {w : World} {hb s pb : Nat} {K : BuL} {β β' : Bu} {ps ps' : List Int} (R : HpRep 0 w hb s pb K β ps) (c : CallV) (q : Nat) (m : Nat) (hm : m ≤ 1024)
  (HM : ∀ W, HpRep 0 W hb s pb K β ps → Calls Tryz.prog 98 #[.pointer (some ⟨hb, 0, none⟩)] W (Heaped W hb s pb K β' ps' (.int .i64 m))) :
  Calls Tryz.prog 51 #[c.doer hb q] w fun e w' => ∃ an : AnsV, e = .returned an.val ∧ QHp hb s pb K β' ps' (numAns m 0) an w w' := by
 obtain ⟨op, ref, pp, a, b, deny, dp, dn, dc⟩ := c
 unfold CallV.doer at *
 have T0 : Touch Nothing w ((w.alloc (.cells #[.pointer (some ⟨hb, 0, none⟩), .int .u64 q, .int .i64 op, .int .i64 ref, .int .u64 pp, .int .u64 a, .int .u64 b, .bool deny, .slice dp dn dc] 103)).alloc (.cells #[.int .i64 0, .int .u64 0, .slice none 0 0, .int .u64 0, .int .u64 0, .int .i64 0, .int .i64 0] 38)) := ((Touch.refl _ w).alloc _).alloc _
 have hsz : (w.alloc (.cells #[.pointer (some ⟨hb, 0, none⟩), .int .u64 q, .int .i64 op, .int .i64 ref, .int .u64 pp, .int .u64 a, .int .u64 b, .bool deny, .slice dp dn dc] 103)).heap.size = w.heap.size + 1 := by simp
 have R0 := Blk.new (w.alloc (.cells #[.pointer (some ⟨hb, 0, none⟩), .int .u64 q, .int .i64 op, .int .i64 ref, .int .u64 pp, .int .u64 a, .int .u64 b, .bool deny, .slice dp dn dc] 103)) #[.int .i64 0, .int .u64 0, .slice none 0 0, .int .u64 0, .int .u64 0, .int .i64 0, .int .i64 0] 38
 rw [hsz] at R0
 have HM0 := Hd (HM _ (R.touch0 T0))
 have HR0 := Hd R0
 have HT0 := Hd T0
 have HR := Hd R
 have hlt := R.lt
 have HL := Hd hlt
 clear R HM T0 R0 hsz hlt
 go_enter Tryz.func51, Tryz.ntmps51
 go_wp2_with fail
 generalize (w.alloc (.cells #[.pointer (some ⟨hb, 0, none⟩), .int .u64 q, .int .i64 op, .int .i64 ref, .int .u64 pp, .int .u64 a, .int .u64 b, .bool deny, .slice dp dn dc] 103)).alloc (.cells #[.int .i64 0, .int .u64 0, .slice none 0 0, .int .u64 0, .int .u64 0, .int .i64 0, .int .i64 0] 38) = w1 at *
 refine HM0.out.mono ?_
 rintro e w2 hH
 have HH := Hd hH
 obtain ⟨rfl, K', R2, N2, T2⟩ := hH
 have hnot : ¬ (w.heap.size + 1 ∈ hb :: s :: K.fp) := fun h => by
  simp only [List.mem_cons] at h
  rcases h with h | h | h
  ·have := HL.out hb (by simp); omega
  ·have := HL.out s (by simp); omega
  ·have := HL.out (w.heap.size + 1) (by simp [h]); omega
 have R3 := HR0.out.touch T2 hnot
 clear R2 N2 T2 hnot
 obtain ⟨z0, f0, z1, f1, z2, f2, z3, f3, z4, f4, z5, f5, z6, f6⟩ := R3.all7
 have HB := Hd (laid7_blk R3 (⟨0, m, none, 0, 0, 0, 0, 0, 0⟩ : AnsV))
 have HTL := Hd (laid7_touch w2 (w.heap.size + 1) (⟨0, m, none, 0, 0, 0, 0, 0, 0⟩ : AnsV))
 clear R3
 unfold laid7 at *
 go_wp2_with fail
 obtain ⟨y0, y1, y2, y3, y4, y5, y6⟩ := ans7 HB.out
 simp at y0 y1 y2 y3 y4 y5 y6
 exact bodyPost_ret (v := .agg #[.int .i64 0, .int .u64 m, .slice none 0 0, .int .u64 0, .int .u64 0, .int .i64 0, .int .i64 0]) (by simp [results, Tryz.results51, go_sem, y0, y1, y2, y3, y4, y5, y6]) rfl ⟨(⟨0, m, none, 0, 0, 0, 0, 0, 0⟩ : AnsV), rfl, rfl, Heaped.out HR.out HT0.out HH.out (by omega) HR0.out.lt HTL.out⟩
theorem meth_stats {w : World} {hb s pb : Nat} {K : BuL} {β β' : Bu} {ps ps' : List Int} (R : HpRep 0 w hb s pb K β ps) (c : CallV) (q : Nat) (h l bl fr : Nat)
  (HM : ∀ W, HpRep 0 W hb s pb K β ps → Calls Tryz.prog 26 #[.pointer (some ⟨hb, 0, none⟩)] W (Heaped W hb s pb K β' ps' (.agg #[.int .u64 h, .int .u64 l, .int .i64 bl, .int .i64 fr]))) :
  Calls Tryz.prog 52 #[c.doer hb q] w fun e w' => ∃ an : AnsV, e = .returned an.val ∧ QHp hb s pb K β' ps' ⟨0, 0, none, 0, 0, h, l, bl, fr⟩ an w w' := by
 obtain ⟨op, ref, pp, a, b, deny, dp, dn, dc⟩ := c
 unfold CallV.doer at *
 have T0 : Touch Nothing w ((w.alloc (.cells #[.pointer (some ⟨hb, 0, none⟩), .int .u64 q, .int .i64 op, .int .i64 ref, .int .u64 pp, .int .u64 a, .int .u64 b, .bool deny, .slice dp dn dc] 103)).alloc (.cells #[.int .i64 0, .int .u64 0, .slice none 0 0, .int .u64 0, .int .u64 0, .int .i64 0, .int .i64 0] 38)) := ((Touch.refl _ w).alloc _).alloc _
 have hsz : (w.alloc (.cells #[.pointer (some ⟨hb, 0, none⟩), .int .u64 q, .int .i64 op, .int .i64 ref, .int .u64 pp, .int .u64 a, .int .u64 b, .bool deny, .slice dp dn dc] 103)).heap.size = w.heap.size + 1 := by simp
 have R0 := Blk.new (w.alloc (.cells #[.pointer (some ⟨hb, 0, none⟩), .int .u64 q, .int .i64 op, .int .i64 ref, .int .u64 pp, .int .u64 a, .int .u64 b, .bool deny, .slice dp dn dc] 103)) #[.int .i64 0, .int .u64 0, .slice none 0 0, .int .u64 0, .int .u64 0, .int .i64 0, .int .i64 0] 38
 rw [hsz] at R0
 have HM0 := Hd (HM _ (R.touch0 T0))
 have HR0 := Hd R0
 have HT0 := Hd T0
 have HR := Hd R
 have hlt := R.lt
 have HL := Hd hlt
 clear R HM T0 R0 hsz hlt
 go_enter Tryz.func52, Tryz.ntmps52
 go_wp2_with fail
 generalize (w.alloc (.cells #[.pointer (some ⟨hb, 0, none⟩), .int .u64 q, .int .i64 op, .int .i64 ref, .int .u64 pp, .int .u64 a, .int .u64 b, .bool deny, .slice dp dn dc] 103)).alloc (.cells #[.int .i64 0, .int .u64 0, .slice none 0 0, .int .u64 0, .int .u64 0, .int .i64 0, .int .i64 0] 38) = w1 at *
 refine HM0.out.mono ?_
 rintro e w2 hH
 have HH := Hd hH
 obtain ⟨rfl, K', R2, N2, T2⟩ := hH
 have hnot : ¬ (w.heap.size + 1 ∈ hb :: s :: K.fp) := fun h => by
  simp only [List.mem_cons] at h
  rcases h with h | h | h
  ·have := HL.out hb (by simp); omega
  ·have := HL.out s (by simp); omega
  ·have := HL.out (w.heap.size + 1) (by simp [h]); omega
 have R3 := HR0.out.touch T2 hnot
 clear R2 N2 T2 hnot
 obtain ⟨z0, f0, z1, f1, z2, f2, z3, f3, z4, f4, z5, f5, z6, f6⟩ := R3.all7
 have HB := Hd (laid7_blk R3 (⟨0, 0, none, 0, 0, h, l, bl, fr⟩ : AnsV))
 have HTL := Hd (laid7_touch w2 (w.heap.size + 1) (⟨0, 0, none, 0, 0, h, l, bl, fr⟩ : AnsV))
 clear R3
 unfold laid7 at *
 go_wp2_with fail
 obtain ⟨y0, y1, y2, y3, y4, y5, y6⟩ := ans7 HB.out
 simp at y0 y1 y2 y3 y4 y5 y6
 exact bodyPost_ret (v := .agg #[.int .i64 0, .int .u64 0, .slice none 0 0, .int .u64 h, .int .u64 l, .int .i64 bl, .int .i64 fr]) (by simp [results, Tryz.results52, go_sem, y0, y1, y2, y3, y4, y5, y6]) rfl ⟨(⟨0, 0, none, 0, 0, h, l, bl, fr⟩ : AnsV), rfl, rfl, Heaped.out HR.out HT0.out HH.out (by omega) HR0.out.lt HTL.out⟩
theorem meth_readNo {w : World} {hb s pb : Nat} {K : BuL} {β β' : Bu} {ps ps' : List Int} (R : HpRep 0 w hb s pb K β ps) (c : CallV) (q : Nat) (er : Int) (ha : c.a ≤ 65536)
  (HM : ∀ W, HpRep 0 W hb s pb K β ps → Calls Tryz.prog 28 #[.pointer (some ⟨hb, 0, none⟩), .int .u64 q, .int .u64 c.a] W (Heaped W hb s pb K β' ps' (.tuple #[.slice none 0 0, .int .i64 er]))) :
  Calls Tryz.prog 49 #[c.doer hb q] w fun e w' => ∃ an : AnsV, e = .returned an.val ∧ QHp hb s pb K β' ps' (errAns er) an w w' := by
 obtain ⟨op, ref, pp, a, b, deny, dp, dn, dc⟩ := c
 replace ha : a ≤ 65536 := ha
 unfold CallV.doer at *
 have T0 : Touch Nothing w ((w.alloc (.cells #[.pointer (some ⟨hb, 0, none⟩), .int .u64 q, .int .i64 op, .int .i64 ref, .int .u64 pp, .int .u64 a, .int .u64 b, .bool deny, .slice dp dn dc] 103)).alloc (.cells #[.int .i64 0, .int .u64 0, .slice none 0 0, .int .u64 0, .int .u64 0, .int .i64 0, .int .i64 0] 38)) := ((Touch.refl _ w).alloc _).alloc _
 have hsz : (w.alloc (.cells #[.pointer (some ⟨hb, 0, none⟩), .int .u64 q, .int .i64 op, .int .i64 ref, .int .u64 pp, .int .u64 a, .int .u64 b, .bool deny, .slice dp dn dc] 103)).heap.size = w.heap.size + 1 := by simp
 have R0 := Blk.new (w.alloc (.cells #[.pointer (some ⟨hb, 0, none⟩), .int .u64 q, .int .i64 op, .int .i64 ref, .int .u64 pp, .int .u64 a, .int .u64 b, .bool deny, .slice dp dn dc] 103)) #[.int .i64 0, .int .u64 0, .slice none 0 0, .int .u64 0, .int .u64 0, .int .i64 0, .int .i64 0] 38
 rw [hsz] at R0
 have HM0 := Hd (HM _ (R.touch0 T0))
 have HR0 := Hd R0
 have HT0 := Hd T0
 have HR := Hd R
 have hlt := R.lt
 have HL := Hd hlt
 clear R HM T0 R0 hsz hlt
 go_enter Tryz.func49, Tryz.ntmps49
 go_wp2_with fail
 generalize (w.alloc (.cells #[.pointer (some ⟨hb, 0, none⟩), .int .u64 q, .int .i64 op, .int .i64 ref, .int .u64 pp, .int .u64 a, .int .u64 b, .bool deny, .slice dp dn dc] 103)).alloc (.cells #[.int .i64 0, .int .u64 0, .slice none 0 0, .int .u64 0, .int .u64 0, .int .i64 0, .int .i64 0] 38) = w1 at *
 refine HM0.out.mono ?_
 rintro e w2 hH
 have HH := Hd hH
 obtain ⟨rfl, K', R2, N2, T2⟩ := hH
 have hnot : ¬ (w.heap.size + 1 ∈ hb :: s :: K.fp) := fun h => by
  simp only [List.mem_cons] at h
  rcases h with h | h | h
  ·have := HL.out hb (by simp); omega
  ·have := HL.out s (by simp); omega
  ·have := HL.out (w.heap.size + 1) (by simp [h]); omega
 have R3 := HR0.out.touch T2 hnot
 clear R2 N2 T2 hnot
 obtain ⟨z0, f0, z1, f1, z2, f2, z3, f3, z4, f4, z5, f5, z6, f6⟩ := R3.all7
 have HB := Hd (laid7_blk R3 (⟨er, 0, none, 0, 0, 0, 0, 0, 0⟩ : AnsV))
 have HTL := Hd (laid7_touch w2 (w.heap.size + 1) (⟨er, 0, none, 0, 0, 0, 0, 0, 0⟩ : AnsV))
 clear R3
 unfold laid7 at *
 go_wp2_with fail
 obtain ⟨y0, y1, y2, y3, y4, y5, y6⟩ := ans7 HB.out
 simp at y0 y1 y2 y3 y4 y5 y6
 exact bodyPost_ret (v := .agg #[.int .i64 er, .int .u64 0, .slice none 0 0, .int .u64 0, .int .u64 0, .int .i64 0, .int .i64 0]) (by simp [results, Tryz.results49, go_sem, y0, y1, y2, y3, y4, y5, y6]) rfl ⟨(⟨er, 0, none, 0, 0, 0, 0, 0, 0⟩ : AnsV), rfl, rfl, Heaped.out HR.out HT0.out HH.out (by omega) HR0.out.lt HTL.out⟩
theorem meth_readLim {w : World} {hb s pb : Nat} {K : BuL} {β : Bu} {ps : List Int} (R : HpRep 0 w hb s pb K β ps) (c : CallV) (q : Nat) (ha : 65536 < c.a) :
  Calls Tryz.prog 49 #[c.doer hb q] w fun e w' => ∃ an : AnsV, e = .returned an.val ∧ QHp hb s pb K β ps (errAns 6) an w w' := by
 obtain ⟨op, ref, pp, a, b, deny, dp, dn, dc⟩ := c
 have ha' : (65536 : Int) < (a : Int) := by simp only at ha; omega
 clear ha
 unfold CallV.doer at *
 have T0 : Touch Nothing w ((w.alloc (.cells #[.pointer (some ⟨hb, 0, none⟩), .int .u64 q, .int .i64 op, .int .i64 ref, .int .u64 pp, .int .u64 a, .int .u64 b, .bool deny, .slice dp dn dc] 103)).alloc (.cells #[.int .i64 0, .int .u64 0, .slice none 0 0, .int .u64 0, .int .u64 0, .int .i64 0, .int .i64 0] 38)) := ((Touch.refl _ w).alloc _).alloc _
 have hsz : (w.alloc (.cells #[.pointer (some ⟨hb, 0, none⟩), .int .u64 q, .int .i64 op, .int .i64 ref, .int .u64 pp, .int .u64 a, .int .u64 b, .bool deny, .slice dp dn dc] 103)).heap.size = w.heap.size + 1 := by simp
 have R0 := Blk.new (w.alloc (.cells #[.pointer (some ⟨hb, 0, none⟩), .int .u64 q, .int .i64 op, .int .i64 ref, .int .u64 pp, .int .u64 a, .int .u64 b, .bool deny, .slice dp dn dc] 103)) #[.int .i64 0, .int .u64 0, .slice none 0 0, .int .u64 0, .int .u64 0, .int .i64 0, .int .i64 0] 38
 rw [hsz] at R0
 have HR0 := Hd R0
 have HT0 := Hd T0
 have HR := Hd R
 have HK := Hd ((Blk.new w #[.pointer (some ⟨hb, 0, none⟩), .int .u64 q, .int .i64 op, .int .i64 ref, .int .u64 pp, .int .u64 a, .int .u64 b, .bool deny, .slice dp dn dc] 103).alloc (.cells #[.int .i64 0, .int .u64 0, .slice none 0 0, .int .u64 0, .int .u64 0, .int .i64 0, .int .i64 0] 38))
 clear R T0 R0 hsz
 go_enter Tryz.func49, Tryz.ntmps49
 go_upto_region 1 with fail
 generalize (w.alloc (.cells #[.pointer (some ⟨hb, 0, none⟩), .int .u64 q, .int .i64 op, .int .i64 ref, .int .u64 pp, .int .u64 a, .int .u64 b, .bool deny, .slice dp dn dc] 103)).alloc (.cells #[.int .i64 0, .int .u64 0, .slice none 0 0, .int .u64 0, .int .u64 0, .int .i64 0, .int .i64 0] 38) = w1 at *
 have k5 : w1.cell? ⟨w.heap.size, 5, none⟩ = some (.int .u64 a) := HK.out.cell 5
 have k8 : w1.cell? ⟨w.heap.size, 8, none⟩ = some (.slice dp dn dc) := HK.out.cell 8
 have R3 := HR0.out
 obtain ⟨z0, f0, z1, f1, z2, f2, z3, f3, z4, f4, z5, f5, z6, f6⟩ := R3.all7
 have HB := Hd (laid7_blk R3 (errAns 6))
 have HTL := Hd (laid7_touch w1 (w.heap.size + 1) (errAns 6))
 clear R3
 unfold errAns at *
 unfold laid7 at *
 go_wp2_with fail
 obtain ⟨y0, y1, y2, y3, y4, y5, y6⟩ := ans7 HB.out
 simp at y0 y1 y2 y3 y4 y5 y6
 exact bodyPost_ret (v := .agg #[.int .i64 6, .int .u64 0, .slice none 0 0, .int .u64 0, .int .u64 0, .int .i64 0, .int .i64 0]) (by simp [results, Tryz.results49, go_sem, y0, y1, y2, y3, y4, y5, y6]) rfl ⟨_, rfl, rfl, Heaped.out HR.out HT0.out (v := .int .i64 0) (e := .returned (.int .i64 0)) ⟨rfl, K, HR.out.touch0 HT0.out, BuL.Next.refl _ _, Touch.refl _ _⟩ (by omega) HR0.out.lt HTL.out⟩
theorem meth_writeLim {w : World} {hb s pb : Nat} {K : BuL} {β : Bu} {ps : List Int} (R : HpRep 0 w hb s pb K β ps) (c : CallV) (q : Nat) (ha : 65536 < c.dn) :
  Calls Tryz.prog 50 #[c.doer hb q] w fun e w' => ∃ an : AnsV, e = .returned an.val ∧ QHp hb s pb K β ps (errAns 6) an w w' := by
 obtain ⟨op, ref, pp, a, b, deny, dp, dn, dc⟩ := c
 have ha' : (65536 : Int) < (dn : Int) := by simp only at ha; omega
 clear ha
 unfold CallV.doer at *
 have T0 : Touch Nothing w ((w.alloc (.cells #[.pointer (some ⟨hb, 0, none⟩), .int .u64 q, .int .i64 op, .int .i64 ref, .int .u64 pp, .int .u64 a, .int .u64 b, .bool deny, .slice dp dn dc] 103)).alloc (.cells #[.int .i64 0, .int .u64 0, .slice none 0 0, .int .u64 0, .int .u64 0, .int .i64 0, .int .i64 0] 38)) := ((Touch.refl _ w).alloc _).alloc _
 have hsz : (w.alloc (.cells #[.pointer (some ⟨hb, 0, none⟩), .int .u64 q, .int .i64 op, .int .i64 ref, .int .u64 pp, .int .u64 a, .int .u64 b, .bool deny, .slice dp dn dc] 103)).heap.size = w.heap.size + 1 := by simp
 have R0 := Blk.new (w.alloc (.cells #[.pointer (some ⟨hb, 0, none⟩), .int .u64 q, .int .i64 op, .int .i64 ref, .int .u64 pp, .int .u64 a, .int .u64 b, .bool deny, .slice dp dn dc] 103)) #[.int .i64 0, .int .u64 0, .slice none 0 0, .int .u64 0, .int .u64 0, .int .i64 0, .int .i64 0] 38
 rw [hsz] at R0
 have HR0 := Hd R0
 have HT0 := Hd T0
 have HR := Hd R
 have HK := Hd ((Blk.new w #[.pointer (some ⟨hb, 0, none⟩), .int .u64 q, .int .i64 op, .int .i64 ref, .int .u64 pp, .int .u64 a, .int .u64 b, .bool deny, .slice dp dn dc] 103).alloc (.cells #[.int .i64 0, .int .u64 0, .slice none 0 0, .int .u64 0, .int .u64 0, .int .i64 0, .int .i64 0] 38))
 clear R T0 R0 hsz
 go_enter Tryz.func50, Tryz.ntmps50
 go_upto_region 1 with fail
 generalize (w.alloc (.cells #[.pointer (some ⟨hb, 0, none⟩), .int .u64 q, .int .i64 op, .int .i64 ref, .int .u64 pp, .int .u64 a, .int .u64 b, .bool deny, .slice dp dn dc] 103)).alloc (.cells #[.int .i64 0, .int .u64 0, .slice none 0 0, .int .u64 0, .int .u64 0, .int .i64 0, .int .i64 0] 38) = w1 at *
 have k5 : w1.cell? ⟨w.heap.size, 5, none⟩ = some (.int .u64 a) := HK.out.cell 5
 have k8 : w1.cell? ⟨w.heap.size, 8, none⟩ = some (.slice dp dn dc) := HK.out.cell 8
 have R3 := HR0.out
 obtain ⟨z0, f0, z1, f1, z2, f2, z3, f3, z4, f4, z5, f5, z6, f6⟩ := R3.all7
 have HB := Hd (laid7_blk R3 (errAns 6))
 have HTL := Hd (laid7_touch w1 (w.heap.size + 1) (errAns 6))
 clear R3
 unfold errAns at *
 unfold laid7 at *
 go_wp2_with fail
 obtain ⟨y0, y1, y2, y3, y4, y5, y6⟩ := ans7 HB.out
 simp at y0 y1 y2 y3 y4 y5 y6
 exact bodyPost_ret (v := .agg #[.int .i64 6, .int .u64 0, .slice none 0 0, .int .u64 0, .int .u64 0, .int .i64 0, .int .i64 0]) (by simp [results, Tryz.results50, go_sem, y0, y1, y2, y3, y4, y5, y6]) rfl ⟨_, rfl, rfl, Heaped.out HR.out HT0.out (v := .int .i64 0) (e := .returned (.int .i64 0)) ⟨rfl, K, HR.out.touch0 HT0.out, BuL.Next.refl _ _, Touch.refl _ _⟩ (by omega) HR0.out.lt HTL.out⟩
theorem address_none {w : World} (c : CallV) (dp : Option Addr) (n cap : Nat) (h : c.ref < 0 ∨ (n : Int) < c.ref) (hn : n ≤ 9223372036854775807) : Calls Tryz.prog 38 #[c.val, .slice dp n cap] w fun e w' => e = .returned (.tuple #[.int .u64 0, .bool false]) ∧ Touch Nothing w w' := by
 obtain ⟨op, ref, p, a, b, deny, xp, xn, xc⟩ := c
 simp only at h
 unfold CallV.val
 by_cases h0 : ref < 0
 ·have hr0 : (ref == 0) = false := by rw [beq_eq_false_iff_ne]; omega
  clear h
  go_enter Tryz.func38, Tryz.ntmps38
  go_wp2_with fail
  go_ret2
  exact ⟨rfl, (Touch.refl Nothing w).alloc _⟩
 ·have h1 : (n : Int) < ref := by omega
  have hr0 : (ref == 0) = false := by rw [beq_eq_false_iff_ne]; omega
  clear h
  go_enter Tryz.func38, Tryz.ntmps38
  go_wp2_with fail
  go_ret2
  exact ⟨rfl, (Touch.refl Nothing w).alloc _⟩
theorem address_wrap {w : World} (c : CallV) (av : Value) (aa : List AnsV) (A : Anss w av aa) (j : Nat) (x : AnsV) (h : c.ref = (j : Int) + 1) (hx : aa[j]? = some x) (he : x.e = 0) (hs : 18446744073709551616 ≤ x.v + c.p) (hv : x.v < 18446744073709551616) (hp : c.p < 18446744073709551616) : Calls Tryz.prog 38 #[c.val, av] w (Addressed w (x.v + c.p - 18446744073709551616)) := by
 have hj : j < aa.length := (List.getElem?_eq_some_iff.1 hx).1
 obtain ⟨g, cap, hv', hcap, hg⟩ := A.form (by omega)
 rw [hv'] at A
 subst hv'
 have hcell : ∀ k u, x.cells[k]? = some u → w.cell? ⟨g, j * 7 + k, none⟩ = some u := fun k u hu => by
  have hk : k < 7 := by have := (List.getElem?_eq_some_iff.1 hu).1; simpa [AnsV.cells] using this
  rw [A.cell _ (by omega)]
  exact flat7_get aa j x hx k u hu
 have d0 := hcell 0 _ rfl
 have d1 := hcell 1 _ rfl
 have d2 := hcell 2 _ rfl
 have d3 := hcell 3 _ rfl
 have d4 := hcell 4 _ rfl
 have d5 := hcell 5 _ rfl
 have d6 := hcell 6 _ rfl
 simp only [Nat.add_zero] at d0
 have hmx : aa.length ≤ 9223372036854775807 := by
  rcases A.2 with ⟨h0, _⟩ | ⟨g', cap', cur, hv', _, _, hc', hm, _⟩
  ·cases h0
  ·unfold maxLen at hm; omega
 obtain ⟨op, ref, p, a, b, deny, dp, dn, dc⟩ := c
 obtain ⟨e, v, xp, xn, xc, xh, xl, xb, xf⟩ := x
 simp only at h he hs hv hp
 subst h
 subst he
 have hlt : (j : Int) < (aa.length : Int) := by omega
 have hr0 : (((j : Int) + 1) == 0) = false := by rw [beq_eq_false_iff_ne]; omega
 have hs' : IntKind.u64.wrap ((v : Int) + (p : Int)) = ((v + p - 18446744073709551616 : Nat) : Int) := by
  unfold IntKind.wrap
  simp [IntKind.signed, IntKind.bits]
  omega
 have HSum := Hd hs'
 unfold CallV.val
 clear hcell A hx hcap hs hs'
 go_enter Tryz.func38, Tryz.ntmps38
 go_wp2_with fail
 go_ret2
 exact ⟨by simp [HSum.out], ((Touch.refl Nothing w).alloc _).alloc _⟩
abbrev W64 : Nat := 18446744073709551616
structure Cq where
 op : Int
 a : Nat
 b : Nat
 deny : Bool
 data : List UInt8
structure Src (w : World) (A : Nat → Prop) (dp : Option Addr) (dn dc : Nat) (dat : List UInt8) : Prop where
 len : dn = dat.length
 cap : dn ≤ dc
 data : dat ≠ [] → ∃ g off, dp = some ⟨g, off, none⟩ ∧ A g ∧ ∀ (j : Nat) x, dat[j]? = some x → w.cell? ⟨g, off + j, none⟩ = some (.int .u8 x.toNat)
theorem Src.keep {w w' : World} {A : Nat → Prop} {dp : Option Addr} {dn dc : Nat} {dat : List UInt8} (h : Src w A dp dn dc dat) (hk : ∀ k, A k → k < w.heap.size → w'.heap[k]? = w.heap[k]?) : Src w' A dp dn dc dat :=
 ⟨h.len, h.cap, fun hne => by
  obtain ⟨g, off, hp, hA, hc⟩ := h.data hne
  refine ⟨g, off, hp, hA, fun j x hj => ?_⟩
  have h1 := hc j x hj
  have hlt := World.block_lt_of_cell? w _ h1
  rw [World.cell?_of_block (w := w) (a := ⟨g, off + j, none⟩) (hk g hA hlt)]
  exact h1⟩
def Asked (x : Cq) (q size align : Nat) : Prop :=
 (x.op = 1 ∧ size = x.a ∧ align = 1) ∨ (x.op = 2 ∧ x.a * x.b < W64 ∧ size = x.a * x.b ∧ align = 1) ∨ (x.op = 3 ∧ size = x.b ∧ align = x.a) ∨ (x.op = 4 ∧ q = 0 ∧ size = x.a ∧ align = 1)
def numAn' (v : Nat) : An := ⟨0, v, [], 0, 0, 0, 0⟩
def readB (β : Bu) (p n : Nat) : List UInt8 := (List.range n).map fun o => UInt8.ofNat (β.σ.mem (p + o))
inductive Eff (β : Bu) (F L : Nat → List Nat) (x : Cq) : Option Nat → Bu → An → Prop
 | bad (q : Option Nat) : (q = none ∨ ¬ (1 ≤ x.op ∧ x.op ≤ 14)) → Eff β F L x q β (errAn 1)
 | limit (q : Nat) : (x.op = 11 ∧ 65536 < x.a ∨ x.op = 12 ∧ 65536 < x.data.length) → Eff β F L x (some q) β (errAn 6)
 | over (q : Nat) : x.op = 2 → W64 ≤ x.a * x.b → Eff β F L x (some q) β (errAn 3)
 | refused (q size align : Nat) : Asked x q size align → (roundN β.σ.size size align).2 ≠ 0 → Eff β F L x (some q) β (errAn (roundN β.σ.size size align).2)
 | full (q size align r : Nat) : Asked x q size align → roundN β.σ.size size align = (r, 0) → SizeOk β.μ.order r → NoRoom β.μ.order F L r → (x.deny = true ∨ β.σ.n = β.σ.limit) → Eff β F L x (some q) β (errAn 2)
 | took (q size align r : Nat) (β' : Bu) (p : Nat) : Asked x q size align → roundN β.σ.size size align = (r, 0) → SizeOk β.μ.order r → Took β F L r x.deny β' p → (x.op = 2 → ∀ i, i < r → β'.σ.mem (p + i) = 0) → Eff β F L x (some q) β' (numAn' p)
 | moveNo (q : Nat) : x.op = 4 → q ≠ 0 → (∀ S, ¬ Live β q S) → Eff β F L x (some q) β (errAn 1)
 | moveRefused (q S : Nat) : x.op = 4 → q ≠ 0 → Live β q S → (roundN β.σ.size x.a 1).2 ≠ 0 → Eff β F L x (some q) β (errAn (roundN β.σ.size x.a 1).2)
 | moveSame (q S : Nat) : x.op = 4 → q ≠ 0 → Live β q S → roundN β.σ.size x.a 1 = (S, 0) → SizeOk β.μ.order S → Eff β F L x (some q) β (numAn' q)
 | moveCut (q S r : Nat) (β' : Bu) : x.op = 4 → q ≠ 0 → Live β q S → roundN β.σ.size x.a 1 = (r, 0) → SizeOk β.μ.order r → 4096 ≤ r → r < S → Cutd β β' q r → Eff β F L x (some q) β' (numAn' q)
 | moved (q S r p : Nat) (β1 β' : Bu) : x.op = 4 → q ≠ 0 → Live β q S → roundN β.σ.size x.a 1 = (r, 0) → SizeOk β.μ.order r → r ≠ S → ¬ (4096 ≤ r ∧ r < S) → Took β F L r x.deny β1 p → β'.σ.n = β1.σ.n → Moved β β' q p r (min r S) → Eff β F L x (some q) β' (numAn' p)
 | moveFull (q S r : Nat) : x.op = 4 → q ≠ 0 → Live β q S → roundN β.σ.size x.a 1 = (r, 0) → SizeOk β.μ.order r → r ≠ S → ¬ (4096 ≤ r ∧ r < S) → NoRoom β.μ.order F L r → (x.deny = true ∨ β.σ.n = β.σ.limit) → Eff β F L x (some q) β (errAn 2)
 | freeNone : x.op = 5 → Eff β F L x (some 0) β (errAn 0)
 | freeNo (q : Nat) : x.op = 5 → q ≠ 0 → (∀ S, ¬ Live β q S) → Eff β F L x (some q) β (errAn 1)
 | freed (q S : Nat) (β' : Bu) : x.op = 5 → q ≠ 0 → Live β q S → Gone β β' q → Eff β F L x (some q) β' (errAn 0)
 | usable (q S : Nat) : x.op = 6 → Live β q S → Eff β F L x (some q) β (numAn' S)
 | usableNo (q : Nat) : x.op = 6 → (∀ S, ¬ Live β q S) → Eff β F L x (some q) β (errAn 1)
 | fault (q n : Nat) : (x.op = 7 ∧ n = 1 ∨ x.op = 8 ∧ n = 1 ∨ x.op = 9 ∧ n = 8 ∨ x.op = 10 ∧ n = 8 ∨ x.op = 11 ∧ n = x.a ∧ x.a ≤ 65536 ∨ x.op = 12 ∧ n = x.data.length ∧ n ≤ 65536) → 0 < n → ¬ InLive β q n → Eff β F L x (some q) β (errAn 4)
 | load (q : Nat) : x.op = 7 → InLive β q 1 → Eff β F L x (some q) β (numAn' (β.σ.mem q))
 | store (q : Nat) : x.op = 8 → InLive β q 1 → Eff β F L x (some q) { β with σ := β.σ.put q [x.a % 256] } (errAn 0)
 | loadWord (q : Nat) : x.op = 9 → InLive β q 8 → Eff β F L x (some q) β (numAn' (β.σ.word q))
 | storeWord (q : Nat) : x.op = 10 → InLive β q 8 → Eff β F L x (some q) { β with σ := β.σ.put q (wordBytes x.a) } (errAn 0)
 | readNone (q : Nat) : x.op = 11 → x.a = 0 → Eff β F L x (some q) β (errAn 0)
 | read (q : Nat) : x.op = 11 → 0 < x.a → x.a ≤ 65536 → InLive β q x.a → Eff β F L x (some q) β ⟨0, 0, readB β q x.a, 0, 0, 0, 0⟩
 | writeNone (q : Nat) : x.op = 12 → x.data = [] → Eff β F L x (some q) β (errAn 0)
 | write (q : Nat) : x.op = 12 → x.data ≠ [] → x.data.length ≤ 65536 → InLive β q x.data.length → Eff β F L x (some q) { β with σ := β.σ.put q (x.data.map UInt8.toNat) } (errAn 0)
 | trim (q m : Nat) (β' : Bu) : x.op = 13 → Trimmed β β' m → ¬ β'.mayPop → (∀ i, i < m → (β.popN i).mayPop) → β' = β.popN m → Eff β F L x (some q) β' (numAn' m)
 | stats (q : Nat) : x.op = 14 → Eff β F L x (some q) β ⟨0, 0, [], β.σ.size * β.σ.n, sumS (liveL β β.μ.pages.length), ((liveL β β.μ.pages.length).length : Nat), (freeN β β.μ.pages.length : Nat)⟩
structure LikeX (c : CallV) (x : Cq) : Prop where
 op : c.op = x.op
 a : c.a = x.a
 b : c.b = x.b
 deny : c.deny = x.deny
def AdrIs (w : World) (c : CallV) (v : Value) (q : Option Nat) : Prop :=
 ∀ W, Touch Nothing w W → match q with
  | some n => Calls Tryz.prog 38 #[c.val, v] W (Addressed W n)
  | none => Calls Tryz.prog 38 #[c.val, v] W fun e w' => e = .returned (.tuple #[.int .u64 0, .bool false]) ∧ Touch Nothing W w'
def OneDo (β : Bu) (ps : List Int) (x : Cq) (q : Option Nat) (β' : Bu) (ps' : List Int) (an : An) : Prop :=
 ∀ (w : World) (hb s pb : Nat) (K : BuL) (A : Nat → Prop) (c : CallV) (v : Value), HpRep 0 w hb s pb K β ps → LikeX c x → Src w A c.dp c.dn c.dc x.data → (∀ k, A k → k ∉ hb :: s :: pb :: K.fp) → AdrIs w c v q →
  an.v < W64 ∧ Calls Tryz.prog 22 #[.pointer (some ⟨hb, 0, none⟩), c.val, v] w (Stepped w hb s pb K β' ps' an)
theorem stepBy {w : World} {hb s pb : Nat} {K : BuL} {β β' : Bu} {ps ps' : List Int} (R : HpRep 0 w hb s pb K β ps) (c : CallV) (v : Value) (q f : Nat) (n : Int) (hc : c.op = n) (hn : (opTab.reverse.find? (fun p => p.1 == n)).map Prod.snd = some f) (hw : (Lit.int .i64 n).wf = true)
  (hcf : ∀ (us : Array Value) (W : World), (callFunc f us).run Tryz.prog W = .ok (.enter f us) W) (HAd : AdrIs w c v (some q)) (a0 : AnsV) (x : An) (hx : ∀ W, AnsIs W a0 x) (hb0 : a0.block = none)
  (HMe : ∀ W, Touch Nothing w W → Calls Tryz.prog f #[c.doer hb q] W fun e w' => ∃ an : AnsV, e = .returned an.val ∧ QHp hb s pb K β' ps' a0 an W w') :
  Calls Tryz.prog 22 #[.pointer (some ⟨hb, 0, none⟩), c.val, v] w (Stepped w hb s pb K β' ps' x) :=
 (one_at hb q c v (· ∈ hb :: s :: K.fp) R.turn_lt (QHp hb s pb K β' ps' a0) (fun _ _ _ h => h.2.choose_spec.2.2) f (by rw [hc]; exact hn) (by rw [hc]; exact hw) hcf (Hd HAd) (Hd HMe)).mono fun _ _ h => h.stepped R hx hb0
theorem stepBad {w : World} {hb s pb : Nat} {K : BuL} {β : Bu} {ps : List Int} (R : HpRep 0 w hb s pb K β ps) {c : CallV} {v : Value}
  (H : Calls Tryz.prog 22 #[.pointer (some ⟨hb, 0, none⟩), c.val, v] w (Done w fun an W W1 => an = errAns 1 ∧ Touch Nothing W W1)) :
  Calls Tryz.prog 22 #[.pointer (some ⟨hb, 0, none⟩), c.val, v] w (Stepped w hb s pb K β ps (errAn 1)) := by
 refine H.mono ?_
 rintro e w' ⟨an, he, W, W1, b, T0, ⟨rfl, T1⟩, h1, h2, T2⟩
 have D : Done w (QHp hb s pb K β ps (errAns 1)) e w' := ⟨errAns 1, he, W, W1, b, T0, ⟨rfl, K, (R.touch0 T0).touch0 T1, BuL.Next.refl _ _, T1.none_⟩, h1, h2, T2⟩
 exact D.stepped R (fun W => (errAns_is W 1).1) (errAns_is w 1).2
theorem num_is (W : World) (p : Nat) : AnsIs W (numAns p 0) (numAn' p) := (numAns_is W p 0).1
theorem num_err (W : World) (p : Nat) (e : Int) (h : e ≠ 0) : AnsIs W (numAns p e) (errAn e) := by
 have := (numAns_is W p e).1
 unfold numAn at this
 rw [if_neg h] at this
 exact this
def OneOut (β : Bu) (ps : List Int) (F L : Nat → List Nat) (x : Cq) (q : Option Nat) : Prop :=
 ∃ β' ps' F' C' L' an, HS β' ps' F' C' L' ∧ Eff β F L x q β' an ∧ OneDo β ps x q β' ps' an
section
variable {β : Bu} {ps : List Int} {F C L : Nat → List Nat}
theorem HS.live_lt (I : HS β ps F C L) {P S : Nat} (h : Live β P S) : P < W64 := by
 have h1 := h.top I
 have h2 := I.inv.top
 have h3 := h.pos.1
 show P < 18446744073709551616
 omega
theorem err_lt (e : Int) : (errAn e).v < W64 := by show 0 < W64; decide
theorem one_err {x : Cq} {q f : Nat} {n er : Int} (hop : x.op = n) (hf : f ∈ [39, 40, 41, 42, 43, 44, 45, 46, 47, 48, 49, 50, 51, 52]) (hn : (opTab.reverse.find? (fun p => p.1 == n)).map Prod.snd = some f) (hw : (Lit.int .i64 n).wf = true) {β' : Bu} {ps' : List Int} (h : er ≠ 0)
  (HM : ∀ (w : World) (hb s pb : Nat) (K : BuL) (c : CallV), HpRep 0 w hb s pb K β ps → LikeX c x → Calls Tryz.prog f #[c.doer hb q] w fun e w' => ∃ an : AnsV, e = .returned an.val ∧ QHp hb s pb K β' ps' (numAns 0 er) an w w') :
  OneDo β ps x (some q) β' ps' (errAn er) :=
 fun w hb s pb K _ c v R hc _ _ hAd => ⟨err_lt er, stepBy R c v q f n (hc.op.trans hop) hn hw (hcfOf f hf) hAd (numAns 0 er) _ (fun W => num_err W 0 er h) (numAns_is w 0 er).2 (fun W T => HM W hb s pb K c (R.touch0 T) hc)⟩
theorem one_err2 {x : Cq} {q f : Nat} {n er : Int} (hop : x.op = n) (hf : f ∈ [39, 40, 41, 42, 43, 44, 45, 46, 47, 48, 49, 50, 51, 52]) (hn : (opTab.reverse.find? (fun p => p.1 == n)).map Prod.snd = some f) (hw : (Lit.int .i64 n).wf = true) {β' : Bu} {ps' : List Int}
  (HM : ∀ (w : World) (hb s pb : Nat) (K : BuL) (A : Nat → Prop) (c : CallV), HpRep 0 w hb s pb K β ps → LikeX c x → Src w A c.dp c.dn c.dc x.data → (∀ k, A k → k ∉ hb :: s :: pb :: K.fp) → Calls Tryz.prog f #[c.doer hb q] w fun e w' => ∃ an : AnsV, e = .returned an.val ∧ QHp hb s pb K β' ps' (errAns er) an w w') :
  OneDo β ps x (some q) β' ps' (errAn er) :=
 fun w hb s pb K A c v R hc hS hA hAd => ⟨err_lt er, stepBy R c v q f n (hc.op.trans hop) hn hw (hcfOf f hf) hAd (errAns er) _ (fun W => (errAns_is W er).1) (errAns_is w er).2 (fun W T => HM W hb s pb K A c (R.touch0 T) hc (hS.keep (fun k _ hk => T.block k hk (fun h => h))) hA)⟩
theorem one_num {x : Cq} {q f p : Nat} {n : Int} (hop : x.op = n) (hf : f ∈ [39, 40, 41, 42, 43, 44, 45, 46, 47, 48, 49, 50, 51, 52]) (hn : (opTab.reverse.find? (fun p => p.1 == n)).map Prod.snd = some f) (hw : (Lit.int .i64 n).wf = true) {β' : Bu} {ps' : List Int} (h : ∀ (w : World) (hb s pb : Nat) (K : BuL), HpRep 0 w hb s pb K β ps → p < W64)
  (HM : ∀ (w : World) (hb s pb : Nat) (K : BuL) (c : CallV), HpRep 0 w hb s pb K β ps → LikeX c x → Calls Tryz.prog f #[c.doer hb q] w fun e w' => ∃ an : AnsV, e = .returned an.val ∧ QHp hb s pb K β' ps' (numAns p 0) an w w') :
  OneDo β ps x (some q) β' ps' (numAn' p) :=
 fun w hb s pb K _ c v R hc _ _ hAd => ⟨h w hb s pb K R, stepBy R c v q f n (hc.op.trans hop) hn hw (hcfOf f hf) hAd (numAns p 0) _ (fun W => num_is W p) (numAns_is w p 0).2 (fun W T => HM W hb s pb K c (R.touch0 T) hc)⟩
theorem HS.one_malloc (I : HS β ps F C L) (x : Cq) (q : Nat) (hop : x.op = 1) (ha : x.a < W64) : OneOut β ps F L x (some q) := by
 have hA : Asked x q x.a 1 := .inl ⟨hop, rfl, rfl⟩
 rcases I.mallocs x.a x.deny ha with ⟨h, H⟩ | ⟨r, β', ps', F', C', L', p, hr, hs, I', T, H⟩ | ⟨r, hr, hs, hn, hd, H⟩
 ·exact ⟨β, ps, F, C, L, _, I, .refused q x.a 1 hA h, one_err hop (by simp) rfl (by decide) h (fun w hb s pb K c R hc => meth_malloc R c q 0 _ (fun W RW => by rw [hc.a, hc.deny]; exact H W hb s pb K RW))⟩
 ·exact ⟨β', ps', F', C', L', _, I', .took q x.a 1 r β' p hA hr hs T (fun e => by rw [hop] at e; cases e), one_num hop (by simp) rfl (by decide) (fun _ _ _ _ _ _ => I'.live_lt ((T.more.live p r).2 (.inr ⟨rfl, rfl⟩))) (fun w hb s pb K c R hc => meth_malloc R c q p _ (fun W RW => by rw [hc.a, hc.deny]; exact H W hb s pb K RW))⟩
 ·exact ⟨β, ps, F, C, L, _, I, .full q x.a 1 r hA hr hs hn hd, one_err hop (by simp) rfl (by decide) (by decide) (fun w hb s pb K c R hc => meth_malloc R c q 0 2 (fun W RW => by rw [hc.a, hc.deny]; exact H W hb s pb K RW))⟩
theorem HS.one_calloc (I : HS β ps F C L) (x : Cq) (q : Nat) (hop : x.op = 2) (ha : x.a < W64) (hb : x.b < W64) : OneOut β ps F L x (some q) := by
 rcases I.calloc x.a x.b x.deny ha hb with ⟨h, H⟩ | ⟨h0, h, H⟩ | ⟨h0, r, β', ps', F', C', L', p, hr, hs, I', T, Z, H⟩ | ⟨h0, r, hr, hs, hn, hd, H⟩
 ·exact ⟨β, ps, F, C, L, _, I, .over q hop h, one_err hop (by simp) rfl (by decide) (by decide) (fun w hb s pb K c R hc => meth_calloc R c q 0 3 (fun W RW => by rw [hc.a, hc.b, hc.deny]; exact H W hb s pb K RW))⟩
 ·exact ⟨β, ps, F, C, L, _, I, .refused q (x.a * x.b) 1 (.inr (.inl ⟨hop, h0, rfl, rfl⟩)) h, one_err hop (by simp) rfl (by decide) h (fun w hb s pb K c R hc => meth_calloc R c q 0 _ (fun W RW => by rw [hc.a, hc.b, hc.deny]; exact H W hb s pb K RW))⟩
 ·exact ⟨β', ps', F', C', L', _, I', .took q (x.a * x.b) 1 r β' p (.inr (.inl ⟨hop, h0, rfl, rfl⟩)) hr hs T (fun _ => Z), one_num hop (by simp) rfl (by decide) (fun _ _ _ _ _ _ => I'.live_lt ((T.more.live p r).2 (.inr ⟨rfl, rfl⟩))) (fun w hb s pb K c R hc => meth_calloc R c q p _ (fun W RW => by rw [hc.a, hc.b, hc.deny]; exact H W hb s pb K RW))⟩
 ·exact ⟨β, ps, F, C, L, _, I, .full q (x.a * x.b) 1 r (.inr (.inl ⟨hop, h0, rfl, rfl⟩)) hr hs hn hd, one_err hop (by simp) rfl (by decide) (by decide) (fun w hb s pb K c R hc => meth_calloc R c q 0 2 (fun W RW => by rw [hc.a, hc.b, hc.deny]; exact H W hb s pb K RW))⟩
theorem HS.one_aligned (I : HS β ps F C L) (x : Cq) (q : Nat) (hop : x.op = 3) (ha : x.a < W64) (hb : x.b < W64) : OneOut β ps F L x (some q) := by
 have hA : Asked x q x.b x.a := .inr (.inr (.inl ⟨hop, rfl, rfl⟩))
 rcases I.aligned x.a x.b x.deny hb ha with ⟨h, H⟩ | ⟨r, β', ps', F', C', L', p, hr, hs, I', T, H⟩ | ⟨r, hr, hs, hn, hd, H⟩
 ·exact ⟨β, ps, F, C, L, _, I, .refused q x.b x.a hA h, one_err hop (by simp) rfl (by decide) h (fun w hb s pb K c R hc => meth_aligned R c q 0 _ (fun W RW => by rw [hc.a, hc.b, hc.deny]; exact H W hb s pb K RW))⟩
 ·exact ⟨β', ps', F', C', L', _, I', .took q x.b x.a r β' p hA hr hs T (fun e => by rw [hop] at e; cases e), one_num hop (by simp) rfl (by decide) (fun _ _ _ _ _ _ => I'.live_lt ((T.more.live p r).2 (.inr ⟨rfl, rfl⟩))) (fun w hb s pb K c R hc => meth_aligned R c q p _ (fun W RW => by rw [hc.a, hc.b, hc.deny]; exact H W hb s pb K RW))⟩
 ·exact ⟨β, ps, F, C, L, _, I, .full q x.b x.a r hA hr hs hn hd, one_err hop (by simp) rfl (by decide) (by decide) (fun w hb s pb K c R hc => meth_aligned R c q 0 2 (fun W RW => by rw [hc.a, hc.b, hc.deny]; exact H W hb s pb K RW))⟩
theorem HS.one_realloc0 (I : HS β ps F C L) (x : Cq) (hop : x.op = 4) (ha : x.a < W64) : OneOut β ps F L x (some 0) := by
 have hA : Asked x 0 x.a 1 := .inr (.inr (.inr ⟨hop, rfl, rfl, rfl⟩))
 rcases I.mallocs x.a x.deny ha with ⟨h, H⟩ | ⟨r, β', ps', F', C', L', p, hr, hs, I', T, H⟩ | ⟨r, hr, hs, hn, hd, H⟩
 ·exact ⟨β, ps, F, C, L, _, I, .refused 0 x.a 1 hA h, one_err hop (by simp) rfl (by decide) h (fun w hb s pb K c R hc => meth_realloc R c 0 0 _ (fun W RW => by rw [hc.a, hc.deny]; exact realloc_zero _ 0 _ _ (H W hb s pb K RW)))⟩
 ·exact ⟨β', ps', F', C', L', _, I', .took 0 x.a 1 r β' p hA hr hs T (fun e => by rw [hop] at e; cases e), one_num hop (by simp) rfl (by decide) (fun _ _ _ _ _ _ => I'.live_lt ((T.more.live p r).2 (.inr ⟨rfl, rfl⟩))) (fun w hb s pb K c R hc => meth_realloc R c 0 p _ (fun W RW => by rw [hc.a, hc.deny]; exact realloc_zero _ p _ _ (H W hb s pb K RW)))⟩
 ·exact ⟨β, ps, F, C, L, _, I, .full 0 x.a 1 r hA hr hs hn hd, one_err hop (by simp) rfl (by decide) (by decide) (fun w hb s pb K c R hc => meth_realloc R c 0 0 2 (fun W RW => by rw [hc.a, hc.deny]; exact realloc_zero _ 0 _ _ (H W hb s pb K RW)))⟩
theorem HS.one_realloc (I : HS β ps F C L) (x : Cq) (q : Nat) (hop : x.op = 4) (hq : q < W64) (hq0 : q ≠ 0) (ha : x.a < W64) : OneOut β ps F L x (some q) := by
 rcases I.realloc q x.a x.deny hq hq0 ha with ⟨h, H⟩ | ⟨S, hL, ⟨h, H⟩ | ⟨r, hr, hs, ⟨h, H⟩ | ⟨h1, h2, β', F', I', Cd, H⟩ | ⟨h1, h2, β1, β', ps', F', C', L', p, T, hn, I', M, H⟩ | ⟨h1, h2, hn, hd, H⟩⟩⟩
 ·exact ⟨β, ps, F, C, L, _, I, .moveNo q hop hq0 h, one_err hop (by simp) rfl (by decide) (by decide) (fun w hb s pb K c R hc => meth_realloc R c q 0 1 (fun W RW => by rw [hc.a, hc.deny]; exact H W hb s pb K RW))⟩
 ·exact ⟨β, ps, F, C, L, _, I, .moveRefused q S hop hq0 hL h, one_err hop (by simp) rfl (by decide) h (fun w hb s pb K c R hc => meth_realloc R c q 0 _ (fun W RW => by rw [hc.a, hc.deny]; exact H W hb s pb K RW))⟩
 ·subst h
  exact ⟨β, ps, F, C, L, _, I, .moveSame q r hop hq0 hL hr hs, one_num hop (by simp) rfl (by decide) (fun _ _ _ _ _ _ => hq) (fun w hb s pb K c R hc => meth_realloc R c q q _ (fun W RW => by rw [hc.a, hc.deny]; exact H W hb s pb K RW))⟩
 ·exact ⟨β', ps, F', C, L, _, I', .moveCut q S r β' hop hq0 hL hr hs h1 h2 Cd, one_num hop (by simp) rfl (by decide) (fun _ _ _ _ _ _ => hq) (fun w hb s pb K c R hc => meth_realloc R c q q _ (fun W RW => by rw [hc.a, hc.deny]; exact H W hb s pb K RW))⟩
 ·exact ⟨β', ps', F', C', L', _, I', .moved q S r p β1 β' hop hq0 hL hr hs h1 h2 T hn M, one_num hop (by simp) rfl (by decide) (fun _ _ _ _ _ _ => I'.live_lt ((M.live p r).2 (.inr ⟨rfl, rfl⟩))) (fun w hb s pb K c R hc => meth_realloc R c q p _ (fun W RW => by rw [hc.a, hc.deny]; exact H W hb s pb K RW))⟩
 ·exact ⟨β, ps, F, C, L, _, I, .moveFull q S r hop hq0 hL hr hs h1 h2 hn hd, one_err hop (by simp) rfl (by decide) (by decide) (fun w hb s pb K c R hc => meth_realloc R c q 0 2 (fun W RW => by rw [hc.a, hc.deny]; exact H W hb s pb K RW))⟩
theorem HS.one_free (I : HS β ps F C L) (x : Cq) (q : Nat) (hop : x.op = 5) (hq : q < W64) : OneOut β ps F L x (some q) := by
 rcases I.free q hq with ⟨rfl, H⟩ | ⟨h0, S, β', ps', F', C', L', hL, I', G, H⟩ | ⟨h0, h, H⟩
 ·exact ⟨β, ps, F, C, L, _, I, .freeNone hop, one_err2 hop (by simp) rfl (by decide) (fun w hb s pb K A c R hc _ _ => meth_free R c 0 0 (fun W RW => (H W hb s pb K RW).mono fun _ _ h => h.heaped))⟩
 ·exact ⟨β', ps', F', C', L', _, I', .freed q S β' hop h0 hL G, one_err2 hop (by simp) rfl (by decide) (fun w hb s pb K A c R hc _ _ => meth_free R c q 0 (fun W RW => H W hb s pb K RW))⟩
 ·exact ⟨β, ps, F, C, L, _, I, .freeNo q hop h0 h, one_err2 hop (by simp) rfl (by decide) (fun w hb s pb K A c R hc _ _ => meth_free R c q 1 (fun W RW => (H W hb s pb K RW).mono fun _ _ h => h.heaped))⟩
theorem HS.one_usable (I : HS β ps F C L) (x : Cq) (q : Nat) (hop : x.op = 6) (hq : q < W64) : OneOut β ps F L x (some q) := by
 rcases I.usable q hq with ⟨S, hL, H⟩ | ⟨h, H⟩
 ·exact ⟨β, ps, F, C, L, _, I, .usable q S hop hL, one_num hop (by simp) rfl (by decide) (fun _ _ _ _ _ _ => by have h1 := hL.top I; have h2 := I.inv.top; show S < 18446744073709551616; omega) (fun w hb s pb K c R hc => meth_usable R c q S _ (fun W RW => (H W hb s pb K RW).mono fun _ _ h => h.heaped))⟩
 ·exact ⟨β, ps, F, C, L, _, I, .usableNo q hop h, one_err hop (by simp) rfl (by decide) (by decide) (fun w hb s pb K c R hc => meth_usable R c q 0 1 (fun W RW => (H W hb s pb K RW).mono fun _ _ h => h.heaped))⟩
theorem HS.one_load (I : HS β ps F C L) (x : Cq) (q : Nat) (hop : x.op = 7) (hq : q < W64) : OneOut β ps F L x (some q) := by
 rcases I.load q hq with ⟨h, H⟩ | ⟨h, H⟩
 ·exact ⟨β, ps, F, C, L, _, I, .load q hop h, one_num hop (by simp) rfl (by decide) (fun _ _ _ _ _ R => by have := R.sl.po.bu.sp.ok.byte q; show β.σ.mem q < 18446744073709551616; omega) (fun w hb s pb K c R hc => meth_load R c q _ 0 (R.sl.po.bu.sp.ok.byte q) (fun W RW => (H W hb s pb K RW).mono fun _ _ h => h.heaped))⟩
 ·exact ⟨β, ps, F, C, L, _, I, .fault q 1 (.inl ⟨hop, rfl⟩) (by omega) h, one_err hop (by simp) rfl (by decide) (by decide) (fun w hb s pb K c R hc => meth_load R c q 0 4 (by omega) (fun W RW => (H W hb s pb K RW).mono fun _ _ h => h.heaped))⟩
theorem HS.one_store (I : HS β ps F C L) (x : Cq) (q : Nat) (hop : x.op = 8) (hq : q < W64) : OneOut β ps F L x (some q) := by
 rcases I.store q (x.a % 256) hq (Nat.mod_lt _ (by omega)) with ⟨h, I', H⟩ | ⟨h, H⟩
 ·exact ⟨_, ps, F, C, L, _, I', .store q hop h, one_err2 hop (by simp) rfl (by decide) (fun w hb s pb K A c R hc _ _ => meth_storeAny R c q 0 (fun W RW => by rw [hc.a]; exact H W hb s pb K RW))⟩
 ·exact ⟨β, ps, F, C, L, _, I, .fault q 1 (.inr (.inl ⟨hop, rfl⟩)) (by omega) h, one_err2 hop (by simp) rfl (by decide) (fun w hb s pb K A c R hc _ _ => meth_storeAny R c q 4 (fun W RW => by rw [hc.a]; exact (H W hb s pb K RW).mono fun _ _ h => h.heaped))⟩
theorem HS.one_loadWord (I : HS β ps F C L) (x : Cq) (q : Nat) (hop : x.op = 9) (hq : q < W64) : OneOut β ps F L x (some q) := by
 rcases I.loadWord q hq with ⟨h, H⟩ | ⟨h, H⟩
 ·exact ⟨β, ps, F, C, L, _, I, .loadWord q hop h, one_num hop (by simp) rfl (by decide) (fun _ _ _ _ _ R => R.sl.po.bu.sp.ok.word_lt q) (fun w hb s pb K c R hc => meth_loadWord R c q _ 0 (fun W RW => (H W hb s pb K RW).mono fun _ _ h => h.heaped))⟩
 ·exact ⟨β, ps, F, C, L, _, I, .fault q 8 (.inr (.inr (.inl ⟨hop, rfl⟩))) (by omega) h, one_err hop (by simp) rfl (by decide) (by decide) (fun w hb s pb K c R hc => meth_loadWord R c q 0 4 (fun W RW => (H W hb s pb K RW).mono fun _ _ h => h.heaped))⟩
theorem HS.one_storeWord (I : HS β ps F C L) (x : Cq) (q : Nat) (hop : x.op = 10) (hq : q < W64) (ha : x.a < W64) : OneOut β ps F L x (some q) := by
 rcases I.storeWord q x.a hq ha with ⟨h, I', H⟩ | ⟨h, H⟩
 ·exact ⟨_, ps, F, C, L, _, I', .storeWord q hop h, one_err2 hop (by simp) rfl (by decide) (fun w hb s pb K A c R hc _ _ => meth_storeWord R c q 0 (fun W RW => by rw [hc.a]; exact H W hb s pb K RW))⟩
 ·exact ⟨β, ps, F, C, L, _, I, .fault q 8 (.inr (.inr (.inr (.inl ⟨hop, rfl⟩)))) (by omega) h, one_err2 hop (by simp) rfl (by decide) (fun w hb s pb K A c R hc _ _ => meth_storeWord R c q 4 (fun W RW => by rw [hc.a]; exact (H W hb s pb K RW).mono fun _ _ h => h.heaped))⟩
theorem HS.one_trim (I : HS β ps F C L) (x : Cq) (q : Nat) (hop : x.op = 13) : OneOut β ps F L x (some q) := by
 obtain ⟨m, β', F', I', T, N, A, hp, hm, H⟩ := I.trim
 exact ⟨β', ps, F', C, L, _, I', .trim q m β' hop T N A hp, one_num hop (by simp) rfl (by decide) (fun _ _ _ _ _ _ => by show m < 18446744073709551616; omega) (fun w hb s pb K c R hc => meth_trim R c q m hm (fun W RW => H W hb s pb K RW))⟩
theorem HS.one_stats (I : HS β ps F C L) (x : Cq) (q : Nat) (hop : x.op = 14) : OneOut β ps F L x (some q) :=
 ⟨β, ps, F, C, L, _, I, .stats q hop, fun w hb s pb K A c v R hc _ _ hAd => ⟨by show 0 < W64; decide, stepBy R c v q 52 14 (hc.op.trans hop) rfl (by decide) (hcfOf 52 (by simp)) hAd ⟨0, 0, none, 0, 0, β.σ.size * β.σ.n, sumS (liveL β β.μ.pages.length), ((liveL β β.μ.pages.length).length : Nat), (freeN β β.μ.pages.length : Nat)⟩ _ (fun W => ⟨rfl, rfl, rfl, rfl, rfl, rfl, World.ownsRow_nil _ _ _ _⟩) rfl (fun W T => meth_stats (R.touch0 T) c q _ _ _ _ (fun W2 RW => (RW.stats_).mono fun _ _ h => h.heaped))⟩⟩
theorem readB_len (β : Bu) (p n : Nat) : (readB β p n).length = n := by simp [readB]
theorem readB_bytes {w : World} {hb s pb : Nat} {K : BuL} (R : HpRep 0 w hb s pb K β ps) (p n : Nat) : bytesV (readB β p n) = β.σ.bytes p n := by
 unfold bytesV readB Sp.bytes
 rw [List.map_map]
 apply List.map_congr_left
 intro o _
 have := R.sl.po.bu.sp.ok.byte (p + o)
 show Value.int .u8 ((UInt8.ofNat (β.σ.mem (p + o))).toNat : Nat) = _
 congr 2
 simp
 omega
theorem HS.one_read (I : HS β ps F C L) (x : Cq) (q : Nat) (hop : x.op = 11) (hq : q < W64) : OneOut β ps F L x (some q) := by
 by_cases h1 : 65536 < x.a
 ·exact ⟨β, ps, F, C, L, _, I, .limit q (.inl ⟨hop, h1⟩), one_err2 hop (by simp) rfl (by decide) (fun w hb s pb K A c R hc _ _ => meth_readLim R c q (by rw [hc.a]; exact h1))⟩
 by_cases h0 : x.a = 0
 ·exact ⟨β, ps, F, C, L, _, I, .readNone q hop h0, one_err2 hop (by simp) rfl (by decide) (fun w hb s pb K A c R hc _ _ => meth_readNo R c q 0 (by rw [hc.a]; omega) (fun W RW => by rw [hc.a, h0]; exact (RW.read_none q).mono fun _ _ h => h.heaped))⟩
 rcases I.read q x.a hq (by omega) with ⟨h, H⟩ | ⟨h, H⟩
 ·refine ⟨β, ps, F, C, L, _, I, .read q hop (by omega) (by omega) h, fun w hb s pb K A c v R hc _ _ hAd => ⟨by show 0 < W64; decide, ?_⟩⟩
  have hn : (readB β q x.a).length = c.a := by rw [readB_len, hc.a]
  refine (one_at hb q c v (· ∈ hb :: s :: K.fp) R.turn_lt (QRead hb s pb K β ps c.a (bytesV (readB β q x.a))) (fun _ _ _ h => h.choose_spec.2.2.2.2.mono (fun k _ h => by simp [h])) 49 (by rw [hc.op, hop]; rfl) (by rw [hc.op, hop]; decide) (hcfOf 49 (by simp)) (Hd hAd) (Hd fun W T => meth_read (R.touch0 T) c q _ (by rw [hc.a]; omega) (fun W2 RW => ?_))).mono fun _ _ h => h.stepped_read R hn (by rw [hc.a]; omega)
  rw [hc.a, readB_bytes RW]
  exact H W2 hb s pb K RW
 ·exact ⟨β, ps, F, C, L, _, I, .fault q x.a (.inr (.inr (.inr (.inr (.inl ⟨hop, rfl, by omega⟩))))) (by omega) h, one_err2 hop (by simp) rfl (by decide) (fun w hb s pb K A c R hc _ _ => meth_readNo R c q 4 (by rw [hc.a]; omega) (fun W RW => by rw [hc.a]; exact (H W hb s pb K RW).mono fun _ _ h => h.heaped))⟩
theorem HS.one_write (I : HS β ps F C L) (x : Cq) (q : Nat) (hop : x.op = 12) (hq : q < W64) : OneOut β ps F L x (some q) := by
 by_cases h1 : 65536 < x.data.length
 ·exact ⟨β, ps, F, C, L, _, I, .limit q (.inr ⟨hop, h1⟩), one_err2 hop (by simp) rfl (by decide) (fun w hb s pb K A c R hc hS _ => meth_writeLim R c q (by rw [hS.len]; exact h1))⟩
 by_cases h0 : x.data = []
 ·refine ⟨β, ps, F, C, L, _, I, .writeNone q hop h0, one_err2 hop (by simp) rfl (by decide) (fun w hb s pb K A c R hc hS _ => meth_write R c q 0 (by rw [hS.len]; omega) (fun W T RW => ?_))⟩
  have e : c.dn = 0 := by rw [hS.len, h0]; rfl
  rw [e]
  exact (RW.write_none q c.dc c.dp).mono fun _ _ h => h.heaped
 have hl0 : 0 < x.data.length := List.length_pos_iff.2 h0
 have hlen : (x.data.map UInt8.toNat).length = x.data.length := by simp
 rcases I.writes q (x.data.map UInt8.toNat) hq (by rw [hlen]; exact hl0) (by rw [hlen]; omega) (fun y hy => by
  obtain ⟨z, _, rfl⟩ := List.mem_map.1 hy
  exact z.toNat_lt) with ⟨h, I', H⟩ | ⟨h, H⟩
 ·rw [hlen] at h
  refine ⟨_, ps, F, C, L, _, I', .write q hop h0 (by omega) h, one_err2 hop (by simp) rfl (by decide) (fun w hb s pb K A c R hc hS hA => meth_write R c q 0 (by rw [hS.len]; omega) (fun W T RW => ?_))⟩
  obtain ⟨g, off, hdp, hAg, hcell⟩ := (hS.keep (fun k _ hk => T.block k hk (fun h => h))).data h0
  have h00 := hcell 0 _ (List.getElem?_eq_getElem hl0)
  have hlt := World.block_lt_of_cell? W _ h00
  have hn := hA g hAg
  have hcap : x.data.length ≤ c.dc := by rw [← hS.len]; exact hS.cap
  ·have := H W hb s pb K c.dc ⟨g, off, none⟩ RW (by rw [hlen]; exact hcap) hlt (fun e => hn (by show g ∈ _; rw [show g = hb from e]; simp)) (fun j v hj => by
    unfold u8s at hj
    rw [List.map_map, List.getElem?_map, Option.map_eq_some_iff] at hj
    obtain ⟨z, hz, rfl⟩ := hj
    rw [show (⟨g, off, none⟩ : Addr).add j = ⟨g, off + j, none⟩ from Lib.add_plain _ _ _]
    exact hcell j z hz)
   rw [hlen] at this
   rw [hdp, hS.len]
   exact this
 ·rw [hlen] at h
  refine ⟨β, ps, F, C, L, _, I, .fault q x.data.length (.inr (.inr (.inr (.inr (.inr ⟨hop, rfl, by omega⟩))))) hl0 h, one_err2 hop (by simp) rfl (by decide) (fun w hb s pb K A c R hc hS _ => meth_write R c q 4 (by rw [hS.len]; omega) (fun W T RW => ?_))⟩
  have := H W hb s pb K c.dc c.dp RW
  rw [hlen] at this
  rw [hS.len]
  exact this.mono fun _ _ h => h.heaped
theorem opTab_none (n : Int) (h : ¬ (1 ≤ n ∧ n ≤ 14)) : opTab.reverse.find? (fun p => p.1 == n) = none := by
 rw [List.find?_eq_none]
 intro p hp
 simp only [opTab, List.reverse_cons, List.reverse_nil, List.nil_append, List.cons_append, List.mem_cons, List.not_mem_nil, or_false] at hp
 simp only [beq_iff_eq]
 rcases hp with rfl | rfl | rfl | rfl | rfl | rfl | rfl | rfl | rfl | rfl | rfl | rfl | rfl | rfl <;> (simp only; omega)
theorem HS.one_bad (I : HS β ps F C L) (x : Cq) (q : Option Nat) (hw : (Lit.int .i64 x.op).wf = true) (h : q = none ∨ ¬ (1 ≤ x.op ∧ x.op ≤ 14)) : OneOut β ps F L x q := by
 refine ⟨β, ps, F, C, L, _, I, .bad q h, fun w hb s pb K A c v R hc _ _ hAd => ⟨err_lt 1, ?_⟩⟩
 by_cases ho : 1 ≤ x.op ∧ x.op ≤ 14
 ·have hq : q = none := h.resolve_right (fun h => h ho)
  subst hq
  obtain ⟨f, hf⟩ : ∃ f, (opTab.reverse.find? (fun p => p.1 == c.op)).map Prod.snd = some f := by
   rw [hc.op]
   have : x.op = 1 ∨ x.op = 2 ∨ x.op = 3 ∨ x.op = 4 ∨ x.op = 5 ∨ x.op = 6 ∨ x.op = 7 ∨ x.op = 8 ∨ x.op = 9 ∨ x.op = 10 ∨ x.op = 11 ∨ x.op = 12 ∨ x.op = 13 ∨ x.op = 14 := by omega
   rcases this with e | e | e | e | e | e | e | e | e | e | e | e | e | e <;> (rw [e]; exact ⟨_, rfl⟩)
  exact stepBad R (one_off hb 0 c v f hf (by rw [hc.op]; exact hw) (Hd hAd))
 ·have hn := opTab_none x.op ho
  rw [← hc.op] at hn
  cases q with
  | none => exact stepBad R (one_none_f hb 0 c v hn (by rw [hc.op]; exact hw) (Hd hAd))
  | some q => exact stepBad R (one_none_t hb q c v hn (by rw [hc.op]; exact hw) (Hd hAd))
theorem HS.one (I : HS β ps F C L) (x : Cq) (q : Option Nat) (hw : (Lit.int .i64 x.op).wf = true) (hq : ∀ n, q = some n → n < W64) (ha : x.a < W64) (hb : x.b < W64) : OneOut β ps F L x q := by
 cases q with
 | none => exact I.one_bad x none hw (.inl rfl)
 | some q =>
  have hq := hq q rfl
  by_cases ho : 1 ≤ x.op ∧ x.op ≤ 14
  ·have : x.op = 1 ∨ x.op = 2 ∨ x.op = 3 ∨ x.op = 4 ∨ x.op = 5 ∨ x.op = 6 ∨ x.op = 7 ∨ x.op = 8 ∨ x.op = 9 ∨ x.op = 10 ∨ x.op = 11 ∨ x.op = 12 ∨ x.op = 13 ∨ x.op = 14 := by omega
   rcases this with e | e | e | e | e | e | e | e | e | e | e | e | e | e
   ·exact I.one_malloc x q e ha
   ·exact I.one_calloc x q e ha hb
   ·exact I.one_aligned x q e ha hb
   ·by_cases h0 : q = 0
    ·subst h0; exact I.one_realloc0 x e ha
    ·exact I.one_realloc x q e hq h0 ha
   ·exact I.one_free x q e hq
   ·exact I.one_usable x q e hq
   ·exact I.one_load x q e hq
   ·exact I.one_store x q e hq
   ·exact I.one_loadWord x q e hq
   ·exact I.one_storeWord x q e hq ha
   ·exact I.one_read x q e hq
   ·exact I.one_write x q e hq
   ·exact I.one_trim x q e
   ·exact I.one_stats x q e
  ·exact I.one_bad x (some q) hw (.inr ho)
end
end Go.Proofs.YtnjcmcnjgdjbiaaGreatDoor
