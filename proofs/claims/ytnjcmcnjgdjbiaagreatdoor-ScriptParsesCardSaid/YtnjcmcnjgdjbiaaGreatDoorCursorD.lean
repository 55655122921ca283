/- The walk of the document's own reading of bytes. Conditions: a line is at most 1048576 bytes. -/
import Derived.Test.YtnjcmcnjgdjbiaaGreatDoorCursorN
import Derived.Deep.RegionHeld3
import Derived.Deep.AppendLies
namespace Go.Proofs.YtnjcmcnjgdjbiaaGreatDoor
open Go.RowKit

abbrev byteCells (l : List UInt8) : List Value := l.map fun x => .int .u8 x.toNat

theorem infoR5 : (Tryz.prog.info? 5).map (fun i => (i.zero, i.size, i.bytes)) = some (some (.int .u8 0), 1, 1) := by kernel_rfl

/-- bytes that were read so far -/
structure DatRel (s : ByteArray) (b i0 : Nat) (bad : Bool) (w : World) (i : Nat) (v : Value) (out : List UInt8) (wr : World) : Prop where
  lo : i0 ≤ i
  hi : i ≤ s.size
  len : 2 * out.length = i - i0
  at_ : CurAt wr b s i bad
  law : Txt.dloop (s.data.toList.drop i0) = (out ++ (Txt.dloop (s.data.toList.drop i)).1, (Txt.dloop (s.data.toList.drop i)).2)
  own : wr.ownsRow w.heap.size 5 1 v out.length (byteCells out)
  touch : Touch (· = b) w wr

def Dated (s : ByteArray) (b i0 : Nat) (bad : Bool) (w : World) (e : Ending) (w' : World) : Prop :=
  ∃ dp dn dc, e = .returned (.slice dp dn dc) ∧ w'.ownsRow w.heap.size 5 1 (.slice dp dn dc) (Txt.dataR (cur s i0 bad)).1.length (byteCells (Txt.dataR (cur s i0 bad)).1) ∧ CurTo s b w (Txt.dataR (cur s i0 bad)).2 w'

theorem cur_inj {s : ByteArray} {i j : Nat} {x y : Bool} (hi : i ≤ s.size) (hj : j ≤ s.size) (h : cur s i x = cur s j y) : i = j ∧ x = y := by
  have hz : s.data.toList.length = s.size := by rw [Array.length_toList]; rfl
  unfold cur at h
  simp only [Txt.Cu.mk.injEq] at h
  have := congrArg List.length h.1
  simp only [List.length_drop] at this
  exact ⟨by omega, h.2⟩

theorem halfQ_ (x : UInt8) (w : World) : Calls Tryz.prog 128 #[.int .u8 x.toNat] w fun e w' => e = .returned (.int .i64 (Txt.half x)) ∧ w = w' :=
  (halfR_ x w).mono fun _ _ h => ⟨h.1, h.2.symm⟩

theorem half_le (x : UInt8) : Txt.half x ≤ 16 := by
  unfold Txt.half
  split
  · omega
  · split <;> omega

theorem owns_drewN {w : World} {B e n k : Nat} {v : Value} {xs : List Value} (h : w.ownsRow B e k v n xs) (m : Nat) : (w.drewN m).ownsRow B e k v n xs := h

theorem own_apart {w : World} {B e n k b : Nat} {v : Value} {xs : List Value} (h : w.ownsRow B e k v n xs) (hb : b < B) : v.ownBlock ≠ some b := fun e => by
  have := (World.ownsRow.lt h b e).1
  omega

/-- a call that turns nothing, behind draws -/
theorem quiet_behind {P : Program} {f : FuncId} {args : Array Value} {w : World} {a n : Nat} {v : Value} (h : Calls P f args (w.drewN (a + n)) fun e w' => e = .returned v ∧ w' = w.drewN (a + n)) :
    Calls P f args (w.drewN (a + n)) fun e w' => e = .returned v ∧ ∃ m, w' = w.drewN (a + m) :=
  h.mono fun _ _ h => ⟨h.1, n, h.2⟩

theorem owns_form {w : World} {B e k n : Nat} {v : Value} {xs : List Value} (h : w.ownsRow B e k v n xs) : ∃ dp dc, v = .slice dp n dc := by
  rcases h.2 with ⟨h1, h2⟩ | ⟨g, cap, cur, h1, _⟩
  · exact ⟨none, 0, by rw [h1, h2]⟩
  · exact ⟨_, _, h1⟩

theorem dloop_blank (s : ByteArray) (i : Nat) (h : i < s.size) (h32 : s[i]'h = 32) : Txt.dloop (s.data.toList.drop i) = ([], false, s.data.toList.drop i) := by
  rw [drop_lt s i h, h32]
  cases s.data.toList.drop (i + 1) <;> simp [Txt.dloop]
theorem dloop_end (s : ByteArray) (i : Nat) (h : s.size ≤ i) : Txt.dloop (s.data.toList.drop i) = ([], false, s.data.toList.drop i) := by
  rw [drop_ge s i h]; rfl
theorem dloop_last (s : ByteArray) (i : Nat) (h : i < s.size) (h32 : s[i]'h ≠ 32) (h2 : s.size ≤ i + 1) : Txt.dloop (s.data.toList.drop i) = ([], true, s.data.toList.drop i) := by
  rw [drop_lt s i h, drop_ge s (i + 1) h2]
  simp [Txt.dloop, h32]
theorem dloop_bad (s : ByteArray) (i : Nat) (h : i < s.size) (h32 : s[i]'h ≠ 32) (h2 : i + 1 < s.size) (hx : Txt.half (s[i]'h) = 16 ∨ Txt.half (s[i + 1]'h2) = 16) : Txt.dloop (s.data.toList.drop i) = ([], true, s.data.toList.drop i) := by
  rw [drop_lt s i h, drop_lt s (i + 1) h2]
  unfold Txt.dloop
  rw [if_neg h32, if_pos hx]
theorem dloop_good (s : ByteArray) (i : Nat) (h : i < s.size) (h32 : s[i]'h ≠ 32) (h2 : i + 1 < s.size) (hx : Txt.half (s[i]'h) ≠ 16) (hy : Txt.half (s[i + 1]'h2) ≠ 16) :
    Txt.dloop (s.data.toList.drop i) = ((Txt.half (s[i]'h) * 16 + Txt.half (s[i + 1]'h2)).toUInt8 :: (Txt.dloop (s.data.toList.drop (i + 2))).1, (Txt.dloop (s.data.toList.drop (i + 2))).2) := by
  rw [drop_lt s i h, drop_lt s (i + 1) h2]
  conv => lhs; unfold Txt.dloop
  rw [if_neg h32, if_neg (fun e => e.elim hx hy)]

theorem byte_pair (x y : UInt8) (_hx : Txt.half x ≠ 16) (_hy : Txt.half y ≠ 16) : IntKind.u8.wrap ((Txt.half x : Int) * 16 + (Txt.half y : Int)) = ((Txt.half x * 16 + Txt.half y).toUInt8.toNat : Int) := by
  have h1 := half_le x
  have h2 := half_le y
  unfold IntKind.wrap
  simp [IntKind.signed, IntKind.bits, Nat.toUInt8]

theorem DatRel.more {s : ByteArray} {b i0 i : Nat} {bad : Bool} {w wr w1 : World} {v v' : Value} {out : List UInt8} {k : Nat} {o : Obj} (R : DatRel s b i0 bad w i v out wr) (h : i < s.size) (h32 : s[i]'h ≠ 32) (h2 : i + 1 < s.size) (hx : Txt.half (s[i]'h) ≠ 16)
    (hy : Txt.half (s[i + 1]'h2) ≠ 16) (hb : b < w.heap.size)
    (hown : w1.ownsRow w.heap.size 5 1 v' (out.length + 1) (byteCells out ++ [.int .u8 (IntKind.u8.wrap ((Txt.half (s[i]'h) : Int) * 16 + (Txt.half (s[i + 1]'h2) : Int)))]))
    (hgrow : ((wr.drewN k).alloc o).grownBy w1 v.ownBlock) : CurAt w1 b s i bad ∧ DatRel s b i0 bad w (i + 2) v' (out ++ [(Txt.half (s[i]'h) * 16 + Txt.half (s[i + 1]'h2)).toUInt8]) (w1.setCell ⟨b, 1, none⟩ (.int .i64 ((i : Int) + 2))) := by
  have hlo := R.lo
  have hln := R.len
  have hne := own_apart R.own hb
  have hT : Touch (fun j => w.heap.size ≤ j) wr w1 := (((Touch.refl _ wr).drewN k).alloc o).trans' (Touch.of_grown (S := fun j => w.heap.size ≤ j) hgrow (fun j hj => (World.ownsRow.lt R.own j hj).1)) (fun _ _ h => h)
  have hC : CurAt w1 b s i bad := R.at_.touch hT (by omega)
  refine ⟨hC, ⟨by omega, h2, by simp; omega, ?_, ?_, ?_, ?_⟩⟩
  · have := hC.set 1 (.int .i64 ((i : Int) + 2))
    exact this
  · rw [R.law, dloop_good s i h h32 h2 hx hy]
    simp
  · rw [show (out ++ [(Txt.half (s[i]'h) * 16 + Txt.half (s[i + 1]'h2)).toUInt8]).length = out.length + 1 by simp]
    have e : byteCells (out ++ [(Txt.half (s[i]'h) * 16 + Txt.half (s[i + 1]'h2)).toUInt8]) = byteCells out ++ [.int .u8 (IntKind.u8.wrap ((Txt.half (s[i]'h) : Int) * 16 + (Txt.half (s[i + 1]'h2) : Int)))] := by
      rw [byte_pair _ _ hx hy]; simp [byteCells]
    rw [e]
    exact hown.kept (row := some b) ⟨rfl, rfl, rfl, by simp [World.setCell], fun j _ hj => Below.heap_setCell _ _ _ _ (fun e => hj (by simp [e]))⟩ (Or.inr (own_apart hown hb))
  · exact (R.touch.trans' hT (fun j hj h => by omega)).setCell (S := (· = b)) (p := ⟨b, 1, none⟩) (fun _ => rfl) _

theorem cur_measure2 {s : ByteArray} {b i j : Nat} {bad bad' : Bool} {wr w2 : World} (C : CurAt wr b s i bad) (C2 : CurAt w2 b s j bad') (h : i < s.size) (hj : i < j) :
    s.size - (intOf ((w2.cell? ⟨b, 1, none⟩).getD (.int .i64 0))).toNat < s.size - (intOf ((wr.cell? ⟨b, 1, none⟩).getD (.int .i64 0))).toNat := by
  have e1 : w2.cell? ⟨b, 1, none⟩ = some (.int .i64 (j : Int)) := C2.cell 1
  have e2 : wr.cell? ⟨b, 1, none⟩ = some (.int .i64 (i : Int)) := C.cell 1
  rw [e1, e2]
  simp only [Option.getD_some, intOf]
  omega

theorem DatRel.mark {s : ByteArray} {b i0 i : Nat} {bad : Bool} {w wr : World} {v : Value} {out : List UInt8} {c : Txt.Cu} (R : DatRel s b i0 bad w i v out wr) (hb : b < w.heap.size) (hc : c = cur s i true) (n : Nat) :
    ((wr.drewN n).setCell ⟨b, 2, none⟩ (.bool true)).ownsRow w.heap.size 5 1 v out.length (byteCells out) ∧ CurTo s b w c ((wr.drewN n).setCell ⟨b, 2, none⟩ (.bool true)) :=
  ⟨(owns_drewN R.own n).kept (row := some b) ⟨rfl, rfl, rfl, by simp [World.setCell], fun j _ hj => Below.heap_setCell _ _ _ _ (fun e => hj (by simp [e]))⟩ (Or.inr (own_apart R.own hb)),
   ⟨i, true, R.hi, (R.at_.drewN n).set 2 _, hc, (R.touch.drewN n).setCell (S := (· = b)) (p := ⟨b, 2, none⟩) (fun _ => rfl) _⟩⟩
theorem DatRel.same {s : ByteArray} {b i0 i : Nat} {bad : Bool} {w wr : World} {v : Value} {out : List UInt8} {c : Txt.Cu} (R : DatRel s b i0 bad w i v out wr) (hc : c = cur s i bad) (n : Nat) :
    (wr.drewN n).ownsRow w.heap.size 5 1 v out.length (byteCells out) ∧ CurTo s b w c (wr.drewN n) :=
  ⟨owns_drewN R.own n, ⟨i, bad, R.hi, R.at_.drewN n, hc, R.touch.drewN n⟩⟩

set_option maxHeartbeats 8000000 in
set_option maxRecDepth 100000 in
theorem dataR_ (s : ByteArray) (b i0 : Nat) (bad : Bool) (w : World) (hs : s.size ≤ 1048576) (hi : i0 ≤ s.size) (C : CurAt w b s i0 bad) : Calls Tryz.prog 83 #[.pointer (some ⟨b, 0, none⟩)] w (Dated s b i0 bad w) := by
  have HC := Lib.hid C
  have HS := Lib.hid (sign_ s b i0 bad 45 w hs hi C)
  have hb := C.lt
  clear C
  obtain ⟨t0, hi0, hz0, hz1, hz2⟩ := info_parts infoR5
  go_enter Tryz.func83, Tryz.ntmps83
  go_wp2_with fail
  refine HS.out.mono ?_
  rintro e w1 ⟨rfl, C1⟩
  cases hsg : (Txt.sign 45 (cur s i0 bad)).1 with
  | true =>
    have HC1 := Lib.hid C1
    have HD := Lib.hid (show Txt.dataR (cur s i0 bad) = ([], (Txt.sign 45 (cur s i0 bad)).2) by unfold Txt.dataR; rw [if_pos hsg])
    clear C1 hsg
    go_wp2_with fail
    go_ret
    exact ⟨none, 0, 0, rfl, by rw [HD.out]; exact World.ownsRow_nil _ _ _ _, by rw [HD.out]; exact HC1.out⟩
  | false =>
    have hsame : (Txt.sign 45 (cur s i0 bad)).2 = cur s i0 bad := by
      unfold Txt.sign at hsg ⊢
      split
      · rfl
      · split
        · rename_i h1 h2
          rw [h1] at hsg
          simp only [if_pos h2] at hsg
          cases hsg
        · rfl
    rw [hsame] at C1
    obtain ⟨j, bad', hj, C2, hcc, T1⟩ := C1
    obtain ⟨rfl, rfl⟩ := cur_inj hi hj hcc
    have HR0 := Lib.hid (show DatRel s b i0 bad w i0 (.slice none 0 0) [] w1 from ⟨Nat.le_refl _, hi, by simp, C2, by simp, World.ownsRow_nil _ _ _ _, T1⟩)
    have HD := Lib.hid (show Txt.dataR (cur s i0 bad) = (if (Txt.dloop (s.data.toList.drop i0)).2.1 then ((Txt.dloop (s.data.toList.drop i0)).1, ⟨(Txt.dloop (s.data.toList.drop i0)).2.2, true⟩) else ((Txt.dloop (s.data.toList.drop i0)).1, ⟨(Txt.dloop (s.data.toList.drop i0)).2.2, bad || decide ((Txt.dloop (s.data.toList.drop i0)).1.length = 0) || decide (65536 < (Txt.dloop (s.data.toList.drop i0)).1.length)⟩)) by
      unfold Txt.dataR
      rw [hsg]
      rfl)
    have hc1 : w1.cell? ⟨b, 1, none⟩ = some (.int .i64 i0) := C2.cell 1
    clear hsame hcc hsg T1 C2
    go_wp2_with fail
    go_loopw [3] (fun v wr => ∃ i out, DatRel s b i0 bad w i v out wr) (fun _ wr => s.size - (intOf ((wr.cell? ⟨b, 1, none⟩).getD (.int .i64 0))).toNat)
    case atStart => exact ⟨i0, [], HR0.out⟩
    case round =>
      clear hc1
      obtain ⟨i, out, R⟩ := hrel
      have HR := Lib.hid R
      have c0 : wr.cell? ⟨b, 0, none⟩ = some (.string s) := R.at_.cell 0
      have c1 : wr.cell? ⟨b, 1, none⟩ = some (.int .i64 i) := R.at_.cell 1
      have c2 : wr.cell? ⟨b, 2, none⟩ = some (.bool bad) := R.at_.cell 2
      have f1 := R.at_.free 1
      have f2 := R.at_.free 2
      have hb2 := R.at_.lt
      have hi1 := R.hi
      have hlo := R.lo
      have hln := R.len
      clear R
      by_cases hlt : i < s.size
      · have hd0 : decide (i < s.size) = true := by simp; omega
        by_cases h32 : s[i]'hlt = 32
        · have HB := Lib.hid (dloop_blank s i hlt h32)
          have hx1 : ((((s[i]'hlt).toNat : Nat) : Int) != 32) = false := by rw [h32]; rfl
          clear h32
          obtain ⟨dp, dc, rfl⟩ := owns_form HR.out.own
          have HDO := Lib.hid (show Txt.dataR (cur s i0 bad) = (out, cur s i (bad || decide (out.length = 0) || decide (65536 < out.length))) by rw [HD.out, HR.out.law, HB.out]; simp [cur])
          rcases Nat.eq_zero_or_pos out.length with hz | hz
          · have HX := Lib.hid (show Txt.dataR (cur s i0 bad) = (out, cur s i true) by rw [HDO.out, hz]; simp)
            have e1 : (out.length == 0) = true := by rw [hz]; rfl
            have e2 : ((out.length : Int) == 0) = true := by rw [hz]; rfl
            clear hln hz
            go_wp2_with fail
            go_quiet (fail)
            go_wp2_with fail
            go_ret
            exact ⟨dp, out.length, dc, rfl, by rw [HX.out]; exact (HR.out.mark hb rfl _).1, by rw [HX.out]; exact (HR.out.mark hb rfl _).2⟩
          · have e1 : (out.length == 0) = false := by rw [beq_eq_false_iff_ne]; omega
            have e2 : ((out.length : Int) == 0) = false := by rw [beq_eq_false_iff_ne]; omega
            by_cases hbig : 65536 < out.length
            · have HX := Lib.hid (show Txt.dataR (cur s i0 bad) = (out, cur s i true) by rw [HDO.out]; simp [hbig])
              have e3 : (65536 : Int) < (out.length : Int) := by omega
              clear hbig hln hz
              go_wp2_with fail
              go_quiet (fail)
              go_wp2_with fail
              go_ret
              exact ⟨dp, out.length, dc, rfl, by rw [HX.out]; exact (HR.out.mark hb rfl _).1, by rw [HX.out]; exact (HR.out.mark hb rfl _).2⟩
            · have HX := Lib.hid (show Txt.dataR (cur s i0 bad) = (out, cur s i bad) by rw [HDO.out, (by rw [decide_eq_false_iff_not]; omega : decide (out.length = 0) = false), (by rw [decide_eq_false_iff_not]; omega : decide (65536 < out.length) = false), Bool.or_false, Bool.or_false])
              have e3 : (out.length : Int) ≤ 65536 := by omega
              clear hbig hln hz
              go_wp2_with fail
              go_quiet (fail)
              go_wp2_with fail
              go_ret
              exact ⟨dp, out.length, dc, rfl, by rw [HX.out]; exact (HR.out.same rfl _).1, by rw [HX.out]; exact (HR.out.same rfl _).2⟩
        · have hx1 : ((((s[i]'hlt).toNat : Nat) : Int) != 32) = true := by have h : ((((s[i]'hlt).toNat : Nat) : Int) == 32) = false := u8_ne h32; rw [bne, h]; rfl
          have hw1 : IntKind.i64.wrap ((i : Int) + 1) = (i : Int) + 1 := IntWalk.i64_in _ (by omega)
          by_cases hl2 : i + 1 < s.size
          · have hd1 : decide ((s.size : Int) ≤ (i : Int) + 1) = false := by simp; omega
            have q2 : ((i : Int) + 1).toNat < s.size := by omega
            have p1 : (0 : Int) ≤ (i : Int) + 1 := by omega
            have p2 : (i : Int) + 1 < (s.size : Int) := by omega
            by_cases ha : Txt.half (s[i]'hlt) = 16
            · have HB := Lib.hid (dloop_bad s i hlt h32 hl2 (.inl ha))
              have HDO := Lib.hid (show Txt.dataR (cur s i0 bad) = (out, cur s i true) by rw [HD.out, HR.out.law, HB.out]; simp [cur])
              obtain ⟨dp, dc, rfl⟩ := owns_form HR.out.own
              have t1 : ((Txt.half (s[i]'hlt) : Int) == 16) = true := by rw [ha]; rfl
              clear h32 ha
              go_wp2_with fail
              go_quiet (fail)
              go_wp2_with fail
              go_quiet ((go_at_call 128; exact quiet_behind (halfR_ _ _)))
              go_wp2_with fail
              go_ret
              exact ⟨dp, out.length, dc, rfl, by rw [HDO.out]; exact (HR.out.mark hb rfl _).1, by rw [HDO.out]; exact (HR.out.mark hb rfl _).2⟩
            · by_cases hb16 : Txt.half (s[i + 1]'hl2) = 16
              · have HB := Lib.hid (dloop_bad s i hlt h32 hl2 (.inr hb16))
                have HDO := Lib.hid (show Txt.dataR (cur s i0 bad) = (out, cur s i true) by rw [HD.out, HR.out.law, HB.out]; simp [cur])
                obtain ⟨dp, dc, rfl⟩ := owns_form HR.out.own
                have t1 : ((Txt.half (s[i]'hlt) : Int) == 16) = false := by rw [beq_eq_false_iff_ne]; omega
                have t2 : ((Txt.half (s[i + 1]'hl2) : Int) == 16) = true := by rw [hb16]; rfl
                clear h32 ha hb16
                go_wp2_with fail
                go_quiet (fail)
                go_wp2_with fail
                go_quiet ((go_at_call 128; exact quiet_behind (halfR_ _ _)))
                go_wp2_with fail
                go_ret
                exact ⟨dp, out.length, dc, rfl, by rw [HDO.out]; exact (HR.out.mark hb rfl _).1, by rw [HDO.out]; exact (HR.out.mark hb rfl _).2⟩
              · have hla := half_le (s[i]'hlt)
                have hlb := half_le (s[i + 1]'hl2)
                have t1 : ((Txt.half (s[i]'hlt) : Int) == 16) = false := by rw [beq_eq_false_iff_ne]; omega
                have t2 : ((Txt.half (s[i + 1]'hl2) : Int) == 16) = false := by rw [beq_eq_false_iff_ne]; omega
                have m1 : IntKind.i64.wrap ((Txt.half (s[i]'hlt) : Int) * 16) = (Txt.half (s[i]'hlt) : Int) * 16 := IntWalk.i64_in _ (by omega)
                have m2 : IntKind.i64.wrap ((Txt.half (s[i]'hlt) : Int) * 16 + (Txt.half (s[i + 1]'hl2) : Int)) = (Txt.half (s[i]'hlt) : Int) * 16 + (Txt.half (s[i + 1]'hl2) : Int) := IntWalk.i64_in _ (by omega)
                have HM := Lib.hid (fun v' w1 k o => HR.out.more (w1 := w1) (v' := v') (k := k) (o := o) hlt h32 hl2 ha hb16 hb)
                clear h32 ha hb16 hla hlb
                go_wp2_with fail
                go_quiet (fail)
                go_wp2_with fail
                go_quiet ((go_at_call 128; exact quiet_behind (halfR_ _ _)))
                go_wp2_with fail
                have HOW := Lib.hid HR.out.own
                have HNB := Lib.hid (own_apart HR.out.own hb)
                have hsz : w.heap.size ≤ wr.heap.size := HR.out.touch.size
                go_region_held3 (fun w' => w'.cell? ⟨b, 0, none⟩ = some (.string s) ∧ w'.cell? ⟨b, 1, none⟩ = some (.int .i64 i)) (first | go_keep | (refine ⟨(hgrow.cell_far _ (by simp; omega) (Ne.symm HNB.out)).trans (by simp [*]), (hgrow.cell_far _ (by simp; omega) (Ne.symm HNB.out)).trans (by simp [*])⟩)) (first | (go_at_call 128; refine (halfQ_ _ _).mono ?_; rintro e w' ⟨rfl, rfl⟩) | (refine step_append_lies _ (by rfl) _ _ _ (by rfl) w.heap.size 5 t0 _ 1 1 Tryz.underlying34 hi0 hz0 hz1 hz2 rfl (by omega) u3 out.length (byteCells out) (by rfl) (((owns_drewN HOW.out _).alloc _).drew) ⟨wr.heap.size, 0, none⟩ 1 1 [.int .u8 _] (by rfl) (by rfl) (World.news_of_block (cs := #[.int .u8 _]) (t := 5) (fr := (0, 0)) (heap_alloc_new _ _)) (by simp [Value.oneCell']) (by omega) (by unfold maxLen; omega) (by omega) (by simp; omega) (wr.heap.size + 1) (by simp) ?_; intro gg cap w1 hown1 hgrow hat hlt))
                all_goals
                  obtain ⟨hC1, hR1⟩ := HM.out _ _ _ _ hown1 hgrow
                  have HR1 := Lib.hid hR1
                  have f1' := hC1.free 1
                  have c1' : w1.cell? ⟨b, 1, none⟩ = some (.int .i64 i) := hC1.cell 1
                  clear hR1 hC1 hown1 hgrow hat
                  go_wp2_with fail
                  exact ⟨⟨i + 2, _, HR1.out⟩, cur_measure2 HR.out.at_ HR1.out.at_ (by assumption) (by omega)⟩
          · have HB := Lib.hid (dloop_last s i hlt h32 (by omega))
            have hd1 : decide ((s.size : Int) ≤ (i : Int) + 1) = true := by simp; omega
            have HDO := Lib.hid (show Txt.dataR (cur s i0 bad) = (out, cur s i true) by rw [HD.out, HR.out.law, HB.out]; simp [cur])
            obtain ⟨dp, dc, rfl⟩ := owns_form HR.out.own
            clear h32
            go_wp2_with fail
            go_quiet (fail)
            go_wp2_with fail
            go_quiet (fail)
            go_wp2_with fail
            go_ret
            exact ⟨dp, out.length, dc, rfl, by rw [HDO.out]; exact (HR.out.mark hb rfl _).1, by rw [HDO.out]; exact (HR.out.mark hb rfl _).2⟩
      · have hd0 : decide (i < s.size) = false := by simp; omega
        have HB := Lib.hid (dloop_end s i (by omega))
        obtain ⟨dp, dc, rfl⟩ := owns_form HR.out.own
        have HDO := Lib.hid (show Txt.dataR (cur s i0 bad) = (out, cur s i (bad || decide (out.length = 0) || decide (65536 < out.length))) by rw [HD.out, HR.out.law, HB.out]; simp [cur])
        rcases Nat.eq_zero_or_pos out.length with hz | hz
        · have HX := Lib.hid (show Txt.dataR (cur s i0 bad) = (out, cur s i true) by rw [HDO.out, hz]; simp)
          have e1 : (out.length == 0) = true := by rw [hz]; rfl
          have e2 : ((out.length : Int) == 0) = true := by rw [hz]; rfl
          clear hln hz
          go_wp2_with fail
          go_quiet (fail)
          go_wp2_with fail
          go_ret
          exact ⟨dp, out.length, dc, rfl, by rw [HX.out]; exact (HR.out.mark hb rfl _).1, by rw [HX.out]; exact (HR.out.mark hb rfl _).2⟩
        · have e1 : (out.length == 0) = false := by rw [beq_eq_false_iff_ne]; omega
          have e2 : ((out.length : Int) == 0) = false := by rw [beq_eq_false_iff_ne]; omega
          by_cases hbig : 65536 < out.length
          · have HX := Lib.hid (show Txt.dataR (cur s i0 bad) = (out, cur s i true) by rw [HDO.out]; simp [hbig])
            have e3 : (65536 : Int) < (out.length : Int) := by omega
            clear hbig hln hz
            go_wp2_with fail
            go_quiet (fail)
            go_wp2_with fail
            go_ret
            exact ⟨dp, out.length, dc, rfl, by rw [HX.out]; exact (HR.out.mark hb rfl _).1, by rw [HX.out]; exact (HR.out.mark hb rfl _).2⟩
          · have HX := Lib.hid (show Txt.dataR (cur s i0 bad) = (out, cur s i bad) by rw [HDO.out, (by rw [decide_eq_false_iff_not]; omega : decide (out.length = 0) = false), (by rw [decide_eq_false_iff_not]; omega : decide (65536 < out.length) = false), Bool.or_false, Bool.or_false])
            have e3 : (out.length : Int) ≤ 65536 := by omega
            clear hbig hln hz
            go_wp2_with fail
            go_quiet (fail)
            go_wp2_with fail
            go_ret
            exact ⟨dp, out.length, dc, rfl, by rw [HX.out]; exact (HR.out.same rfl _).1, by rw [HX.out]; exact (HR.out.same rfl _).2⟩

end Go.Proofs.YtnjcmcnjgdjbiaaGreatDoor
