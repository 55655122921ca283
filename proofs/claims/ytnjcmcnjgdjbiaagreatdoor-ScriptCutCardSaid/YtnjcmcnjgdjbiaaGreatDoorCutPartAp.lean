/- The walk of script.line: one line of a script. Conditions: as each theorem states. -/
import Derived.Test.YtnjcmcnjgdjbiaaGreatDoorCutPartAn
import Derived.Test.YtnjcmcnjgdjbiaaGreatDoorCutPartAo
import Derived.Test.YtnjcmcnjgdjbiaaGreatDoorCutPartAm
import Derived.Deep.AppendLies
set_option maxRecDepth 100000
set_option maxHeartbeats 8000000
namespace Go.Proofs.YtnjcmcnjgdjbiaaGreatDoor
open Go.RowKit
def CallV.zero : CallV := ⟨0, 0, 0, 0, 0, false, none, 0, 0⟩
structure LineRel (w : World) (ws : List (List UInt8)) (gs gf : Nat) (head : List UInt8) (k : Nat) (wr : World) : Prop where
 blk : Blk wr w.heap.size 43 CallV.zero.cells
 strs : Strs wr gs ws (some ⟨gs, 0, none⟩) ws.length
 forms : Blk wr gf 148 formCells.toList
 none_ : ∀ j, j < k → opWord j ≠ head
 touch : Touch Nothing w wr
 lt : w.heap.size < gs ∧ gs < wr.heap.size
def Lined (s : ByteArray) (w : World) (e : Ending) (w' : World) : Prop :=
 ∃ c : CallV, e = .returned (.tuple #[c.val, .bool (Txt.lineW s.data.toList).isSome]) ∧ (∀ x, Txt.lineW s.data.toList = some x → CallIs w' w.heap.size c x) ∧ Touch Nothing w w'
theorem splitC_len (c : UInt8) (s : List UInt8) : (Txt.splitC c s).length ≤ s.length + 1 := by
 induction s with
 | nil => simp [Txt.splitC]
 | cons y s ih =>
  unfold Txt.splitC
  split
  ·simp; omega
  ·split
   ·simp
   ·rename_i he
    rw [he] at ih
    simp at ih ⊢
    omega
theorem idx_first (w : List UInt8) (l : List (List UInt8)) : ∀ k, k < l.length → l.getD k [] = w → (∀ j, j < k → l.getD j [] ≠ w) → Txt.idx w l = some k := by
 induction l with
 | nil => intro k h; simp at h
 | cons v l ih =>
  intro k hk he hn
  unfold Txt.idx
  cases k with
  | zero => rw [if_pos (by simpa using he)]
  | succ k =>
   rw [if_neg (by simpa using hn 0 (by omega)), ih k (by simpa using hk) (by simpa using he) (fun j hj => by simpa using hn (j + 1) (by omega))]
   rfl
theorem idx_no (w : List UInt8) (l : List (List UInt8)) : (∀ j, j < l.length → l.getD j [] ≠ w) → Txt.idx w l = none := by
 induction l with
 | nil => intro _; rfl
 | cons v l ih =>
  intro h
  unfold Txt.idx
  rw [if_neg (by simpa using h 0 (by simp)), ih (fun j hj => by simpa using h (j + 1) (by simpa using hj))]
  rfl
theorem LineRel.still {w wr w' : World} {ws : List (List UInt8)} {gs gf k : Nat} {head : List UInt8} (R : LineRel w ws gs gf head k wr) (T : Touch Nothing wr w') : LineRel w ws gs gf head k w' :=
 ⟨R.blk.touch T (fun h => h), R.strs.touch T (fun h => h), R.forms.touch T (fun h => h), R.none_, R.touch.trans T, ⟨R.lt.1, Nat.lt_of_lt_of_le R.lt.2 T.size⟩⟩
theorem LineRel.next {w wr : World} {ws : List (List UInt8)} {gs gf k : Nat} {head : List UInt8} (R : LineRel w ws gs gf head k wr) (h : opWord k ≠ head) : LineRel w ws gs gf head (k + 1) wr :=
 ⟨R.blk, R.strs, R.forms, fun j hj => if e : j = k then e ▸ h else R.none_ j (by omega), R.touch, R.lt⟩
theorem line_no {s : ByteArray} {head : List UInt8} {rest : List (List UInt8)} (hW : head :: rest = Txt.splitC 32 s.data.toList) (h : ∀ j, j < 14 → opWord j ≠ head) : Txt.lineW s.data.toList = none := by
 unfold Txt.lineW
 rw [← hW]
 simp only [Txt.lineWs]
 rw [idx_no head Txt.opWords h]
theorem line_at {s : ByteArray} {head : List UInt8} {rest : List (List UInt8)} (hW : head :: rest = Txt.splitC 32 s.data.toList) {k : Nat} (hk : k < 14) (he : opWord k = head) (h : ∀ j, j < k → opWord j ≠ head) :
  Txt.lineW s.data.toList = if (formAt k).refused && rest.getLast? == some [33] then Txt.fieldsW { Txt.Cd.none (k + 1) with deny := true } (formAt k) rest.dropLast else Txt.fieldsW (Txt.Cd.none (k + 1)) (formAt k) rest := by
 unfold Txt.lineW
 rw [← hW]
 simp only [Txt.lineWs]
 rw [idx_first head Txt.opWords k hk he h]
 rfl
theorem form_le (k : Nat) : (formAt k).numbers ≤ 2 := by
 by_cases h : k < 14
 ·have : ∀ k : Fin 14, (formAt k.val).numbers ≤ 2 := by decide +kernel
  exact this ⟨k, h⟩
 ·unfold formAt
  rw [List.getD_eq_getElem?_getD, List.getElem?_eq_none (by show 14 ≤ k; omega)]
  decide
def LineCall (w : World) (x : Txt.Cd) (f : Txt.Form) (ws : List (List UInt8)) (e : Ending) (w' : World) : Prop :=
 e = .returned (.bool (Txt.fieldsW x f ws).isSome) ∧ (∃ c', Blk w' w.heap.size 43 c'.cells ∧ ∀ x', Txt.fieldsW x f ws = some x' → CallIs w' (w.heap.size + 1) c' x') ∧ Touch Nothing w w'
def lineX (k : Nat) (deny : Bool) : Txt.Cd := { Txt.Cd.none (k + 1) with deny := deny }
def lineSet (w w3 : World) (k : Nat) : World := w3.setCell ⟨w.heap.size, 0, none⟩ (.int .i64 (1 + (k : Int)))
theorem line_fields {w w3 : World} {gs gf k0 : Nat} {head : List UInt8} {W : List (List UInt8)} (R : LineRel w W gs gf head k0 w3) (G : Glob w) (k : Nat) (ws : List (List UInt8)) (p : Option Addr) (nc : Nat) (hst : Strs w3 gs ws p nc)
  (hsm : ∀ x ∈ ws, x.length ≤ 1048576) (w4 : World) (deny : Bool) (hw4 : w4 = if deny then (lineSet w w3 k).setCell ⟨w.heap.size, 5, none⟩ (.bool true) else lineSet w w3 k) (fr : Bool) (hfr : (formAt k).refused = fr) :
  Calls Tryz.prog 77 #[.pointer (some ⟨w.heap.size, 0, none⟩), .agg #[.string ⟨(opWord k).toArray⟩, .bool (formAt k).address, .int .i64 (formAt k).numbers, .bool (formAt k).data, .bool fr], .slice p ws.length nc] w4 (LineCall w (lineX k deny) (formAt k) ws) := by
 unfold lineX
 subst hfr
 have T1 := Touch.cellAt w3 w.heap.size 0 (.int .i64 (1 + (k : Int)))
 have B1 := R.blk.set 0 (.int .i64 (1 + (k : Int)))
 have hx : Touch (· = w.heap.size) w3 w4 ∧ Blk w4 w.heap.size 43 ({ CallV.zero with op := 1 + (k : Int), deny := deny } : CallV).cells := by
  cases deny with
  | false => rw [hw4]; exact ⟨T1, B1⟩
  | true => rw [hw4]; exact ⟨T1.trans (Touch.cellAt (lineSet w w3 k) w.heap.size 5 (.bool true)), B1.set 5 (.bool true)⟩
 obtain ⟨T, B⟩ := hx
 have T0 : Touch Nothing w w4 := R.touch.trans' T (fun i hi h => by omega)
 have h9 := G.size
 have hl := R.lt
 have hs4 := T.size
 have hb4 := B.lt
 refine (fields_ w4 w.heap.size gs ⟨(opWord k).toArray⟩ (formAt k) { Txt.Cd.none (k + 1) with deny := deny } { CallV.zero with op := 1 + (k : Int), deny := deny } ws p nc (form_le k) B
  ⟨by simp [Txt.Cd.none]; omega, rfl, rfl, rfl, rfl, rfl, World.ownsRow_nil _ _ _ _⟩ (hst.touch T (by omega)) (by omega) (by omega) (by omega) hsm (G.touch0 T0)).mono ?_
 rintro e w5 ⟨he, ⟨c', h1, h2⟩, h3⟩
 exact ⟨he, ⟨c', h1, fun x' hx => by
  have := h2 x' hx
  exact ⟨this.op, this.ref, this.p, this.a, this.b, this.deny, owns_lower this.own (by omega)⟩⟩, T0.trans' h3 (fun i hi h => by omega)⟩
def laidC (w : World) (b : Nat) (c : CallV) : World :=
 ((((((w.setCell ⟨b, 0, none⟩ (.int .i64 c.op)).setCell ⟨b, 1, none⟩ (.int .i64 c.ref)).setCell ⟨b, 2, none⟩ (.int .u64 c.p)).setCell ⟨b, 3, none⟩ (.int .u64 c.a)).setCell ⟨b, 4, none⟩ (.int .u64 c.b)).setCell ⟨b, 5, none⟩ (.bool c.deny)).setCell ⟨b, 6, none⟩ (.slice c.dp c.dn c.dc)
theorem laidC_touch (w : World) (b : Nat) (c : CallV) : Touch (· = b) w (laidC w b c) :=
 ((((((Touch.cellAt w b 0 _).trans (Touch.cellAt _ b 1 _)).trans (Touch.cellAt _ b 2 _)).trans (Touch.cellAt _ b 3 _)).trans (Touch.cellAt _ b 4 _)).trans (Touch.cellAt _ b 5 _)).trans (Touch.cellAt _ b 6 _)
theorem laidC_blk {w : World} {b : Nat} {c0 : CallV} (h : Blk w b 43 c0.cells) (c : CallV) : Blk (laidC w b c) b 43 c.cells :=
 ((((((h.set 0 _).set 1 _).set 2 _).set 3 _).set 4 _).set 5 _).set 6 _
theorem line_ (s : ByteArray) (w : World) (hs : s.size ≤ 1048576) (G : Glob w) : Calls Tryz.prog 33 #[.string s] w (Lined s w) := by
 have T0 : Touch Nothing w (w.alloc (.cells #[.int .i64 0, .int .i64 0, .int .u64 0, .int .u64 0, .int .u64 0, .bool false, .slice none 0 0] 43)) := (Touch.refl _ _).alloc _
 have B0 := Blk.new w #[.int .i64 0, .int .i64 0, .int .u64 0, .int .u64 0, .int .u64 0, .bool false, .slice none 0 0] 43
 have hz0 : (w.alloc (.cells #[.int .i64 0, .int .i64 0, .int .u64 0, .int .u64 0, .int .u64 0, .bool false, .slice none 0 0] 43)).heap.size = w.heap.size + 1 := by simp
 have HSP := Hd (split_ 32 s (w.alloc (.cells #[.int .i64 0, .int .i64 0, .int .u64 0, .int .u64 0, .int .u64 0, .bool false, .slice none 0 0] 43)) hs (G.touch0 T0))
 obtain ⟨W, hW⟩ : ∃ W, W = Txt.splitC 32 s.data.toList := ⟨_, rfl⟩
 have HW := Hd hW
 have hne : W ≠ [] := by rw [hW]; exact splitC_ne 32 _
 clear hW
 have HT0 := Hd T0
 have HB0 := Hd B0
 have HZ0 := Hd hz0
 clear T0 B0 hz0
 obtain ⟨head, rest, rfl⟩ : ∃ h r, W = h :: r := by
  cases W with
  | nil => exact absurd rfl hne
  | cons h r => exact ⟨h, r, rfl⟩
 clear hne
 go_enter Tryz.func33, Tryz.ntmps33
 go_wp2_with fail
 refine HSP.out.mono ?_
 rintro e w1 h1
 unfold Parted at h1
 rw [← HW.out] at h1
 obtain ⟨gs, hgs, rfl, hst, hlt, T1⟩ := h1
 have HS1 := Hd hst
 have HT1 := Hd (HT0.out.trans T1)
 have HB1 := Hd (HB0.out.touch T1 (fun h => h))
 have HL1 := Hd (And.intro (show w.heap.size < gs by have := HZ0.out; omega) hlt)
 clear hst T1 HB0 hgs hlt HT0 HZ0
 go_wp2_with fail
 refine (forms_ w1).mono ?_
 rintro e w2 ⟨gf, hgf, rfl, hB, T2⟩
 have hR : LineRel w (head :: rest) gs gf head 0 w2 := ⟨HB1.out.touch T2 (fun h => h), HS1.out.touch T2 (fun h => h), hB, fun j hj => absurd hj (by omega), HT1.out.trans T2, ⟨HL1.out.1, Nat.lt_of_lt_of_le HL1.out.2 T2.size⟩⟩
 have HR := Hd hR
 clear hR HB1 HS1 HT1 T2 hgf hB
 go_wp2_with fail
 go_loopw [4, 13] (fun v a wr => ∃ k : Nat, k ≤ 14 ∧ a = .int .i64 k ∧ v = .slice (some ⟨gs, 0, none⟩) (rest.length + 1) (rest.length + 1) ∧ LineRel w (head :: rest) gs gf head k wr) (fun _ a _ => 14 - (intOf a).toNat)
 case atStart => exact ⟨0, by omega, rfl, rfl, HR.out⟩
 case round =>
  obtain ⟨k, hk, rfl, rfl, hR⟩ := hrel
  clear HR
  have HR := Hd hR
  clear hR
  by_cases hlt : k < 14
  ·have f0 : wr.cell? ⟨gf, k * 5, none⟩ = some (.string ⟨(opWord k).toArray⟩) := form_cell HR.out.forms k hlt 0 (by omega)
   have f1 : wr.cell? ⟨gf, k * 5 + 1, none⟩ = some (.bool (formAt k).address) := form_cell HR.out.forms k hlt 1 (by omega)
   have f2 : wr.cell? ⟨gf, k * 5 + 2, none⟩ = some (.int .i64 (formAt k).numbers) := form_cell HR.out.forms k hlt 2 (by omega)
   have f3 : wr.cell? ⟨gf, k * 5 + 3, none⟩ = some (.bool (formAt k).data) := form_cell HR.out.forms k hlt 3 (by omega)
   have f4 : wr.cell? ⟨gf, k * 5 + 4, none⟩ = some (.bool (formAt k).refused) := form_cell HR.out.forms k hlt 4 (by omega)
   have hpos : (0 : Int) < ((rest.length + 1 : Nat) : Int) := by omega
   have hpos' : (0 : Int) < (rest.length : Int) + 1 := by omega
   have hgs := HR.out.lt.2
   have hlw := HR.out.blk.lt
   have hg0 : wr.cell? ⟨gs, 0, none⟩ = some (.string ⟨head.toArray⟩) := by
    obtain ⟨off, h1, h2⟩ := HR.out.strs.2 (by simp)
    cases h1
    exact h2 0 head rfl
   go_wp2_with fail
   go_quiet (fail)
   have hT3 : Touch Nothing wr ((wr.alloc (.cells #[.string ⟨(opWord k).toArray⟩, .bool (formAt k).address, .int .i64 (formAt k).numbers, .bool (formAt k).data, .bool (formAt k).refused] 148)).drewN nq) := ((Touch.refl _ _).alloc _).drewN nq
   have hB6 := (Blk.new wr #[.string ⟨(opWord k).toArray⟩, .bool (formAt k).address, .int .i64 (formAt k).numbers, .bool (formAt k).data, .bool (formAt k).refused] 148).drewN nq
   generalize (wr.alloc (.cells #[.string ⟨(opWord k).toArray⟩, .bool (formAt k).address, .int .i64 (formAt k).numbers, .bool (formAt k).data, .bool (formAt k).refused] 148)).drewN nq = w3 at *
   have HR3 := Hd (HR.out.still hT3)
   have HB6 := Hd hB6
   clear hT3 hB6 f0 f1 f2 f3 f4 hg0
   by_cases he : opWord k = head
   ·have hbe : (opWord k == head) = true := by rw [he]; simp
    rw [hbe, Bool.not_true]
    clear hbe
    have HE := Hd he
    clear he
    have z0 : w3.cell? ⟨w.heap.size, 0, none⟩ = some (.int .i64 0) := HR3.out.blk.cell 0
    have y0 := HR3.out.blk.free 0
    have hb0 : w3.cell? ⟨wr.heap.size, 0, none⟩ = some (.string ⟨(opWord k).toArray⟩) := HB6.out.cell 0
    have hb1 : w3.cell? ⟨wr.heap.size, 1, none⟩ = some (.bool (formAt k).address) := HB6.out.cell 1
    have hb2 : w3.cell? ⟨wr.heap.size, 2, none⟩ = some (.int .i64 (formAt k).numbers) := HB6.out.cell 2
    have hb3 : w3.cell? ⟨wr.heap.size, 3, none⟩ = some (.bool (formAt k).data) := HB6.out.cell 3
    have hb4 : w3.cell? ⟨wr.heap.size, 4, none⟩ = some (.bool (formAt k).refused) := HB6.out.cell 4
    have hk64 : k < 9223372036854775806 := by omega
    have hws : ∀ x ∈ head :: rest, x.length ≤ 1048576 := fun x hx => by
     rw [HW.out] at hx
     have := splitC_le 32 _ x hx
     rw [Array.length_toList] at this
     exact Nat.le_trans this hs
    have hrl : rest.length ≤ 1048577 := by
     have h1 := splitC_len 32 s.data.toList
     rw [← HW.out, Array.length_toList] at h1
     have h2 : s.data.size = s.size := rfl
     simp at h1
     omega
    have HWS := Hd hws
    clear hws
    obtain ⟨fr, hfr⟩ : ∃ fr, (formAt k).refused = fr := ⟨_, rfl⟩
    rw [hfr] at hb4
    have HFR := Hd hfr
    clear hfr
    cases rest with
    | nil =>
     have HLW := Hd (show Txt.lineW s.data.toList = Txt.fieldsW (lineX k false) (formAt k) [] by rw [line_at HW.out hlt HE.out HR3.out.none_]; simp; rfl)
     have HF := Hd (fun w4 h => line_fields HR3.out G k [] (some ⟨gs, 0, none⟩) 0 (.nil _ _ _ _) (by simp) w4 false h fr HFR.out)
     cases fr with
     | false =>
      go_wp2_with fail
      refine (HF.out _ rfl).mono ?_
      rintro e w5 ⟨rfl, ⟨c', hB5, hci⟩, hT5⟩
      obtain ⟨cop, cref, cp, ca, cb, cd, cdp, cdn, cdc⟩ := c'
      have z0 : w5.cell? ⟨w.heap.size, 0, none⟩ = some (.int .i64 cop) := hB5.cell 0
      have z1 : w5.cell? ⟨w.heap.size, 1, none⟩ = some (.int .i64 cref) := hB5.cell 1
      have z2 : w5.cell? ⟨w.heap.size, 2, none⟩ = some (.int .u64 cp) := hB5.cell 2
      have z3 : w5.cell? ⟨w.heap.size, 3, none⟩ = some (.int .u64 ca) := hB5.cell 3
      have z4 : w5.cell? ⟨w.heap.size, 4, none⟩ = some (.int .u64 cb) := hB5.cell 4
      have z5 : w5.cell? ⟨w.heap.size, 5, none⟩ = some (.bool cd) := hB5.cell 5
      have z6 : w5.cell? ⟨w.heap.size, 6, none⟩ = some (.slice cdp cdn cdc) := hB5.cell 6
      have y0 := hB5.free 0
      have y1 := hB5.free 1
      have y2 := hB5.free 2
      have y3 := hB5.free 3
      have y4 := hB5.free 4
      have y5 := hB5.free 5
      have y6 := hB5.free 6
      have HB5 := Hd (laidC_blk hB5 ⟨cop, cref, cp, ca, cb, cd, cdp, cdn, cdc⟩)
      have HTL := Hd (laidC_touch w5 w.heap.size ⟨cop, cref, cp, ca, cb, cd, cdp, cdn, cdc⟩)
      have HCI := Hd hci
      have HT5 := Hd hT5
      clear hB5 hci hT5
      unfold laidC at *
      go_wp2_with fail
      have x0 := HB5.out.cell 0
      have x1 := HB5.out.cell 1
      have x2 := HB5.out.cell 2
      have x3 := HB5.out.cell 3
      have x4 := HB5.out.cell 4
      have x5 := HB5.out.cell 5
      have x6 := HB5.out.cell 6
      simp [CallV.cells] at x0 x1 x2 x3 x4 x5 x6
      rw [← HLW.out]
      exact bodyPost_ret (v := .tuple #[.agg #[.int .i64 cop, .int .i64 cref, .int .u64 cp, .int .u64 ca, .int .u64 cb, .bool cd, .slice cdp cdn cdc], .bool (Txt.lineW s.data.toList).isSome]) (by simp [results, Tryz.results33, go_sem, x0, x1, x2, x3, x4, x5, x6]) rfl
       ⟨⟨cop, cref, cp, ca, cb, cd, cdp, cdn, cdc⟩, rfl, fun x hx => by
        rw [HLW.out] at hx
        have hc := (HCI.out x hx).touch HTL.out (fun i h1 _ h => by omega)
        exact ⟨hc.op, hc.ref, hc.p, hc.a, hc.b, hc.deny, owns_lower hc.own (by omega)⟩, HT5.out.trans' HTL.out (fun i hi h => by omega)⟩
     | true =>
      go_wp2_with fail
      refine (HF.out _ rfl).mono ?_
      rintro e w5 ⟨rfl, ⟨c', hB5, hci⟩, hT5⟩
      obtain ⟨cop, cref, cp, ca, cb, cd, cdp, cdn, cdc⟩ := c'
      have z0 : w5.cell? ⟨w.heap.size, 0, none⟩ = some (.int .i64 cop) := hB5.cell 0
      have z1 : w5.cell? ⟨w.heap.size, 1, none⟩ = some (.int .i64 cref) := hB5.cell 1
      have z2 : w5.cell? ⟨w.heap.size, 2, none⟩ = some (.int .u64 cp) := hB5.cell 2
      have z3 : w5.cell? ⟨w.heap.size, 3, none⟩ = some (.int .u64 ca) := hB5.cell 3
      have z4 : w5.cell? ⟨w.heap.size, 4, none⟩ = some (.int .u64 cb) := hB5.cell 4
      have z5 : w5.cell? ⟨w.heap.size, 5, none⟩ = some (.bool cd) := hB5.cell 5
      have z6 : w5.cell? ⟨w.heap.size, 6, none⟩ = some (.slice cdp cdn cdc) := hB5.cell 6
      have y0 := hB5.free 0
      have y1 := hB5.free 1
      have y2 := hB5.free 2
      have y3 := hB5.free 3
      have y4 := hB5.free 4
      have y5 := hB5.free 5
      have y6 := hB5.free 6
      have HB5 := Hd (laidC_blk hB5 ⟨cop, cref, cp, ca, cb, cd, cdp, cdn, cdc⟩)
      have HTL := Hd (laidC_touch w5 w.heap.size ⟨cop, cref, cp, ca, cb, cd, cdp, cdn, cdc⟩)
      have HCI := Hd hci
      have HT5 := Hd hT5
      clear hB5 hci hT5
      unfold laidC at *
      go_wp2_with fail
      have x0 := HB5.out.cell 0
      have x1 := HB5.out.cell 1
      have x2 := HB5.out.cell 2
      have x3 := HB5.out.cell 3
      have x4 := HB5.out.cell 4
      have x5 := HB5.out.cell 5
      have x6 := HB5.out.cell 6
      simp [CallV.cells] at x0 x1 x2 x3 x4 x5 x6
      rw [← HLW.out]
      exact bodyPost_ret (v := .tuple #[.agg #[.int .i64 cop, .int .i64 cref, .int .u64 cp, .int .u64 ca, .int .u64 cb, .bool cd, .slice cdp cdn cdc], .bool (Txt.lineW s.data.toList).isSome]) (by simp [results, Tryz.results33, go_sem, x0, x1, x2, x3, x4, x5, x6]) rfl
       ⟨⟨cop, cref, cp, ca, cb, cd, cdp, cdn, cdc⟩, rfl, fun x hx => by
        rw [HLW.out] at hx
        have hc := (HCI.out x hx).touch HTL.out (fun i h1 _ h => by omega)
        exact ⟨hc.op, hc.ref, hc.p, hc.a, hc.b, hc.deny, owns_lower hc.own (by omega)⟩, HT5.out.trans' HTL.out (fun i hi h => by omega)⟩
    | cons r rs =>
     obtain ⟨init, last, hla⟩ : ∃ init last, r :: rs = init ++ [last] := ⟨(r :: rs).dropLast, (r :: rs).getLast (by simp), (List.dropLast_concat_getLast (by simp)).symm⟩
     have hrl2 : rs.length ≤ 1048577 := by simp at hrl; omega
     clear hrl
     have hlen : init.length = rs.length := by have := congrArg List.length hla; simp at this; omega
     have hcell : ∀ i x, (r :: rs)[i]? = some x → w3.cell? ⟨gs, 1 + i, none⟩ = some (.string ⟨x.toArray⟩) := fun i x hx => by
      obtain ⟨off, h1, h2⟩ := HR3.out.strs.2 (by simp)
      cases h1
      have := h2 (i + 1) x (by simpa using hx)
      rwa [show 0 + (i + 1) = 1 + i by omega] at this
     have hcl : w3.cell? ⟨gs, 1 + rs.length, none⟩ = some (.string ⟨last.toArray⟩) := hcell rs.length last (by rw [hla, List.getElem?_append_right (by omega), hlen]; simp)
     have HST := Hd (show Strs w3 gs (r :: rs) (some ⟨gs, 1, none⟩) (rs.length + 1) from ⟨by simp, fun _ => ⟨1, rfl, hcell⟩⟩)
     have HST2 := Hd (show Strs w3 gs init (some ⟨gs, 1, none⟩) (rs.length + 1) from ⟨by omega, fun _ => ⟨1, rfl, fun i x hx => hcell i x (by rw [hla]; exact List.getElem?_append_left (List.getElem?_eq_some_iff.1 hx).1 ▸ hx)⟩⟩)
     have HLA := Hd hla
     have HLE := Hd hlen
     clear hla hlen hcell
     cases fr with
     | false =>
      have HLW := Hd (show Txt.lineW s.data.toList = Txt.fieldsW (lineX k false) (formAt k) (r :: rs) by rw [line_at HW.out hlt HE.out HR3.out.none_, HFR.out]; rfl)
      have HF := Hd (fun w4 h => line_fields HR3.out G k (r :: rs) (some ⟨gs, 1, none⟩) (rs.length + 1) HST.out (fun x hx => HWS.out x (List.mem_cons_of_mem _ hx)) w4 false h false HFR.out)
      go_wp2_with fail
      refine (HF.out _ rfl).mono ?_
      rintro e w5 ⟨rfl, ⟨c', hB5, hci⟩, hT5⟩
      obtain ⟨cop, cref, cp, ca, cb, cd, cdp, cdn, cdc⟩ := c'
      have z0 : w5.cell? ⟨w.heap.size, 0, none⟩ = some (.int .i64 cop) := hB5.cell 0
      have z1 : w5.cell? ⟨w.heap.size, 1, none⟩ = some (.int .i64 cref) := hB5.cell 1
      have z2 : w5.cell? ⟨w.heap.size, 2, none⟩ = some (.int .u64 cp) := hB5.cell 2
      have z3 : w5.cell? ⟨w.heap.size, 3, none⟩ = some (.int .u64 ca) := hB5.cell 3
      have z4 : w5.cell? ⟨w.heap.size, 4, none⟩ = some (.int .u64 cb) := hB5.cell 4
      have z5 : w5.cell? ⟨w.heap.size, 5, none⟩ = some (.bool cd) := hB5.cell 5
      have z6 : w5.cell? ⟨w.heap.size, 6, none⟩ = some (.slice cdp cdn cdc) := hB5.cell 6
      have y0 := hB5.free 0
      have y1 := hB5.free 1
      have y2 := hB5.free 2
      have y3 := hB5.free 3
      have y4 := hB5.free 4
      have y5 := hB5.free 5
      have y6 := hB5.free 6
      have HB5 := Hd (laidC_blk hB5 ⟨cop, cref, cp, ca, cb, cd, cdp, cdn, cdc⟩)
      have HTL := Hd (laidC_touch w5 w.heap.size ⟨cop, cref, cp, ca, cb, cd, cdp, cdn, cdc⟩)
      have HCI := Hd hci
      have HT5 := Hd hT5
      clear hB5 hci hT5
      unfold laidC at *
      go_wp2_with fail
      have x0 := HB5.out.cell 0
      have x1 := HB5.out.cell 1
      have x2 := HB5.out.cell 2
      have x3 := HB5.out.cell 3
      have x4 := HB5.out.cell 4
      have x5 := HB5.out.cell 5
      have x6 := HB5.out.cell 6
      simp [CallV.cells] at x0 x1 x2 x3 x4 x5 x6
      rw [← HLW.out]
      exact bodyPost_ret (v := .tuple #[.agg #[.int .i64 cop, .int .i64 cref, .int .u64 cp, .int .u64 ca, .int .u64 cb, .bool cd, .slice cdp cdn cdc], .bool (Txt.lineW s.data.toList).isSome]) (by simp [results, Tryz.results33, go_sem, x0, x1, x2, x3, x4, x5, x6]) rfl
       ⟨⟨cop, cref, cp, ca, cb, cd, cdp, cdn, cdc⟩, rfl, fun x hx => by
        rw [HLW.out] at hx
        have hc := (HCI.out x hx).touch HTL.out (fun i h1 _ h => by omega)
        exact ⟨hc.op, hc.ref, hc.p, hc.a, hc.b, hc.deny, owns_lower hc.own (by omega)⟩, HT5.out.trans' HTL.out (fun i hi h => by omega)⟩
     | true =>
      by_cases h33 : last = [33]
      ·have HLW := Hd (show Txt.lineW s.data.toList = Txt.fieldsW (lineX k true) (formAt k) init by
        rw [line_at HW.out hlt HE.out HR3.out.none_, HFR.out, HLA.out, h33]
        simp [lineX])
       have HF := Hd (fun w4 h => line_fields HR3.out G k init (some ⟨gs, 1, none⟩) (rs.length + 1) HST2.out (fun x hx => HWS.out x (by rw [HLA.out]; simp [hx])) w4 true h true HFR.out)
       rw [HLE.out] at HF
       subst h33
       have z5 : w3.cell? ⟨w.heap.size, 5, none⟩ = some (.bool false) := HR3.out.blk.cell 5
       have y5 := HR3.out.blk.free 5
       go_wp2_with fail
       refine (HF.out _ rfl).mono ?_
       rintro e w5 ⟨rfl, ⟨c', hB5, hci⟩, hT5⟩
       obtain ⟨cop, cref, cp, ca, cb, cd, cdp, cdn, cdc⟩ := c'
       have z0 : w5.cell? ⟨w.heap.size, 0, none⟩ = some (.int .i64 cop) := hB5.cell 0
       have z1 : w5.cell? ⟨w.heap.size, 1, none⟩ = some (.int .i64 cref) := hB5.cell 1
       have z2 : w5.cell? ⟨w.heap.size, 2, none⟩ = some (.int .u64 cp) := hB5.cell 2
       have z3 : w5.cell? ⟨w.heap.size, 3, none⟩ = some (.int .u64 ca) := hB5.cell 3
       have z4 : w5.cell? ⟨w.heap.size, 4, none⟩ = some (.int .u64 cb) := hB5.cell 4
       have z5 : w5.cell? ⟨w.heap.size, 5, none⟩ = some (.bool cd) := hB5.cell 5
       have z6 : w5.cell? ⟨w.heap.size, 6, none⟩ = some (.slice cdp cdn cdc) := hB5.cell 6
       have y0 := hB5.free 0
       have y1 := hB5.free 1
       have y2 := hB5.free 2
       have y3 := hB5.free 3
       have y4 := hB5.free 4
       have y5 := hB5.free 5
       have y6 := hB5.free 6
       have HB5 := Hd (laidC_blk hB5 ⟨cop, cref, cp, ca, cb, cd, cdp, cdn, cdc⟩)
       have HTL := Hd (laidC_touch w5 w.heap.size ⟨cop, cref, cp, ca, cb, cd, cdp, cdn, cdc⟩)
       have HCI := Hd hci
       have HT5 := Hd hT5
       clear hB5 hci hT5
       unfold laidC at *
       go_wp2_with fail
       have x0 := HB5.out.cell 0
       have x1 := HB5.out.cell 1
       have x2 := HB5.out.cell 2
       have x3 := HB5.out.cell 3
       have x4 := HB5.out.cell 4
       have x5 := HB5.out.cell 5
       have x6 := HB5.out.cell 6
       simp [CallV.cells] at x0 x1 x2 x3 x4 x5 x6
       rw [← HLW.out]
       exact bodyPost_ret (v := .tuple #[.agg #[.int .i64 cop, .int .i64 cref, .int .u64 cp, .int .u64 ca, .int .u64 cb, .bool cd, .slice cdp cdn cdc], .bool (Txt.lineW s.data.toList).isSome]) (by simp [results, Tryz.results33, go_sem, x0, x1, x2, x3, x4, x5, x6]) rfl
        ⟨⟨cop, cref, cp, ca, cb, cd, cdp, cdn, cdc⟩, rfl, fun x hx => by
         rw [HLW.out] at hx
         have hc := (HCI.out x hx).touch HTL.out (fun i h1 _ h => by omega)
         exact ⟨hc.op, hc.ref, hc.p, hc.a, hc.b, hc.deny, owns_lower hc.own (by omega)⟩, HT5.out.trans' HTL.out (fun i hi h => by omega)⟩
      ·have HLW := Hd (show Txt.lineW s.data.toList = Txt.fieldsW (lineX k false) (formAt k) (r :: rs) by
        rw [line_at HW.out hlt HE.out HR3.out.none_, HFR.out, HLA.out]
        simp [lineX, h33, Txt.Cd.none])
       have HF := Hd (fun w4 h => line_fields HR3.out G k (r :: rs) (some ⟨gs, 1, none⟩) (rs.length + 1) HST.out (fun x hx => HWS.out x (List.mem_cons_of_mem _ hx)) w4 false h true HFR.out)
       have h33b : (last == [33]) = false := by rw [beq_eq_false_iff_ne]; exact h33
       go_wp2_with fail
       refine (HF.out _ rfl).mono ?_
       rintro e w5 ⟨rfl, ⟨c', hB5, hci⟩, hT5⟩
       obtain ⟨cop, cref, cp, ca, cb, cd, cdp, cdn, cdc⟩ := c'
       have z0 : w5.cell? ⟨w.heap.size, 0, none⟩ = some (.int .i64 cop) := hB5.cell 0
       have z1 : w5.cell? ⟨w.heap.size, 1, none⟩ = some (.int .i64 cref) := hB5.cell 1
       have z2 : w5.cell? ⟨w.heap.size, 2, none⟩ = some (.int .u64 cp) := hB5.cell 2
       have z3 : w5.cell? ⟨w.heap.size, 3, none⟩ = some (.int .u64 ca) := hB5.cell 3
       have z4 : w5.cell? ⟨w.heap.size, 4, none⟩ = some (.int .u64 cb) := hB5.cell 4
       have z5 : w5.cell? ⟨w.heap.size, 5, none⟩ = some (.bool cd) := hB5.cell 5
       have z6 : w5.cell? ⟨w.heap.size, 6, none⟩ = some (.slice cdp cdn cdc) := hB5.cell 6
       have y0 := hB5.free 0
       have y1 := hB5.free 1
       have y2 := hB5.free 2
       have y3 := hB5.free 3
       have y4 := hB5.free 4
       have y5 := hB5.free 5
       have y6 := hB5.free 6
       have HB5 := Hd (laidC_blk hB5 ⟨cop, cref, cp, ca, cb, cd, cdp, cdn, cdc⟩)
       have HTL := Hd (laidC_touch w5 w.heap.size ⟨cop, cref, cp, ca, cb, cd, cdp, cdn, cdc⟩)
       have HCI := Hd hci
       have HT5 := Hd hT5
       clear hB5 hci hT5
       unfold laidC at *
       go_wp2_with fail
       have x0 := HB5.out.cell 0
       have x1 := HB5.out.cell 1
       have x2 := HB5.out.cell 2
       have x3 := HB5.out.cell 3
       have x4 := HB5.out.cell 4
       have x5 := HB5.out.cell 5
       have x6 := HB5.out.cell 6
       simp [CallV.cells] at x0 x1 x2 x3 x4 x5 x6
       rw [← HLW.out]
       exact bodyPost_ret (v := .tuple #[.agg #[.int .i64 cop, .int .i64 cref, .int .u64 cp, .int .u64 ca, .int .u64 cb, .bool cd, .slice cdp cdn cdc], .bool (Txt.lineW s.data.toList).isSome]) (by simp [results, Tryz.results33, go_sem, x0, x1, x2, x3, x4, x5, x6]) rfl
        ⟨⟨cop, cref, cp, ca, cb, cd, cdp, cdn, cdc⟩, rfl, fun x hx => by
         rw [HLW.out] at hx
         have hc := (HCI.out x hx).touch HTL.out (fun i h1 _ h => by omega)
         exact ⟨hc.op, hc.ref, hc.p, hc.a, hc.b, hc.deny, owns_lower hc.own (by omega)⟩, HT5.out.trans' HTL.out (fun i hi h => by omega)⟩
   ·have hbe : (opWord k == head) = false := by rw [beq_eq_false_iff_ne]; exact he
    rw [hbe, Bool.not_false]
    clear hbe
    have HE := Hd he
    clear he
    go_wp2_with fail
    go_roundw
    case rel => exact ⟨k + 1, by omega, by go_num, rfl, HR3.out.next HE.out⟩
    case measure => simp [intOf]; omega
  ·obtain rfl : k = 14 := by omega
   have HN := Hd (line_no HW.out HR.out.none_)
   have z0 : wr.cell? ⟨w.heap.size, 0, none⟩ = some (.int .i64 0) := HR.out.blk.cell 0
   have z1 : wr.cell? ⟨w.heap.size, 1, none⟩ = some (.int .i64 0) := HR.out.blk.cell 1
   have z2 : wr.cell? ⟨w.heap.size, 2, none⟩ = some (.int .u64 0) := HR.out.blk.cell 2
   have z3 : wr.cell? ⟨w.heap.size, 3, none⟩ = some (.int .u64 0) := HR.out.blk.cell 3
   have z4 : wr.cell? ⟨w.heap.size, 4, none⟩ = some (.int .u64 0) := HR.out.blk.cell 4
   have z5 : wr.cell? ⟨w.heap.size, 5, none⟩ = some (.bool false) := HR.out.blk.cell 5
   have z6 : wr.cell? ⟨w.heap.size, 6, none⟩ = some (.slice none 0 0) := HR.out.blk.cell 6
   have y0 := HR.out.blk.free 0
   have y1 := HR.out.blk.free 1
   have y2 := HR.out.blk.free 2
   have y3 := HR.out.blk.free 3
   have y4 := HR.out.blk.free 4
   have y5 := HR.out.blk.free 5
   have y6 := HR.out.blk.free 6
   have HB5 := Hd (laidC_blk HR.out.blk CallV.zero)
   have HTL := Hd (laidC_touch wr w.heap.size CallV.zero)
   unfold laidC CallV.zero at *
   go_wp2_with fail
   have x0 := HB5.out.cell 0
   have x1 := HB5.out.cell 1
   have x2 := HB5.out.cell 2
   have x3 := HB5.out.cell 3
   have x4 := HB5.out.cell 4
   have x5 := HB5.out.cell 5
   have x6 := HB5.out.cell 6
   simp [CallV.cells] at x0 x1 x2 x3 x4 x5 x6
   exact bodyPost_ret (v := .tuple #[.agg #[.int .i64 0, .int .i64 0, .int .u64 0, .int .u64 0, .int .u64 0, .bool false, .slice none 0 0], .bool false]) (by simp [results, Tryz.results33, go_sem, x0, x1, x2, x3, x4, x5, x6]) rfl
    ⟨CallV.zero, by rw [HN.out]; rfl, fun x hx => (by rw [HN.out] at hx; cases hx), HR.out.touch.trans' HTL.out (fun i hi h => by omega)⟩
def CallV.block (c : CallV) : Option Nat := (Value.slice c.dp c.dn c.dc).ownBlock
structure CallsAt (w : World) (B : Nat) (v : Value) (cs : List CallV) (xs : List Txt.Cd) : Prop where
 own : w.ownsRow B 43 7 v cs.length (cs.flatMap CallV.cells)
 len : cs.length = xs.length
 each : ∀ (i : Nat) c x, cs[i]? = some c → xs[i]? = some x → CallIs w B c x
 apart : cs.Pairwise fun c d => ∀ g, c.block = some g → d.block ≠ some g
theorem owns_kind {w : World} {B B' e e' s s' n n' : Nat} {v v' : Value} {xs xs' : List Value} (h : w.ownsRow B e s v n xs) (h' : w.ownsRow B' e' s' v' n' xs') (hne : e ≠ e') (g : Nat) (hg : v.ownBlock = some g) : v'.ownBlock ≠ some g := by
 intro hg'
 rcases h.2 with ⟨rfl, _⟩ | ⟨g1, cap, cur, rfl, _, h1, _⟩
 ·cases hg
 ·rcases h'.2 with ⟨rfl, _⟩ | ⟨g2, cap', cur', rfl, _, h2, _⟩
  ·cases hg'
  ·cases hg
   cases hg'
   rw [h1] at h2
   cases h2
   exact hne rfl
theorem CallsAt.nil (w : World) (B : Nat) : CallsAt w B (.slice none 0 0) [] [] := ⟨World.ownsRow_nil _ _ _ _, rfl, fun i c x h => by simp at h, .nil⟩
theorem CallsAt.still {w w' : World} {B : Nat} {v : Value} {cs : List CallV} {xs : List Txt.Cd} (h : CallsAt w B v cs xs) (T : Touch Nothing w w') : CallsAt w' B v cs xs :=
 ⟨owns_touch h.own T (fun _ _ _ h => h), h.len, fun i c x hc hx => (h.each i c x hc hx).touch T (fun _ _ _ h => h), h.apart⟩
theorem CallsAt.more {w w1 w2 w3 : World} {B : Nat} {v v' : Value} {cs : List CallV} {xs : List Txt.Cd} {c : CallV} {x : Txt.Cd} (h : CallsAt w B v cs xs) (hB : B ≤ w.heap.size) (T : Touch Nothing w w1) (hc : CallIs w1 w.heap.size c x) (T2 : Touch Nothing w1 w2)
  (hown : w3.ownsRow B 43 7 v' (cs.length + 1) (cs.flatMap CallV.cells ++ c.cells)) (hg : w2.grownBy w3 v.ownBlock) : CallsAt w3 B v' (cs ++ [c]) (xs ++ [x]) := by
 have H := (h.still T).still T2
 have TG : Touch (fun i => v.ownBlock = some i) w2 w3 := Touch.of_grown hg (fun i hi => hi)
 have hc2 := hc.touch T2 (fun _ _ _ h => h)
 refine ⟨by simpa using hown, by simp [h.len], fun i d y hd hy => ?_, ?_⟩
 ·by_cases hi : i < cs.length
  ·rw [List.getElem?_append_left hi] at hd
   rw [List.getElem?_append_left (by rw [← h.len]; exact hi)] at hy
   have hcd := H.each i d y hd hy
   exact ⟨hcd.op, hcd.ref, hcd.p, hcd.a, hcd.b, hcd.deny, owns_touch hcd.own TG (fun g _ hg' hv => owns_kind hcd.own H.own (by decide) g hg' hv)⟩
  ·have hi' : i = cs.length := by
    have := (List.getElem?_eq_some_iff.1 hd).1
    simp at this
    omega
   subst hi'
   rw [List.getElem?_append_right (Nat.le_refl _)] at hd
   rw [h.len, List.getElem?_append_right (Nat.le_refl _)] at hy
   simp at hd hy
   subst hd hy
   exact ⟨hc2.op, hc2.ref, hc2.p, hc2.a, hc2.b, hc2.deny, owns_lower (owns_touch hc2.own TG (fun g _ hg' hv => owns_kind hc2.own H.own (by decide) g hg' hv)) hB⟩
 ·rw [List.pairwise_append]
  refine ⟨h.apart, List.pairwise_singleton _ _, fun d hd e he g hg' => ?_⟩
  simp at he
  subst he
  intro hc'
  obtain ⟨i, hi⟩ := List.getElem?_of_mem hd
  have hil := (List.getElem?_eq_some_iff.1 hi).1
  have hcd := h.each i d _ hi (List.getElem?_eq_getElem (by rw [← h.len]; exact hil))
  have h1 := (World.ownsRow.lt hcd.own g hg').2
  have h2 := (World.ownsRow.lt hc.own g hc').1
  omega
theorem CallsAt.lower {w : World} {B B' : Nat} {v : Value} {cs : List CallV} {xs : List Txt.Cd} (h : CallsAt w B v cs xs) (hb : B' ≤ B) : CallsAt w B' v cs xs :=
 ⟨owns_lower h.own hb, h.len, fun i c x hc hx => by
  have := h.each i c x hc hx
  exact ⟨this.op, this.ref, this.p, this.a, this.b, this.deny, owns_lower this.own hb⟩, h.apart⟩
structure ParRel (w : World) (ws : List (List UInt8)) (gl k : Nat) (v : Value) (wr : World) (cs : List CallV) (xs : List Txt.Cd) : Prop where
 calls : CallsAt wr (gl + 1) v cs xs
 law : Txt.runW ws 0 [] = Txt.runW (ws.drop k) k xs
 len : xs.length = k
 strs : Strs wr gl ws (some ⟨gl, 0, none⟩) ws.length
 touch : Touch Nothing w wr
 lt : w.heap.size ≤ gl ∧ gl < wr.heap.size
theorem run_bad {ws : List (List UInt8)} {xs : List Txt.Cd} {k : Nat} {x : List UInt8} (hx : ws[k]? = some x) (h : Txt.lineW x = none) : Txt.runW (ws.drop k) k xs = ([], k, 7) := by
 obtain ⟨hk, he⟩ := List.getElem?_eq_some_iff.1 hx
 rw [List.drop_eq_getElem_cons hk, he]
 simp only [Txt.runW, h]
theorem ParRel.more {w wr w1 w2 w3 : World} {ws : List (List UInt8)} {gl k : Nat} {v v' : Value} {cs : List CallV} {xs : List Txt.Cd} {c : CallV} {x : List UInt8} {y : Txt.Cd} (R : ParRel w ws gl k v wr cs xs) (hx : ws[k]? = some x) (hl : Txt.lineW x = some y)
  (T1 : Touch Nothing wr w1) (hc : CallIs w1 wr.heap.size c y) (T2 : Touch Nothing w1 w2) (hown : w3.ownsRow (gl + 1) 43 7 v' (cs.length + 1) (cs.flatMap CallV.cells ++ c.cells)) (hg : w2.grownBy w3 v.ownBlock) :
  ParRel w ws gl (k + 1) v' w3 (cs ++ [c]) (xs ++ [y]) := by
 obtain ⟨hk, he⟩ := List.getElem?_eq_some_iff.1 hx
 have TG : Touch (fun i => v.ownBlock = some i) w2 w3 := Touch.of_grown hg (fun i hi => hi)
 have T3 : Touch (fun i => v.ownBlock = some i) wr w3 := (T1.trans T2).none_.trans TG
 refine ⟨R.calls.more R.lt.2 T1 hc T2 hown hg, ?_, by simp [R.len], ?_, ?_, ?_⟩
 ·rw [R.law, List.drop_eq_getElem_cons hk, he]
  simp only [Txt.runW, hl]
 ·exact R.strs.touch T3 (fun h => by have := (World.ownsRow.lt R.calls.own gl h).1; omega)
 ·exact R.touch.trans' T3 (fun i hi h => by have := (World.ownsRow.lt R.calls.own i h).1; have := R.lt; omega)
 ·exact ⟨R.lt.1, Nat.lt_of_lt_of_le R.lt.2 T3.size⟩
def ParsedAs (s : ByteArray) (w : World) (e : Ending) (w' : World) : Prop :=
 ∃ dp dn dc cs, e = .returned (.tuple #[.slice dp dn dc, .int .i64 (Txt.parseW s.data.toList).2.1, .int .i64 (Txt.parseW s.data.toList).2.2]) ∧ CallsAt w' w.heap.size (.slice dp dn dc) cs (Txt.parseW s.data.toList).1 ∧ Touch Nothing w w'
theorem info43 : (Tryz.prog.info? 43).map (fun i => (i.zero, i.size, i.bytes)) = some (some (.agg #[.int .i64 0, .int .i64 0, .int .u64 0, .int .u64 0, .int .u64 0, .bool false, .slice none 0 0]), 7, 72) := by kernel_rfl
theorem parse_main (s : ByteArray) (w : World) (hs : s.size ≤ 1048576) (h0 : 0 < s.size) (G : Glob w) (hn : (Txt.splitC 10 (Txt.trimN s.data.toList)).length ≤ 4096) : Calls Tryz.prog 13 #[.string s] w (ParsedAs s w) := by
 have hne := ne_toList s h0
 have hz : s.data.toList.length = s.size := by rw [Array.length_toList]; rfl
 have ht : Lib.trimSuffix s.data.toList (⟨#[10]⟩ : ByteArray).data.toList = Txt.trimN s.data.toList := Txt.trimSuffix_10 _
 have htl : (Txt.trimN s.data.toList).length ≤ s.size := by
  unfold Txt.trimN
  split
  ·rw [List.length_dropLast]; omega
  ·omega
 have HW := Hd (show Txt.parseW s.data.toList = Txt.runW (Txt.splitC 10 (Txt.trimN s.data.toList)) 0 [] by
  unfold Txt.parseW
  rw [if_neg (by omega), if_neg (by intro e; rw [e] at hz; simp at hz; omega), if_neg (by omega)])
 have HTS := Hd (Tryz.strings_TrimSuffix s ⟨#[10]⟩ w (by omega))
 rw [ht] at HTS
 have HSP := Hd (split_ 10 ⟨(Txt.trimN s.data.toList).toArray⟩ w (by rw [of_list_size]; omega) G)
 rw [of_list] at HSP
 obtain ⟨ws, hws⟩ : ∃ ws, ws = Txt.splitC 10 (Txt.trimN s.data.toList) := ⟨_, rfl⟩
 have HSM := Hd (show ∀ x ∈ ws, x.length ≤ 1048576 from fun x hx => by rw [hws] at hx; have := splitC_le 10 _ x hx; omega)
 unfold Parted at HSP
 rw [← hws] at HSP HW hn
 clear hws hz ht htl h0
 obtain ⟨i0, hi0, hz0, hz1, hz2⟩ := info_parts info43
 go_enter Tryz.func13, Tryz.ntmps13
 go_wp2_with fail
 refine HTS.out.mono ?_
 rintro e w1 ⟨rfl, h1⟩
 obtain rfl : w = w1 := h1.symm
 go_wp2_with fail
 refine HSP.out.mono ?_
 rintro e w1 ⟨gl, hgl, rfl, hst, hlt, T1⟩
 have HST := Hd hst
 have HT1 := Hd T1
 have HGL := Hd (And.intro hgl hlt)
 clear hst T1 hgl hlt
 go_wp2_with fail
 go_loopw [2, 23] (fun v a wr => ∃ k : Nat, k ≤ ws.length ∧ a = .int .i64 k ∧ ∃ cs xs, ParRel w ws gl k v wr cs xs) (fun _ a _ => ws.length - (intOf a).toNat)
 case atStart => exact ⟨0, by omega, rfl, [], [], ⟨.nil _ _, rfl, rfl, HST.out, HT1.out, HGL.out⟩⟩
 case round =>
  obtain ⟨k, hk, rfl, cs, xs, hR⟩ := hrel
  have HR := Hd hR
  clear hR
  by_cases hlt : k < ws.length
  ·obtain ⟨x, hx⟩ : ∃ x, ws[k]? = some x := ⟨_, List.getElem?_eq_getElem hlt⟩
   have hcl : wr.cell? ⟨gl, k, none⟩ = some (.string ⟨x.toArray⟩) := by
    obtain ⟨off, h1, h2⟩ := HR.out.strs.2 (by intro e; rw [e] at hlt; simp at hlt)
    cases h1
    have := h2 k x hx
    rwa [show 0 + k = k by omega] at this
   have HL := Hd (line_ ⟨x.toArray⟩ wr (by rw [of_list_size]; exact HSM.out x (List.mem_of_getElem? hx)) (G.touch0 HR.out.touch))
   rw [show Lined ⟨x.toArray⟩ wr = fun e w' => ∃ c : CallV, e = .returned (.tuple #[c.val, .bool (Txt.lineW x).isSome]) ∧ (∀ y, Txt.lineW x = some y → CallIs w' wr.heap.size c y) ∧ Touch Nothing wr w' from rfl] at HL
   have HX := Hd hx
   clear hx
   go_wp2_with fail
   refine HL.out.mono ?_
   rintro e w2 ⟨c, rfl, hc, T2⟩
   have HC := Hd hc
   have HT2 := Hd T2
   clear hc T2
   obtain ⟨cop, cref, cp, ca, cb, cd, cdp, cdn, cdc⟩ := c
   unfold CallV.val at *
   cases hlw : Txt.lineW x with
   | none =>
    have HLW := Hd hlw
    clear hlw
    simp only [Option.isSome_none]
    go_wp2_with fail
    go_ret3
    exact ⟨none, 0, 0, [], by rw [HW.out, HR.out.law, run_bad HX.out HLW.out]; rfl, by rw [HW.out, HR.out.law, run_bad HX.out HLW.out]; exact .nil _ _, (HR.out.touch.trans HT2.out).alloc _⟩
   | some y =>
    have HLW := Hd hlw
    clear hlw
    simp only [Option.isSome_some]
    have hkl : cs.length ≤ 4096 := by have := HR.out.calls.len; have := HR.out.len; omega
    have HOW := Hd (HR.out.calls.still HT2.out).own
    have hz2s : (w2.alloc (.cells #[.int .i64 cop, .int .i64 cref, .int .u64 cp, .int .u64 ca, .int .u64 cb, .bool cd, .slice cdp cdn cdc] 43)).heap.size = w2.heap.size + 1 := by simp
    have hB2 := Blk.new (w2.alloc (.cells #[.int .i64 cop, .int .i64 cref, .int .u64 cp, .int .u64 ca, .int .u64 cb, .bool cd, .slice cdp cdn cdc] 43)) #[.int .i64 cop, .int .i64 cref, .int .u64 cp, .int .u64 ca, .int .u64 cb, .bool cd, .slice cdp cdn cdc] 43
    rw [hz2s] at hB2
    have HNW := Hd (news_of_blk hB2)
    have hbs : gl + 1 ≤ w2.heap.size := Nat.le_trans HR.out.lt.2 HT2.out.size
    clear hB2 hz2s
    go_wp2_with (at_builtin; refine wpList_append_own _ rfl _ _ 25 rfl (gl + 1) 43 i0 _ 7 72 Tryz.underlying25 hi0 hz0 hz1 hz2 rfl (by decide) _ _ _ rfl ((HOW.out.alloc _).alloc _) ⟨w2.heap.size + 1, 0, none⟩ 1 1 [.int .i64 cop, .int .i64 cref, .int .u64 cp, .int .u64 ca, .int .u64 cb, .bool cd, .slice cdp cdn cdc] rfl rfl HNW.out (by simp [Value.oneCell']) (by unfold maxLen; omega) (by omega) (by simp; omega) ?_; intro v' w3 hown hgrow _)
    have HO := Hd hown
    have HG := Hd hgrow
    clear hown hgrow
    go_wp2_with fail
    go_roundw
    case rel => exact ⟨k + 1, by omega, by go_num, cs ++ [⟨cop, cref, cp, ca, cb, cd, cdp, cdn, cdc⟩], xs ++ [y], HR.out.more (c := ⟨cop, cref, cp, ca, cb, cd, cdp, cdn, cdc⟩) HX.out HLW.out HT2.out (HC.out y HLW.out) (((Touch.refl _ _).alloc _).alloc _) HO.out HG.out⟩
    case measure => simp [intOf]; omega
  ·obtain rfl : k = ws.length := by omega
   have HP := Hd (show Txt.parseW s.data.toList = (xs, 0, 0) by rw [HW.out, HR.out.law, List.drop_length]; rfl)
   have ⟨dp, dn, dc, hv⟩ := owns_slice HR.out.calls.own
   subst hv
   go_wp2_with fail
   go_ret3
   exact ⟨dp, dn, dc, cs, by rw [HP.out]; rfl, by rw [HP.out]; exact HR.out.calls.lower (by have := HR.out.lt.1; omega), HR.out.touch⟩
theorem parse_long (s : ByteArray) (w : World) (hs : 1048576 < s.size) : Calls Tryz.prog 13 #[.string s] w (ParsedAs s w) := by
 have hz : s.data.toList.length = s.size := by rw [Array.length_toList]; rfl
 have HW := Hd (show Txt.parseW s.data.toList = ([], 0, 6) by unfold Txt.parseW; rw [if_pos (by omega)])
 have hs' : (1048576 : Int) < (s.size : Int) := by omega
 clear hz hs
 go_enter Tryz.func13, Tryz.ntmps13
 go_wp2_with fail
 go_ret3
 exact ⟨none, 0, 0, [], by rw [HW.out]; rfl, by rw [HW.out]; exact .nil _ _, Touch.refl _ _⟩
theorem parse_empty (s : ByteArray) (w : World) (h : s.data.toList = []) : Calls Tryz.prog 13 #[.string s] w (ParsedAs s w) := by
 have h' : s.toList = [] := by rw [ByteArray.toList_eq]; exact h
 have hz : s.size = 0 := by
  have h1 : s.data.toList.length = s.size := by rw [Array.length_toList]; rfl
  rw [h] at h1
  exact h1.symm
 have HW := Hd (show Txt.parseW s.data.toList = ([], 0, 0) by rw [h]; rfl)
 clear h
 go_enter Tryz.func13, Tryz.ntmps13
 go_wp2_with fail
 go_ret3
 exact ⟨none, 0, 0, [], by rw [HW.out]; rfl, by rw [HW.out]; exact .nil _ _, Touch.refl _ _⟩
theorem parse_many (s : ByteArray) (w : World) (hs : s.size ≤ 1048576) (h0 : 0 < s.size) (G : Glob w) (hn : 4096 < (Txt.splitC 10 (Txt.trimN s.data.toList)).length) : Calls Tryz.prog 13 #[.string s] w (ParsedAs s w) := by
 have hne := ne_toList s h0
 have hz : s.data.toList.length = s.size := by rw [Array.length_toList]; rfl
 have ht : Lib.trimSuffix s.data.toList (⟨#[10]⟩ : ByteArray).data.toList = Txt.trimN s.data.toList := Txt.trimSuffix_10 _
 have htl : (Txt.trimN s.data.toList).length ≤ s.size := by
  unfold Txt.trimN
  split
  ·rw [List.length_dropLast]; omega
  ·omega
 have HW := Hd (show Txt.parseW s.data.toList = ([], 4096, 6) by
  unfold Txt.parseW
  rw [if_neg (by omega), if_neg (by intro e; rw [e] at hz; simp at hz; omega), if_pos (by omega)])
 have HTS := Hd (Tryz.strings_TrimSuffix s ⟨#[10]⟩ w (by omega))
 rw [ht] at HTS
 have HSP := Hd (split_ 10 ⟨(Txt.trimN s.data.toList).toArray⟩ w (by rw [of_list_size]; omega) G)
 rw [of_list] at HSP
 obtain ⟨n, hN⟩ : ∃ n, n = (Txt.splitC 10 (Txt.trimN s.data.toList)).length := ⟨_, rfl⟩
 unfold Parted at HSP
 rw [← hN] at HSP hn
 have hn' : (4096 : Int) < (n : Int) := by omega
 clear hN hz ht htl h0 hn
 go_enter Tryz.func13, Tryz.ntmps13
 go_wp2_with fail
 refine HTS.out.mono ?_
 rintro e w1 ⟨rfl, h1⟩
 obtain rfl : w = w1 := h1.symm
 go_wp2_with fail
 refine HSP.out.mono ?_
 rintro e w1 ⟨gl, hgl, rfl, hst, hlt, T1⟩
 have HT1 := Hd T1
 clear hst T1 hgl hlt
 go_wp2_with fail
 go_ret3
 exact ⟨none, 0, 0, [], by rw [HW.out]; rfl, by rw [HW.out]; exact .nil _ _, HT1.out⟩
theorem parse_ (s : ByteArray) (w : World) (G : Glob w) : Calls Tryz.prog 13 #[.string s] w (ParsedAs s w) := by
 by_cases hl : 1048576 < s.size
 ·exact parse_long s w hl
 ·by_cases h0 : 0 < s.size
  ·by_cases hn : 4096 < (Txt.splitC 10 (Txt.trimN s.data.toList)).length
   ·exact parse_many s w (by omega) h0 G hn
   ·exact parse_main s w (by omega) h0 G (by omega)
  ·refine parse_empty s w ?_
   have hz : s.data.toList.length = s.size := by rw [Array.length_toList]; rfl
   exact List.eq_nil_of_length_eq_zero (by omega)
structure An where
 e : Int
 v : Nat
 data : List UInt8
 h : Nat
 l : Nat
 bl : Int
 fr : Int
def AnsV.block (a : AnsV) : Option Nat := (Value.slice a.dp a.dn a.dc).ownBlock
structure AnsIs (w : World) (a : AnsV) (x : An) : Prop where
 e : a.e = x.e
 v : a.v = x.v
 h : a.h = x.h
 l : a.l = x.l
 bl : a.bl = x.bl
 fr : a.fr = x.fr
 own : w.ownsRow 0 5 1 (.slice a.dp a.dn a.dc) x.data.length (bytesV x.data)
theorem AnsIs.touch {w w' : World} {a : AnsV} {x : An} {S : Nat → Prop} (h : AnsIs w a x) (T : Touch S w w') (hs : ∀ g, a.block = some g → ¬ S g) : AnsIs w' a x :=
 ⟨h.e, h.v, h.h, h.l, h.bl, h.fr, owns_touch h.own T (fun g _ hg => hs g hg)⟩
def Stepped (w : World) (hb s pb : Nat) (K : BuL) (β' : Bu) (ps' : List Int) (x : An) (e : Ending) (w' : World) : Prop :=
 ∃ a : AnsV, e = .returned a.val ∧ ∃ K', HpRep 0 w' hb s pb K' β' ps' ∧ K.Next w K' ∧ Touch (· ∈ hb :: s :: K.fp) w w' ∧ AnsIs w' a x ∧ ∀ g, a.block = some g → w.heap.size ≤ g ∧ g ∉ hb :: s :: pb :: K'.fp
structure Callers (w : World) (hb s pb : Nat) (K : BuL) (gc cap : Nat) (cs : List CallV) (cx : List Txt.Cd) : Prop where
 calls : CallsAt w 0 (.slice (some ⟨gc, 0, none⟩) cs.length cap) cs cx
 away : gc ∉ hb :: s :: pb :: K.fp
 data : ∀ c ∈ cs, ∀ g, c.block = some g → g ∉ hb :: s :: pb :: K.fp
structure Answers (w : World) (B hb s pb : Nat) (K : BuL) (v : Value) (aa : List AnsV) (ax : List An) : Prop where
 own : w.ownsRow B 38 7 v aa.length (aa.flatMap AnsV.cells)
 len : aa.length = ax.length
 each : ∀ (i : Nat) a x, aa[i]? = some a → ax[i]? = some x → AnsIs w a x
 away : ∀ g, v.ownBlock = some g → g ∉ hb :: s :: pb :: K.fp
 data : ∀ a ∈ aa, ∀ g, a.block = some g → g ∉ hb :: s :: pb :: K.fp
theorem away_next {w : World} {hb s pb : Nat} {K K' : BuL} {g : Nat} (N : K.Next w K') (h : g ∉ hb :: s :: pb :: K.fp) (hl : g < w.heap.size) : g ∉ hb :: s :: pb :: K'.fp := by
 simp only [List.mem_cons, not_or] at h ⊢
 refine ⟨h.1, h.2.1, h.2.2.1, fun hk => ?_⟩
 rcases N.fresh g hk with h' | h'
 ·exact h.2.2.2 h'
 ·omega
theorem away_turn {hb s pb : Nat} {K : BuL} {g : Nat} (h : g ∉ hb :: s :: pb :: K.fp) : ¬ (g ∈ hb :: s :: K.fp) := by
 simp only [List.mem_cons, not_or] at h ⊢
 exact ⟨h.1, h.2.1, h.2.2.2⟩
theorem Callers.step {w w' : World} {hb s pb : Nat} {K K' : BuL} {gc cap : Nat} {cs : List CallV} {cx : List Txt.Cd} (C : Callers w hb s pb K gc cap cs cx) (N : K.Next w K') (T : Touch (· ∈ hb :: s :: K.fp) w w') : Callers w' hb s pb K' gc cap cs cx := by
 have hcl : ∀ c ∈ cs, ∀ g, c.block = some g → g < w.heap.size := fun c hc g hg => by
  obtain ⟨i, hi⟩ := List.getElem?_of_mem hc
  have hil := (List.getElem?_eq_some_iff.1 hi).1
  exact (World.ownsRow.lt (C.calls.each i c _ hi (List.getElem?_eq_getElem (by rw [← C.calls.len]; exact hil))).own g hg).2
 refine ⟨⟨owns_touch C.calls.own T (fun g _ hg => ?_), C.calls.len, fun i c x hc hx => ?_, C.calls.apart⟩, ?_, fun c hc g hg => away_next N (C.data c hc g hg) (hcl c hc g hg)⟩
 ·cases hg
  exact away_turn C.away
 ·have h := C.calls.each i c x hc hx
  exact ⟨h.op, h.ref, h.p, h.a, h.b, h.deny, owns_touch h.own T (fun g _ hg => away_turn (C.data c (List.mem_of_getElem? hc) g hg))⟩
 ·by_cases h0 : 0 < cs.length
  ·exact away_next N C.away (World.ownsRow.lt C.calls.own gc rfl).2
  ·exact away_next N C.away (World.ownsRow.lt C.calls.own gc rfl).2
theorem Answers.step {w w' : World} {B hb s pb : Nat} {K K' : BuL} {v : Value} {aa : List AnsV} {ax : List An} (A : Answers w B hb s pb K v aa ax) (N : K.Next w K') (T : Touch (· ∈ hb :: s :: K.fp) w w') : Answers w' B hb s pb K' v aa ax := by
 have hal : ∀ a ∈ aa, ∀ g, a.block = some g → g < w.heap.size := fun a ha g hg => by
  obtain ⟨i, hi⟩ := List.getElem?_of_mem ha
  have hil := (List.getElem?_eq_some_iff.1 hi).1
  exact (World.ownsRow.lt (A.each i a _ hi (List.getElem?_eq_getElem (by rw [← A.len]; exact hil))).own g hg).2
 exact ⟨owns_touch A.own T (fun g _ hg => away_turn (A.away g hg)), A.len, fun i a x ha hx => (A.each i a x ha hx).touch T (fun g hg => away_turn (A.data a (List.mem_of_getElem? ha) g hg)),
  fun g hg => away_next N (A.away g hg) (World.ownsRow.lt A.own g hg).2, fun a ha g hg => away_next N (A.data a ha g hg) (hal a ha g hg)⟩
theorem Answers.still {w w' : World} {B hb s pb : Nat} {K : BuL} {v : Value} {aa : List AnsV} {ax : List An} (A : Answers w B hb s pb K v aa ax) (T : Touch Nothing w w') : Answers w' B hb s pb K v aa ax :=
 A.step (BuL.Next.refl _ _) T.none_
theorem Callers.still {w w' : World} {hb s pb : Nat} {K : BuL} {gc cap : Nat} {cs : List CallV} {cx : List Txt.Cd} (C : Callers w hb s pb K gc cap cs cx) (T : Touch Nothing w w') : Callers w' hb s pb K gc cap cs cx :=
 C.step (BuL.Next.refl _ _) T.none_
def StepAt (hb s pb : Nat) (B : Nat) (cs : List CallV) (cx : List Txt.Cd) (ax : List An) (st : Nat → Bu × List Int) (gc cap : Nat) : Prop :=
 ∀ (k : Nat) (c : CallV) (a : An) (w : World) (K : BuL) (v : Value) (aa : List AnsV), cs[k]? = some c → ax[k]? = some a → HpRep 0 w hb s pb K (st k).1 (st k).2 → Callers w hb s pb K gc cap cs cx →
  Answers w B hb s pb K v aa (ax.take k) → aa.length = k → Calls Tryz.prog 22 #[.pointer (some ⟨hb, 0, none⟩), c.val, v] w (Stepped w hb s pb K (st (k + 1)).1 (st (k + 1)).2 a)
structure PlayRel (w : World) (hb s pb : Nat) (K0 : BuL) (cs : List CallV) (cx : List Txt.Cd) (ax : List An) (st : Nat → Bu × List Int) (gc cap k : Nat) (v : Value) (wr : World) (K : BuL) (aa : List AnsV) : Prop where
 heap : HpRep 0 wr hb s pb K (st k).1 (st k).2
 callers : Callers wr hb s pb K gc cap cs cx
 answers : Answers wr w.heap.size hb s pb K v aa (ax.take k)
 len : aa.length = k
 next : K0.Next w K
 touch : Touch (· ∈ hb :: s :: K0.fp) w wr
 low : 9 ≤ w.heap.size
theorem call_cell {w : World} {hb s pb gc cap : Nat} {K : BuL} {cs : List CallV} {cx : List Txt.Cd} (C : Callers w hb s pb K gc cap cs cx) (k : Nat) (c : CallV) (hk : cs[k]? = some c) (j : Nat) (u : Value) (hu : c.cells[j]? = some u) :
  w.cell? ⟨gc, k * 7 + j, none⟩ = some u := by
 have hkl := (List.getElem?_eq_some_iff.1 hk).1
 have hj := (List.getElem?_eq_some_iff.1 hu).1
 have hj7 : j < 7 := by simpa [CallV.cells] using hj
 rw [World.ownsRow.cellAt C.calls.own (k * 7 + j) (by omega)]
 have gen : ∀ (l : List CallV) (i : Nat), l[i]? = some c → (l.flatMap CallV.cells)[i * 7 + j]? = some u := by
  intro l
  induction l with
  | nil => intro i h; simp at h
  | cons d l ih =>
   intro i h
   cases i with
   | zero =>
    simp at h
    subst h
    rw [List.flatMap_cons, List.getElem?_append_left (by simpa [CallV.cells] using hj7)]
    simpa using hu
   | succ i =>
    rw [List.flatMap_cons, List.getElem?_append_right (by simp [CallV.cells]; omega)]
    have := ih i (by simpa using h)
    rw [← this]
    congr 1
    simp [CallV.cells]
    omega
 exact gen cs k hk
theorem PlayRel.more {w : World} {hb s pb : Nat} {K0 : BuL} {cs : List CallV} {cx : List Txt.Cd} {ax : List An} {st : Nat → Bu × List Int} {gc cap k : Nat} {v : Value} {wr w1 w2 w3 : World} {K K' : BuL} {aa : List AnsV} {a : AnsV} {x : An} {o : Obj} {g c' : Nat}
  (R : PlayRel w hb s pb K0 cs cx ax st gc cap k v wr K aa) (hx : ax[k]? = some x) (T1 : Touch Nothing wr w1) (H : HpRep 0 w2 hb s pb K' (st (k + 1)).1 (st (k + 1)).2) (N : K.Next w1 K') (T2 : Touch (· ∈ hb :: s :: K.fp) w1 w2)
  (A : AnsIs w2 a x) (F : ∀ g, a.block = some g → w1.heap.size ≤ g ∧ g ∉ hb :: s :: pb :: K'.fp) (hown : w3.ownsRow w.heap.size 38 7 (.slice (some ⟨g, 0, none⟩) (aa.length + 1) c') (aa.length + 1) (aa.flatMap AnsV.cells ++ a.cells))
  (hg : (w2.alloc o).grownBy w3 v.ownBlock) (hat : v.ownBlock = some g ∨ g = w2.heap.size + 1) : PlayRel w hb s pb K0 cs cx ax st gc cap (k + 1) (.slice (some ⟨g, 0, none⟩) (aa.length + 1) c') w3 K' (aa ++ [a]) := by
 have hA := ((R.answers.still T1).step N T2)
 have hC := ((R.callers.still T1).step N T2)
 have N0 : K.Next wr K' := ⟨N.bb, N.sb, N.mb, fun i hi => (N.fresh i hi).elim .inl (fun h => .inr (Nat.le_trans T1.size h))⟩
 have TG : Touch (fun i => v.ownBlock = some i) w2 w3 := ((Touch.refl _ w2).alloc o).none_.trans (Touch.of_grown hg (fun i hi => hi))
 have hvl : ∀ i, v.ownBlock = some i → w.heap.size ≤ i ∧ i < wr.heap.size := fun i hi => World.ownsRow.lt R.answers.own i hi
 have hH := H.lt
 have h9 := R.low
 have hkind : ∀ (d : AnsV) (y : An), AnsIs w2 d y → AnsIs w3 d y := fun d y hd => hd.touch TG (fun i hi hv => owns_kind hd.own hA.own (by decide) i hi hv)
 have haway : g ∉ hb :: s :: pb :: K'.fp := by
  rcases hat with h | h
  ·exact hA.away g h
  ·exact fun hm => by have := hH g hm; omega
 refine ⟨H.touch TG (fun i hi hv => hA.away i hv hi) (fun i hi hv => by have := hvl i hv; omega), ?_, ?_, by simp [R.len], R.next.trans N0 R.touch.size, ?_, R.low⟩
 ·refine ⟨⟨owns_touch hC.calls.own TG (fun i _ hi hv => owns_kind hC.calls.own hA.own (by decide) i hi hv), hC.calls.len, fun i c y hc hy => ?_, hC.calls.apart⟩, hC.away, hC.data⟩
  have h := hC.calls.each i c y hc hy
  exact ⟨h.op, h.ref, h.p, h.a, h.b, h.deny, owns_touch h.own TG (fun i _ hi hv => owns_kind h.own hA.own (by decide) i hi hv)⟩
 ·have hxl := (List.getElem?_eq_some_iff.1 hx).1
  have htk : ax.take (k + 1) = ax.take k ++ [x] := by
   rw [List.take_add_one, hx]
   rfl
  refine ⟨by simpa using hown, by rw [htk, List.length_append, List.length_append, hA.len]; rfl, fun i d y hd hy => ?_, fun i hi => by cases hi; exact haway, fun d hd i hi => ?_⟩
  ·rw [htk] at hy
   by_cases hi : i < aa.length
   ·rw [List.getElem?_append_left hi] at hd
    rw [List.getElem?_append_left (by rw [← hA.len]; exact hi)] at hy
    exact hkind d y (hA.each i d y hd hy)
   ·have hi' : i = aa.length := by
     have := (List.getElem?_eq_some_iff.1 hd).1
     simp at this
     omega
    subst hi'
    rw [List.getElem?_append_right (Nat.le_refl _)] at hd
    rw [hA.len, List.getElem?_append_right (Nat.le_refl _)] at hy
    simp at hd hy
    subst hd hy
    exact hkind _ _ A
  ·rcases List.mem_append.1 hd with hd | hd
   ·exact hA.data d hd i hi
   ·simp at hd
    subst hd
    exact (F i hi).2
 ·have T3 : Touch (fun i => i ∈ hb :: s :: K.fp ∨ v.ownBlock = some i) wr w3 := (T1.none_.trans (T2.mono (fun _ _ h => .inl h))).trans (TG.mono (fun _ _ h => .inr h))
  refine R.touch.trans' T3 (fun i hi h => ?_)
  rcases h with h | h
  ·simp only [List.mem_cons] at h ⊢
   rcases h with h | h | h
   ·exact .inl h
   ·exact .inr (.inl h)
   ·rcases R.next.fresh i h with h | h
    ·exact .inr (.inr h)
    ·omega
  ·have := hvl i h
   omega
theorem info38 : (Tryz.prog.info? 38).map (fun i => (i.zero, i.size, i.bytes)) = some (some (.agg #[.int .i64 0, .int .u64 0, .slice none 0 0, .int .u64 0, .int .u64 0, .int .i64 0, .int .i64 0]), 7, 72) := by kernel_rfl
def Played (w : World) (hb s pb : Nat) (K0 : BuL) (cs : List CallV) (cx : List Txt.Cd) (ax : List An) (st : Nat → Bu × List Int) (gc cap : Nat) (e : Ending) (w' : World) : Prop :=
 ∃ K aa dp dn dc, e = .returned (.tuple #[.slice dp dn dc, .int .i64 0]) ∧ PlayRel w hb s pb K0 cs cx ax st gc cap cs.length (.slice dp dn dc) w' K aa
theorem play_ {w : World} {hb s pb : Nat} {K0 : BuL} {cs : List CallV} {cx : List Txt.Cd} {ax : List An} {st : Nat → Bu × List Int} {gc cap : Nat} (R : HpRep 0 w hb s pb K0 (st 0).1 (st 0).2) (C : Callers w hb s pb K0 gc cap cs cx)
  (hn : cs.length ≤ 4096) (ha : ax.length = cs.length) (H : StepAt hb s pb w.heap.size cs cx ax st gc cap) :
  Calls Tryz.prog 15 #[.pointer (some ⟨hb, 0, none⟩), .slice (some ⟨gc, 0, none⟩) cs.length cap] w (Played w hb s pb K0 cs cx ax st gc cap) := by
 have HR0 := Hd (show PlayRel w hb s pb K0 cs cx ax st gc cap 0 (.slice none 0 0) w K0 [] from
  ⟨R, C, ⟨World.ownsRow_nil _ _ _ _, by simp, fun i a x h => by simp at h, fun g h => by simp [Value.ownBlock] at h, fun a h => by simp at h⟩, rfl, BuL.Next.refl _ _, Touch.refl _ _, R.glob.size⟩)
 have HS := Hd H
 obtain ⟨i0, hi0, hz0, hz1, hz2⟩ := info_parts info38
 obtain ⟨n, hN⟩ : ∃ n, cs.length = n := ⟨_, rfl⟩
 rw [hN] at hn ⊢
 have HN := Hd hN
 clear R C H hN
 go_enter Tryz.func15, Tryz.ntmps15
 go_wp2_with fail
 go_loopw [6, 14] (fun v a wr => ∃ k : Nat, k ≤ n ∧ a = .int .i64 k ∧ ∃ K aa, PlayRel w hb s pb K0 cs cx ax st gc cap k v wr K aa) (fun _ a _ => n - (intOf a).toNat)
 case atStart => exact ⟨0, by omega, rfl, K0, [], HR0.out⟩
 case round =>
  obtain ⟨k, hk, rfl, K, aa, hR⟩ := hrel
  have HR := Hd hR
  clear hR
  by_cases hlt : k < n
  ·obtain ⟨c, hc⟩ : ∃ c, cs[k]? = some c := ⟨_, List.getElem?_eq_getElem (by have := HN.out; omega)⟩
   obtain ⟨x, hx⟩ : ∃ x, ax[k]? = some x := ⟨_, List.getElem?_eq_getElem (by have := HN.out; omega)⟩
   have HC := Hd hc
   have HX := Hd hx
   clear hc hx
   obtain ⟨vp, vn, vc, hv⟩ := owns_slice HR.out.answers.own
   subst hv
   obtain ⟨cop, cref, cp, ca, cb, cd, cdp, cdn, cdc⟩ := c
   have z0 : wr.cell? ⟨gc, k * 7, none⟩ = some (.int .i64 cop) := call_cell HR.out.callers k _ HC.out 0 _ rfl
   have z1 : wr.cell? ⟨gc, k * 7 + 1, none⟩ = some (.int .i64 cref) := call_cell HR.out.callers k _ HC.out 1 _ rfl
   have z2 : wr.cell? ⟨gc, k * 7 + 2, none⟩ = some (.int .u64 cp) := call_cell HR.out.callers k _ HC.out 2 _ rfl
   have z3 : wr.cell? ⟨gc, k * 7 + 3, none⟩ = some (.int .u64 ca) := call_cell HR.out.callers k _ HC.out 3 _ rfl
   have z4 : wr.cell? ⟨gc, k * 7 + 4, none⟩ = some (.int .u64 cb) := call_cell HR.out.callers k _ HC.out 4 _ rfl
   have z5 : wr.cell? ⟨gc, k * 7 + 5, none⟩ = some (.bool cd) := call_cell HR.out.callers k _ HC.out 5 _ rfl
   have z6 : wr.cell? ⟨gc, k * 7 + 6, none⟩ = some (.slice cdp cdn cdc) := call_cell HR.out.callers k _ HC.out 6 _ rfl
   have hT1 : Touch Nothing wr (wr.alloc (.cells #[.int .i64 cop, .int .i64 cref, .int .u64 cp, .int .u64 ca, .int .u64 cb, .bool cd, .slice cdp cdn cdc] 43)) := (Touch.refl _ _).alloc _
   have HST := Hd (HS.out k _ x _ K (.slice vp vn vc) aa HC.out HX.out (HR.out.heap.touch0 hT1) (HR.out.callers.still hT1) (HR.out.answers.still hT1) HR.out.len)
   have HT1 := Hd hT1
   clear hT1
   unfold CallV.val at HST
   go_wp2_with fail
   refine HST.out.mono ?_
   rintro e w2 ⟨a, rfl, K', hR', hN', hT', hA, hF⟩
   obtain ⟨ae, av, adp, adn, adc, ah, al, abl, afr⟩ := a
   unfold AnsV.val at *
   have HH := Hd hR'
   have HNx := Hd hN'
   have HT2 := Hd hT'
   have HA := Hd hA
   have HF := Hd hF
   clear hR' hN' hT' hA hF
   have HAn := Hd ((HR.out.answers.still HT1.out).step HNx.out HT2.out)
   have hB2 := Blk.new w2 #[.int .i64 ae, .int .u64 av, .slice adp adn adc, .int .u64 ah, .int .u64 al, .int .i64 abl, .int .i64 afr] 38
   have HNW := Hd (news_of_blk hB2)
   have hkl : aa.length ≤ 4096 := by have := HR.out.len; omega
   have hbs : w.heap.size ≤ w2.heap.size := Nat.le_trans HR.out.touch.size (Nat.le_trans HT1.out.size HT2.out.size)
   clear hB2
   go_wp2_with (at_builtin; refine wpList_append_lies _ rfl _ _ 30 rfl w.heap.size 38 i0 _ 7 72 Tryz.underlying30 hi0 hz0 hz1 hz2 rfl (by decide) _ _ _ rfl (HAn.out.own.alloc _) ⟨w2.heap.size, 0, none⟩ 1 1 [.int .i64 ae, .int .u64 av, .slice adp adn adc, .int .u64 ah, .int .u64 al, .int .i64 abl, .int .i64 afr] rfl rfl HNW.out (by simp [Value.oneCell']) (by omega) (by unfold maxLen; omega) (by omega) (by simp; omega) (w2.heap.size + 1) (by simp) ?_; intro gg cap' w3 hown hgrow hat hltg)
   have HO := Hd hown
   have HG := Hd hgrow
   have HAt := Hd hat
   clear hown hgrow hat
   go_wp2_with fail
   go_roundw
   case rel => exact ⟨k + 1, by omega, by go_num, K', aa ++ [⟨ae, av, adp, adn, adc, ah, al, abl, afr⟩], HR.out.more (a := ⟨ae, av, adp, adn, adc, ah, al, abl, afr⟩) HX.out HT1.out HH.out HNx.out HT2.out HA.out HF.out HO.out HG.out HAt.out⟩
   case measure => simp [intOf]; omega
  ·obtain rfl : k = n := by omega
   obtain ⟨vp, vn, vc, hv⟩ := owns_slice HR.out.answers.own
   subst hv
   go_wp2_with fail
   go_ret2
   exact ⟨K, aa, vp, vn, vc, rfl, by rw [HN.out]; exact HR.out⟩
def opTab : List (Int × Nat) := [(1, 39), (2, 40), (3, 41), (4, 42), (5, 43), (6, 44), (7, 45), (8, 46), (9, 47), (10, 48), (11, 49), (12, 50), (13, 51), (14, 52)]
theorem one_at {w : World} (hb q : Nat) (c : CallV) (av : Value) (S : Nat → Prop) (hS : ∀ k, S k → k < w.heap.size) (Q : AnsV → World → World → Prop) (hQ : ∀ an W W1, Q an W W1 → Touch S W W1)
  (f : Nat) (hop : (opTab.reverse.find? (fun p => p.1 == c.op)).map Prod.snd = some f) (hwf : (Lit.int .i64 c.op).wf = true) (hcf : ∀ (us : Array Value) (W : World), (callFunc f us).run Tryz.prog W = .ok (.enter f us) W)
  (HAd : Hid (∀ W, Touch Nothing w W → Calls Tryz.prog 38 #[c.val, av] W fun e w' => e = .returned (.tuple #[.int .u64 q, .bool true]) ∧ Touch Nothing W w'))
  (HMe : Hid (∀ W, Touch Nothing w W → Calls Tryz.prog f #[c.doer hb q] W fun e w' => ∃ an : AnsV, e = .returned an.val ∧ Q an W w')) :
  Calls Tryz.prog 22 #[.pointer (some ⟨hb, 0, none⟩), c.val, av] w (Done w Q) := by
 have HS := Hd hS
 have HQ := Hd hQ
 obtain ⟨op, ref, p, a, b, deny, dp, dn, dc⟩ := c
 have HOp := Hd (show (opTab.reverse.find? (fun p => p.1 == op)).map Prod.snd = some f from hop)
 have HWf := Hd (show (Lit.int .i64 op).wf = true from hwf)
 have HCF := Hd hcf
 clear hop hwf hcf
 unfold CallV.val CallV.doer at *
 clear hS hQ
 go_enter Tryz.func22, Tryz.ntmps22
 go_wp2_with fail
 refine (HAd.out _ (((Touch.refl _ w).alloc _).alloc _)).mono ?_
 rintro e w1 ⟨rfl, T1⟩
 have B0 := (((Blk.new w #[.int .i64 op, .int .i64 ref, .int .u64 p, .int .u64 a, .int .u64 b, .bool deny, .slice dp dn dc] 43).alloc (.cells #[.int .i64 0, .int .u64 0, .slice none 0 0, .int .u64 0, .int .u64 0, .int .i64 0, .int .i64 0] 38)).touch T1 (fun h => h))
 have R0 := ((Blk.new (w.alloc (.cells #[.int .i64 op, .int .i64 ref, .int .u64 p, .int .u64 a, .int .u64 b, .bool deny, .slice dp dn dc] 43)) #[.int .i64 0, .int .u64 0, .slice none 0 0, .int .u64 0, .int .u64 0, .int .i64 0, .int .i64 0] 38).touch T1 (fun h => h))
 have hsz : (w.alloc (.cells #[.int .i64 op, .int .i64 ref, .int .u64 p, .int .u64 a, .int .u64 b, .bool deny, .slice dp dn dc] 43)).heap.size = w.heap.size + 1 := by simp
 rw [hsz] at R0
 have HT1 := Hd ((((Touch.refl Nothing w).alloc (.cells #[.int .i64 op, .int .i64 ref, .int .u64 p, .int .u64 a, .int .u64 b, .bool deny, .slice dp dn dc] 43)).alloc (.cells #[.int .i64 0, .int .u64 0, .slice none 0 0, .int .u64 0, .int .u64 0, .int .i64 0, .int .i64 0] 38)).trans T1)
 have k0 : w1.cell? ⟨w.heap.size, 0, none⟩ = some (.int .i64 op) := B0.cell 0
 have k1 : w1.cell? ⟨w.heap.size, 1, none⟩ = some (.int .i64 ref) := B0.cell 1
 have k2 : w1.cell? ⟨w.heap.size, 2, none⟩ = some (.int .u64 p) := B0.cell 2
 have k3 : w1.cell? ⟨w.heap.size, 3, none⟩ = some (.int .u64 a) := B0.cell 3
 have k4 : w1.cell? ⟨w.heap.size, 4, none⟩ = some (.int .u64 b) := B0.cell 4
 have k5 : w1.cell? ⟨w.heap.size, 5, none⟩ = some (.bool deny) := B0.cell 5
 have k6 : w1.cell? ⟨w.heap.size, 6, none⟩ = some (.slice dp dn dc) := B0.cell 6
 have HB0 := Hd B0
 have HR0 := Hd R0
 clear B0 R0 T1 hsz
 have HNe0 := Hd (show ¬ (w.heap.size = w1.heap.size + 1) by have := HB0.out.lt; omega)
 have hmm := @run_makeMap Tryz.prog
 have hmf : ∀ (fn : Fn) (first cap : Array Value) (w : World), (Instr.makeFunc fn first cap).run Tryz.prog w = .ok (.func fn first cap) w := fun _ _ _ _ => rfl
 have HM := Hd (FnMap.made (w1.alloc (.cells #[.pointer (some ⟨hb, 0, none⟩), .int .u64 q, .int .i64 op, .int .i64 ref, .int .u64 p, .int .u64 a, .int .u64 b, .bool deny, .slice dp dn dc] 103)) (.agg #[.pointer (some ⟨hb, 0, none⟩), .int .u64 q, .int .i64 op, .int .i64 ref, .int .u64 p, .int .u64 a, .int .u64 b, .bool deny, .slice dp dn dc]))
 have HBd := Hd ((Blk.new w1 #[.pointer (some ⟨hb, 0, none⟩), .int .u64 q, .int .i64 op, .int .i64 ref, .int .u64 p, .int .u64 a, .int .u64 b, .bool deny, .slice dp dn dc] 103).alloc (.map #[] 0))
 have TT : Touch Nothing w1 ((w1.alloc (.cells #[.pointer (some ⟨hb, 0, none⟩), .int .u64 q, .int .i64 op, .int .i64 ref, .int .u64 p, .int .u64 a, .int .u64 b, .bool deny, .slice dp dn dc] 103)).alloc (.map #[] 0)) := ((Touch.refl Nothing w1).alloc _).alloc _
 have HTT := Hd TT
 have HT := Hd (Touch.refl (· = w1.heap.size + 1) ((w1.alloc (.cells #[.pointer (some ⟨hb, 0, none⟩), .int .u64 q, .int .i64 op, .int .i64 ref, .int .u64 p, .int .u64 a, .int .u64 b, .bool deny, .slice dp dn dc] 103)).alloc (.map #[] 0)))
 have HNe := Hd (show ¬ (w1.heap.size = w1.heap.size + 1) by omega)
 have hsz1 : (w1.alloc (.cells #[.pointer (some ⟨hb, 0, none⟩), .int .u64 q, .int .i64 op, .int .i64 ref, .int .u64 p, .int .u64 a, .int .u64 b, .bool deny, .slice dp dn dc] 103)).heap.size = w1.heap.size + 1 := by simp
 rw [hsz1] at HM
 have d0 : True := trivial
 have d1 : True := trivial
 have d2 : True := trivial
 have d3 : True := trivial
 have d4 : True := trivial
 have d5 : True := trivial
 have d6 : True := trivial
 have d7 : True := trivial
 have d8 : True := trivial
 have d9 : True := trivial
 clear TT hsz1
 have hcf9 := HCF.out
 go_wp2_with (first | (refine wpList_lookup_there rfl _ _ rfl _ _ _ rfl HM.out op rfl HWf.out f HOp.out ?_) | (refine wpList_insert_fn rfl _ _ _ rfl _ _ _ rfl HM.out (by decide) _ _ rfl (by decide) rfl ?_; intro w9 hown hgrow; have X := And.intro (Hd hown) (Hd (HT.out.trans (Touch.of_grown hgrow (fun k hk => (Option.some.inj hk).symm)))); clear HM HT d9 d0 d1 d2 d3 d4 d5 d6 d7 d8 hown hgrow; obtain ⟨HM, HT⟩ := X; have d0 : World.cell? _ ⟨w1.heap.size, 0, none⟩ = some (.pointer (some ⟨hb, 0, none⟩)) := (HBd.out.touch HT.out HNe.out).cell 0; have d1 : World.cell? _ ⟨w1.heap.size, 1, none⟩ = some (.int .u64 q) := (HBd.out.touch HT.out HNe.out).cell 1; have d2 : World.cell? _ ⟨w1.heap.size, 2, none⟩ = some (.int .i64 op) := (HBd.out.touch HT.out HNe.out).cell 2; have d3 : World.cell? _ ⟨w1.heap.size, 3, none⟩ = some (.int .i64 ref) := (HBd.out.touch HT.out HNe.out).cell 3; have d4 : World.cell? _ ⟨w1.heap.size, 4, none⟩ = some (.int .u64 p) := (HBd.out.touch HT.out HNe.out).cell 4; have d5 : World.cell? _ ⟨w1.heap.size, 5, none⟩ = some (.int .u64 a) := (HBd.out.touch HT.out HNe.out).cell 5; have d6 : World.cell? _ ⟨w1.heap.size, 6, none⟩ = some (.int .u64 b) := (HBd.out.touch HT.out HNe.out).cell 6; have d7 : World.cell? _ ⟨w1.heap.size, 7, none⟩ = some (.bool deny) := (HBd.out.touch HT.out HNe.out).cell 7; have d8 : World.cell? _ ⟨w1.heap.size, 8, none⟩ = some (.slice dp dn dc) := (HBd.out.touch HT.out HNe.out).cell 8; have d9 : World.cell? _ ⟨w.heap.size, 0, none⟩ = some (.int .i64 op) := ((HB0.out.touch HTT.out (fun h => h)).touch HT.out HNe0.out).cell 0))
 have hsw := HT1.out.size
 have HT9 := Hd ((HT1.out.trans HTT.out).trans' HT.out (fun i hi e => by omega))
 have HR9 := Hd (((HR0.out.touch HTT.out (fun h => h))).touch HT.out (show ¬ (w.heap.size + 1 = w1.heap.size + 1) by have := HR0.out.lt; omega))
 clear hsw d0 d1 d2 d3 d4 d5 d6 d7 d8 d9 k0 k1 k2 k3 k4 k5 k6
 clear hcf9
 refine (HMe.out _ HT9.out).mono ?_
 rintro e w10 ⟨⟨ae, avv, adp, adn, adc, ah, al, abl, afr⟩, rfl, hq⟩
 unfold AnsV.val at *
 have R10 := HR9.out.touch (HQ.out _ _ _ hq) (fun h => by have := HS.out _ h; omega)
 obtain ⟨z0, f0, z1, f1, z2, f2, z3, f3, z4, f4, z5, f5, z6, f6⟩ := R10.all7
 have HR11 := Hd (((((((R10.set 0 (.int .i64 ae)).set 1 (.int .u64 avv)).set 2 (.slice adp adn adc)).set 3 (.int .u64 ah)).set 4 (.int .u64 al)).set 5 (.int .i64 abl)).set 6 (.int .i64 afr))
 have hq' := Hd hq
 clear R10 hq
 go_wp2_with fail
 obtain ⟨y0, y1, y2, y3, y4, y5, y6⟩ := ans7 HR11.out
 have TR := Hd (((((((Touch.cellAt w10 (w.heap.size + 1) 0 (.int .i64 ae)).trans (Touch.cellAt _ (w.heap.size + 1) 1 (.int .u64 avv))).trans (Touch.cellAt _ (w.heap.size + 1) 2 (.slice adp adn adc))).trans (Touch.cellAt _ (w.heap.size + 1) 3 (.int .u64 ah))).trans (Touch.cellAt _ (w.heap.size + 1) 4 (.int .u64 al))).trans (Touch.cellAt _ (w.heap.size + 1) 5 (.int .i64 abl))).trans (Touch.cellAt _ (w.heap.size + 1) 6 (.int .i64 afr)))
 exact bodyPost_ret (v := .agg #[.int .i64 ae, .int .u64 avv, .slice adp adn adc, .int .u64 ah, .int .u64 al, .int .i64 abl, .int .i64 afr]) (by simp [results, Tryz.results22, go_sem, y0, y1, y2, y3, y4, y5, y6]) rfl ⟨_, rfl, _, w10, w.heap.size + 1, HT9.out, hq'.out, by omega, HR9.out.lt, TR.out⟩
theorem hcfOf : ∀ f, f ∈ [39, 40, 41, 42, 43, 44, 45, 46, 47, 48, 49, 50, 51, 52] → ∀ (us : Array Value) (W : World), (callFunc f us).run Tryz.prog W = .ok (.enter f us) W := by
 intro f hf us W
 simp only [List.mem_cons, List.not_mem_nil, or_false] at hf
 rcases hf with rfl | rfl | rfl | rfl | rfl | rfl | rfl | rfl | rfl | rfl | rfl | rfl | rfl | rfl <;> simp [go_sem]
theorem one_1 {w : World} (hb q : Nat) (c : CallV) (av : Value) (S : Nat → Prop) (hS : ∀ k, S k → k < w.heap.size) (Q : AnsV → World → World → Prop) (hQ : ∀ an W W1, Q an W W1 → Touch S W W1) (hop : c.op = 1)
  (HAd : Hid (∀ W, Touch Nothing w W → Calls Tryz.prog 38 #[c.val, av] W fun e w' => e = .returned (.tuple #[.int .u64 q, .bool true]) ∧ Touch Nothing W w'))
  (HMe : Hid (∀ W, Touch Nothing w W → Calls Tryz.prog 39 #[c.doer hb q] W fun e w' => ∃ an : AnsV, e = .returned an.val ∧ Q an W w')) :
  Calls Tryz.prog 22 #[.pointer (some ⟨hb, 0, none⟩), c.val, av] w (Done w Q) :=
 one_at hb q c av S hS Q hQ 39 (by rw [hop]; rfl) (by rw [hop]; decide) (hcfOf 39 (by simp)) HAd HMe
theorem one_7 {w : World} (hb q : Nat) (c : CallV) (av : Value) (S : Nat → Prop) (hS : ∀ k, S k → k < w.heap.size) (Q : AnsV → World → World → Prop) (hQ : ∀ an W W1, Q an W W1 → Touch S W W1) (hop : c.op = 7)
  (HAd : Hid (∀ W, Touch Nothing w W → Calls Tryz.prog 38 #[c.val, av] W fun e w' => e = .returned (.tuple #[.int .u64 q, .bool true]) ∧ Touch Nothing W w'))
  (HMe : Hid (∀ W, Touch Nothing w W → Calls Tryz.prog 45 #[c.doer hb q] W fun e w' => ∃ an : AnsV, e = .returned an.val ∧ Q an W w')) :
  Calls Tryz.prog 22 #[.pointer (some ⟨hb, 0, none⟩), c.val, av] w (Done w Q) :=
 one_at hb q c av S hS Q hQ 45 (by rw [hop]; rfl) (by rw [hop]; decide) (hcfOf 45 (by simp)) HAd HMe
theorem one_8 {w : World} (hb q : Nat) (c : CallV) (av : Value) (S : Nat → Prop) (hS : ∀ k, S k → k < w.heap.size) (Q : AnsV → World → World → Prop) (hQ : ∀ an W W1, Q an W W1 → Touch S W W1) (hop : c.op = 8)
  (HAd : Hid (∀ W, Touch Nothing w W → Calls Tryz.prog 38 #[c.val, av] W fun e w' => e = .returned (.tuple #[.int .u64 q, .bool true]) ∧ Touch Nothing W w'))
  (HMe : Hid (∀ W, Touch Nothing w W → Calls Tryz.prog 46 #[c.doer hb q] W fun e w' => ∃ an : AnsV, e = .returned an.val ∧ Q an W w')) :
  Calls Tryz.prog 22 #[.pointer (some ⟨hb, 0, none⟩), c.val, av] w (Done w Q) :=
 one_at hb q c av S hS Q hQ 46 (by rw [hop]; rfl) (by rw [hop]; decide) (hcfOf 46 (by simp)) HAd HMe
end Go.Proofs.YtnjcmcnjgdjbiaaGreatDoor
