/- The walk of script.line: one line of a script. Conditions: the text is at most 1048576 bytes. The walk of script.Parse. Conditions: none. -/
import Derived.Test.YtnjcmcnjgdjbiaaGreatDoorLgWord
import Derived.Test.YtnjcmcnjgdjbiaaGreatDoorLgFlds
namespace Go.Proofs.YtnjcmcnjgdjbiaaGreatDoor
open Go.RowKit

def CallV.zero : CallV := ⟨0, 0, 0, 0, 0, false, none, 0, 0⟩

structure LineRel (w : World) (ws : List (List UInt8)) (gs gf : Nat) (head : List UInt8) (k : Nat) (wr : World) : Prop where
  blk : Blk wr w.heap.size 43 CallV.zero.cells
  strs : Strs wr gs ws (some ⟨gs, 0, none⟩) ws.length
  forms : Blk wr gf 148 formCells.toList
  none_ : ∀ j, j < k → opWord j ≠ head
  touch : Touch Nothing w wr
  lt : w.heap.size < gs ∧ gs < wr.heap.size

def Lined (s : ByteArray) (w : World) (e : Ending) (w' : World) : Prop :=
  ∃ c : CallV, e = .returned (.tuple #[c.val, .bool (Txt.lineW s.data.toList).isSome]) ∧ (∀ x, Txt.lineW s.data.toList = some x → CallIs w' w.heap.size c x) ∧ Touch Nothing w w'

theorem splitC_len (c : UInt8) (s : List UInt8) : (Txt.splitC c s).length ≤ s.length + 1 := by
  induction s with
  | nil => simp [Txt.splitC]
  | cons y s ih =>
    unfold Txt.splitC
    split
    · simp; omega
    · split
      · simp
      · rename_i he
        rw [he] at ih
        simp at ih ⊢
        omega

theorem idx_first (w : List UInt8) (l : List (List UInt8)) : ∀ k, k < l.length → l.getD k [] = w → (∀ j, j < k → l.getD j [] ≠ w) → Txt.idx w l = some k := by
  induction l with
  | nil => intro k h; simp at h
  | cons v l ih =>
    intro k hk he hn
    unfold Txt.idx
    cases k with
    | zero => rw [if_pos (by simpa using he)]
    | succ k =>
      rw [if_neg (by simpa using hn 0 (by omega)), ih k (by simpa using hk) (by simpa using he) (fun j hj => by simpa using hn (j + 1) (by omega))]
      rfl

theorem idx_no (w : List UInt8) (l : List (List UInt8)) : (∀ j, j < l.length → l.getD j [] ≠ w) → Txt.idx w l = none := by
  induction l with
  | nil => intro _; rfl
  | cons v l ih =>
    intro h
    unfold Txt.idx
    rw [if_neg (by simpa using h 0 (by simp)), ih (fun j hj => by simpa using h (j + 1) (by simpa using hj))]
    rfl

theorem LineRel.still {w wr w' : World} {ws : List (List UInt8)} {gs gf k : Nat} {head : List UInt8} (R : LineRel w ws gs gf head k wr) (T : Touch Nothing wr w') : LineRel w ws gs gf head k w' :=
  ⟨R.blk.touch T (fun h => h), R.strs.touch T (fun h => h), R.forms.touch T (fun h => h), R.none_, R.touch.trans T, ⟨R.lt.1, Nat.lt_of_lt_of_le R.lt.2 T.size⟩⟩

theorem LineRel.next {w wr : World} {ws : List (List UInt8)} {gs gf k : Nat} {head : List UInt8} (R : LineRel w ws gs gf head k wr) (h : opWord k ≠ head) : LineRel w ws gs gf head (k + 1) wr :=
  ⟨R.blk, R.strs, R.forms, fun j hj => if e : j = k then e ▸ h else R.none_ j (by omega), R.touch, R.lt⟩

theorem line_no {s : ByteArray} {head : List UInt8} {rest : List (List UInt8)} (hW : head :: rest = Txt.splitC 32 s.data.toList) (h : ∀ j, j < 14 → opWord j ≠ head) : Txt.lineW s.data.toList = none := by
  unfold Txt.lineW
  rw [← hW]
  simp only [Txt.lineWs]
  rw [idx_no head Txt.opWords h]

theorem line_at {s : ByteArray} {head : List UInt8} {rest : List (List UInt8)} (hW : head :: rest = Txt.splitC 32 s.data.toList) {k : Nat} (hk : k < 14) (he : opWord k = head) (h : ∀ j, j < k → opWord j ≠ head) :
    Txt.lineW s.data.toList = if (formAt k).refused && rest.getLast? == some [33] then Txt.fieldsW { Txt.Cd.none (k + 1) with deny := true } (formAt k) rest.dropLast else Txt.fieldsW (Txt.Cd.none (k + 1)) (formAt k) rest := by
  unfold Txt.lineW
  rw [← hW]
  simp only [Txt.lineWs]
  rw [idx_first head Txt.opWords k hk he h]
  rfl

theorem form_le (k : Nat) : (formAt k).numbers ≤ 2 := by
  by_cases h : k < 14
  · have : ∀ k : Fin 14, (formAt k.val).numbers ≤ 2 := by decide +kernel
    exact this ⟨k, h⟩
  · unfold formAt
    rw [List.getD_eq_getElem?_getD, List.getElem?_eq_none (by show 14 ≤ k; omega)]
    decide

/-- fields behind line's own stores -/
def LineCall (w : World) (x : Txt.Cd) (f : Txt.Form) (ws : List (List UInt8)) (e : Ending) (w' : World) : Prop :=
  e = .returned (.bool (Txt.fieldsW x f ws).isSome) ∧ (∃ c', Blk w' w.heap.size 43 c'.cells ∧ ∀ x', Txt.fieldsW x f ws = some x' → CallIs w' (w.heap.size + 1) c' x') ∧ Touch Nothing w w'

/-- the call that a line's fields fill -/
def lineX (k : Nat) (deny : Bool) : Txt.Cd := { Txt.Cd.none (k + 1) with deny := deny }

def lineSet (w w3 : World) (k : Nat) : World := w3.setCell ⟨w.heap.size, 0, none⟩ (.int .i64 (1 + (k : Int)))

theorem line_fields {w w3 : World} {gs gf k0 : Nat} {head : List UInt8} {W : List (List UInt8)} (R : LineRel w W gs gf head k0 w3) (G : Glob w) (k : Nat) (ws : List (List UInt8)) (p : Option Addr) (nc : Nat) (hst : Strs w3 gs ws p nc)
    (hsm : ∀ x ∈ ws, x.length ≤ 1048576) (w4 : World) (deny : Bool) (hw4 : w4 = if deny then (lineSet w w3 k).setCell ⟨w.heap.size, 5, none⟩ (.bool true) else lineSet w w3 k) (fr : Bool) (hfr : (formAt k).refused = fr) :
    Calls Tryz.prog 77 #[.pointer (some ⟨w.heap.size, 0, none⟩), .agg #[.string ⟨(opWord k).toArray⟩, .bool (formAt k).address, .int .i64 (formAt k).numbers, .bool (formAt k).data, .bool fr], .slice p ws.length nc] w4 (LineCall w (lineX k deny) (formAt k) ws) := by
  unfold lineX
  subst hfr
  have T1 := Touch.cellAt w3 w.heap.size 0 (.int .i64 (1 + (k : Int)))
  have B1 := R.blk.set 0 (.int .i64 (1 + (k : Int)))
  have hx : Touch (· = w.heap.size) w3 w4 ∧ Blk w4 w.heap.size 43 ({ CallV.zero with op := 1 + (k : Int), deny := deny } : CallV).cells := by
    cases deny with
    | false => rw [hw4]; exact ⟨T1, B1⟩
    | true => rw [hw4]; exact ⟨T1.trans (Touch.cellAt (lineSet w w3 k) w.heap.size 5 (.bool true)), B1.set 5 (.bool true)⟩
  obtain ⟨T, B⟩ := hx
  have T0 : Touch Nothing w w4 := R.touch.trans' T (fun i hi h => by omega)
  have h9 := G.size
  have hl := R.lt
  have hs4 := T.size
  have hb4 := B.lt
  refine (fields_ w4 w.heap.size gs ⟨(opWord k).toArray⟩ (formAt k) { Txt.Cd.none (k + 1) with deny := deny } { CallV.zero with op := 1 + (k : Int), deny := deny } ws p nc (form_le k) B
    ⟨by simp [Txt.Cd.none]; omega, rfl, rfl, rfl, rfl, rfl, World.ownsRow_nil _ _ _ _⟩ (hst.touch T (by omega)) (by omega) (by omega) (by omega) hsm (G.touch0 T0)).mono ?_
  rintro e w5 ⟨he, ⟨c', h1, h2⟩, h3⟩
  exact ⟨he, ⟨c', h1, fun x' hx => by
    have := h2 x' hx
    exact ⟨this.op, this.ref, this.p, this.a, this.b, this.deny, owns_lower this.own (by omega)⟩⟩, T0.trans' h3 (fun i hi h => by omega)⟩

/-- seven cells of a call laid -/
def laidC (w : World) (b : Nat) (c : CallV) : World :=
  ((((((w.setCell ⟨b, 0, none⟩ (.int .i64 c.op)).setCell ⟨b, 1, none⟩ (.int .i64 c.ref)).setCell ⟨b, 2, none⟩ (.int .u64 c.p)).setCell ⟨b, 3, none⟩ (.int .u64 c.a)).setCell ⟨b, 4, none⟩ (.int .u64 c.b)).setCell ⟨b, 5, none⟩ (.bool c.deny)).setCell ⟨b, 6, none⟩ (.slice c.dp c.dn c.dc)

theorem laidC_touch (w : World) (b : Nat) (c : CallV) : Touch (· = b) w (laidC w b c) :=
  ((((((Touch.cellAt w b 0 _).trans (Touch.cellAt _ b 1 _)).trans (Touch.cellAt _ b 2 _)).trans (Touch.cellAt _ b 3 _)).trans (Touch.cellAt _ b 4 _)).trans (Touch.cellAt _ b 5 _)).trans (Touch.cellAt _ b 6 _)

theorem laidC_blk {w : World} {b : Nat} {c0 : CallV} (h : Blk w b 43 c0.cells) (c : CallV) : Blk (laidC w b c) b 43 c.cells :=
  ((((((h.set 0 _).set 1 _).set 2 _).set 3 _).set 4 _).set 5 _).set 6 _

set_option maxRecDepth 100000 in
set_option maxHeartbeats 8000000 in
theorem line_ (s : ByteArray) (w : World) (hs : s.size ≤ 1048576) (G : Glob w) : Calls Tryz.prog 33 #[.string s] w (Lined s w) := by
  have T0 : Touch Nothing w (w.alloc (.cells #[.int .i64 0, .int .i64 0, .int .u64 0, .int .u64 0, .int .u64 0, .bool false, .slice none 0 0] 43)) := (Touch.refl _ _).alloc _
  have B0 := Blk.new w #[.int .i64 0, .int .i64 0, .int .u64 0, .int .u64 0, .int .u64 0, .bool false, .slice none 0 0] 43
  have hz0 : (w.alloc (.cells #[.int .i64 0, .int .i64 0, .int .u64 0, .int .u64 0, .int .u64 0, .bool false, .slice none 0 0] 43)).heap.size = w.heap.size + 1 := by simp
  have HSP := Lib.hid (split_ 32 s (w.alloc (.cells #[.int .i64 0, .int .i64 0, .int .u64 0, .int .u64 0, .int .u64 0, .bool false, .slice none 0 0] 43)) hs (G.touch0 T0))
  obtain ⟨W, hW⟩ : ∃ W, W = Txt.splitC 32 s.data.toList := ⟨_, rfl⟩
  have HW := Lib.hid hW
  have hne : W ≠ [] := by rw [hW]; exact splitC_ne 32 _
  clear hW
  have HT0 := Lib.hid T0
  have HB0 := Lib.hid B0
  have HZ0 := Lib.hid hz0
  clear T0 B0 hz0
  obtain ⟨head, rest, rfl⟩ : ∃ h r, W = h :: r := by
    cases W with
    | nil => exact absurd rfl hne
    | cons h r => exact ⟨h, r, rfl⟩
  clear hne
  go_enter Tryz.func33, Tryz.ntmps33
  go_wp2_with fail
  refine HSP.out.mono ?_
  rintro e w1 h1
  unfold Parted at h1
  rw [← HW.out] at h1
  obtain ⟨gs, hgs, rfl, hst, hlt, T1⟩ := h1
  have HS1 := Lib.hid hst
  have HT1 := Lib.hid (HT0.out.trans T1)
  have HB1 := Lib.hid (HB0.out.touch T1 (fun h => h))
  have HL1 := Lib.hid (And.intro (show w.heap.size < gs by have := HZ0.out; omega) hlt)
  clear hst T1 HB0 hgs hlt HT0 HZ0
  go_wp2_with fail
  refine (forms_ w1).mono ?_
  rintro e w2 ⟨gf, hgf, rfl, hB, T2⟩
  have hR : LineRel w (head :: rest) gs gf head 0 w2 := ⟨HB1.out.touch T2 (fun h => h), HS1.out.touch T2 (fun h => h), hB, fun j hj => absurd hj (by omega), HT1.out.trans T2, ⟨HL1.out.1, Nat.lt_of_lt_of_le HL1.out.2 T2.size⟩⟩
  have HR := Lib.hid hR
  clear hR HB1 HS1 HT1 T2 hgf hB
  go_wp2_with fail
  go_loopw [4, 13] (fun v a wr => ∃ k : Nat, k ≤ 14 ∧ a = .int .i64 k ∧ v = .slice (some ⟨gs, 0, none⟩) (rest.length + 1) (rest.length + 1) ∧ LineRel w (head :: rest) gs gf head k wr) (fun _ a _ => 14 - (intOf a).toNat)
  case atStart => exact ⟨0, by omega, rfl, rfl, HR.out⟩
  case round =>
    obtain ⟨k, hk, rfl, rfl, hR⟩ := hrel
    clear HR
    have HR := Lib.hid hR
    clear hR
    by_cases hlt : k < 14
    · have f0 : wr.cell? ⟨gf, k * 5, none⟩ = some (.string ⟨(opWord k).toArray⟩) := form_cell HR.out.forms k hlt 0 (by omega)
      have f1 : wr.cell? ⟨gf, k * 5 + 1, none⟩ = some (.bool (formAt k).address) := form_cell HR.out.forms k hlt 1 (by omega)
      have f2 : wr.cell? ⟨gf, k * 5 + 2, none⟩ = some (.int .i64 (formAt k).numbers) := form_cell HR.out.forms k hlt 2 (by omega)
      have f3 : wr.cell? ⟨gf, k * 5 + 3, none⟩ = some (.bool (formAt k).data) := form_cell HR.out.forms k hlt 3 (by omega)
      have f4 : wr.cell? ⟨gf, k * 5 + 4, none⟩ = some (.bool (formAt k).refused) := form_cell HR.out.forms k hlt 4 (by omega)
      have hpos : (0 : Int) < ((rest.length + 1 : Nat) : Int) := by omega
      have hpos' : (0 : Int) < (rest.length : Int) + 1 := by omega
      have hgs := HR.out.lt.2
      have hlw := HR.out.blk.lt
      have hg0 : wr.cell? ⟨gs, 0, none⟩ = some (.string ⟨head.toArray⟩) := by
        obtain ⟨off, h1, h2⟩ := HR.out.strs.2 (by simp)
        cases h1
        exact h2 0 head rfl
      go_wp2_with fail
      go_quiet (fail)
      have hT3 : Touch Nothing wr ((wr.alloc (.cells #[.string ⟨(opWord k).toArray⟩, .bool (formAt k).address, .int .i64 (formAt k).numbers, .bool (formAt k).data, .bool (formAt k).refused] 148)).drewN nq) := ((Touch.refl _ _).alloc _).drewN nq
      have hB6 := (Blk.new wr #[.string ⟨(opWord k).toArray⟩, .bool (formAt k).address, .int .i64 (formAt k).numbers, .bool (formAt k).data, .bool (formAt k).refused] 148).drewN nq
      generalize (wr.alloc (.cells #[.string ⟨(opWord k).toArray⟩, .bool (formAt k).address, .int .i64 (formAt k).numbers, .bool (formAt k).data, .bool (formAt k).refused] 148)).drewN nq = w3 at *
      have HR3 := Lib.hid (HR.out.still hT3)
      have HB6 := Lib.hid hB6
      clear hT3 hB6 f0 f1 f2 f3 f4 hg0
      by_cases he : opWord k = head
      · have hbe : (opWord k == head) = true := by rw [he]; simp
        rw [hbe, Bool.not_true]
        clear hbe
        have HE := Lib.hid he
        clear he
        have z0 : w3.cell? ⟨w.heap.size, 0, none⟩ = some (.int .i64 0) := HR3.out.blk.cell 0
        have y0 := HR3.out.blk.free 0
        have hb0 : w3.cell? ⟨wr.heap.size, 0, none⟩ = some (.string ⟨(opWord k).toArray⟩) := HB6.out.cell 0
        have hb1 : w3.cell? ⟨wr.heap.size, 1, none⟩ = some (.bool (formAt k).address) := HB6.out.cell 1
        have hb2 : w3.cell? ⟨wr.heap.size, 2, none⟩ = some (.int .i64 (formAt k).numbers) := HB6.out.cell 2
        have hb3 : w3.cell? ⟨wr.heap.size, 3, none⟩ = some (.bool (formAt k).data) := HB6.out.cell 3
        have hb4 : w3.cell? ⟨wr.heap.size, 4, none⟩ = some (.bool (formAt k).refused) := HB6.out.cell 4
        have hk64 : k < 9223372036854775806 := by omega
        have hws : ∀ x ∈ head :: rest, x.length ≤ 1048576 := fun x hx => by
          rw [HW.out] at hx
          have := splitC_le 32 _ x hx
          rw [Array.length_toList] at this
          exact Nat.le_trans this hs
        have hrl : rest.length ≤ 1048577 := by
          have h1 := splitC_len 32 s.data.toList
          rw [← HW.out, Array.length_toList] at h1
          have h2 : s.data.size = s.size := rfl
          simp at h1
          omega
        have HWS := Lib.hid hws
        clear hws
        obtain ⟨fr, hfr⟩ : ∃ fr, (formAt k).refused = fr := ⟨_, rfl⟩
        rw [hfr] at hb4
        have HFR := Lib.hid hfr
        clear hfr
        cases rest with
        | nil =>
          have HLW := Lib.hid (show Txt.lineW s.data.toList = Txt.fieldsW (lineX k false) (formAt k) [] by rw [line_at HW.out hlt HE.out HR3.out.none_]; simp; rfl)
          have HF := Lib.hid (fun w4 h => line_fields HR3.out G k [] (some ⟨gs, 0, none⟩) 0 (.nil _ _ _ _) (by simp) w4 false h fr HFR.out)
          cases fr with
          | false =>
            go_wp2_with fail
            refine (HF.out _ rfl).mono ?_
            rintro e w5 ⟨rfl, ⟨c', hB5, hci⟩, hT5⟩
            obtain ⟨cop, cref, cp, ca, cb, cd, cdp, cdn, cdc⟩ := c'
            have z0 : w5.cell? ⟨w.heap.size, 0, none⟩ = some (.int .i64 cop) := hB5.cell 0
            have z1 : w5.cell? ⟨w.heap.size, 1, none⟩ = some (.int .i64 cref) := hB5.cell 1
            have z2 : w5.cell? ⟨w.heap.size, 2, none⟩ = some (.int .u64 cp) := hB5.cell 2
            have z3 : w5.cell? ⟨w.heap.size, 3, none⟩ = some (.int .u64 ca) := hB5.cell 3
            have z4 : w5.cell? ⟨w.heap.size, 4, none⟩ = some (.int .u64 cb) := hB5.cell 4
            have z5 : w5.cell? ⟨w.heap.size, 5, none⟩ = some (.bool cd) := hB5.cell 5
            have z6 : w5.cell? ⟨w.heap.size, 6, none⟩ = some (.slice cdp cdn cdc) := hB5.cell 6
            have y0 := hB5.free 0
            have y1 := hB5.free 1
            have y2 := hB5.free 2
            have y3 := hB5.free 3
            have y4 := hB5.free 4
            have y5 := hB5.free 5
            have y6 := hB5.free 6
            have HB5 := Lib.hid (laidC_blk hB5 ⟨cop, cref, cp, ca, cb, cd, cdp, cdn, cdc⟩)
            have HTL := Lib.hid (laidC_touch w5 w.heap.size ⟨cop, cref, cp, ca, cb, cd, cdp, cdn, cdc⟩)
            have HCI := Lib.hid hci
            have HT5 := Lib.hid hT5
            clear hB5 hci hT5
            unfold laidC at *
            go_wp2_with fail
            have x0 := HB5.out.cell 0
            have x1 := HB5.out.cell 1
            have x2 := HB5.out.cell 2
            have x3 := HB5.out.cell 3
            have x4 := HB5.out.cell 4
            have x5 := HB5.out.cell 5
            have x6 := HB5.out.cell 6
            simp [CallV.cells] at x0 x1 x2 x3 x4 x5 x6
            rw [← HLW.out]
            exact bodyPost_ret (v := .tuple #[.agg #[.int .i64 cop, .int .i64 cref, .int .u64 cp, .int .u64 ca, .int .u64 cb, .bool cd, .slice cdp cdn cdc], .bool (Txt.lineW s.data.toList).isSome]) (by simp [results, Tryz.results33, go_sem, x0, x1, x2, x3, x4, x5, x6]) rfl
              ⟨⟨cop, cref, cp, ca, cb, cd, cdp, cdn, cdc⟩, rfl, fun x hx => by
                rw [HLW.out] at hx
                have hc := (HCI.out x hx).touch HTL.out (fun i h1 _ h => by omega)
                exact ⟨hc.op, hc.ref, hc.p, hc.a, hc.b, hc.deny, owns_lower hc.own (by omega)⟩, HT5.out.trans' HTL.out (fun i hi h => by omega)⟩
          | true =>
            go_wp2_with fail
            refine (HF.out _ rfl).mono ?_
            rintro e w5 ⟨rfl, ⟨c', hB5, hci⟩, hT5⟩
            obtain ⟨cop, cref, cp, ca, cb, cd, cdp, cdn, cdc⟩ := c'
            have z0 : w5.cell? ⟨w.heap.size, 0, none⟩ = some (.int .i64 cop) := hB5.cell 0
            have z1 : w5.cell? ⟨w.heap.size, 1, none⟩ = some (.int .i64 cref) := hB5.cell 1
            have z2 : w5.cell? ⟨w.heap.size, 2, none⟩ = some (.int .u64 cp) := hB5.cell 2
            have z3 : w5.cell? ⟨w.heap.size, 3, none⟩ = some (.int .u64 ca) := hB5.cell 3
            have z4 : w5.cell? ⟨w.heap.size, 4, none⟩ = some (.int .u64 cb) := hB5.cell 4
            have z5 : w5.cell? ⟨w.heap.size, 5, none⟩ = some (.bool cd) := hB5.cell 5
            have z6 : w5.cell? ⟨w.heap.size, 6, none⟩ = some (.slice cdp cdn cdc) := hB5.cell 6
            have y0 := hB5.free 0
            have y1 := hB5.free 1
            have y2 := hB5.free 2
            have y3 := hB5.free 3
            have y4 := hB5.free 4
            have y5 := hB5.free 5
            have y6 := hB5.free 6
            have HB5 := Lib.hid (laidC_blk hB5 ⟨cop, cref, cp, ca, cb, cd, cdp, cdn, cdc⟩)
            have HTL := Lib.hid (laidC_touch w5 w.heap.size ⟨cop, cref, cp, ca, cb, cd, cdp, cdn, cdc⟩)
            have HCI := Lib.hid hci
            have HT5 := Lib.hid hT5
            clear hB5 hci hT5
            unfold laidC at *
            go_wp2_with fail
            have x0 := HB5.out.cell 0
            have x1 := HB5.out.cell 1
            have x2 := HB5.out.cell 2
            have x3 := HB5.out.cell 3
            have x4 := HB5.out.cell 4
            have x5 := HB5.out.cell 5
            have x6 := HB5.out.cell 6
            simp [CallV.cells] at x0 x1 x2 x3 x4 x5 x6
            rw [← HLW.out]
            exact bodyPost_ret (v := .tuple #[.agg #[.int .i64 cop, .int .i64 cref, .int .u64 cp, .int .u64 ca, .int .u64 cb, .bool cd, .slice cdp cdn cdc], .bool (Txt.lineW s.data.toList).isSome]) (by simp [results, Tryz.results33, go_sem, x0, x1, x2, x3, x4, x5, x6]) rfl
              ⟨⟨cop, cref, cp, ca, cb, cd, cdp, cdn, cdc⟩, rfl, fun x hx => by
                rw [HLW.out] at hx
                have hc := (HCI.out x hx).touch HTL.out (fun i h1 _ h => by omega)
                exact ⟨hc.op, hc.ref, hc.p, hc.a, hc.b, hc.deny, owns_lower hc.own (by omega)⟩, HT5.out.trans' HTL.out (fun i hi h => by omega)⟩
        | cons r rs =>
          obtain ⟨init, last, hla⟩ : ∃ init last, r :: rs = init ++ [last] := ⟨(r :: rs).dropLast, (r :: rs).getLast (by simp), (List.dropLast_concat_getLast (by simp)).symm⟩
          have hrl2 : rs.length ≤ 1048577 := by simp at hrl; omega
          clear hrl
          have hlen : init.length = rs.length := by have := congrArg List.length hla; simp at this; omega
          have hcell : ∀ i x, (r :: rs)[i]? = some x → w3.cell? ⟨gs, 1 + i, none⟩ = some (.string ⟨x.toArray⟩) := fun i x hx => by
            obtain ⟨off, h1, h2⟩ := HR3.out.strs.2 (by simp)
            cases h1
            have := h2 (i + 1) x (by simpa using hx)
            rwa [show 0 + (i + 1) = 1 + i by omega] at this
          have hcl : w3.cell? ⟨gs, 1 + rs.length, none⟩ = some (.string ⟨last.toArray⟩) := hcell rs.length last (by rw [hla, List.getElem?_append_right (by omega), hlen]; simp)
          have HST := Lib.hid (show Strs w3 gs (r :: rs) (some ⟨gs, 1, none⟩) (rs.length + 1) from ⟨by simp, fun _ => ⟨1, rfl, hcell⟩⟩)
          have HST2 := Lib.hid (show Strs w3 gs init (some ⟨gs, 1, none⟩) (rs.length + 1) from ⟨by omega, fun _ => ⟨1, rfl, fun i x hx => hcell i x (by rw [hla]; exact List.getElem?_append_left (List.getElem?_eq_some_iff.1 hx).1 ▸ hx)⟩⟩)
          have HLA := Lib.hid hla
          have HLE := Lib.hid hlen
          clear hla hlen hcell
          cases fr with
          | false =>
            have HLW := Lib.hid (show Txt.lineW s.data.toList = Txt.fieldsW (lineX k false) (formAt k) (r :: rs) by rw [line_at HW.out hlt HE.out HR3.out.none_, HFR.out]; rfl)
            have HF := Lib.hid (fun w4 h => line_fields HR3.out G k (r :: rs) (some ⟨gs, 1, none⟩) (rs.length + 1) HST.out (fun x hx => HWS.out x (List.mem_cons_of_mem _ hx)) w4 false h false HFR.out)
            go_wp2_with fail
            refine (HF.out _ rfl).mono ?_
            rintro e w5 ⟨rfl, ⟨c', hB5, hci⟩, hT5⟩
            obtain ⟨cop, cref, cp, ca, cb, cd, cdp, cdn, cdc⟩ := c'
            have z0 : w5.cell? ⟨w.heap.size, 0, none⟩ = some (.int .i64 cop) := hB5.cell 0
            have z1 : w5.cell? ⟨w.heap.size, 1, none⟩ = some (.int .i64 cref) := hB5.cell 1
            have z2 : w5.cell? ⟨w.heap.size, 2, none⟩ = some (.int .u64 cp) := hB5.cell 2
            have z3 : w5.cell? ⟨w.heap.size, 3, none⟩ = some (.int .u64 ca) := hB5.cell 3
            have z4 : w5.cell? ⟨w.heap.size, 4, none⟩ = some (.int .u64 cb) := hB5.cell 4
            have z5 : w5.cell? ⟨w.heap.size, 5, none⟩ = some (.bool cd) := hB5.cell 5
            have z6 : w5.cell? ⟨w.heap.size, 6, none⟩ = some (.slice cdp cdn cdc) := hB5.cell 6
            have y0 := hB5.free 0
            have y1 := hB5.free 1
            have y2 := hB5.free 2
            have y3 := hB5.free 3
            have y4 := hB5.free 4
            have y5 := hB5.free 5
            have y6 := hB5.free 6
            have HB5 := Lib.hid (laidC_blk hB5 ⟨cop, cref, cp, ca, cb, cd, cdp, cdn, cdc⟩)
            have HTL := Lib.hid (laidC_touch w5 w.heap.size ⟨cop, cref, cp, ca, cb, cd, cdp, cdn, cdc⟩)
            have HCI := Lib.hid hci
            have HT5 := Lib.hid hT5
            clear hB5 hci hT5
            unfold laidC at *
            go_wp2_with fail
            have x0 := HB5.out.cell 0
            have x1 := HB5.out.cell 1
            have x2 := HB5.out.cell 2
            have x3 := HB5.out.cell 3
            have x4 := HB5.out.cell 4
            have x5 := HB5.out.cell 5
            have x6 := HB5.out.cell 6
            simp [CallV.cells] at x0 x1 x2 x3 x4 x5 x6
            rw [← HLW.out]
            exact bodyPost_ret (v := .tuple #[.agg #[.int .i64 cop, .int .i64 cref, .int .u64 cp, .int .u64 ca, .int .u64 cb, .bool cd, .slice cdp cdn cdc], .bool (Txt.lineW s.data.toList).isSome]) (by simp [results, Tryz.results33, go_sem, x0, x1, x2, x3, x4, x5, x6]) rfl
              ⟨⟨cop, cref, cp, ca, cb, cd, cdp, cdn, cdc⟩, rfl, fun x hx => by
                rw [HLW.out] at hx
                have hc := (HCI.out x hx).touch HTL.out (fun i h1 _ h => by omega)
                exact ⟨hc.op, hc.ref, hc.p, hc.a, hc.b, hc.deny, owns_lower hc.own (by omega)⟩, HT5.out.trans' HTL.out (fun i hi h => by omega)⟩
          | true =>
            by_cases h33 : last = [33]
            · have HLW := Lib.hid (show Txt.lineW s.data.toList = Txt.fieldsW (lineX k true) (formAt k) init by
                rw [line_at HW.out hlt HE.out HR3.out.none_, HFR.out, HLA.out, h33]
                simp [lineX])
              have HF := Lib.hid (fun w4 h => line_fields HR3.out G k init (some ⟨gs, 1, none⟩) (rs.length + 1) HST2.out (fun x hx => HWS.out x (by rw [HLA.out]; simp [hx])) w4 true h true HFR.out)
              rw [HLE.out] at HF
              subst h33
              have z5 : w3.cell? ⟨w.heap.size, 5, none⟩ = some (.bool false) := HR3.out.blk.cell 5
              have y5 := HR3.out.blk.free 5
              go_wp2_with fail
              refine (HF.out _ rfl).mono ?_
              rintro e w5 ⟨rfl, ⟨c', hB5, hci⟩, hT5⟩
              obtain ⟨cop, cref, cp, ca, cb, cd, cdp, cdn, cdc⟩ := c'
              have z0 : w5.cell? ⟨w.heap.size, 0, none⟩ = some (.int .i64 cop) := hB5.cell 0
              have z1 : w5.cell? ⟨w.heap.size, 1, none⟩ = some (.int .i64 cref) := hB5.cell 1
              have z2 : w5.cell? ⟨w.heap.size, 2, none⟩ = some (.int .u64 cp) := hB5.cell 2
              have z3 : w5.cell? ⟨w.heap.size, 3, none⟩ = some (.int .u64 ca) := hB5.cell 3
              have z4 : w5.cell? ⟨w.heap.size, 4, none⟩ = some (.int .u64 cb) := hB5.cell 4
              have z5 : w5.cell? ⟨w.heap.size, 5, none⟩ = some (.bool cd) := hB5.cell 5
              have z6 : w5.cell? ⟨w.heap.size, 6, none⟩ = some (.slice cdp cdn cdc) := hB5.cell 6
              have y0 := hB5.free 0
              have y1 := hB5.free 1
              have y2 := hB5.free 2
              have y3 := hB5.free 3
              have y4 := hB5.free 4
              have y5 := hB5.free 5
              have y6 := hB5.free 6
              have HB5 := Lib.hid (laidC_blk hB5 ⟨cop, cref, cp, ca, cb, cd, cdp, cdn, cdc⟩)
              have HTL := Lib.hid (laidC_touch w5 w.heap.size ⟨cop, cref, cp, ca, cb, cd, cdp, cdn, cdc⟩)
              have HCI := Lib.hid hci
              have HT5 := Lib.hid hT5
              clear hB5 hci hT5
              unfold laidC at *
              go_wp2_with fail
              have x0 := HB5.out.cell 0
              have x1 := HB5.out.cell 1
              have x2 := HB5.out.cell 2
              have x3 := HB5.out.cell 3
              have x4 := HB5.out.cell 4
              have x5 := HB5.out.cell 5
              have x6 := HB5.out.cell 6
              simp [CallV.cells] at x0 x1 x2 x3 x4 x5 x6
              rw [← HLW.out]
              exact bodyPost_ret (v := .tuple #[.agg #[.int .i64 cop, .int .i64 cref, .int .u64 cp, .int .u64 ca, .int .u64 cb, .bool cd, .slice cdp cdn cdc], .bool (Txt.lineW s.data.toList).isSome]) (by simp [results, Tryz.results33, go_sem, x0, x1, x2, x3, x4, x5, x6]) rfl
                ⟨⟨cop, cref, cp, ca, cb, cd, cdp, cdn, cdc⟩, rfl, fun x hx => by
                  rw [HLW.out] at hx
                  have hc := (HCI.out x hx).touch HTL.out (fun i h1 _ h => by omega)
                  exact ⟨hc.op, hc.ref, hc.p, hc.a, hc.b, hc.deny, owns_lower hc.own (by omega)⟩, HT5.out.trans' HTL.out (fun i hi h => by omega)⟩
            · have HLW := Lib.hid (show Txt.lineW s.data.toList = Txt.fieldsW (lineX k false) (formAt k) (r :: rs) by
                rw [line_at HW.out hlt HE.out HR3.out.none_, HFR.out, HLA.out]
                simp [lineX, h33, Txt.Cd.none])
              have HF := Lib.hid (fun w4 h => line_fields HR3.out G k (r :: rs) (some ⟨gs, 1, none⟩) (rs.length + 1) HST.out (fun x hx => HWS.out x (List.mem_cons_of_mem _ hx)) w4 false h true HFR.out)
              have h33b : (last == [33]) = false := by rw [beq_eq_false_iff_ne]; exact h33
              go_wp2_with fail
              refine (HF.out _ rfl).mono ?_
              rintro e w5 ⟨rfl, ⟨c', hB5, hci⟩, hT5⟩
              obtain ⟨cop, cref, cp, ca, cb, cd, cdp, cdn, cdc⟩ := c'
              have z0 : w5.cell? ⟨w.heap.size, 0, none⟩ = some (.int .i64 cop) := hB5.cell 0
              have z1 : w5.cell? ⟨w.heap.size, 1, none⟩ = some (.int .i64 cref) := hB5.cell 1
              have z2 : w5.cell? ⟨w.heap.size, 2, none⟩ = some (.int .u64 cp) := hB5.cell 2
              have z3 : w5.cell? ⟨w.heap.size, 3, none⟩ = some (.int .u64 ca) := hB5.cell 3
              have z4 : w5.cell? ⟨w.heap.size, 4, none⟩ = some (.int .u64 cb) := hB5.cell 4
              have z5 : w5.cell? ⟨w.heap.size, 5, none⟩ = some (.bool cd) := hB5.cell 5
              have z6 : w5.cell? ⟨w.heap.size, 6, none⟩ = some (.slice cdp cdn cdc) := hB5.cell 6
              have y0 := hB5.free 0
              have y1 := hB5.free 1
              have y2 := hB5.free 2
              have y3 := hB5.free 3
              have y4 := hB5.free 4
              have y5 := hB5.free 5
              have y6 := hB5.free 6
              have HB5 := Lib.hid (laidC_blk hB5 ⟨cop, cref, cp, ca, cb, cd, cdp, cdn, cdc⟩)
              have HTL := Lib.hid (laidC_touch w5 w.heap.size ⟨cop, cref, cp, ca, cb, cd, cdp, cdn, cdc⟩)
              have HCI := Lib.hid hci
              have HT5 := Lib.hid hT5
              clear hB5 hci hT5
              unfold laidC at *
              go_wp2_with fail
              have x0 := HB5.out.cell 0
              have x1 := HB5.out.cell 1
              have x2 := HB5.out.cell 2
              have x3 := HB5.out.cell 3
              have x4 := HB5.out.cell 4
              have x5 := HB5.out.cell 5
              have x6 := HB5.out.cell 6
              simp [CallV.cells] at x0 x1 x2 x3 x4 x5 x6
              rw [← HLW.out]
              exact bodyPost_ret (v := .tuple #[.agg #[.int .i64 cop, .int .i64 cref, .int .u64 cp, .int .u64 ca, .int .u64 cb, .bool cd, .slice cdp cdn cdc], .bool (Txt.lineW s.data.toList).isSome]) (by simp [results, Tryz.results33, go_sem, x0, x1, x2, x3, x4, x5, x6]) rfl
                ⟨⟨cop, cref, cp, ca, cb, cd, cdp, cdn, cdc⟩, rfl, fun x hx => by
                  rw [HLW.out] at hx
                  have hc := (HCI.out x hx).touch HTL.out (fun i h1 _ h => by omega)
                  exact ⟨hc.op, hc.ref, hc.p, hc.a, hc.b, hc.deny, owns_lower hc.own (by omega)⟩, HT5.out.trans' HTL.out (fun i hi h => by omega)⟩
      · have hbe : (opWord k == head) = false := by rw [beq_eq_false_iff_ne]; exact he
        rw [hbe, Bool.not_false]
        clear hbe
        have HE := Lib.hid he
        clear he
        go_wp2_with fail
        go_roundw
        case rel => exact ⟨k + 1, by omega, by go_num, rfl, HR3.out.next HE.out⟩
        case measure => simp [intOf]; omega
    · obtain rfl : k = 14 := by omega
      have HN := Lib.hid (line_no HW.out HR.out.none_)
      have z0 : wr.cell? ⟨w.heap.size, 0, none⟩ = some (.int .i64 0) := HR.out.blk.cell 0
      have z1 : wr.cell? ⟨w.heap.size, 1, none⟩ = some (.int .i64 0) := HR.out.blk.cell 1
      have z2 : wr.cell? ⟨w.heap.size, 2, none⟩ = some (.int .u64 0) := HR.out.blk.cell 2
      have z3 : wr.cell? ⟨w.heap.size, 3, none⟩ = some (.int .u64 0) := HR.out.blk.cell 3
      have z4 : wr.cell? ⟨w.heap.size, 4, none⟩ = some (.int .u64 0) := HR.out.blk.cell 4
      have z5 : wr.cell? ⟨w.heap.size, 5, none⟩ = some (.bool false) := HR.out.blk.cell 5
      have z6 : wr.cell? ⟨w.heap.size, 6, none⟩ = some (.slice none 0 0) := HR.out.blk.cell 6
      have y0 := HR.out.blk.free 0
      have y1 := HR.out.blk.free 1
      have y2 := HR.out.blk.free 2
      have y3 := HR.out.blk.free 3
      have y4 := HR.out.blk.free 4
      have y5 := HR.out.blk.free 5
      have y6 := HR.out.blk.free 6
      have HB5 := Lib.hid (laidC_blk HR.out.blk CallV.zero)
      have HTL := Lib.hid (laidC_touch wr w.heap.size CallV.zero)
      unfold laidC CallV.zero at *
      go_wp2_with fail
      have x0 := HB5.out.cell 0
      have x1 := HB5.out.cell 1
      have x2 := HB5.out.cell 2
      have x3 := HB5.out.cell 3
      have x4 := HB5.out.cell 4
      have x5 := HB5.out.cell 5
      have x6 := HB5.out.cell 6
      simp [CallV.cells] at x0 x1 x2 x3 x4 x5 x6
      exact bodyPost_ret (v := .tuple #[.agg #[.int .i64 0, .int .i64 0, .int .u64 0, .int .u64 0, .int .u64 0, .bool false, .slice none 0 0], .bool false]) (by simp [results, Tryz.results33, go_sem, x0, x1, x2, x3, x4, x5, x6]) rfl
        ⟨CallV.zero, by rw [HN.out]; rfl, fun x hx => (by rw [HN.out] at hx; cases hx), HR.out.touch.trans' HTL.out (fun i hi h => by omega)⟩

end Go.Proofs.YtnjcmcnjgdjbiaaGreatDoor

namespace Go.Proofs.YtnjcmcnjgdjbiaaGreatDoor
open Go.RowKit

def CallV.block (c : CallV) : Option Nat := (Value.slice c.dp c.dn c.dc).ownBlock

/-- a slice of calls in memory from block B on, each call's bytes in a block of their own -/
structure CallsAt (w : World) (B : Nat) (v : Value) (cs : List CallV) (xs : List Txt.Cd) : Prop where
  own : w.ownsRow B 43 7 v cs.length (cs.flatMap CallV.cells)
  len : cs.length = xs.length
  each : ∀ (i : Nat) c x, cs[i]? = some c → xs[i]? = some x → CallIs w B c x
  apart : cs.Pairwise fun c d => ∀ g, c.block = some g → d.block ≠ some g

theorem owns_kind {w : World} {B B' e e' s s' n n' : Nat} {v v' : Value} {xs xs' : List Value} (h : w.ownsRow B e s v n xs) (h' : w.ownsRow B' e' s' v' n' xs') (hne : e ≠ e') (g : Nat) (hg : v.ownBlock = some g) : v'.ownBlock ≠ some g := by
  intro hg'
  rcases h.2 with ⟨rfl, _⟩ | ⟨g1, cap, cur, rfl, _, h1, _⟩
  · cases hg
  · rcases h'.2 with ⟨rfl, _⟩ | ⟨g2, cap', cur', rfl, _, h2, _⟩
    · cases hg'
    · cases hg
      cases hg'
      rw [h1] at h2
      cases h2
      exact hne rfl

theorem CallsAt.nil (w : World) (B : Nat) : CallsAt w B (.slice none 0 0) [] [] := ⟨World.ownsRow_nil _ _ _ _, rfl, fun i c x h => by simp at h, .nil⟩

theorem CallsAt.still {w w' : World} {B : Nat} {v : Value} {cs : List CallV} {xs : List Txt.Cd} (h : CallsAt w B v cs xs) (T : Touch Nothing w w') : CallsAt w' B v cs xs :=
  ⟨owns_touch h.own T (fun _ _ _ h => h), h.len, fun i c x hc hx => (h.each i c x hc hx).touch T (fun _ _ _ h => h), h.apart⟩

/-- one call more: its bytes are new, the row has turned or grown -/
theorem CallsAt.more {w w1 w2 w3 : World} {B : Nat} {v v' : Value} {cs : List CallV} {xs : List Txt.Cd} {c : CallV} {x : Txt.Cd} (h : CallsAt w B v cs xs) (hB : B ≤ w.heap.size) (T : Touch Nothing w w1) (hc : CallIs w1 w.heap.size c x) (T2 : Touch Nothing w1 w2)
    (hown : w3.ownsRow B 43 7 v' (cs.length + 1) (cs.flatMap CallV.cells ++ c.cells)) (hg : w2.grownBy w3 v.ownBlock) : CallsAt w3 B v' (cs ++ [c]) (xs ++ [x]) := by
  have H := (h.still T).still T2
  have TG : Touch (fun i => v.ownBlock = some i) w2 w3 := Touch.of_grown hg (fun i hi => hi)
  have hc2 := hc.touch T2 (fun _ _ _ h => h)
  refine ⟨by simpa using hown, by simp [h.len], fun i d y hd hy => ?_, ?_⟩
  · by_cases hi : i < cs.length
    · rw [List.getElem?_append_left hi] at hd
      rw [List.getElem?_append_left (by rw [← h.len]; exact hi)] at hy
      have hcd := H.each i d y hd hy
      exact ⟨hcd.op, hcd.ref, hcd.p, hcd.a, hcd.b, hcd.deny, owns_touch hcd.own TG (fun g _ hg' hv => owns_kind hcd.own H.own (by decide) g hg' hv)⟩
    · have hi' : i = cs.length := by
        have := (List.getElem?_eq_some_iff.1 hd).1
        simp at this
        omega
      subst hi'
      rw [List.getElem?_append_right (Nat.le_refl _)] at hd
      rw [h.len, List.getElem?_append_right (Nat.le_refl _)] at hy
      simp at hd hy
      subst hd hy
      exact ⟨hc2.op, hc2.ref, hc2.p, hc2.a, hc2.b, hc2.deny, owns_lower (owns_touch hc2.own TG (fun g _ hg' hv => owns_kind hc2.own H.own (by decide) g hg' hv)) hB⟩
  · rw [List.pairwise_append]
    refine ⟨h.apart, List.pairwise_singleton _ _, fun d hd e he g hg' => ?_⟩
    simp at he
    subst he
    intro hc'
    obtain ⟨i, hi⟩ := List.getElem?_of_mem hd
    have hil := (List.getElem?_eq_some_iff.1 hi).1
    have hcd := h.each i d _ hi (List.getElem?_eq_getElem (by rw [← h.len]; exact hil))
    have h1 := (World.ownsRow.lt hcd.own g hg').2
    have h2 := (World.ownsRow.lt hc.own g hc').1
    omega

theorem CallsAt.lower {w : World} {B B' : Nat} {v : Value} {cs : List CallV} {xs : List Txt.Cd} (h : CallsAt w B v cs xs) (hb : B' ≤ B) : CallsAt w B' v cs xs :=
  ⟨owns_lower h.own hb, h.len, fun i c x hc hx => by
    have := h.each i c x hc hx
    exact ⟨this.op, this.ref, this.p, this.a, this.b, this.deny, owns_lower this.own hb⟩, h.apart⟩

structure ParRel (w : World) (ws : List (List UInt8)) (gl k : Nat) (v : Value) (wr : World) (cs : List CallV) (xs : List Txt.Cd) : Prop where
  calls : CallsAt wr (gl + 1) v cs xs
  law : Txt.runW ws 0 [] = Txt.runW (ws.drop k) k xs
  len : xs.length = k
  strs : Strs wr gl ws (some ⟨gl, 0, none⟩) ws.length
  touch : Touch Nothing w wr
  lt : w.heap.size ≤ gl ∧ gl < wr.heap.size

theorem run_bad {ws : List (List UInt8)} {xs : List Txt.Cd} {k : Nat} {x : List UInt8} (hx : ws[k]? = some x) (h : Txt.lineW x = none) : Txt.runW (ws.drop k) k xs = ([], k, 7) := by
  obtain ⟨hk, he⟩ := List.getElem?_eq_some_iff.1 hx
  rw [List.drop_eq_getElem_cons hk, he]
  simp only [Txt.runW, h]

theorem ParRel.more {w wr w1 w2 w3 : World} {ws : List (List UInt8)} {gl k : Nat} {v v' : Value} {cs : List CallV} {xs : List Txt.Cd} {c : CallV} {x : List UInt8} {y : Txt.Cd} (R : ParRel w ws gl k v wr cs xs) (hx : ws[k]? = some x) (hl : Txt.lineW x = some y)
    (T1 : Touch Nothing wr w1) (hc : CallIs w1 wr.heap.size c y) (T2 : Touch Nothing w1 w2) (hown : w3.ownsRow (gl + 1) 43 7 v' (cs.length + 1) (cs.flatMap CallV.cells ++ c.cells)) (hg : w2.grownBy w3 v.ownBlock) :
    ParRel w ws gl (k + 1) v' w3 (cs ++ [c]) (xs ++ [y]) := by
  obtain ⟨hk, he⟩ := List.getElem?_eq_some_iff.1 hx
  have TG : Touch (fun i => v.ownBlock = some i) w2 w3 := Touch.of_grown hg (fun i hi => hi)
  have T3 : Touch (fun i => v.ownBlock = some i) wr w3 := (T1.trans T2).none_.trans TG
  refine ⟨R.calls.more R.lt.2 T1 hc T2 hown hg, ?_, by simp [R.len], ?_, ?_, ?_⟩
  · rw [R.law, List.drop_eq_getElem_cons hk, he]
    simp only [Txt.runW, hl]
  · exact R.strs.touch T3 (fun h => by have := (World.ownsRow.lt R.calls.own gl h).1; omega)
  · exact R.touch.trans' T3 (fun i hi h => by have := (World.ownsRow.lt R.calls.own i h).1; have := R.lt; omega)
  · exact ⟨R.lt.1, Nat.lt_of_lt_of_le R.lt.2 T3.size⟩

def ParsedAs (s : ByteArray) (w : World) (e : Ending) (w' : World) : Prop :=
  ∃ dp dn dc cs, e = .returned (.tuple #[.slice dp dn dc, .int .i64 (Txt.parseW s.data.toList).2.1, .int .i64 (Txt.parseW s.data.toList).2.2]) ∧ CallsAt w' w.heap.size (.slice dp dn dc) cs (Txt.parseW s.data.toList).1 ∧ Touch Nothing w w'

theorem info43 : (Tryz.prog.info? 43).map (fun i => (i.zero, i.size, i.bytes)) = some (some (.agg #[.int .i64 0, .int .i64 0, .int .u64 0, .int .u64 0, .int .u64 0, .bool false, .slice none 0 0]), 7, 72) := by kernel_rfl

set_option maxRecDepth 100000 in
set_option maxHeartbeats 4000000 in
theorem parse_main (s : ByteArray) (w : World) (hs : s.size ≤ 1048576) (h0 : 0 < s.size) (G : Glob w) (hn : (Txt.splitC 10 (Txt.trimN s.data.toList)).length ≤ 4096) : Calls Tryz.prog 13 #[.string s] w (ParsedAs s w) := by
  have hne := ne_toList s h0
  have hz : s.data.toList.length = s.size := by rw [Array.length_toList]; rfl
  have ht : Lib.trimSuffix s.data.toList (⟨#[10]⟩ : ByteArray).data.toList = Txt.trimN s.data.toList := Txt.trimSuffix_10 _
  have htl : (Txt.trimN s.data.toList).length ≤ s.size := by
    unfold Txt.trimN
    split
    · rw [List.length_dropLast]; omega
    · omega
  have HW := Lib.hid (show Txt.parseW s.data.toList = Txt.runW (Txt.splitC 10 (Txt.trimN s.data.toList)) 0 [] by
    unfold Txt.parseW
    rw [if_neg (by omega), if_neg (by intro e; rw [e] at hz; simp at hz; omega), if_neg (by omega)])
  have HTS := Lib.hid (Tryz.strings_TrimSuffix s ⟨#[10]⟩ w (by omega))
  rw [ht] at HTS
  have HSP := Lib.hid (split_ 10 ⟨(Txt.trimN s.data.toList).toArray⟩ w (by rw [of_list_size]; omega) G)
  rw [of_list] at HSP
  obtain ⟨ws, hws⟩ : ∃ ws, ws = Txt.splitC 10 (Txt.trimN s.data.toList) := ⟨_, rfl⟩
  have HSM := Lib.hid (show ∀ x ∈ ws, x.length ≤ 1048576 from fun x hx => by rw [hws] at hx; have := splitC_le 10 _ x hx; omega)
  unfold Parted at HSP
  rw [← hws] at HSP HW hn
  clear hws hz ht htl h0
  obtain ⟨i0, hi0, hz0, hz1, hz2⟩ := info_parts info43
  go_enter Tryz.func13, Tryz.ntmps13
  go_wp2_with fail
  refine HTS.out.mono ?_
  rintro e w1 ⟨rfl, h1⟩
  obtain rfl : w = w1 := h1.symm
  go_wp2_with fail
  refine HSP.out.mono ?_
  rintro e w1 ⟨gl, hgl, rfl, hst, hlt, T1⟩
  have HST := Lib.hid hst
  have HT1 := Lib.hid T1
  have HGL := Lib.hid (And.intro hgl hlt)
  clear hst T1 hgl hlt
  go_wp2_with fail
  go_loopw [2, 23] (fun v a wr => ∃ k : Nat, k ≤ ws.length ∧ a = .int .i64 k ∧ ∃ cs xs, ParRel w ws gl k v wr cs xs) (fun _ a _ => ws.length - (intOf a).toNat)
  case atStart => exact ⟨0, by omega, rfl, [], [], ⟨.nil _ _, rfl, rfl, HST.out, HT1.out, HGL.out⟩⟩
  case round =>
    obtain ⟨k, hk, rfl, cs, xs, hR⟩ := hrel
    have HR := Lib.hid hR
    clear hR
    by_cases hlt : k < ws.length
    · obtain ⟨x, hx⟩ : ∃ x, ws[k]? = some x := ⟨_, List.getElem?_eq_getElem hlt⟩
      have hcl : wr.cell? ⟨gl, k, none⟩ = some (.string ⟨x.toArray⟩) := by
        obtain ⟨off, h1, h2⟩ := HR.out.strs.2 (by intro e; rw [e] at hlt; simp at hlt)
        cases h1
        have := h2 k x hx
        rwa [show 0 + k = k by omega] at this
      have HL := Lib.hid (line_ ⟨x.toArray⟩ wr (by rw [of_list_size]; exact HSM.out x (List.mem_of_getElem? hx)) (G.touch0 HR.out.touch))
      rw [show Lined ⟨x.toArray⟩ wr = fun e w' => ∃ c : CallV, e = .returned (.tuple #[c.val, .bool (Txt.lineW x).isSome]) ∧ (∀ y, Txt.lineW x = some y → CallIs w' wr.heap.size c y) ∧ Touch Nothing wr w' from rfl] at HL
      have HX := Lib.hid hx
      clear hx
      go_wp2_with fail
      refine HL.out.mono ?_
      rintro e w2 ⟨c, rfl, hc, T2⟩
      have HC := Lib.hid hc
      have HT2 := Lib.hid T2
      clear hc T2
      obtain ⟨cop, cref, cp, ca, cb, cd, cdp, cdn, cdc⟩ := c
      unfold CallV.val at *
      cases hlw : Txt.lineW x with
      | none =>
        have HLW := Lib.hid hlw
        clear hlw
        simp only [Option.isSome_none]
        go_wp2_with fail
        go_ret3
        exact ⟨none, 0, 0, [], by rw [HW.out, HR.out.law, run_bad HX.out HLW.out]; rfl, by rw [HW.out, HR.out.law, run_bad HX.out HLW.out]; exact .nil _ _, (HR.out.touch.trans HT2.out).alloc _⟩
      | some y =>
        have HLW := Lib.hid hlw
        clear hlw
        simp only [Option.isSome_some]
        have hkl : cs.length ≤ 4096 := by have := HR.out.calls.len; have := HR.out.len; omega
        have HOW := Lib.hid (HR.out.calls.still HT2.out).own
        have hz2s : (w2.alloc (.cells #[.int .i64 cop, .int .i64 cref, .int .u64 cp, .int .u64 ca, .int .u64 cb, .bool cd, .slice cdp cdn cdc] 43)).heap.size = w2.heap.size + 1 := by simp
        have hB2 := Blk.new (w2.alloc (.cells #[.int .i64 cop, .int .i64 cref, .int .u64 cp, .int .u64 ca, .int .u64 cb, .bool cd, .slice cdp cdn cdc] 43)) #[.int .i64 cop, .int .i64 cref, .int .u64 cp, .int .u64 ca, .int .u64 cb, .bool cd, .slice cdp cdn cdc] 43
        rw [hz2s] at hB2
        have HNW := Lib.hid (news_of_blk hB2)
        have hbs : gl + 1 ≤ w2.heap.size := Nat.le_trans HR.out.lt.2 HT2.out.size
        clear hB2 hz2s
        go_wp2_with (at_builtin; refine wpList_append_own _ rfl _ _ 25 rfl (gl + 1) 43 i0 _ 7 72 Tryz.underlying25 hi0 hz0 hz1 hz2 rfl (by decide) _ _ _ rfl ((HOW.out.alloc _).alloc _) ⟨w2.heap.size + 1, 0, none⟩ 1 1 [.int .i64 cop, .int .i64 cref, .int .u64 cp, .int .u64 ca, .int .u64 cb, .bool cd, .slice cdp cdn cdc] rfl rfl HNW.out (by simp [Value.oneCell']) (by unfold maxLen; omega) (by omega) (by simp; omega) ?_; intro v' w3 hown hgrow _)
        have HO := Lib.hid hown
        have HG := Lib.hid hgrow
        clear hown hgrow
        go_wp2_with fail
        go_roundw
        case rel => exact ⟨k + 1, by omega, by go_num, cs ++ [⟨cop, cref, cp, ca, cb, cd, cdp, cdn, cdc⟩], xs ++ [y], HR.out.more (c := ⟨cop, cref, cp, ca, cb, cd, cdp, cdn, cdc⟩) HX.out HLW.out HT2.out (HC.out y HLW.out) (((Touch.refl _ _).alloc _).alloc _) HO.out HG.out⟩
        case measure => simp [intOf]; omega
    · obtain rfl : k = ws.length := by omega
      have HP := Lib.hid (show Txt.parseW s.data.toList = (xs, 0, 0) by rw [HW.out, HR.out.law, List.drop_length]; rfl)
      have ⟨dp, dn, dc, hv⟩ := owns_slice HR.out.calls.own
      subst hv
      go_wp2_with fail
      go_ret3
      exact ⟨dp, dn, dc, cs, by rw [HP.out]; rfl, by rw [HP.out]; exact HR.out.calls.lower (by have := HR.out.lt.1; omega), HR.out.touch⟩

theorem parse_long (s : ByteArray) (w : World) (hs : 1048576 < s.size) : Calls Tryz.prog 13 #[.string s] w (ParsedAs s w) := by
  have hz : s.data.toList.length = s.size := by rw [Array.length_toList]; rfl
  have HW := Lib.hid (show Txt.parseW s.data.toList = ([], 0, 6) by unfold Txt.parseW; rw [if_pos (by omega)])
  have hs' : (1048576 : Int) < (s.size : Int) := by omega
  clear hz hs
  go_enter Tryz.func13, Tryz.ntmps13
  go_wp2_with fail
  go_ret3
  exact ⟨none, 0, 0, [], by rw [HW.out]; rfl, by rw [HW.out]; exact .nil _ _, Touch.refl _ _⟩

theorem parse_empty (s : ByteArray) (w : World) (h : s.data.toList = []) : Calls Tryz.prog 13 #[.string s] w (ParsedAs s w) := by
  have h' : s.toList = [] := by rw [ByteArray.toList_eq]; exact h
  have hz : s.size = 0 := by
    have h1 : s.data.toList.length = s.size := by rw [Array.length_toList]; rfl
    rw [h] at h1
    exact h1.symm
  have HW := Lib.hid (show Txt.parseW s.data.toList = ([], 0, 0) by rw [h]; rfl)
  clear h
  go_enter Tryz.func13, Tryz.ntmps13
  go_wp2_with fail
  go_ret3
  exact ⟨none, 0, 0, [], by rw [HW.out]; rfl, by rw [HW.out]; exact .nil _ _, Touch.refl _ _⟩

set_option maxRecDepth 100000 in
theorem parse_many (s : ByteArray) (w : World) (hs : s.size ≤ 1048576) (h0 : 0 < s.size) (G : Glob w) (hn : 4096 < (Txt.splitC 10 (Txt.trimN s.data.toList)).length) : Calls Tryz.prog 13 #[.string s] w (ParsedAs s w) := by
  have hne := ne_toList s h0
  have hz : s.data.toList.length = s.size := by rw [Array.length_toList]; rfl
  have ht : Lib.trimSuffix s.data.toList (⟨#[10]⟩ : ByteArray).data.toList = Txt.trimN s.data.toList := Txt.trimSuffix_10 _
  have htl : (Txt.trimN s.data.toList).length ≤ s.size := by
    unfold Txt.trimN
    split
    · rw [List.length_dropLast]; omega
    · omega
  have HW := Lib.hid (show Txt.parseW s.data.toList = ([], 4096, 6) by
    unfold Txt.parseW
    rw [if_neg (by omega), if_neg (by intro e; rw [e] at hz; simp at hz; omega), if_pos (by omega)])
  have HTS := Lib.hid (Tryz.strings_TrimSuffix s ⟨#[10]⟩ w (by omega))
  rw [ht] at HTS
  have HSP := Lib.hid (split_ 10 ⟨(Txt.trimN s.data.toList).toArray⟩ w (by rw [of_list_size]; omega) G)
  rw [of_list] at HSP
  obtain ⟨n, hN⟩ : ∃ n, n = (Txt.splitC 10 (Txt.trimN s.data.toList)).length := ⟨_, rfl⟩
  unfold Parted at HSP
  rw [← hN] at HSP hn
  have hn' : (4096 : Int) < (n : Int) := by omega
  clear hN hz ht htl h0 hn
  go_enter Tryz.func13, Tryz.ntmps13
  go_wp2_with fail
  refine HTS.out.mono ?_
  rintro e w1 ⟨rfl, h1⟩
  obtain rfl : w = w1 := h1.symm
  go_wp2_with fail
  refine HSP.out.mono ?_
  rintro e w1 ⟨gl, hgl, rfl, hst, hlt, T1⟩
  have HT1 := Lib.hid T1
  clear hst T1 hgl hlt
  go_wp2_with fail
  go_ret3
  exact ⟨none, 0, 0, [], by rw [HW.out]; rfl, by rw [HW.out]; exact .nil _ _, HT1.out⟩

theorem parse_ (s : ByteArray) (w : World) (G : Glob w) : Calls Tryz.prog 13 #[.string s] w (ParsedAs s w) := by
  by_cases hl : 1048576 < s.size
  · exact parse_long s w hl
  · by_cases h0 : 0 < s.size
    · by_cases hn : 4096 < (Txt.splitC 10 (Txt.trimN s.data.toList)).length
      · exact parse_many s w (by omega) h0 G hn
      · exact parse_main s w (by omega) h0 G (by omega)
    · refine parse_empty s w ?_
      have hz : s.data.toList.length = s.size := by rw [Array.length_toList]; rfl
      exact List.eq_nil_of_length_eq_zero (by omega)

end Go.Proofs.YtnjcmcnjgdjbiaaGreatDoor

