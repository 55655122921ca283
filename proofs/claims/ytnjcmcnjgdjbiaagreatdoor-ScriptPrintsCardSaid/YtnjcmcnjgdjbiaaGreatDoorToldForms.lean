/- The walk of script.told at each form of a line. Conditions: the call's bytes can be read. Printed by wip/tools/gtold.py. -/
import Derived.Test.YtnjcmcnjgdjbiaaGreatDoorTold
import Derived.Test.YtnjcmcnjgdjbiaaGreatDoorWord
import Derived.Deep.DeepCutAuto
import Derived.Deep.CutBlock
namespace Go.Proofs.YtnjcmcnjgdjbiaaGreatDoor
open Go.RowKit

theorem tell_iff (x : Txt.Cx) {k : Nat} (hk : k < 14) (hop : x.op = (k : Int) + 1) {fa : Bool} {fn : Nat} {fd fr : Bool} (hf : formAt k = ⟨fa, fn, fd, fr⟩) :
    Txt.tellable x = true ↔ 0 ≤ x.ref ∧ x.ref ≤ 4096 ∧ x.data.length ≤ 65536 ∧ (fa = false → x.ref = 0 ∧ x.p = 0) ∧ (fr = false → x.deny = false) ∧ (fn ≤ 1 → x.b = 0) ∧ (fn = 0 → x.a = 0) ∧ (fd = false → x.data = []) := by
  unfold Txt.tellable
  rw [Bool.and_eq_true, decide_eq_true_eq, Txt.okCd_iff]
  have e : x.cd.op = k + 1 := by show x.op.toNat = _; omega
  have ef : Txt.formOf x.cd.op = ⟨fa, fn, fd, fr⟩ := by unfold Txt.formOf; rw [e]; exact hf
  rw [ef]
  obtain ⟨op, ref, p, a, b, deny, data⟩ := x
  simp only [Txt.Cx.cd] at *
  constructor
  · rintro ⟨h0, h1, h2, h3, h4, h5, h6, h7, h8⟩
    exact ⟨h0, by omega, h3, fun e => ⟨by have := (h4 e).1; omega, (h4 e).2⟩, h5, h6, h7, h8⟩
  · rintro ⟨h0, h2, h3, h4, h5, h6, h7, h8⟩
    exact ⟨h0, by omega, by omega, h3, fun e => ⟨by have := (h4 e).1; omega, (h4 e).2⟩, h5, h6, h7, h8⟩

theorem opWord_len : ∀ (k : Nat), k < 14 → (⟨(opWord k).toArray⟩ : ByteArray).size ≤ 16
  | 0, _ | 1, _ | 2, _ | 3, _ | 4, _ | 5, _ | 6, _ | 7, _ | 8, _ | 9, _ | 10, _ | 11, _ | 12, _ | 13, _ => by decide +kernel
  | _ + 14, h => by omega

theorem app_sp (l m : List UInt8) : (⟨l.toArray⟩ : ByteArray) ++ ((⟨#[32]⟩ : ByteArray) ++ ⟨m.toArray⟩) = ⟨(l ++ 32 :: m).toArray⟩ := by
  rw [show (⟨#[32]⟩ : ByteArray) = ⟨[(32 : UInt8)].toArray⟩ from rfl, app_list, app_list]; rfl

theorem num_at {a b j nb : Nat} {w : World} (ha : a ≤ Txt.M64) (hb : b ≤ Txt.M64) (hj : j < 2) (hc : ∀ i, w.cell? ⟨nb, i, none⟩ = ([Value.int .u64 a, .int .u64 b] : List Value)[i]?) :
    ∃ x : Nat, [Txt.dec a, Txt.dec b][j]? = some (Txt.dec x) ∧ x < 18446744073709551616 ∧ w.cell? ⟨nb, j, none⟩ = some (.int .u64 x) := by
  unfold Txt.M64 at ha hb
  obtain rfl | rfl : j = 0 ∨ j = 1 := by omega
  · exact ⟨a, rfl, by omega, hc 0⟩
  · exact ⟨b, rfl, by omega, hc 1⟩

theorem app_deny (l : List UInt8) : (⟨l.toArray⟩ : ByteArray) ++ (⟨#[32, 33]⟩ : ByteArray) = ⟨(l ++ [32, 33]).toArray⟩ := app_list l [32, 33]

theorem hex_len (d : List UInt8) (h : d.length ≤ 65536) : (⟨(Txt.hexT d).toArray⟩ : ByteArray).size ≤ 131073 := by
  show (Txt.hexT d).length ≤ 131073
  unfold Txt.hexT
  split
  · simp
  · rw [Txt.hexB_length]; omega

theorem text_of (x : Txt.Cx) {k : Nat} (hop : x.op = (k : Int) + 1) : Txt.textOf x.cd = opWord k ++ Txt.R (Txt.fieldWs (formAt k) x.cd ++ Txt.denyWs x.cd) := by
  have e : x.cd.op = k + 1 := by show x.op.toNat = _; omega
  unfold Txt.textOf Txt.opOf Txt.restWs Txt.formOf
  rw [e]
  rfl

theorem adr_len (r p : Nat) (hr : r ≤ 4096) (hp : p ≤ Txt.M64) : (⟨(Txt.adrT r p).toArray⟩ : ByteArray).size ≤ 42 := by
  show (Txt.adrT r p).length ≤ 42
  unfold Txt.adrT
  have h1 := dec_len p (by unfold Txt.M64 at hp; omega)
  have h2 := dec_len r (by omega)
  split
  · omega
  · split <;> simp <;> omega

def ToldTo (x : Txt.Cx) (w : World) (e : Ending) (w' : World) : Prop := e = .returned (.tuple #[.string ⟨(if Txt.tellable x then Txt.textOf x.cd else []).toArray⟩, .bool (Txt.tellable x)]) ∧ Touch Nothing w w'

set_option maxRecDepth 100000 in
set_option maxHeartbeats 1000000 in
theorem toldN (k : Nat) (hk : k < 14) (hform : formAt k = ⟨false, 1, false, true⟩) (ref : Int) (p a b : Nat) (deny : Bool) (data : List UInt8) (dp : Option Addr) (dc : Nat) (w : World) (G : Glob w) (hp : p ≤ Txt.M64) (ha : a ≤ Txt.M64) (hb : b ≤ Txt.M64) (R : RdD w dp data.length data) :
    Calls Tryz.prog 68 #[(CallV.mk ((k : Int) + 1) ref p a b deny dp data.length dc).val] w (ToldTo ⟨(k : Int) + 1, ref, p, a, b, deny, data⟩ w) := by
  unfold CallV.val
  have HG := Lib.hid G
  have HR := Lib.hid R
  have T0 : Touch Nothing w (w.alloc (.cells #[.int .i64 ((k : Int) + 1), .int .i64 ref, .int .u64 p, .int .u64 a, .int .u64 b, .bool deny, .slice dp data.length dc] 43)) := (Touch.refl _ w).alloc _
  have B0 := Blk.new w #[.int .i64 ((k : Int) + 1), .int .i64 ref, .int .u64 p, .int .u64 a, .int .u64 b, .bool deny, .slice dp data.length dc] 43
  have HF := Lib.hid (forms_ (w.alloc (.cells #[.int .i64 ((k : Int) + 1), .int .i64 ref, .int .u64 p, .int .u64 a, .int .u64 b, .bool deny, .slice dp data.length dc] 43)))
  have HT0 := Lib.hid T0
  have HB0 := Lib.hid B0
  clear T0 B0 G R
  go_enter Tryz.func68, Tryz.ntmps68
  go_wp2_with fail
  refine HF.out.mono ?_
  rintro e w1 ⟨gf, hgf, rfl, hBf, T1⟩
  obtain ⟨word, hword⟩ : ∃ word : ByteArray, (⟨(opWord k).toArray⟩ : ByteArray) = word := ⟨_, rfl⟩
  have B1 := HB0.out.touch T1 (fun h => h)
  obtain ⟨bb, hbb⟩ : ∃ bb, w.heap.size = bb := ⟨_, rfl⟩
  rw [hbb] at B1
  have r0 : w1.cell? ⟨gf, k * 5, none⟩ = some (.string word) := by rw [← hword]; exact form_cell hBf k hk 0 (by omega)
  have r1 : w1.cell? ⟨gf, k * 5 + 1, none⟩ = some (.bool false) := by have := form_cell hBf k hk 1 (by omega); unfold formRow at this; rw [hform] at this; exact this
  have r2 : w1.cell? ⟨gf, k * 5 + 2, none⟩ = some (.int .i64 1) := by have := form_cell hBf k hk 2 (by omega); unfold formRow at this; rw [hform] at this; exact this
  have r3 : w1.cell? ⟨gf, k * 5 + 3, none⟩ = some (.bool false) := by have := form_cell hBf k hk 3 (by omega); unfold formRow at this; rw [hform] at this; exact this
  have r4 : w1.cell? ⟨gf, k * 5 + 4, none⟩ = some (.bool true) := by have := form_cell hBf k hk 4 (by omega); unfold formRow at this; rw [hform] at this; exact this
  have c0 : w1.cell? ⟨bb, 0, none⟩ = some (.int .i64 ((k : Int) + 1)) := B1.cell 0
  have hblt := B1.lt
  have hglt := hBf.lt
  have HB1 := Lib.hid B1
  have HT1 := Lib.hid (HT0.out.trans T1)
  have hk2 : decide ((k : Int) + 1 < 1) = false := by simp; omega
  have hk3 : decide (14 ≤ k) = false := by simp; omega
  have hk4 : decide ((14 : Int) ≤ (k : Int)) = false := by simp; omega
  clear B1 hBf T1 hgf
  rw [hbb]
  go_upto_region 6 with fail
  have HB2 := Lib.hid (HB1.out.alloc (.cells #[.string word, .bool false, .int .i64 1, .bool false, .bool true] 148))
  have HBF := Lib.hid (Blk.new w1 #[.string word, .bool false, .int .i64 1, .bool false, .bool true] 148)
  have HT2 := Lib.hid (HT1.out.alloc (.cells #[.string word, .bool false, .int .i64 1, .bool false, .bool true] 148))
  obtain ⟨fb, hfb⟩ : ∃ fb, w1.heap.size = fb := ⟨_, rfl⟩
  rw [hfb] at HBF
  rw [hfb]
  generalize w1.alloc (.cells #[.string word, .bool false, .int .i64 1, .bool false, .bool true] 148) = w2 at *
  have c0' : w2.cell? ⟨bb, 0, none⟩ = some (.int .i64 ((k : Int) + 1)) := HB2.out.cell 0
  have c1 : w2.cell? ⟨bb, 1, none⟩ = some (.int .i64 ref) := HB2.out.cell 1
  have c2 : w2.cell? ⟨bb, 2, none⟩ = some (.int .u64 p) := HB2.out.cell 2
  have c3 : w2.cell? ⟨bb, 3, none⟩ = some (.int .u64 a) := HB2.out.cell 3
  have c4 : w2.cell? ⟨bb, 4, none⟩ = some (.int .u64 b) := HB2.out.cell 4
  have c5 : w2.cell? ⟨bb, 5, none⟩ = some (.bool deny) := HB2.out.cell 5
  have c6 : w2.cell? ⟨bb, 6, none⟩ = some (.slice dp data.length dc) := HB2.out.cell 6
  have f1 : w2.cell? ⟨fb, 1, none⟩ = some (.bool false) := HBF.out.cell 1
  have f2 : w2.cell? ⟨fb, 2, none⟩ = some (.int .i64 1) := HBF.out.cell 2
  have f3 : w2.cell? ⟨fb, 3, none⟩ = some (.bool false) := HBF.out.cell 3
  have f4 : w2.cell? ⟨fb, 4, none⟩ = some (.bool true) := HBF.out.cell 4
  clear r0 r1 r2 r3 r4 c0 hblt hglt HB1 HT1 hfb
  go_cut [97] (fun t wx => t = .bool (!Txt.tellable ⟨(k : Int) + 1, ref, p, a, b, deny, data⟩) ∧ wx = w2)
  case first =>
    clear HB2 HBF HT2 HR HG HF hbb
    simp only [List.append_eq, List.cons_append, List.nil_append]
    by_cases hcc : ref ≠ 0
    · have HOK := Lib.hid (show Txt.tellable ⟨(k : Int) + 1, ref, p, a, b, deny, data⟩ = false from by
        rw [← Bool.not_eq_true]
        intro h
        obtain ⟨h0, h1, h3, h4, h5, h6, h7, h8⟩ := (tell_iff _ hk rfl hform).1 h
        have e : ref = 0 := (h4 rfl).1; omega)
      have xref : (ref != 0) = true := by rw [bne_iff_ne]; omega
      clear hcc
      go_wp2_with fail
      go_meet
      exact ⟨by rw [HOK.out]; rfl, rfl⟩
    · obtain rfl : ref = 0 := by omega
      by_cases hcc : p ≠ 0
      · have HOK := Lib.hid (show Txt.tellable ⟨(k : Int) + 1, 0, p, a, b, deny, data⟩ = false from by
          rw [← Bool.not_eq_true]
          intro h
          obtain ⟨h0, h1, h3, h4, h5, h6, h7, h8⟩ := (tell_iff _ hk rfl hform).1 h
          have e : p = 0 := (h4 rfl).2; omega)
        have xp : ((p : Int) != 0) = true := by rw [bne_iff_ne]; omega
        have yp : (p != 0) = true := by rw [bne_iff_ne]; omega
        clear hcc
        go_wp2_with fail
        go_meet
        exact ⟨by rw [HOK.out]; rfl, rfl⟩
      · obtain rfl : p = 0 := by omega
        by_cases hcc : b ≠ 0
        · have HOK := Lib.hid (show Txt.tellable ⟨(k : Int) + 1, 0, 0, a, b, deny, data⟩ = false from by
            rw [← Bool.not_eq_true]
            intro h
            obtain ⟨h0, h1, h3, h4, h5, h6, h7, h8⟩ := (tell_iff _ hk rfl hform).1 h
            have e : b = 0 := h6 (by omega); omega)
          have xb : ((b : Int) != 0) = true := by rw [bne_iff_ne]; omega
          have yb : (b != 0) = true := by rw [bne_iff_ne]; omega
          clear hcc
          go_wp2_with fail
          go_meet
          exact ⟨by rw [HOK.out]; rfl, rfl⟩
        · obtain rfl : b = 0 := by omega
          by_cases hcc : 0 < data.length
          · have HOK := Lib.hid (show Txt.tellable ⟨(k : Int) + 1, 0, 0, a, 0, deny, data⟩ = false from by
              rw [← Bool.not_eq_true]
              intro h
              obtain ⟨h0, h1, h3, h4, h5, h6, h7, h8⟩ := (tell_iff _ hk rfl hform).1 h
              have e : data = [] := h8 rfl; rw [e] at hcc; simp at hcc)
            have xp : decide ((0 : Int) < (data.length : Int)) = true := by simp; omega
            have xq : decide (0 < data.length) = true := by simp; omega
            clear hcc
            go_wp2_with fail
            go_meet
            exact ⟨by rw [HOK.out]; rfl, rfl⟩
          · obtain rfl : data = [] := List.eq_nil_of_length_eq_zero (by omega)
            have HOK := Lib.hid (show Txt.tellable ⟨(k : Int) + 1, 0, 0, a, 0, deny, []⟩ = true from (tell_iff _ hk rfl hform).2 (by refine ⟨?_, ?_, ?_, ?_, ?_, ?_, ?_, ?_⟩ <;> simp <;> omega))
            go_wp2_with fail
            go_meet
            exact ⟨by rw [HOK.out]; rfl, rfl⟩
  case rest =>
    obtain ⟨rfl, hwc⟩ := hcut
    have hwc' := hwc.symm
    subst hwc'
    clear hwc
    by_cases ht : Txt.tellable ⟨(k : Int) + 1, ref, p, a, b, deny, data⟩ = true
    · have HOK := Lib.hid ht
      rw [ht, Bool.not_true]
      have tI := (tell_iff _ hk rfl hform).1 ht
      obtain ⟨h0, h1, h3, h4, h5, h6, h7, h8⟩ := tI
      have HI := Lib.hid (show 0 ≤ ref ∧ ref ≤ 4096 ∧ data.length ≤ 65536 from ⟨h0, h1, h3⟩)
      have hde := Lib.hid (show true = false → deny = false from fun h => h5 h)
      clear h0 h1 h3 h4 h5 h6 h7 h8 ht hbb
      have hw1 : word.size ≤ 16 := by rw [← hword]; exact opWord_len k hk
      have T3 := Touch.refl (S := Nothing) w2
      obtain ⟨sA, hsA⟩ : ∃ sA : ByteArray, word = sA := ⟨_, rfl⟩
      have hzA : sA.size ≤ 59 := by rw [← hsA]; omega
      have hLA := Lib.hid (show sA = ⟨(opWord k ++ Txt.R []).toArray⟩ by rw [← hsA, ← hword]; simp [Txt.R])
      have HT3 := Lib.hid (HT2.out.trans T3)
      have HB3 := Lib.hid (HB2.out.touch T3 (fun h => h))
      have HBF3 := Lib.hid (HBF.out.touch T3 (fun h => h))
      clear T3 c0' c1 c2 c3 c4 c5 c6 f1 f2 f3 f4 HT2 HB2 HBF
      have c3 : w2.cell? ⟨bb, 3, none⟩ = some (.int .u64 a) := HB3.out.cell 3
      have c4 : w2.cell? ⟨bb, 4, none⟩ = some (.int .u64 b) := HB3.out.cell 4
      have f1 : w2.cell? ⟨fb, 1, none⟩ = some (.bool false) := HBF3.out.cell 1
      have f2 : w2.cell? ⟨fb, 2, none⟩ = some (.int .i64 1) := HBF3.out.cell 2
      have hflt := HBF3.out.lt
      have hblt := HB3.out.lt
      go_upto_region 11 with fail
      have HT4 := Lib.hid (HT3.out.alloc (.cells #[.int .u64 a, .int .u64 b] 33))
      have HB4 := Lib.hid (HB3.out.alloc (.cells #[.int .u64 a, .int .u64 b] 33))
      have HBF4 := Lib.hid (HBF3.out.alloc (.cells #[.int .u64 a, .int .u64 b] 33))
      have HBN4 := Lib.hid (Blk.new w2 #[.int .u64 a, .int .u64 b] 33)
      obtain ⟨nb, hnb⟩ : ∃ nb, w2.heap.size = nb := ⟨_, rfl⟩
      rw [hnb] at HBN4
      rw [hnb]
      clear c3 c4 f1 f2 hflt hblt hnb HT3 HB3 HBF3
      generalize w2.alloc (.cells #[.int .u64 a, .int .u64 b] 33) = w4 at *
      go_loopw [6, 114] (fun s i wr => ∃ j ≤ 1, ∃ st : ByteArray, i = .int .i64 (j : Nat) ∧ s = .string st ∧ st.size ≤ 59 + 21 * j ∧ st = ⟨((opWord k ++ Txt.R []) ++ Txt.R ([Txt.dec a, Txt.dec b].take j)).toArray⟩ ∧ Touch Nothing w4 wr) (fun _ i _ => 1 - (intOf i).toNat)
      case atStart => exact ⟨0, by omega, sA, rfl, rfl, by omega, by rw [hLA.out]; simp [Txt.R], Touch.refl _ _⟩
      case round =>
        obtain ⟨j, hj, st, rfl, rfl, hz, hst, TL⟩ := hrel
        have HST := Lib.hid hst
        have HTL := Lib.hid TL
        clear hst TL
        by_cases hlt : j < 1
        · obtain ⟨x, hx, hx64⟩ : ∃ x : Nat, [Txt.dec a, Txt.dec b][j]? = some (Txt.dec x) ∧ x < 18446744073709551616 ∧ wr.cell? ⟨nb, j, none⟩ = some (.int .u64 x) := num_at ha hb (by omega) (fun i => (HBN4.out.touch HTL.out (fun h => h)).cell i)
          obtain ⟨hx64, hcell⟩ := hx64
          have HX := Lib.hid hx
          clear hx
          have hcl : decide (j < 1) = true := by simp; omega
          have hcl2 : decide ((j : Int) < 1) = true := by simp; omega
          have HF := Lib.hid (formatUint_ x hx64 wr (HG.out.touch0 (HT4.out.trans HTL.out)))
          go_wp2_with fail
          refine HF.out.mono ?_
          rintro e w5 ⟨rfl, T5⟩
          obtain ⟨sd, hsd⟩ : ∃ sd : ByteArray, (⟨(Txt.dec x).toArray⟩ : ByteArray) = sd := ⟨_, rfl⟩
          have hzd : sd.size ≤ 20 := by rw [← hsd]; exact dec_len x hx64
          rw [hsd]
          have HT5 := Lib.hid (HTL.out.trans T5)
          clear T5
          go_wp2_with fail
          refine ⟨⟨j + 1, by omega, _, by go_num, rfl, ?_, ?_, HT5.out⟩, ?_⟩
          · simp only [ByteArray.size_append]
            have : (⟨#[32]⟩ : ByteArray).size = 1 := rfl
            omega
          · rw [HST.out, ← hsd, app_sp, List.take_add_one, HX.out]
            simp [Txt.R]
          · simp [intOf]; omega
        · obtain rfl : j = 1 := by omega
          have HBr := Lib.hid (HB4.out.touch HTL.out (fun h => h))
          have HTr := Lib.hid (HT4.out.trans HTL.out)
          have f3 : wr.cell? ⟨fb, 3, none⟩ = some (.bool false) := (HBF4.out.touch HTL.out (fun h => h)).cell 3
          have c5 : wr.cell? ⟨bb, 5, none⟩ = some (.bool deny) := HBr.out.cell 5
          have c6 : wr.cell? ⟨bb, 6, none⟩ = some (.slice dp data.length dc) := HBr.out.cell 6
          clear hLA hlt hj
          cases deny
          · go_wp2_with fail
            go_ret2
            exact ⟨by rw [HOK.out, if_pos rfl, text_of _ rfl, hform, HST.out]; simp [Txt.fieldWs, Txt.adrWs, Txt.numWs, Txt.datWs, Txt.denyWs, Txt.Cx.cd, Txt.R], HTr.out⟩
          · go_wp2_with fail
            go_ret2
            exact ⟨by rw [HOK.out, if_pos rfl, text_of _ rfl, hform, HST.out]; rw [app_deny]; simp [Txt.fieldWs, Txt.adrWs, Txt.numWs, Txt.datWs, Txt.denyWs, Txt.Cx.cd, Txt.R], HTr.out⟩
    · have ht : Txt.tellable ⟨(k : Int) + 1, ref, p, a, b, deny, data⟩ = false := Bool.eq_false_iff.2 ht
      rw [ht, Bool.not_false]
      go_wp2_with fail
      go_ret2
      exact ⟨by rw [ht]; rfl, HT2.out⟩

set_option maxRecDepth 100000 in
set_option maxHeartbeats 1000000 in
theorem toldNN (k : Nat) (hk : k < 14) (hform : formAt k = ⟨false, 2, false, true⟩) (ref : Int) (p a b : Nat) (deny : Bool) (data : List UInt8) (dp : Option Addr) (dc : Nat) (w : World) (G : Glob w) (hp : p ≤ Txt.M64) (ha : a ≤ Txt.M64) (hb : b ≤ Txt.M64) (R : RdD w dp data.length data) :
    Calls Tryz.prog 68 #[(CallV.mk ((k : Int) + 1) ref p a b deny dp data.length dc).val] w (ToldTo ⟨(k : Int) + 1, ref, p, a, b, deny, data⟩ w) := by
  unfold CallV.val
  have HG := Lib.hid G
  have HR := Lib.hid R
  have T0 : Touch Nothing w (w.alloc (.cells #[.int .i64 ((k : Int) + 1), .int .i64 ref, .int .u64 p, .int .u64 a, .int .u64 b, .bool deny, .slice dp data.length dc] 43)) := (Touch.refl _ w).alloc _
  have B0 := Blk.new w #[.int .i64 ((k : Int) + 1), .int .i64 ref, .int .u64 p, .int .u64 a, .int .u64 b, .bool deny, .slice dp data.length dc] 43
  have HF := Lib.hid (forms_ (w.alloc (.cells #[.int .i64 ((k : Int) + 1), .int .i64 ref, .int .u64 p, .int .u64 a, .int .u64 b, .bool deny, .slice dp data.length dc] 43)))
  have HT0 := Lib.hid T0
  have HB0 := Lib.hid B0
  clear T0 B0 G R
  go_enter Tryz.func68, Tryz.ntmps68
  go_wp2_with fail
  refine HF.out.mono ?_
  rintro e w1 ⟨gf, hgf, rfl, hBf, T1⟩
  obtain ⟨word, hword⟩ : ∃ word : ByteArray, (⟨(opWord k).toArray⟩ : ByteArray) = word := ⟨_, rfl⟩
  have B1 := HB0.out.touch T1 (fun h => h)
  obtain ⟨bb, hbb⟩ : ∃ bb, w.heap.size = bb := ⟨_, rfl⟩
  rw [hbb] at B1
  have r0 : w1.cell? ⟨gf, k * 5, none⟩ = some (.string word) := by rw [← hword]; exact form_cell hBf k hk 0 (by omega)
  have r1 : w1.cell? ⟨gf, k * 5 + 1, none⟩ = some (.bool false) := by have := form_cell hBf k hk 1 (by omega); unfold formRow at this; rw [hform] at this; exact this
  have r2 : w1.cell? ⟨gf, k * 5 + 2, none⟩ = some (.int .i64 2) := by have := form_cell hBf k hk 2 (by omega); unfold formRow at this; rw [hform] at this; exact this
  have r3 : w1.cell? ⟨gf, k * 5 + 3, none⟩ = some (.bool false) := by have := form_cell hBf k hk 3 (by omega); unfold formRow at this; rw [hform] at this; exact this
  have r4 : w1.cell? ⟨gf, k * 5 + 4, none⟩ = some (.bool true) := by have := form_cell hBf k hk 4 (by omega); unfold formRow at this; rw [hform] at this; exact this
  have c0 : w1.cell? ⟨bb, 0, none⟩ = some (.int .i64 ((k : Int) + 1)) := B1.cell 0
  have hblt := B1.lt
  have hglt := hBf.lt
  have HB1 := Lib.hid B1
  have HT1 := Lib.hid (HT0.out.trans T1)
  have hk2 : decide ((k : Int) + 1 < 1) = false := by simp; omega
  have hk3 : decide (14 ≤ k) = false := by simp; omega
  have hk4 : decide ((14 : Int) ≤ (k : Int)) = false := by simp; omega
  clear B1 hBf T1 hgf
  rw [hbb]
  go_upto_region 6 with fail
  have HB2 := Lib.hid (HB1.out.alloc (.cells #[.string word, .bool false, .int .i64 2, .bool false, .bool true] 148))
  have HBF := Lib.hid (Blk.new w1 #[.string word, .bool false, .int .i64 2, .bool false, .bool true] 148)
  have HT2 := Lib.hid (HT1.out.alloc (.cells #[.string word, .bool false, .int .i64 2, .bool false, .bool true] 148))
  obtain ⟨fb, hfb⟩ : ∃ fb, w1.heap.size = fb := ⟨_, rfl⟩
  rw [hfb] at HBF
  rw [hfb]
  generalize w1.alloc (.cells #[.string word, .bool false, .int .i64 2, .bool false, .bool true] 148) = w2 at *
  have c0' : w2.cell? ⟨bb, 0, none⟩ = some (.int .i64 ((k : Int) + 1)) := HB2.out.cell 0
  have c1 : w2.cell? ⟨bb, 1, none⟩ = some (.int .i64 ref) := HB2.out.cell 1
  have c2 : w2.cell? ⟨bb, 2, none⟩ = some (.int .u64 p) := HB2.out.cell 2
  have c3 : w2.cell? ⟨bb, 3, none⟩ = some (.int .u64 a) := HB2.out.cell 3
  have c4 : w2.cell? ⟨bb, 4, none⟩ = some (.int .u64 b) := HB2.out.cell 4
  have c5 : w2.cell? ⟨bb, 5, none⟩ = some (.bool deny) := HB2.out.cell 5
  have c6 : w2.cell? ⟨bb, 6, none⟩ = some (.slice dp data.length dc) := HB2.out.cell 6
  have f1 : w2.cell? ⟨fb, 1, none⟩ = some (.bool false) := HBF.out.cell 1
  have f2 : w2.cell? ⟨fb, 2, none⟩ = some (.int .i64 2) := HBF.out.cell 2
  have f3 : w2.cell? ⟨fb, 3, none⟩ = some (.bool false) := HBF.out.cell 3
  have f4 : w2.cell? ⟨fb, 4, none⟩ = some (.bool true) := HBF.out.cell 4
  clear r0 r1 r2 r3 r4 c0 hblt hglt HB1 HT1 hfb
  go_cut [97] (fun t wx => t = .bool (!Txt.tellable ⟨(k : Int) + 1, ref, p, a, b, deny, data⟩) ∧ wx = w2)
  case first =>
    clear HB2 HBF HT2 HR HG HF hbb
    simp only [List.append_eq, List.cons_append, List.nil_append]
    by_cases hcc : ref ≠ 0
    · have HOK := Lib.hid (show Txt.tellable ⟨(k : Int) + 1, ref, p, a, b, deny, data⟩ = false from by
        rw [← Bool.not_eq_true]
        intro h
        obtain ⟨h0, h1, h3, h4, h5, h6, h7, h8⟩ := (tell_iff _ hk rfl hform).1 h
        have e : ref = 0 := (h4 rfl).1; omega)
      have xref : (ref != 0) = true := by rw [bne_iff_ne]; omega
      clear hcc
      go_wp2_with fail
      go_meet
      exact ⟨by rw [HOK.out]; rfl, rfl⟩
    · obtain rfl : ref = 0 := by omega
      by_cases hcc : p ≠ 0
      · have HOK := Lib.hid (show Txt.tellable ⟨(k : Int) + 1, 0, p, a, b, deny, data⟩ = false from by
          rw [← Bool.not_eq_true]
          intro h
          obtain ⟨h0, h1, h3, h4, h5, h6, h7, h8⟩ := (tell_iff _ hk rfl hform).1 h
          have e : p = 0 := (h4 rfl).2; omega)
        have xp : ((p : Int) != 0) = true := by rw [bne_iff_ne]; omega
        have yp : (p != 0) = true := by rw [bne_iff_ne]; omega
        clear hcc
        go_wp2_with fail
        go_meet
        exact ⟨by rw [HOK.out]; rfl, rfl⟩
      · obtain rfl : p = 0 := by omega
        by_cases hcc : 0 < data.length
        · have HOK := Lib.hid (show Txt.tellable ⟨(k : Int) + 1, 0, 0, a, b, deny, data⟩ = false from by
            rw [← Bool.not_eq_true]
            intro h
            obtain ⟨h0, h1, h3, h4, h5, h6, h7, h8⟩ := (tell_iff _ hk rfl hform).1 h
            have e : data = [] := h8 rfl; rw [e] at hcc; simp at hcc)
          have xp : decide ((0 : Int) < (data.length : Int)) = true := by simp; omega
          have xq : decide (0 < data.length) = true := by simp; omega
          clear hcc
          go_wp2_with fail
          go_meet
          exact ⟨by rw [HOK.out]; rfl, rfl⟩
        · obtain rfl : data = [] := List.eq_nil_of_length_eq_zero (by omega)
          have HOK := Lib.hid (show Txt.tellable ⟨(k : Int) + 1, 0, 0, a, b, deny, []⟩ = true from (tell_iff _ hk rfl hform).2 (by refine ⟨?_, ?_, ?_, ?_, ?_, ?_, ?_, ?_⟩ <;> simp <;> omega))
          go_wp2_with fail
          go_meet
          exact ⟨by rw [HOK.out]; rfl, rfl⟩
  case rest =>
    obtain ⟨rfl, hwc⟩ := hcut
    have hwc' := hwc.symm
    subst hwc'
    clear hwc
    by_cases ht : Txt.tellable ⟨(k : Int) + 1, ref, p, a, b, deny, data⟩ = true
    · have HOK := Lib.hid ht
      rw [ht, Bool.not_true]
      have tI := (tell_iff _ hk rfl hform).1 ht
      obtain ⟨h0, h1, h3, h4, h5, h6, h7, h8⟩ := tI
      have HI := Lib.hid (show 0 ≤ ref ∧ ref ≤ 4096 ∧ data.length ≤ 65536 from ⟨h0, h1, h3⟩)
      have hde := Lib.hid (show true = false → deny = false from fun h => h5 h)
      clear h0 h1 h3 h4 h5 h6 h7 h8 ht hbb
      have hw1 : word.size ≤ 16 := by rw [← hword]; exact opWord_len k hk
      have T3 := Touch.refl (S := Nothing) w2
      obtain ⟨sA, hsA⟩ : ∃ sA : ByteArray, word = sA := ⟨_, rfl⟩
      have hzA : sA.size ≤ 59 := by rw [← hsA]; omega
      have hLA := Lib.hid (show sA = ⟨(opWord k ++ Txt.R []).toArray⟩ by rw [← hsA, ← hword]; simp [Txt.R])
      have HT3 := Lib.hid (HT2.out.trans T3)
      have HB3 := Lib.hid (HB2.out.touch T3 (fun h => h))
      have HBF3 := Lib.hid (HBF.out.touch T3 (fun h => h))
      clear T3 c0' c1 c2 c3 c4 c5 c6 f1 f2 f3 f4 HT2 HB2 HBF
      have c3 : w2.cell? ⟨bb, 3, none⟩ = some (.int .u64 a) := HB3.out.cell 3
      have c4 : w2.cell? ⟨bb, 4, none⟩ = some (.int .u64 b) := HB3.out.cell 4
      have f1 : w2.cell? ⟨fb, 1, none⟩ = some (.bool false) := HBF3.out.cell 1
      have f2 : w2.cell? ⟨fb, 2, none⟩ = some (.int .i64 2) := HBF3.out.cell 2
      have hflt := HBF3.out.lt
      have hblt := HB3.out.lt
      go_upto_region 11 with fail
      have HT4 := Lib.hid (HT3.out.alloc (.cells #[.int .u64 a, .int .u64 b] 33))
      have HB4 := Lib.hid (HB3.out.alloc (.cells #[.int .u64 a, .int .u64 b] 33))
      have HBF4 := Lib.hid (HBF3.out.alloc (.cells #[.int .u64 a, .int .u64 b] 33))
      have HBN4 := Lib.hid (Blk.new w2 #[.int .u64 a, .int .u64 b] 33)
      obtain ⟨nb, hnb⟩ : ∃ nb, w2.heap.size = nb := ⟨_, rfl⟩
      rw [hnb] at HBN4
      rw [hnb]
      clear c3 c4 f1 f2 hflt hblt hnb HT3 HB3 HBF3
      generalize w2.alloc (.cells #[.int .u64 a, .int .u64 b] 33) = w4 at *
      go_loopw [6, 114] (fun s i wr => ∃ j ≤ 2, ∃ st : ByteArray, i = .int .i64 (j : Nat) ∧ s = .string st ∧ st.size ≤ 59 + 21 * j ∧ st = ⟨((opWord k ++ Txt.R []) ++ Txt.R ([Txt.dec a, Txt.dec b].take j)).toArray⟩ ∧ Touch Nothing w4 wr) (fun _ i _ => 2 - (intOf i).toNat)
      case atStart => exact ⟨0, by omega, sA, rfl, rfl, by omega, by rw [hLA.out]; simp [Txt.R], Touch.refl _ _⟩
      case round =>
        obtain ⟨j, hj, st, rfl, rfl, hz, hst, TL⟩ := hrel
        have HST := Lib.hid hst
        have HTL := Lib.hid TL
        clear hst TL
        by_cases hlt : j < 2
        · obtain ⟨x, hx, hx64⟩ : ∃ x : Nat, [Txt.dec a, Txt.dec b][j]? = some (Txt.dec x) ∧ x < 18446744073709551616 ∧ wr.cell? ⟨nb, j, none⟩ = some (.int .u64 x) := num_at ha hb (by omega) (fun i => (HBN4.out.touch HTL.out (fun h => h)).cell i)
          obtain ⟨hx64, hcell⟩ := hx64
          have HX := Lib.hid hx
          clear hx
          have hcl : decide (j < 2) = true := by simp; omega
          have hcl2 : decide ((j : Int) < 2) = true := by simp; omega
          have HF := Lib.hid (formatUint_ x hx64 wr (HG.out.touch0 (HT4.out.trans HTL.out)))
          go_wp2_with fail
          refine HF.out.mono ?_
          rintro e w5 ⟨rfl, T5⟩
          obtain ⟨sd, hsd⟩ : ∃ sd : ByteArray, (⟨(Txt.dec x).toArray⟩ : ByteArray) = sd := ⟨_, rfl⟩
          have hzd : sd.size ≤ 20 := by rw [← hsd]; exact dec_len x hx64
          rw [hsd]
          have HT5 := Lib.hid (HTL.out.trans T5)
          clear T5
          go_wp2_with fail
          refine ⟨⟨j + 1, by omega, _, by go_num, rfl, ?_, ?_, HT5.out⟩, ?_⟩
          · simp only [ByteArray.size_append]
            have : (⟨#[32]⟩ : ByteArray).size = 1 := rfl
            omega
          · rw [HST.out, ← hsd, app_sp, List.take_add_one, HX.out]
            simp [Txt.R]
          · simp [intOf]; omega
        · obtain rfl : j = 2 := by omega
          have HBr := Lib.hid (HB4.out.touch HTL.out (fun h => h))
          have HTr := Lib.hid (HT4.out.trans HTL.out)
          have f3 : wr.cell? ⟨fb, 3, none⟩ = some (.bool false) := (HBF4.out.touch HTL.out (fun h => h)).cell 3
          have c5 : wr.cell? ⟨bb, 5, none⟩ = some (.bool deny) := HBr.out.cell 5
          have c6 : wr.cell? ⟨bb, 6, none⟩ = some (.slice dp data.length dc) := HBr.out.cell 6
          clear hLA hlt hj
          cases deny
          · go_wp2_with fail
            go_ret2
            exact ⟨by rw [HOK.out, if_pos rfl, text_of _ rfl, hform, HST.out]; simp [Txt.fieldWs, Txt.adrWs, Txt.numWs, Txt.datWs, Txt.denyWs, Txt.Cx.cd, Txt.R], HTr.out⟩
          · go_wp2_with fail
            go_ret2
            exact ⟨by rw [HOK.out, if_pos rfl, text_of _ rfl, hform, HST.out]; rw [app_deny]; simp [Txt.fieldWs, Txt.adrWs, Txt.numWs, Txt.datWs, Txt.denyWs, Txt.Cx.cd, Txt.R], HTr.out⟩
    · have ht : Txt.tellable ⟨(k : Int) + 1, ref, p, a, b, deny, data⟩ = false := Bool.eq_false_iff.2 ht
      rw [ht, Bool.not_false]
      go_wp2_with fail
      go_ret2
      exact ⟨by rw [ht]; rfl, HT2.out⟩

set_option maxRecDepth 100000 in
set_option maxHeartbeats 1000000 in
theorem toldPN (k : Nat) (hk : k < 14) (hform : formAt k = ⟨true, 1, false, true⟩) (ref : Int) (p a b : Nat) (deny : Bool) (data : List UInt8) (dp : Option Addr) (dc : Nat) (w : World) (G : Glob w) (hp : p ≤ Txt.M64) (ha : a ≤ Txt.M64) (hb : b ≤ Txt.M64) (R : RdD w dp data.length data) :
    Calls Tryz.prog 68 #[(CallV.mk ((k : Int) + 1) ref p a b deny dp data.length dc).val] w (ToldTo ⟨(k : Int) + 1, ref, p, a, b, deny, data⟩ w) := by
  unfold CallV.val
  have HG := Lib.hid G
  have HR := Lib.hid R
  have T0 : Touch Nothing w (w.alloc (.cells #[.int .i64 ((k : Int) + 1), .int .i64 ref, .int .u64 p, .int .u64 a, .int .u64 b, .bool deny, .slice dp data.length dc] 43)) := (Touch.refl _ w).alloc _
  have B0 := Blk.new w #[.int .i64 ((k : Int) + 1), .int .i64 ref, .int .u64 p, .int .u64 a, .int .u64 b, .bool deny, .slice dp data.length dc] 43
  have HF := Lib.hid (forms_ (w.alloc (.cells #[.int .i64 ((k : Int) + 1), .int .i64 ref, .int .u64 p, .int .u64 a, .int .u64 b, .bool deny, .slice dp data.length dc] 43)))
  have HT0 := Lib.hid T0
  have HB0 := Lib.hid B0
  clear T0 B0 G R
  go_enter Tryz.func68, Tryz.ntmps68
  go_wp2_with fail
  refine HF.out.mono ?_
  rintro e w1 ⟨gf, hgf, rfl, hBf, T1⟩
  obtain ⟨word, hword⟩ : ∃ word : ByteArray, (⟨(opWord k).toArray⟩ : ByteArray) = word := ⟨_, rfl⟩
  have B1 := HB0.out.touch T1 (fun h => h)
  obtain ⟨bb, hbb⟩ : ∃ bb, w.heap.size = bb := ⟨_, rfl⟩
  rw [hbb] at B1
  have r0 : w1.cell? ⟨gf, k * 5, none⟩ = some (.string word) := by rw [← hword]; exact form_cell hBf k hk 0 (by omega)
  have r1 : w1.cell? ⟨gf, k * 5 + 1, none⟩ = some (.bool true) := by have := form_cell hBf k hk 1 (by omega); unfold formRow at this; rw [hform] at this; exact this
  have r2 : w1.cell? ⟨gf, k * 5 + 2, none⟩ = some (.int .i64 1) := by have := form_cell hBf k hk 2 (by omega); unfold formRow at this; rw [hform] at this; exact this
  have r3 : w1.cell? ⟨gf, k * 5 + 3, none⟩ = some (.bool false) := by have := form_cell hBf k hk 3 (by omega); unfold formRow at this; rw [hform] at this; exact this
  have r4 : w1.cell? ⟨gf, k * 5 + 4, none⟩ = some (.bool true) := by have := form_cell hBf k hk 4 (by omega); unfold formRow at this; rw [hform] at this; exact this
  have c0 : w1.cell? ⟨bb, 0, none⟩ = some (.int .i64 ((k : Int) + 1)) := B1.cell 0
  have hblt := B1.lt
  have hglt := hBf.lt
  have HB1 := Lib.hid B1
  have HT1 := Lib.hid (HT0.out.trans T1)
  have hk2 : decide ((k : Int) + 1 < 1) = false := by simp; omega
  have hk3 : decide (14 ≤ k) = false := by simp; omega
  have hk4 : decide ((14 : Int) ≤ (k : Int)) = false := by simp; omega
  clear B1 hBf T1 hgf
  rw [hbb]
  go_upto_region 6 with fail
  have HB2 := Lib.hid (HB1.out.alloc (.cells #[.string word, .bool true, .int .i64 1, .bool false, .bool true] 148))
  have HBF := Lib.hid (Blk.new w1 #[.string word, .bool true, .int .i64 1, .bool false, .bool true] 148)
  have HT2 := Lib.hid (HT1.out.alloc (.cells #[.string word, .bool true, .int .i64 1, .bool false, .bool true] 148))
  obtain ⟨fb, hfb⟩ : ∃ fb, w1.heap.size = fb := ⟨_, rfl⟩
  rw [hfb] at HBF
  rw [hfb]
  generalize w1.alloc (.cells #[.string word, .bool true, .int .i64 1, .bool false, .bool true] 148) = w2 at *
  have c0' : w2.cell? ⟨bb, 0, none⟩ = some (.int .i64 ((k : Int) + 1)) := HB2.out.cell 0
  have c1 : w2.cell? ⟨bb, 1, none⟩ = some (.int .i64 ref) := HB2.out.cell 1
  have c2 : w2.cell? ⟨bb, 2, none⟩ = some (.int .u64 p) := HB2.out.cell 2
  have c3 : w2.cell? ⟨bb, 3, none⟩ = some (.int .u64 a) := HB2.out.cell 3
  have c4 : w2.cell? ⟨bb, 4, none⟩ = some (.int .u64 b) := HB2.out.cell 4
  have c5 : w2.cell? ⟨bb, 5, none⟩ = some (.bool deny) := HB2.out.cell 5
  have c6 : w2.cell? ⟨bb, 6, none⟩ = some (.slice dp data.length dc) := HB2.out.cell 6
  have f1 : w2.cell? ⟨fb, 1, none⟩ = some (.bool true) := HBF.out.cell 1
  have f2 : w2.cell? ⟨fb, 2, none⟩ = some (.int .i64 1) := HBF.out.cell 2
  have f3 : w2.cell? ⟨fb, 3, none⟩ = some (.bool false) := HBF.out.cell 3
  have f4 : w2.cell? ⟨fb, 4, none⟩ = some (.bool true) := HBF.out.cell 4
  clear r0 r1 r2 r3 r4 c0 hblt hglt HB1 HT1 hfb
  go_cut [97] (fun t wx => t = .bool (!Txt.tellable ⟨(k : Int) + 1, ref, p, a, b, deny, data⟩) ∧ wx = w2)
  case first =>
    clear HB2 HBF HT2 HR HG HF hbb
    simp only [List.append_eq, List.cons_append, List.nil_append]
    by_cases hcc : ref < 0
    · have HOK := Lib.hid (show Txt.tellable ⟨(k : Int) + 1, ref, p, a, b, deny, data⟩ = false from by
        rw [← Bool.not_eq_true]
        intro h
        obtain ⟨h0, h1, h3, h4, h5, h6, h7, h8⟩ := (tell_iff _ hk rfl hform).1 h
        have e : 0 ≤ ref := h0; omega)
      have xl : decide (ref < 0) = true := by simp; omega
      clear hcc
      go_wp2_with fail
      go_meet
      exact ⟨by rw [HOK.out]; rfl, rfl⟩
    · have xl : decide (ref < 0) = false := by simp; omega
      by_cases hcc : 4096 < ref
      · have HOK := Lib.hid (show Txt.tellable ⟨(k : Int) + 1, ref, p, a, b, deny, data⟩ = false from by
          rw [← Bool.not_eq_true]
          intro h
          obtain ⟨h0, h1, h3, h4, h5, h6, h7, h8⟩ := (tell_iff _ hk rfl hform).1 h
          have e : ref ≤ 4096 := h1; omega)
        have xg : decide (4096 < ref) = true := by simp; omega
        clear hcc
        go_wp2_with fail
        go_meet
        exact ⟨by rw [HOK.out]; rfl, rfl⟩
      · have xg : decide (4096 < ref) = false := by simp; omega
        by_cases hcc : b ≠ 0
        · have HOK := Lib.hid (show Txt.tellable ⟨(k : Int) + 1, ref, p, a, b, deny, data⟩ = false from by
            rw [← Bool.not_eq_true]
            intro h
            obtain ⟨h0, h1, h3, h4, h5, h6, h7, h8⟩ := (tell_iff _ hk rfl hform).1 h
            have e : b = 0 := h6 (by omega); omega)
          have xb : ((b : Int) != 0) = true := by rw [bne_iff_ne]; omega
          have yb : (b != 0) = true := by rw [bne_iff_ne]; omega
          clear hcc
          go_wp2_with fail
          go_meet
          exact ⟨by rw [HOK.out]; rfl, rfl⟩
        · obtain rfl : b = 0 := by omega
          by_cases hcc : 0 < data.length
          · have HOK := Lib.hid (show Txt.tellable ⟨(k : Int) + 1, ref, p, a, 0, deny, data⟩ = false from by
              rw [← Bool.not_eq_true]
              intro h
              obtain ⟨h0, h1, h3, h4, h5, h6, h7, h8⟩ := (tell_iff _ hk rfl hform).1 h
              have e : data = [] := h8 rfl; rw [e] at hcc; simp at hcc)
            have xp : decide ((0 : Int) < (data.length : Int)) = true := by simp; omega
            have xq : decide (0 < data.length) = true := by simp; omega
            clear hcc
            go_wp2_with fail
            go_meet
            exact ⟨by rw [HOK.out]; rfl, rfl⟩
          · obtain rfl : data = [] := List.eq_nil_of_length_eq_zero (by omega)
            have HOK := Lib.hid (show Txt.tellable ⟨(k : Int) + 1, ref, p, a, 0, deny, []⟩ = true from (tell_iff _ hk rfl hform).2 (by refine ⟨?_, ?_, ?_, ?_, ?_, ?_, ?_, ?_⟩ <;> simp <;> omega))
            go_wp2_with fail
            go_meet
            exact ⟨by rw [HOK.out]; rfl, rfl⟩
  case rest =>
    obtain ⟨rfl, hwc⟩ := hcut
    have hwc' := hwc.symm
    subst hwc'
    clear hwc
    by_cases ht : Txt.tellable ⟨(k : Int) + 1, ref, p, a, b, deny, data⟩ = true
    · have HOK := Lib.hid ht
      rw [ht, Bool.not_true]
      have tI := (tell_iff _ hk rfl hform).1 ht
      obtain ⟨h0, h1, h3, h4, h5, h6, h7, h8⟩ := tI
      have HI := Lib.hid (show 0 ≤ ref ∧ ref ≤ 4096 ∧ data.length ≤ 65536 from ⟨h0, h1, h3⟩)
      have hde := Lib.hid (show true = false → deny = false from fun h => h5 h)
      clear h0 h1 h3 h4 h5 h6 h7 h8 ht hbb
      have hw1 : word.size ≤ 16 := by rw [← hword]; exact opWord_len k hk
      have HA : Calls Tryz.prog 115 _ w2 (Texted (Txt.adrT ref.toNat p) w2) := address2_ (CallV.mk ((k : Int) + 1) ref p a b deny dp data.length dc) ref.toNat (by show ref = _; have := HI.out.1; omega) (by have := HI.out.2.1; omega) hp _ (HG.out.touch0 HT2.out)
      have HA' := Lib.hid HA
      clear HA
      go_wp2_with fail
      refine HA'.out.mono ?_
      rintro e w3 ⟨rfl, T3⟩
      obtain ⟨s1, hs1⟩ : ∃ s1 : ByteArray, (⟨(Txt.adrT ref.toNat p).toArray⟩ : ByteArray) = s1 := ⟨_, rfl⟩
      have hz1 : s1.size ≤ 42 := by rw [← hs1]; exact adr_len _ _ (by have := HI.out.2.1; omega) hp
      obtain ⟨sA, hsA⟩ : ∃ sA : ByteArray, word ++ ((⟨#[32]⟩ : ByteArray) ++ s1) = sA := ⟨_, rfl⟩
      have hzA : sA.size ≤ 59 := by rw [← hsA]; simp only [ByteArray.size_append]; have : (⟨#[32]⟩ : ByteArray).size = 1 := rfl; omega
      have hLA := Lib.hid (show sA = ⟨(opWord k ++ Txt.R [Txt.adrT ref.toNat p]).toArray⟩ by rw [← hsA, ← hs1, ← hword, app_sp]; simp [Txt.R])
      rw [hs1]
      have HT3 := Lib.hid (HT2.out.trans T3)
      have HB3 := Lib.hid (HB2.out.touch T3 (fun h => h))
      have HBF3 := Lib.hid (HBF.out.touch T3 (fun h => h))
      clear T3 c0' c1 c2 c3 c4 c5 c6 f1 f2 f3 f4 HT2 HB2 HBF
      have c3 : w3.cell? ⟨bb, 3, none⟩ = some (.int .u64 a) := HB3.out.cell 3
      have c4 : w3.cell? ⟨bb, 4, none⟩ = some (.int .u64 b) := HB3.out.cell 4
      have f1 : w3.cell? ⟨fb, 1, none⟩ = some (.bool true) := HBF3.out.cell 1
      have f2 : w3.cell? ⟨fb, 2, none⟩ = some (.int .i64 1) := HBF3.out.cell 2
      have hflt := HBF3.out.lt
      have hblt := HB3.out.lt
      go_upto_region 11 with fail
      have HT4 := Lib.hid (HT3.out.alloc (.cells #[.int .u64 a, .int .u64 b] 33))
      have HB4 := Lib.hid (HB3.out.alloc (.cells #[.int .u64 a, .int .u64 b] 33))
      have HBF4 := Lib.hid (HBF3.out.alloc (.cells #[.int .u64 a, .int .u64 b] 33))
      have HBN4 := Lib.hid (Blk.new w3 #[.int .u64 a, .int .u64 b] 33)
      obtain ⟨nb, hnb⟩ : ∃ nb, w3.heap.size = nb := ⟨_, rfl⟩
      rw [hnb] at HBN4
      rw [hnb]
      clear c3 c4 f1 f2 hflt hblt hnb HT3 HB3 HBF3
      generalize w3.alloc (.cells #[.int .u64 a, .int .u64 b] 33) = w4 at *
      go_loopw [6, 114] (fun s i wr => ∃ j ≤ 1, ∃ st : ByteArray, i = .int .i64 (j : Nat) ∧ s = .string st ∧ st.size ≤ 59 + 21 * j ∧ st = ⟨((opWord k ++ Txt.R [Txt.adrT ref.toNat p]) ++ Txt.R ([Txt.dec a, Txt.dec b].take j)).toArray⟩ ∧ Touch Nothing w4 wr) (fun _ i _ => 1 - (intOf i).toNat)
      case atStart => exact ⟨0, by omega, sA, rfl, rfl, by omega, by rw [hLA.out]; simp [Txt.R], Touch.refl _ _⟩
      case round =>
        obtain ⟨j, hj, st, rfl, rfl, hz, hst, TL⟩ := hrel
        have HST := Lib.hid hst
        have HTL := Lib.hid TL
        clear hst TL
        by_cases hlt : j < 1
        · obtain ⟨x, hx, hx64⟩ : ∃ x : Nat, [Txt.dec a, Txt.dec b][j]? = some (Txt.dec x) ∧ x < 18446744073709551616 ∧ wr.cell? ⟨nb, j, none⟩ = some (.int .u64 x) := num_at ha hb (by omega) (fun i => (HBN4.out.touch HTL.out (fun h => h)).cell i)
          obtain ⟨hx64, hcell⟩ := hx64
          have HX := Lib.hid hx
          clear hx
          have hcl : decide (j < 1) = true := by simp; omega
          have hcl2 : decide ((j : Int) < 1) = true := by simp; omega
          have HF := Lib.hid (formatUint_ x hx64 wr (HG.out.touch0 (HT4.out.trans HTL.out)))
          go_wp2_with fail
          refine HF.out.mono ?_
          rintro e w5 ⟨rfl, T5⟩
          obtain ⟨sd, hsd⟩ : ∃ sd : ByteArray, (⟨(Txt.dec x).toArray⟩ : ByteArray) = sd := ⟨_, rfl⟩
          have hzd : sd.size ≤ 20 := by rw [← hsd]; exact dec_len x hx64
          rw [hsd]
          have HT5 := Lib.hid (HTL.out.trans T5)
          clear T5
          go_wp2_with fail
          refine ⟨⟨j + 1, by omega, _, by go_num, rfl, ?_, ?_, HT5.out⟩, ?_⟩
          · simp only [ByteArray.size_append]
            have : (⟨#[32]⟩ : ByteArray).size = 1 := rfl
            omega
          · rw [HST.out, ← hsd, app_sp, List.take_add_one, HX.out]
            simp [Txt.R]
          · simp [intOf]; omega
        · obtain rfl : j = 1 := by omega
          have HBr := Lib.hid (HB4.out.touch HTL.out (fun h => h))
          have HTr := Lib.hid (HT4.out.trans HTL.out)
          have f3 : wr.cell? ⟨fb, 3, none⟩ = some (.bool false) := (HBF4.out.touch HTL.out (fun h => h)).cell 3
          have c5 : wr.cell? ⟨bb, 5, none⟩ = some (.bool deny) := HBr.out.cell 5
          have c6 : wr.cell? ⟨bb, 6, none⟩ = some (.slice dp data.length dc) := HBr.out.cell 6
          clear hLA hlt hj
          cases deny
          · go_wp2_with fail
            go_ret2
            exact ⟨by rw [HOK.out, if_pos rfl, text_of _ rfl, hform, HST.out]; simp [Txt.fieldWs, Txt.adrWs, Txt.numWs, Txt.datWs, Txt.denyWs, Txt.Cx.cd, Txt.R], HTr.out⟩
          · go_wp2_with fail
            go_ret2
            exact ⟨by rw [HOK.out, if_pos rfl, text_of _ rfl, hform, HST.out]; rw [app_deny]; simp [Txt.fieldWs, Txt.adrWs, Txt.numWs, Txt.datWs, Txt.denyWs, Txt.Cx.cd, Txt.R], HTr.out⟩
    · have ht : Txt.tellable ⟨(k : Int) + 1, ref, p, a, b, deny, data⟩ = false := Bool.eq_false_iff.2 ht
      rw [ht, Bool.not_false]
      go_wp2_with fail
      go_ret2
      exact ⟨by rw [ht]; rfl, HT2.out⟩

set_option maxRecDepth 100000 in
set_option maxHeartbeats 1000000 in
theorem toldP (k : Nat) (hk : k < 14) (hform : formAt k = ⟨true, 0, false, false⟩) (ref : Int) (p a b : Nat) (deny : Bool) (data : List UInt8) (dp : Option Addr) (dc : Nat) (w : World) (G : Glob w) (hp : p ≤ Txt.M64) (ha : a ≤ Txt.M64) (hb : b ≤ Txt.M64) (R : RdD w dp data.length data) :
    Calls Tryz.prog 68 #[(CallV.mk ((k : Int) + 1) ref p a b deny dp data.length dc).val] w (ToldTo ⟨(k : Int) + 1, ref, p, a, b, deny, data⟩ w) := by
  unfold CallV.val
  have HG := Lib.hid G
  have HR := Lib.hid R
  have T0 : Touch Nothing w (w.alloc (.cells #[.int .i64 ((k : Int) + 1), .int .i64 ref, .int .u64 p, .int .u64 a, .int .u64 b, .bool deny, .slice dp data.length dc] 43)) := (Touch.refl _ w).alloc _
  have B0 := Blk.new w #[.int .i64 ((k : Int) + 1), .int .i64 ref, .int .u64 p, .int .u64 a, .int .u64 b, .bool deny, .slice dp data.length dc] 43
  have HF := Lib.hid (forms_ (w.alloc (.cells #[.int .i64 ((k : Int) + 1), .int .i64 ref, .int .u64 p, .int .u64 a, .int .u64 b, .bool deny, .slice dp data.length dc] 43)))
  have HT0 := Lib.hid T0
  have HB0 := Lib.hid B0
  clear T0 B0 G R
  go_enter Tryz.func68, Tryz.ntmps68
  go_wp2_with fail
  refine HF.out.mono ?_
  rintro e w1 ⟨gf, hgf, rfl, hBf, T1⟩
  obtain ⟨word, hword⟩ : ∃ word : ByteArray, (⟨(opWord k).toArray⟩ : ByteArray) = word := ⟨_, rfl⟩
  have B1 := HB0.out.touch T1 (fun h => h)
  obtain ⟨bb, hbb⟩ : ∃ bb, w.heap.size = bb := ⟨_, rfl⟩
  rw [hbb] at B1
  have r0 : w1.cell? ⟨gf, k * 5, none⟩ = some (.string word) := by rw [← hword]; exact form_cell hBf k hk 0 (by omega)
  have r1 : w1.cell? ⟨gf, k * 5 + 1, none⟩ = some (.bool true) := by have := form_cell hBf k hk 1 (by omega); unfold formRow at this; rw [hform] at this; exact this
  have r2 : w1.cell? ⟨gf, k * 5 + 2, none⟩ = some (.int .i64 0) := by have := form_cell hBf k hk 2 (by omega); unfold formRow at this; rw [hform] at this; exact this
  have r3 : w1.cell? ⟨gf, k * 5 + 3, none⟩ = some (.bool false) := by have := form_cell hBf k hk 3 (by omega); unfold formRow at this; rw [hform] at this; exact this
  have r4 : w1.cell? ⟨gf, k * 5 + 4, none⟩ = some (.bool false) := by have := form_cell hBf k hk 4 (by omega); unfold formRow at this; rw [hform] at this; exact this
  have c0 : w1.cell? ⟨bb, 0, none⟩ = some (.int .i64 ((k : Int) + 1)) := B1.cell 0
  have hblt := B1.lt
  have hglt := hBf.lt
  have HB1 := Lib.hid B1
  have HT1 := Lib.hid (HT0.out.trans T1)
  have hk2 : decide ((k : Int) + 1 < 1) = false := by simp; omega
  have hk3 : decide (14 ≤ k) = false := by simp; omega
  have hk4 : decide ((14 : Int) ≤ (k : Int)) = false := by simp; omega
  clear B1 hBf T1 hgf
  rw [hbb]
  go_upto_region 6 with fail
  have HB2 := Lib.hid (HB1.out.alloc (.cells #[.string word, .bool true, .int .i64 0, .bool false, .bool false] 148))
  have HBF := Lib.hid (Blk.new w1 #[.string word, .bool true, .int .i64 0, .bool false, .bool false] 148)
  have HT2 := Lib.hid (HT1.out.alloc (.cells #[.string word, .bool true, .int .i64 0, .bool false, .bool false] 148))
  obtain ⟨fb, hfb⟩ : ∃ fb, w1.heap.size = fb := ⟨_, rfl⟩
  rw [hfb] at HBF
  rw [hfb]
  generalize w1.alloc (.cells #[.string word, .bool true, .int .i64 0, .bool false, .bool false] 148) = w2 at *
  have c0' : w2.cell? ⟨bb, 0, none⟩ = some (.int .i64 ((k : Int) + 1)) := HB2.out.cell 0
  have c1 : w2.cell? ⟨bb, 1, none⟩ = some (.int .i64 ref) := HB2.out.cell 1
  have c2 : w2.cell? ⟨bb, 2, none⟩ = some (.int .u64 p) := HB2.out.cell 2
  have c3 : w2.cell? ⟨bb, 3, none⟩ = some (.int .u64 a) := HB2.out.cell 3
  have c4 : w2.cell? ⟨bb, 4, none⟩ = some (.int .u64 b) := HB2.out.cell 4
  have c5 : w2.cell? ⟨bb, 5, none⟩ = some (.bool deny) := HB2.out.cell 5
  have c6 : w2.cell? ⟨bb, 6, none⟩ = some (.slice dp data.length dc) := HB2.out.cell 6
  have f1 : w2.cell? ⟨fb, 1, none⟩ = some (.bool true) := HBF.out.cell 1
  have f2 : w2.cell? ⟨fb, 2, none⟩ = some (.int .i64 0) := HBF.out.cell 2
  have f3 : w2.cell? ⟨fb, 3, none⟩ = some (.bool false) := HBF.out.cell 3
  have f4 : w2.cell? ⟨fb, 4, none⟩ = some (.bool false) := HBF.out.cell 4
  clear r0 r1 r2 r3 r4 c0 hblt hglt HB1 HT1 hfb
  go_cut [97] (fun t wx => t = .bool (!Txt.tellable ⟨(k : Int) + 1, ref, p, a, b, deny, data⟩) ∧ wx = w2)
  case first =>
    clear HB2 HBF HT2 HR HG HF hbb
    simp only [List.append_eq, List.cons_append, List.nil_append]
    by_cases hcc : ref < 0
    · have HOK := Lib.hid (show Txt.tellable ⟨(k : Int) + 1, ref, p, a, b, deny, data⟩ = false from by
        rw [← Bool.not_eq_true]
        intro h
        obtain ⟨h0, h1, h3, h4, h5, h6, h7, h8⟩ := (tell_iff _ hk rfl hform).1 h
        have e : 0 ≤ ref := h0; omega)
      have xl : decide (ref < 0) = true := by simp; omega
      clear hcc
      go_wp2_with fail
      go_meet
      exact ⟨by rw [HOK.out]; rfl, rfl⟩
    · have xl : decide (ref < 0) = false := by simp; omega
      by_cases hcc : 4096 < ref
      · have HOK := Lib.hid (show Txt.tellable ⟨(k : Int) + 1, ref, p, a, b, deny, data⟩ = false from by
          rw [← Bool.not_eq_true]
          intro h
          obtain ⟨h0, h1, h3, h4, h5, h6, h7, h8⟩ := (tell_iff _ hk rfl hform).1 h
          have e : ref ≤ 4096 := h1; omega)
        have xg : decide (4096 < ref) = true := by simp; omega
        clear hcc
        go_wp2_with fail
        go_meet
        exact ⟨by rw [HOK.out]; rfl, rfl⟩
      · have xg : decide (4096 < ref) = false := by simp; omega
        by_cases hcc : deny = true
        · have HOK := Lib.hid (show Txt.tellable ⟨(k : Int) + 1, ref, p, a, b, deny, data⟩ = false from by
            rw [← Bool.not_eq_true]
            intro h
            subst hcc
            obtain ⟨h0, h1, h3, h4, h5, h6, h7, h8⟩ := (tell_iff _ hk rfl hform).1 h
            have e : true = false := h5 rfl; cases e)
          subst hcc
          go_wp2_with fail
          go_meet
          exact ⟨by rw [HOK.out]; rfl, rfl⟩
        · obtain rfl : deny = false := by simpa using hcc
          by_cases hcc : b ≠ 0
          · have HOK := Lib.hid (show Txt.tellable ⟨(k : Int) + 1, ref, p, a, b, false, data⟩ = false from by
              rw [← Bool.not_eq_true]
              intro h
              obtain ⟨h0, h1, h3, h4, h5, h6, h7, h8⟩ := (tell_iff _ hk rfl hform).1 h
              have e : b = 0 := h6 (by omega); omega)
            have xb : ((b : Int) != 0) = true := by rw [bne_iff_ne]; omega
            have yb : (b != 0) = true := by rw [bne_iff_ne]; omega
            clear hcc
            go_wp2_with fail
            go_meet
            exact ⟨by rw [HOK.out]; rfl, rfl⟩
          · obtain rfl : b = 0 := by omega
            by_cases hcc : a ≠ 0
            · have HOK := Lib.hid (show Txt.tellable ⟨(k : Int) + 1, ref, p, a, 0, false, data⟩ = false from by
                rw [← Bool.not_eq_true]
                intro h
                obtain ⟨h0, h1, h3, h4, h5, h6, h7, h8⟩ := (tell_iff _ hk rfl hform).1 h
                have e : a = 0 := h7 rfl; omega)
              have xa : ((a : Int) != 0) = true := by rw [bne_iff_ne]; omega
              have ya : (a != 0) = true := by rw [bne_iff_ne]; omega
              clear hcc
              go_wp2_with fail
              go_meet
              exact ⟨by rw [HOK.out]; rfl, rfl⟩
            · obtain rfl : a = 0 := by omega
              by_cases hcc : 0 < data.length
              · have HOK := Lib.hid (show Txt.tellable ⟨(k : Int) + 1, ref, p, 0, 0, false, data⟩ = false from by
                  rw [← Bool.not_eq_true]
                  intro h
                  obtain ⟨h0, h1, h3, h4, h5, h6, h7, h8⟩ := (tell_iff _ hk rfl hform).1 h
                  have e : data = [] := h8 rfl; rw [e] at hcc; simp at hcc)
                have xp : decide ((0 : Int) < (data.length : Int)) = true := by simp; omega
                have xq : decide (0 < data.length) = true := by simp; omega
                clear hcc
                go_wp2_with fail
                go_meet
                exact ⟨by rw [HOK.out]; rfl, rfl⟩
              · obtain rfl : data = [] := List.eq_nil_of_length_eq_zero (by omega)
                have HOK := Lib.hid (show Txt.tellable ⟨(k : Int) + 1, ref, p, 0, 0, false, []⟩ = true from (tell_iff _ hk rfl hform).2 (by refine ⟨?_, ?_, ?_, ?_, ?_, ?_, ?_, ?_⟩ <;> simp <;> omega))
                go_wp2_with fail
                go_meet
                exact ⟨by rw [HOK.out]; rfl, rfl⟩
  case rest =>
    obtain ⟨rfl, hwc⟩ := hcut
    have hwc' := hwc.symm
    subst hwc'
    clear hwc
    by_cases ht : Txt.tellable ⟨(k : Int) + 1, ref, p, a, b, deny, data⟩ = true
    · have HOK := Lib.hid ht
      rw [ht, Bool.not_true]
      have tI := (tell_iff _ hk rfl hform).1 ht
      obtain ⟨h0, h1, h3, h4, h5, h6, h7, h8⟩ := tI
      have HI := Lib.hid (show 0 ≤ ref ∧ ref ≤ 4096 ∧ data.length ≤ 65536 from ⟨h0, h1, h3⟩)
      have hde := Lib.hid (show false = false → deny = false from fun h => h5 h)
      clear h0 h1 h3 h4 h5 h6 h7 h8 ht hbb
      have hw1 : word.size ≤ 16 := by rw [← hword]; exact opWord_len k hk
      have HA : Calls Tryz.prog 115 _ w2 (Texted (Txt.adrT ref.toNat p) w2) := address2_ (CallV.mk ((k : Int) + 1) ref p a b deny dp data.length dc) ref.toNat (by show ref = _; have := HI.out.1; omega) (by have := HI.out.2.1; omega) hp _ (HG.out.touch0 HT2.out)
      have HA' := Lib.hid HA
      clear HA
      go_wp2_with fail
      refine HA'.out.mono ?_
      rintro e w3 ⟨rfl, T3⟩
      obtain ⟨s1, hs1⟩ : ∃ s1 : ByteArray, (⟨(Txt.adrT ref.toNat p).toArray⟩ : ByteArray) = s1 := ⟨_, rfl⟩
      have hz1 : s1.size ≤ 42 := by rw [← hs1]; exact adr_len _ _ (by have := HI.out.2.1; omega) hp
      obtain ⟨sA, hsA⟩ : ∃ sA : ByteArray, word ++ ((⟨#[32]⟩ : ByteArray) ++ s1) = sA := ⟨_, rfl⟩
      have hzA : sA.size ≤ 59 := by rw [← hsA]; simp only [ByteArray.size_append]; have : (⟨#[32]⟩ : ByteArray).size = 1 := rfl; omega
      have hLA := Lib.hid (show sA = ⟨(opWord k ++ Txt.R [Txt.adrT ref.toNat p]).toArray⟩ by rw [← hsA, ← hs1, ← hword, app_sp]; simp [Txt.R])
      rw [hs1]
      have HT3 := Lib.hid (HT2.out.trans T3)
      have HB3 := Lib.hid (HB2.out.touch T3 (fun h => h))
      have HBF3 := Lib.hid (HBF.out.touch T3 (fun h => h))
      clear T3 c0' c1 c2 c3 c4 c5 c6 f1 f2 f3 f4 HT2 HB2 HBF
      have c3 : w3.cell? ⟨bb, 3, none⟩ = some (.int .u64 a) := HB3.out.cell 3
      have c4 : w3.cell? ⟨bb, 4, none⟩ = some (.int .u64 b) := HB3.out.cell 4
      have f1 : w3.cell? ⟨fb, 1, none⟩ = some (.bool true) := HBF3.out.cell 1
      have f2 : w3.cell? ⟨fb, 2, none⟩ = some (.int .i64 0) := HBF3.out.cell 2
      have hflt := HBF3.out.lt
      have hblt := HB3.out.lt
      go_upto_region 11 with fail
      have HT4 := Lib.hid (HT3.out.alloc (.cells #[.int .u64 a, .int .u64 b] 33))
      have HB4 := Lib.hid (HB3.out.alloc (.cells #[.int .u64 a, .int .u64 b] 33))
      have HBF4 := Lib.hid (HBF3.out.alloc (.cells #[.int .u64 a, .int .u64 b] 33))
      have HBN4 := Lib.hid (Blk.new w3 #[.int .u64 a, .int .u64 b] 33)
      obtain ⟨nb, hnb⟩ : ∃ nb, w3.heap.size = nb := ⟨_, rfl⟩
      rw [hnb] at HBN4
      rw [hnb]
      clear c3 c4 f1 f2 hflt hblt hnb HT3 HB3 HBF3
      generalize w3.alloc (.cells #[.int .u64 a, .int .u64 b] 33) = w4 at *
      go_loopw [6, 114] (fun s i wr => ∃ j ≤ 0, ∃ st : ByteArray, i = .int .i64 (j : Nat) ∧ s = .string st ∧ st.size ≤ 59 + 21 * j ∧ st = ⟨((opWord k ++ Txt.R [Txt.adrT ref.toNat p]) ++ Txt.R ([Txt.dec a, Txt.dec b].take j)).toArray⟩ ∧ Touch Nothing w4 wr) (fun _ i _ => 0 - (intOf i).toNat)
      case atStart => exact ⟨0, by omega, sA, rfl, rfl, by omega, by rw [hLA.out]; simp [Txt.R], Touch.refl _ _⟩
      case round =>
        obtain ⟨j, hj, st, rfl, rfl, hz, hst, TL⟩ := hrel
        have HST := Lib.hid hst
        have HTL := Lib.hid TL
        clear hst TL
        by_cases hlt : j < 0
        · exact absurd hlt (by omega)
        · obtain rfl : j = 0 := by omega
          have HBr := Lib.hid (HB4.out.touch HTL.out (fun h => h))
          have HTr := Lib.hid (HT4.out.trans HTL.out)
          have f3 : wr.cell? ⟨fb, 3, none⟩ = some (.bool false) := (HBF4.out.touch HTL.out (fun h => h)).cell 3
          have c5 : wr.cell? ⟨bb, 5, none⟩ = some (.bool deny) := HBr.out.cell 5
          have c6 : wr.cell? ⟨bb, 6, none⟩ = some (.slice dp data.length dc) := HBr.out.cell 6
          clear hLA hlt hj
          cases deny
          · go_wp2_with fail
            go_ret2
            exact ⟨by rw [HOK.out, if_pos rfl, text_of _ rfl, hform, HST.out]; simp [Txt.fieldWs, Txt.adrWs, Txt.numWs, Txt.datWs, Txt.denyWs, Txt.Cx.cd, Txt.R], HTr.out⟩
          · exact absurd (hde.out (by trivial)) (by simp)
    · have ht : Txt.tellable ⟨(k : Int) + 1, ref, p, a, b, deny, data⟩ = false := Bool.eq_false_iff.2 ht
      rw [ht, Bool.not_false]
      go_wp2_with fail
      go_ret2
      exact ⟨by rw [ht]; rfl, HT2.out⟩

set_option maxRecDepth 100000 in
set_option maxHeartbeats 1000000 in
theorem toldPn (k : Nat) (hk : k < 14) (hform : formAt k = ⟨true, 1, false, false⟩) (ref : Int) (p a b : Nat) (deny : Bool) (data : List UInt8) (dp : Option Addr) (dc : Nat) (w : World) (G : Glob w) (hp : p ≤ Txt.M64) (ha : a ≤ Txt.M64) (hb : b ≤ Txt.M64) (R : RdD w dp data.length data) :
    Calls Tryz.prog 68 #[(CallV.mk ((k : Int) + 1) ref p a b deny dp data.length dc).val] w (ToldTo ⟨(k : Int) + 1, ref, p, a, b, deny, data⟩ w) := by
  unfold CallV.val
  have HG := Lib.hid G
  have HR := Lib.hid R
  have T0 : Touch Nothing w (w.alloc (.cells #[.int .i64 ((k : Int) + 1), .int .i64 ref, .int .u64 p, .int .u64 a, .int .u64 b, .bool deny, .slice dp data.length dc] 43)) := (Touch.refl _ w).alloc _
  have B0 := Blk.new w #[.int .i64 ((k : Int) + 1), .int .i64 ref, .int .u64 p, .int .u64 a, .int .u64 b, .bool deny, .slice dp data.length dc] 43
  have HF := Lib.hid (forms_ (w.alloc (.cells #[.int .i64 ((k : Int) + 1), .int .i64 ref, .int .u64 p, .int .u64 a, .int .u64 b, .bool deny, .slice dp data.length dc] 43)))
  have HT0 := Lib.hid T0
  have HB0 := Lib.hid B0
  clear T0 B0 G R
  go_enter Tryz.func68, Tryz.ntmps68
  go_wp2_with fail
  refine HF.out.mono ?_
  rintro e w1 ⟨gf, hgf, rfl, hBf, T1⟩
  obtain ⟨word, hword⟩ : ∃ word : ByteArray, (⟨(opWord k).toArray⟩ : ByteArray) = word := ⟨_, rfl⟩
  have B1 := HB0.out.touch T1 (fun h => h)
  obtain ⟨bb, hbb⟩ : ∃ bb, w.heap.size = bb := ⟨_, rfl⟩
  rw [hbb] at B1
  have r0 : w1.cell? ⟨gf, k * 5, none⟩ = some (.string word) := by rw [← hword]; exact form_cell hBf k hk 0 (by omega)
  have r1 : w1.cell? ⟨gf, k * 5 + 1, none⟩ = some (.bool true) := by have := form_cell hBf k hk 1 (by omega); unfold formRow at this; rw [hform] at this; exact this
  have r2 : w1.cell? ⟨gf, k * 5 + 2, none⟩ = some (.int .i64 1) := by have := form_cell hBf k hk 2 (by omega); unfold formRow at this; rw [hform] at this; exact this
  have r3 : w1.cell? ⟨gf, k * 5 + 3, none⟩ = some (.bool false) := by have := form_cell hBf k hk 3 (by omega); unfold formRow at this; rw [hform] at this; exact this
  have r4 : w1.cell? ⟨gf, k * 5 + 4, none⟩ = some (.bool false) := by have := form_cell hBf k hk 4 (by omega); unfold formRow at this; rw [hform] at this; exact this
  have c0 : w1.cell? ⟨bb, 0, none⟩ = some (.int .i64 ((k : Int) + 1)) := B1.cell 0
  have hblt := B1.lt
  have hglt := hBf.lt
  have HB1 := Lib.hid B1
  have HT1 := Lib.hid (HT0.out.trans T1)
  have hk2 : decide ((k : Int) + 1 < 1) = false := by simp; omega
  have hk3 : decide (14 ≤ k) = false := by simp; omega
  have hk4 : decide ((14 : Int) ≤ (k : Int)) = false := by simp; omega
  clear B1 hBf T1 hgf
  rw [hbb]
  go_upto_region 6 with fail
  have HB2 := Lib.hid (HB1.out.alloc (.cells #[.string word, .bool true, .int .i64 1, .bool false, .bool false] 148))
  have HBF := Lib.hid (Blk.new w1 #[.string word, .bool true, .int .i64 1, .bool false, .bool false] 148)
  have HT2 := Lib.hid (HT1.out.alloc (.cells #[.string word, .bool true, .int .i64 1, .bool false, .bool false] 148))
  obtain ⟨fb, hfb⟩ : ∃ fb, w1.heap.size = fb := ⟨_, rfl⟩
  rw [hfb] at HBF
  rw [hfb]
  generalize w1.alloc (.cells #[.string word, .bool true, .int .i64 1, .bool false, .bool false] 148) = w2 at *
  have c0' : w2.cell? ⟨bb, 0, none⟩ = some (.int .i64 ((k : Int) + 1)) := HB2.out.cell 0
  have c1 : w2.cell? ⟨bb, 1, none⟩ = some (.int .i64 ref) := HB2.out.cell 1
  have c2 : w2.cell? ⟨bb, 2, none⟩ = some (.int .u64 p) := HB2.out.cell 2
  have c3 : w2.cell? ⟨bb, 3, none⟩ = some (.int .u64 a) := HB2.out.cell 3
  have c4 : w2.cell? ⟨bb, 4, none⟩ = some (.int .u64 b) := HB2.out.cell 4
  have c5 : w2.cell? ⟨bb, 5, none⟩ = some (.bool deny) := HB2.out.cell 5
  have c6 : w2.cell? ⟨bb, 6, none⟩ = some (.slice dp data.length dc) := HB2.out.cell 6
  have f1 : w2.cell? ⟨fb, 1, none⟩ = some (.bool true) := HBF.out.cell 1
  have f2 : w2.cell? ⟨fb, 2, none⟩ = some (.int .i64 1) := HBF.out.cell 2
  have f3 : w2.cell? ⟨fb, 3, none⟩ = some (.bool false) := HBF.out.cell 3
  have f4 : w2.cell? ⟨fb, 4, none⟩ = some (.bool false) := HBF.out.cell 4
  clear r0 r1 r2 r3 r4 c0 hblt hglt HB1 HT1 hfb
  go_cut [97] (fun t wx => t = .bool (!Txt.tellable ⟨(k : Int) + 1, ref, p, a, b, deny, data⟩) ∧ wx = w2)
  case first =>
    clear HB2 HBF HT2 HR HG HF hbb
    simp only [List.append_eq, List.cons_append, List.nil_append]
    by_cases hcc : ref < 0
    · have HOK := Lib.hid (show Txt.tellable ⟨(k : Int) + 1, ref, p, a, b, deny, data⟩ = false from by
        rw [← Bool.not_eq_true]
        intro h
        obtain ⟨h0, h1, h3, h4, h5, h6, h7, h8⟩ := (tell_iff _ hk rfl hform).1 h
        have e : 0 ≤ ref := h0; omega)
      have xl : decide (ref < 0) = true := by simp; omega
      clear hcc
      go_wp2_with fail
      go_meet
      exact ⟨by rw [HOK.out]; rfl, rfl⟩
    · have xl : decide (ref < 0) = false := by simp; omega
      by_cases hcc : 4096 < ref
      · have HOK := Lib.hid (show Txt.tellable ⟨(k : Int) + 1, ref, p, a, b, deny, data⟩ = false from by
          rw [← Bool.not_eq_true]
          intro h
          obtain ⟨h0, h1, h3, h4, h5, h6, h7, h8⟩ := (tell_iff _ hk rfl hform).1 h
          have e : ref ≤ 4096 := h1; omega)
        have xg : decide (4096 < ref) = true := by simp; omega
        clear hcc
        go_wp2_with fail
        go_meet
        exact ⟨by rw [HOK.out]; rfl, rfl⟩
      · have xg : decide (4096 < ref) = false := by simp; omega
        by_cases hcc : deny = true
        · have HOK := Lib.hid (show Txt.tellable ⟨(k : Int) + 1, ref, p, a, b, deny, data⟩ = false from by
            rw [← Bool.not_eq_true]
            intro h
            subst hcc
            obtain ⟨h0, h1, h3, h4, h5, h6, h7, h8⟩ := (tell_iff _ hk rfl hform).1 h
            have e : true = false := h5 rfl; cases e)
          subst hcc
          go_wp2_with fail
          go_meet
          exact ⟨by rw [HOK.out]; rfl, rfl⟩
        · obtain rfl : deny = false := by simpa using hcc
          by_cases hcc : b ≠ 0
          · have HOK := Lib.hid (show Txt.tellable ⟨(k : Int) + 1, ref, p, a, b, false, data⟩ = false from by
              rw [← Bool.not_eq_true]
              intro h
              obtain ⟨h0, h1, h3, h4, h5, h6, h7, h8⟩ := (tell_iff _ hk rfl hform).1 h
              have e : b = 0 := h6 (by omega); omega)
            have xb : ((b : Int) != 0) = true := by rw [bne_iff_ne]; omega
            have yb : (b != 0) = true := by rw [bne_iff_ne]; omega
            clear hcc
            go_wp2_with fail
            go_meet
            exact ⟨by rw [HOK.out]; rfl, rfl⟩
          · obtain rfl : b = 0 := by omega
            by_cases hcc : 0 < data.length
            · have HOK := Lib.hid (show Txt.tellable ⟨(k : Int) + 1, ref, p, a, 0, false, data⟩ = false from by
                rw [← Bool.not_eq_true]
                intro h
                obtain ⟨h0, h1, h3, h4, h5, h6, h7, h8⟩ := (tell_iff _ hk rfl hform).1 h
                have e : data = [] := h8 rfl; rw [e] at hcc; simp at hcc)
              have xp : decide ((0 : Int) < (data.length : Int)) = true := by simp; omega
              have xq : decide (0 < data.length) = true := by simp; omega
              clear hcc
              go_wp2_with fail
              go_meet
              exact ⟨by rw [HOK.out]; rfl, rfl⟩
            · obtain rfl : data = [] := List.eq_nil_of_length_eq_zero (by omega)
              have HOK := Lib.hid (show Txt.tellable ⟨(k : Int) + 1, ref, p, a, 0, false, []⟩ = true from (tell_iff _ hk rfl hform).2 (by refine ⟨?_, ?_, ?_, ?_, ?_, ?_, ?_, ?_⟩ <;> simp <;> omega))
              go_wp2_with fail
              go_meet
              exact ⟨by rw [HOK.out]; rfl, rfl⟩
  case rest =>
    obtain ⟨rfl, hwc⟩ := hcut
    have hwc' := hwc.symm
    subst hwc'
    clear hwc
    by_cases ht : Txt.tellable ⟨(k : Int) + 1, ref, p, a, b, deny, data⟩ = true
    · have HOK := Lib.hid ht
      rw [ht, Bool.not_true]
      have tI := (tell_iff _ hk rfl hform).1 ht
      obtain ⟨h0, h1, h3, h4, h5, h6, h7, h8⟩ := tI
      have HI := Lib.hid (show 0 ≤ ref ∧ ref ≤ 4096 ∧ data.length ≤ 65536 from ⟨h0, h1, h3⟩)
      have hde := Lib.hid (show false = false → deny = false from fun h => h5 h)
      clear h0 h1 h3 h4 h5 h6 h7 h8 ht hbb
      have hw1 : word.size ≤ 16 := by rw [← hword]; exact opWord_len k hk
      have HA : Calls Tryz.prog 115 _ w2 (Texted (Txt.adrT ref.toNat p) w2) := address2_ (CallV.mk ((k : Int) + 1) ref p a b deny dp data.length dc) ref.toNat (by show ref = _; have := HI.out.1; omega) (by have := HI.out.2.1; omega) hp _ (HG.out.touch0 HT2.out)
      have HA' := Lib.hid HA
      clear HA
      go_wp2_with fail
      refine HA'.out.mono ?_
      rintro e w3 ⟨rfl, T3⟩
      obtain ⟨s1, hs1⟩ : ∃ s1 : ByteArray, (⟨(Txt.adrT ref.toNat p).toArray⟩ : ByteArray) = s1 := ⟨_, rfl⟩
      have hz1 : s1.size ≤ 42 := by rw [← hs1]; exact adr_len _ _ (by have := HI.out.2.1; omega) hp
      obtain ⟨sA, hsA⟩ : ∃ sA : ByteArray, word ++ ((⟨#[32]⟩ : ByteArray) ++ s1) = sA := ⟨_, rfl⟩
      have hzA : sA.size ≤ 59 := by rw [← hsA]; simp only [ByteArray.size_append]; have : (⟨#[32]⟩ : ByteArray).size = 1 := rfl; omega
      have hLA := Lib.hid (show sA = ⟨(opWord k ++ Txt.R [Txt.adrT ref.toNat p]).toArray⟩ by rw [← hsA, ← hs1, ← hword, app_sp]; simp [Txt.R])
      rw [hs1]
      have HT3 := Lib.hid (HT2.out.trans T3)
      have HB3 := Lib.hid (HB2.out.touch T3 (fun h => h))
      have HBF3 := Lib.hid (HBF.out.touch T3 (fun h => h))
      clear T3 c0' c1 c2 c3 c4 c5 c6 f1 f2 f3 f4 HT2 HB2 HBF
      have c3 : w3.cell? ⟨bb, 3, none⟩ = some (.int .u64 a) := HB3.out.cell 3
      have c4 : w3.cell? ⟨bb, 4, none⟩ = some (.int .u64 b) := HB3.out.cell 4
      have f1 : w3.cell? ⟨fb, 1, none⟩ = some (.bool true) := HBF3.out.cell 1
      have f2 : w3.cell? ⟨fb, 2, none⟩ = some (.int .i64 1) := HBF3.out.cell 2
      have hflt := HBF3.out.lt
      have hblt := HB3.out.lt
      go_upto_region 11 with fail
      have HT4 := Lib.hid (HT3.out.alloc (.cells #[.int .u64 a, .int .u64 b] 33))
      have HB4 := Lib.hid (HB3.out.alloc (.cells #[.int .u64 a, .int .u64 b] 33))
      have HBF4 := Lib.hid (HBF3.out.alloc (.cells #[.int .u64 a, .int .u64 b] 33))
      have HBN4 := Lib.hid (Blk.new w3 #[.int .u64 a, .int .u64 b] 33)
      obtain ⟨nb, hnb⟩ : ∃ nb, w3.heap.size = nb := ⟨_, rfl⟩
      rw [hnb] at HBN4
      rw [hnb]
      clear c3 c4 f1 f2 hflt hblt hnb HT3 HB3 HBF3
      generalize w3.alloc (.cells #[.int .u64 a, .int .u64 b] 33) = w4 at *
      go_loopw [6, 114] (fun s i wr => ∃ j ≤ 1, ∃ st : ByteArray, i = .int .i64 (j : Nat) ∧ s = .string st ∧ st.size ≤ 59 + 21 * j ∧ st = ⟨((opWord k ++ Txt.R [Txt.adrT ref.toNat p]) ++ Txt.R ([Txt.dec a, Txt.dec b].take j)).toArray⟩ ∧ Touch Nothing w4 wr) (fun _ i _ => 1 - (intOf i).toNat)
      case atStart => exact ⟨0, by omega, sA, rfl, rfl, by omega, by rw [hLA.out]; simp [Txt.R], Touch.refl _ _⟩
      case round =>
        obtain ⟨j, hj, st, rfl, rfl, hz, hst, TL⟩ := hrel
        have HST := Lib.hid hst
        have HTL := Lib.hid TL
        clear hst TL
        by_cases hlt : j < 1
        · obtain ⟨x, hx, hx64⟩ : ∃ x : Nat, [Txt.dec a, Txt.dec b][j]? = some (Txt.dec x) ∧ x < 18446744073709551616 ∧ wr.cell? ⟨nb, j, none⟩ = some (.int .u64 x) := num_at ha hb (by omega) (fun i => (HBN4.out.touch HTL.out (fun h => h)).cell i)
          obtain ⟨hx64, hcell⟩ := hx64
          have HX := Lib.hid hx
          clear hx
          have hcl : decide (j < 1) = true := by simp; omega
          have hcl2 : decide ((j : Int) < 1) = true := by simp; omega
          have HF := Lib.hid (formatUint_ x hx64 wr (HG.out.touch0 (HT4.out.trans HTL.out)))
          go_wp2_with fail
          refine HF.out.mono ?_
          rintro e w5 ⟨rfl, T5⟩
          obtain ⟨sd, hsd⟩ : ∃ sd : ByteArray, (⟨(Txt.dec x).toArray⟩ : ByteArray) = sd := ⟨_, rfl⟩
          have hzd : sd.size ≤ 20 := by rw [← hsd]; exact dec_len x hx64
          rw [hsd]
          have HT5 := Lib.hid (HTL.out.trans T5)
          clear T5
          go_wp2_with fail
          refine ⟨⟨j + 1, by omega, _, by go_num, rfl, ?_, ?_, HT5.out⟩, ?_⟩
          · simp only [ByteArray.size_append]
            have : (⟨#[32]⟩ : ByteArray).size = 1 := rfl
            omega
          · rw [HST.out, ← hsd, app_sp, List.take_add_one, HX.out]
            simp [Txt.R]
          · simp [intOf]; omega
        · obtain rfl : j = 1 := by omega
          have HBr := Lib.hid (HB4.out.touch HTL.out (fun h => h))
          have HTr := Lib.hid (HT4.out.trans HTL.out)
          have f3 : wr.cell? ⟨fb, 3, none⟩ = some (.bool false) := (HBF4.out.touch HTL.out (fun h => h)).cell 3
          have c5 : wr.cell? ⟨bb, 5, none⟩ = some (.bool deny) := HBr.out.cell 5
          have c6 : wr.cell? ⟨bb, 6, none⟩ = some (.slice dp data.length dc) := HBr.out.cell 6
          clear hLA hlt hj
          cases deny
          · go_wp2_with fail
            go_ret2
            exact ⟨by rw [HOK.out, if_pos rfl, text_of _ rfl, hform, HST.out]; simp [Txt.fieldWs, Txt.adrWs, Txt.numWs, Txt.datWs, Txt.denyWs, Txt.Cx.cd, Txt.R], HTr.out⟩
          · exact absurd (hde.out (by trivial)) (by simp)
    · have ht : Txt.tellable ⟨(k : Int) + 1, ref, p, a, b, deny, data⟩ = false := Bool.eq_false_iff.2 ht
      rw [ht, Bool.not_false]
      go_wp2_with fail
      go_ret2
      exact ⟨by rw [ht]; rfl, HT2.out⟩

set_option maxRecDepth 100000 in
set_option maxHeartbeats 1000000 in
theorem toldPD (k : Nat) (hk : k < 14) (hform : formAt k = ⟨true, 0, true, false⟩) (ref : Int) (p a b : Nat) (deny : Bool) (data : List UInt8) (dp : Option Addr) (dc : Nat) (w : World) (G : Glob w) (hp : p ≤ Txt.M64) (ha : a ≤ Txt.M64) (hb : b ≤ Txt.M64) (R : RdD w dp data.length data) :
    Calls Tryz.prog 68 #[(CallV.mk ((k : Int) + 1) ref p a b deny dp data.length dc).val] w (ToldTo ⟨(k : Int) + 1, ref, p, a, b, deny, data⟩ w) := by
  unfold CallV.val
  have HG := Lib.hid G
  have HR := Lib.hid R
  have T0 : Touch Nothing w (w.alloc (.cells #[.int .i64 ((k : Int) + 1), .int .i64 ref, .int .u64 p, .int .u64 a, .int .u64 b, .bool deny, .slice dp data.length dc] 43)) := (Touch.refl _ w).alloc _
  have B0 := Blk.new w #[.int .i64 ((k : Int) + 1), .int .i64 ref, .int .u64 p, .int .u64 a, .int .u64 b, .bool deny, .slice dp data.length dc] 43
  have HF := Lib.hid (forms_ (w.alloc (.cells #[.int .i64 ((k : Int) + 1), .int .i64 ref, .int .u64 p, .int .u64 a, .int .u64 b, .bool deny, .slice dp data.length dc] 43)))
  have HT0 := Lib.hid T0
  have HB0 := Lib.hid B0
  clear T0 B0 G R
  go_enter Tryz.func68, Tryz.ntmps68
  go_wp2_with fail
  refine HF.out.mono ?_
  rintro e w1 ⟨gf, hgf, rfl, hBf, T1⟩
  obtain ⟨word, hword⟩ : ∃ word : ByteArray, (⟨(opWord k).toArray⟩ : ByteArray) = word := ⟨_, rfl⟩
  have B1 := HB0.out.touch T1 (fun h => h)
  obtain ⟨bb, hbb⟩ : ∃ bb, w.heap.size = bb := ⟨_, rfl⟩
  rw [hbb] at B1
  have r0 : w1.cell? ⟨gf, k * 5, none⟩ = some (.string word) := by rw [← hword]; exact form_cell hBf k hk 0 (by omega)
  have r1 : w1.cell? ⟨gf, k * 5 + 1, none⟩ = some (.bool true) := by have := form_cell hBf k hk 1 (by omega); unfold formRow at this; rw [hform] at this; exact this
  have r2 : w1.cell? ⟨gf, k * 5 + 2, none⟩ = some (.int .i64 0) := by have := form_cell hBf k hk 2 (by omega); unfold formRow at this; rw [hform] at this; exact this
  have r3 : w1.cell? ⟨gf, k * 5 + 3, none⟩ = some (.bool true) := by have := form_cell hBf k hk 3 (by omega); unfold formRow at this; rw [hform] at this; exact this
  have r4 : w1.cell? ⟨gf, k * 5 + 4, none⟩ = some (.bool false) := by have := form_cell hBf k hk 4 (by omega); unfold formRow at this; rw [hform] at this; exact this
  have c0 : w1.cell? ⟨bb, 0, none⟩ = some (.int .i64 ((k : Int) + 1)) := B1.cell 0
  have hblt := B1.lt
  have hglt := hBf.lt
  have HB1 := Lib.hid B1
  have HT1 := Lib.hid (HT0.out.trans T1)
  have hk2 : decide ((k : Int) + 1 < 1) = false := by simp; omega
  have hk3 : decide (14 ≤ k) = false := by simp; omega
  have hk4 : decide ((14 : Int) ≤ (k : Int)) = false := by simp; omega
  clear B1 hBf T1 hgf
  rw [hbb]
  go_upto_region 6 with fail
  have HB2 := Lib.hid (HB1.out.alloc (.cells #[.string word, .bool true, .int .i64 0, .bool true, .bool false] 148))
  have HBF := Lib.hid (Blk.new w1 #[.string word, .bool true, .int .i64 0, .bool true, .bool false] 148)
  have HT2 := Lib.hid (HT1.out.alloc (.cells #[.string word, .bool true, .int .i64 0, .bool true, .bool false] 148))
  obtain ⟨fb, hfb⟩ : ∃ fb, w1.heap.size = fb := ⟨_, rfl⟩
  rw [hfb] at HBF
  rw [hfb]
  generalize w1.alloc (.cells #[.string word, .bool true, .int .i64 0, .bool true, .bool false] 148) = w2 at *
  have c0' : w2.cell? ⟨bb, 0, none⟩ = some (.int .i64 ((k : Int) + 1)) := HB2.out.cell 0
  have c1 : w2.cell? ⟨bb, 1, none⟩ = some (.int .i64 ref) := HB2.out.cell 1
  have c2 : w2.cell? ⟨bb, 2, none⟩ = some (.int .u64 p) := HB2.out.cell 2
  have c3 : w2.cell? ⟨bb, 3, none⟩ = some (.int .u64 a) := HB2.out.cell 3
  have c4 : w2.cell? ⟨bb, 4, none⟩ = some (.int .u64 b) := HB2.out.cell 4
  have c5 : w2.cell? ⟨bb, 5, none⟩ = some (.bool deny) := HB2.out.cell 5
  have c6 : w2.cell? ⟨bb, 6, none⟩ = some (.slice dp data.length dc) := HB2.out.cell 6
  have f1 : w2.cell? ⟨fb, 1, none⟩ = some (.bool true) := HBF.out.cell 1
  have f2 : w2.cell? ⟨fb, 2, none⟩ = some (.int .i64 0) := HBF.out.cell 2
  have f3 : w2.cell? ⟨fb, 3, none⟩ = some (.bool true) := HBF.out.cell 3
  have f4 : w2.cell? ⟨fb, 4, none⟩ = some (.bool false) := HBF.out.cell 4
  clear r0 r1 r2 r3 r4 c0 hblt hglt HB1 HT1 hfb
  go_cut [97] (fun t wx => t = .bool (!Txt.tellable ⟨(k : Int) + 1, ref, p, a, b, deny, data⟩) ∧ wx = w2)
  case first =>
    clear HB2 HBF HT2 HR HG HF hbb
    simp only [List.append_eq, List.cons_append, List.nil_append]
    by_cases hcc : ref < 0
    · have HOK := Lib.hid (show Txt.tellable ⟨(k : Int) + 1, ref, p, a, b, deny, data⟩ = false from by
        rw [← Bool.not_eq_true]
        intro h
        obtain ⟨h0, h1, h3, h4, h5, h6, h7, h8⟩ := (tell_iff _ hk rfl hform).1 h
        have e : 0 ≤ ref := h0; omega)
      have xl : decide (ref < 0) = true := by simp; omega
      clear hcc
      go_wp2_with fail
      go_meet
      exact ⟨by rw [HOK.out]; rfl, rfl⟩
    · have xl : decide (ref < 0) = false := by simp; omega
      by_cases hcc : 4096 < ref
      · have HOK := Lib.hid (show Txt.tellable ⟨(k : Int) + 1, ref, p, a, b, deny, data⟩ = false from by
          rw [← Bool.not_eq_true]
          intro h
          obtain ⟨h0, h1, h3, h4, h5, h6, h7, h8⟩ := (tell_iff _ hk rfl hform).1 h
          have e : ref ≤ 4096 := h1; omega)
        have xg : decide (4096 < ref) = true := by simp; omega
        clear hcc
        go_wp2_with fail
        go_meet
        exact ⟨by rw [HOK.out]; rfl, rfl⟩
      · have xg : decide (4096 < ref) = false := by simp; omega
        by_cases hcc : deny = true
        · have HOK := Lib.hid (show Txt.tellable ⟨(k : Int) + 1, ref, p, a, b, deny, data⟩ = false from by
            rw [← Bool.not_eq_true]
            intro h
            subst hcc
            obtain ⟨h0, h1, h3, h4, h5, h6, h7, h8⟩ := (tell_iff _ hk rfl hform).1 h
            have e : true = false := h5 rfl; cases e)
          subst hcc
          go_wp2_with fail
          go_meet
          exact ⟨by rw [HOK.out]; rfl, rfl⟩
        · obtain rfl : deny = false := by simpa using hcc
          by_cases hcc : b ≠ 0
          · have HOK := Lib.hid (show Txt.tellable ⟨(k : Int) + 1, ref, p, a, b, false, data⟩ = false from by
              rw [← Bool.not_eq_true]
              intro h
              obtain ⟨h0, h1, h3, h4, h5, h6, h7, h8⟩ := (tell_iff _ hk rfl hform).1 h
              have e : b = 0 := h6 (by omega); omega)
            have xb : ((b : Int) != 0) = true := by rw [bne_iff_ne]; omega
            have yb : (b != 0) = true := by rw [bne_iff_ne]; omega
            clear hcc
            go_wp2_with fail
            go_meet
            exact ⟨by rw [HOK.out]; rfl, rfl⟩
          · obtain rfl : b = 0 := by omega
            by_cases hcc : a ≠ 0
            · have HOK := Lib.hid (show Txt.tellable ⟨(k : Int) + 1, ref, p, a, 0, false, data⟩ = false from by
                rw [← Bool.not_eq_true]
                intro h
                obtain ⟨h0, h1, h3, h4, h5, h6, h7, h8⟩ := (tell_iff _ hk rfl hform).1 h
                have e : a = 0 := h7 rfl; omega)
              have xa : ((a : Int) != 0) = true := by rw [bne_iff_ne]; omega
              have ya : (a != 0) = true := by rw [bne_iff_ne]; omega
              clear hcc
              go_wp2_with fail
              go_meet
              exact ⟨by rw [HOK.out]; rfl, rfl⟩
            · obtain rfl : a = 0 := by omega
              by_cases hcc : 65536 < data.length
              · have HOK := Lib.hid (show Txt.tellable ⟨(k : Int) + 1, ref, p, 0, 0, false, data⟩ = false from by
                  rw [← Bool.not_eq_true]
                  intro h
                  obtain ⟨h0, h1, h3, h4, h5, h6, h7, h8⟩ := (tell_iff _ hk rfl hform).1 h
                  have e : data.length ≤ 65536 := h3; omega)
                have xb : decide ((65536 : Int) < (data.length : Int)) = true := by simp; omega
                clear hcc
                go_wp2_with fail
                go_meet
                exact ⟨by rw [HOK.out]; rfl, rfl⟩
              · have xb : decide ((65536 : Int) < (data.length : Int)) = false := by simp; omega
                have HOK := Lib.hid (show Txt.tellable ⟨(k : Int) + 1, ref, p, 0, 0, false, data⟩ = true from (tell_iff _ hk rfl hform).2 (by refine ⟨?_, ?_, ?_, ?_, ?_, ?_, ?_, ?_⟩ <;> simp <;> omega))
                go_wp2_with fail
                go_meet
                exact ⟨by rw [HOK.out]; rfl, rfl⟩
  case rest =>
    obtain ⟨rfl, hwc⟩ := hcut
    have hwc' := hwc.symm
    subst hwc'
    clear hwc
    by_cases ht : Txt.tellable ⟨(k : Int) + 1, ref, p, a, b, deny, data⟩ = true
    · have HOK := Lib.hid ht
      rw [ht, Bool.not_true]
      have tI := (tell_iff _ hk rfl hform).1 ht
      obtain ⟨h0, h1, h3, h4, h5, h6, h7, h8⟩ := tI
      have HI := Lib.hid (show 0 ≤ ref ∧ ref ≤ 4096 ∧ data.length ≤ 65536 from ⟨h0, h1, h3⟩)
      have hde := Lib.hid (show false = false → deny = false from fun h => h5 h)
      clear h0 h1 h3 h4 h5 h6 h7 h8 ht hbb
      have hw1 : word.size ≤ 16 := by rw [← hword]; exact opWord_len k hk
      have HA : Calls Tryz.prog 115 _ w2 (Texted (Txt.adrT ref.toNat p) w2) := address2_ (CallV.mk ((k : Int) + 1) ref p a b deny dp data.length dc) ref.toNat (by show ref = _; have := HI.out.1; omega) (by have := HI.out.2.1; omega) hp _ (HG.out.touch0 HT2.out)
      have HA' := Lib.hid HA
      clear HA
      go_wp2_with fail
      refine HA'.out.mono ?_
      rintro e w3 ⟨rfl, T3⟩
      obtain ⟨s1, hs1⟩ : ∃ s1 : ByteArray, (⟨(Txt.adrT ref.toNat p).toArray⟩ : ByteArray) = s1 := ⟨_, rfl⟩
      have hz1 : s1.size ≤ 42 := by rw [← hs1]; exact adr_len _ _ (by have := HI.out.2.1; omega) hp
      obtain ⟨sA, hsA⟩ : ∃ sA : ByteArray, word ++ ((⟨#[32]⟩ : ByteArray) ++ s1) = sA := ⟨_, rfl⟩
      have hzA : sA.size ≤ 59 := by rw [← hsA]; simp only [ByteArray.size_append]; have : (⟨#[32]⟩ : ByteArray).size = 1 := rfl; omega
      have hLA := Lib.hid (show sA = ⟨(opWord k ++ Txt.R [Txt.adrT ref.toNat p]).toArray⟩ by rw [← hsA, ← hs1, ← hword, app_sp]; simp [Txt.R])
      rw [hs1]
      have HT3 := Lib.hid (HT2.out.trans T3)
      have HB3 := Lib.hid (HB2.out.touch T3 (fun h => h))
      have HBF3 := Lib.hid (HBF.out.touch T3 (fun h => h))
      clear T3 c0' c1 c2 c3 c4 c5 c6 f1 f2 f3 f4 HT2 HB2 HBF
      have c3 : w3.cell? ⟨bb, 3, none⟩ = some (.int .u64 a) := HB3.out.cell 3
      have c4 : w3.cell? ⟨bb, 4, none⟩ = some (.int .u64 b) := HB3.out.cell 4
      have f1 : w3.cell? ⟨fb, 1, none⟩ = some (.bool true) := HBF3.out.cell 1
      have f2 : w3.cell? ⟨fb, 2, none⟩ = some (.int .i64 0) := HBF3.out.cell 2
      have hflt := HBF3.out.lt
      have hblt := HB3.out.lt
      go_upto_region 11 with fail
      have HT4 := Lib.hid (HT3.out.alloc (.cells #[.int .u64 a, .int .u64 b] 33))
      have HB4 := Lib.hid (HB3.out.alloc (.cells #[.int .u64 a, .int .u64 b] 33))
      have HBF4 := Lib.hid (HBF3.out.alloc (.cells #[.int .u64 a, .int .u64 b] 33))
      have HBN4 := Lib.hid (Blk.new w3 #[.int .u64 a, .int .u64 b] 33)
      obtain ⟨nb, hnb⟩ : ∃ nb, w3.heap.size = nb := ⟨_, rfl⟩
      rw [hnb] at HBN4
      rw [hnb]
      clear c3 c4 f1 f2 hflt hblt hnb HT3 HB3 HBF3
      generalize w3.alloc (.cells #[.int .u64 a, .int .u64 b] 33) = w4 at *
      go_loopw [6, 114] (fun s i wr => ∃ j ≤ 0, ∃ st : ByteArray, i = .int .i64 (j : Nat) ∧ s = .string st ∧ st.size ≤ 59 + 21 * j ∧ st = ⟨((opWord k ++ Txt.R [Txt.adrT ref.toNat p]) ++ Txt.R ([Txt.dec a, Txt.dec b].take j)).toArray⟩ ∧ Touch Nothing w4 wr) (fun _ i _ => 0 - (intOf i).toNat)
      case atStart => exact ⟨0, by omega, sA, rfl, rfl, by omega, by rw [hLA.out]; simp [Txt.R], Touch.refl _ _⟩
      case round =>
        obtain ⟨j, hj, st, rfl, rfl, hz, hst, TL⟩ := hrel
        have HST := Lib.hid hst
        have HTL := Lib.hid TL
        clear hst TL
        by_cases hlt : j < 0
        · exact absurd hlt (by omega)
        · obtain rfl : j = 0 := by omega
          have HBr := Lib.hid (HB4.out.touch HTL.out (fun h => h))
          have HTr := Lib.hid (HT4.out.trans HTL.out)
          have f3 : wr.cell? ⟨fb, 3, none⟩ = some (.bool true) := (HBF4.out.touch HTL.out (fun h => h)).cell 3
          have c5 : wr.cell? ⟨bb, 5, none⟩ = some (.bool deny) := HBr.out.cell 5
          have c6 : wr.cell? ⟨bb, 6, none⟩ = some (.slice dp data.length dc) := HBr.out.cell 6
          clear hLA hlt hj
          have HH := Lib.hid (hex_ dp data.length dc data wr HI.out.2.2 (HR.out.touch HTr.out))
          go_wp2_with fail
          refine HH.out.mono ?_
          rintro e w6 ⟨rfl, T6⟩
          obtain ⟨sh, hsh⟩ : ∃ sh : ByteArray, (⟨(Txt.hexT data).toArray⟩ : ByteArray) = sh := ⟨_, rfl⟩
          have hzh : sh.size ≤ 131073 := by rw [← hsh]; exact hex_len _ HI.out.2.2
          rw [hsh]
          have HT6 := Lib.hid (HTr.out.trans T6)
          have c5 : w6.cell? ⟨bb, 5, none⟩ = some (.bool deny) := (HBr.out.touch T6 (fun h => h)).cell 5
          clear T6
          cases deny
          · go_wp2_with fail
            go_ret2
            exact ⟨by rw [HOK.out, if_pos rfl, text_of _ rfl, hform, HST.out]; rw [← hsh, app_sp]; simp [Txt.fieldWs, Txt.adrWs, Txt.numWs, Txt.datWs, Txt.denyWs, Txt.Cx.cd, Txt.R], HT6.out⟩
          · exact absurd (hde.out (by trivial)) (by simp)
    · have ht : Txt.tellable ⟨(k : Int) + 1, ref, p, a, b, deny, data⟩ = false := Bool.eq_false_iff.2 ht
      rw [ht, Bool.not_false]
      go_wp2_with fail
      go_ret2
      exact ⟨by rw [ht]; rfl, HT2.out⟩

set_option maxRecDepth 100000 in
set_option maxHeartbeats 1000000 in
theorem toldZ (k : Nat) (hk : k < 14) (hform : formAt k = ⟨false, 0, false, false⟩) (ref : Int) (p a b : Nat) (deny : Bool) (data : List UInt8) (dp : Option Addr) (dc : Nat) (w : World) (G : Glob w) (hp : p ≤ Txt.M64) (ha : a ≤ Txt.M64) (hb : b ≤ Txt.M64) (R : RdD w dp data.length data) :
    Calls Tryz.prog 68 #[(CallV.mk ((k : Int) + 1) ref p a b deny dp data.length dc).val] w (ToldTo ⟨(k : Int) + 1, ref, p, a, b, deny, data⟩ w) := by
  unfold CallV.val
  have HG := Lib.hid G
  have HR := Lib.hid R
  have T0 : Touch Nothing w (w.alloc (.cells #[.int .i64 ((k : Int) + 1), .int .i64 ref, .int .u64 p, .int .u64 a, .int .u64 b, .bool deny, .slice dp data.length dc] 43)) := (Touch.refl _ w).alloc _
  have B0 := Blk.new w #[.int .i64 ((k : Int) + 1), .int .i64 ref, .int .u64 p, .int .u64 a, .int .u64 b, .bool deny, .slice dp data.length dc] 43
  have HF := Lib.hid (forms_ (w.alloc (.cells #[.int .i64 ((k : Int) + 1), .int .i64 ref, .int .u64 p, .int .u64 a, .int .u64 b, .bool deny, .slice dp data.length dc] 43)))
  have HT0 := Lib.hid T0
  have HB0 := Lib.hid B0
  clear T0 B0 G R
  go_enter Tryz.func68, Tryz.ntmps68
  go_wp2_with fail
  refine HF.out.mono ?_
  rintro e w1 ⟨gf, hgf, rfl, hBf, T1⟩
  obtain ⟨word, hword⟩ : ∃ word : ByteArray, (⟨(opWord k).toArray⟩ : ByteArray) = word := ⟨_, rfl⟩
  have B1 := HB0.out.touch T1 (fun h => h)
  obtain ⟨bb, hbb⟩ : ∃ bb, w.heap.size = bb := ⟨_, rfl⟩
  rw [hbb] at B1
  have r0 : w1.cell? ⟨gf, k * 5, none⟩ = some (.string word) := by rw [← hword]; exact form_cell hBf k hk 0 (by omega)
  have r1 : w1.cell? ⟨gf, k * 5 + 1, none⟩ = some (.bool false) := by have := form_cell hBf k hk 1 (by omega); unfold formRow at this; rw [hform] at this; exact this
  have r2 : w1.cell? ⟨gf, k * 5 + 2, none⟩ = some (.int .i64 0) := by have := form_cell hBf k hk 2 (by omega); unfold formRow at this; rw [hform] at this; exact this
  have r3 : w1.cell? ⟨gf, k * 5 + 3, none⟩ = some (.bool false) := by have := form_cell hBf k hk 3 (by omega); unfold formRow at this; rw [hform] at this; exact this
  have r4 : w1.cell? ⟨gf, k * 5 + 4, none⟩ = some (.bool false) := by have := form_cell hBf k hk 4 (by omega); unfold formRow at this; rw [hform] at this; exact this
  have c0 : w1.cell? ⟨bb, 0, none⟩ = some (.int .i64 ((k : Int) + 1)) := B1.cell 0
  have hblt := B1.lt
  have hglt := hBf.lt
  have HB1 := Lib.hid B1
  have HT1 := Lib.hid (HT0.out.trans T1)
  have hk2 : decide ((k : Int) + 1 < 1) = false := by simp; omega
  have hk3 : decide (14 ≤ k) = false := by simp; omega
  have hk4 : decide ((14 : Int) ≤ (k : Int)) = false := by simp; omega
  clear B1 hBf T1 hgf
  rw [hbb]
  go_upto_region 6 with fail
  have HB2 := Lib.hid (HB1.out.alloc (.cells #[.string word, .bool false, .int .i64 0, .bool false, .bool false] 148))
  have HBF := Lib.hid (Blk.new w1 #[.string word, .bool false, .int .i64 0, .bool false, .bool false] 148)
  have HT2 := Lib.hid (HT1.out.alloc (.cells #[.string word, .bool false, .int .i64 0, .bool false, .bool false] 148))
  obtain ⟨fb, hfb⟩ : ∃ fb, w1.heap.size = fb := ⟨_, rfl⟩
  rw [hfb] at HBF
  rw [hfb]
  generalize w1.alloc (.cells #[.string word, .bool false, .int .i64 0, .bool false, .bool false] 148) = w2 at *
  have c0' : w2.cell? ⟨bb, 0, none⟩ = some (.int .i64 ((k : Int) + 1)) := HB2.out.cell 0
  have c1 : w2.cell? ⟨bb, 1, none⟩ = some (.int .i64 ref) := HB2.out.cell 1
  have c2 : w2.cell? ⟨bb, 2, none⟩ = some (.int .u64 p) := HB2.out.cell 2
  have c3 : w2.cell? ⟨bb, 3, none⟩ = some (.int .u64 a) := HB2.out.cell 3
  have c4 : w2.cell? ⟨bb, 4, none⟩ = some (.int .u64 b) := HB2.out.cell 4
  have c5 : w2.cell? ⟨bb, 5, none⟩ = some (.bool deny) := HB2.out.cell 5
  have c6 : w2.cell? ⟨bb, 6, none⟩ = some (.slice dp data.length dc) := HB2.out.cell 6
  have f1 : w2.cell? ⟨fb, 1, none⟩ = some (.bool false) := HBF.out.cell 1
  have f2 : w2.cell? ⟨fb, 2, none⟩ = some (.int .i64 0) := HBF.out.cell 2
  have f3 : w2.cell? ⟨fb, 3, none⟩ = some (.bool false) := HBF.out.cell 3
  have f4 : w2.cell? ⟨fb, 4, none⟩ = some (.bool false) := HBF.out.cell 4
  clear r0 r1 r2 r3 r4 c0 hblt hglt HB1 HT1 hfb
  go_cut [97] (fun t wx => t = .bool (!Txt.tellable ⟨(k : Int) + 1, ref, p, a, b, deny, data⟩) ∧ wx = w2)
  case first =>
    clear HB2 HBF HT2 HR HG HF hbb
    simp only [List.append_eq, List.cons_append, List.nil_append]
    by_cases hcc : ref ≠ 0
    · have HOK := Lib.hid (show Txt.tellable ⟨(k : Int) + 1, ref, p, a, b, deny, data⟩ = false from by
        rw [← Bool.not_eq_true]
        intro h
        obtain ⟨h0, h1, h3, h4, h5, h6, h7, h8⟩ := (tell_iff _ hk rfl hform).1 h
        have e : ref = 0 := (h4 rfl).1; omega)
      have xref : (ref != 0) = true := by rw [bne_iff_ne]; omega
      clear hcc
      go_wp2_with fail
      go_meet
      exact ⟨by rw [HOK.out]; rfl, rfl⟩
    · obtain rfl : ref = 0 := by omega
      by_cases hcc : p ≠ 0
      · have HOK := Lib.hid (show Txt.tellable ⟨(k : Int) + 1, 0, p, a, b, deny, data⟩ = false from by
          rw [← Bool.not_eq_true]
          intro h
          obtain ⟨h0, h1, h3, h4, h5, h6, h7, h8⟩ := (tell_iff _ hk rfl hform).1 h
          have e : p = 0 := (h4 rfl).2; omega)
        have xp : ((p : Int) != 0) = true := by rw [bne_iff_ne]; omega
        have yp : (p != 0) = true := by rw [bne_iff_ne]; omega
        clear hcc
        go_wp2_with fail
        go_meet
        exact ⟨by rw [HOK.out]; rfl, rfl⟩
      · obtain rfl : p = 0 := by omega
        by_cases hcc : deny = true
        · have HOK := Lib.hid (show Txt.tellable ⟨(k : Int) + 1, 0, 0, a, b, deny, data⟩ = false from by
            rw [← Bool.not_eq_true]
            intro h
            subst hcc
            obtain ⟨h0, h1, h3, h4, h5, h6, h7, h8⟩ := (tell_iff _ hk rfl hform).1 h
            have e : true = false := h5 rfl; cases e)
          subst hcc
          go_wp2_with fail
          go_meet
          exact ⟨by rw [HOK.out]; rfl, rfl⟩
        · obtain rfl : deny = false := by simpa using hcc
          by_cases hcc : b ≠ 0
          · have HOK := Lib.hid (show Txt.tellable ⟨(k : Int) + 1, 0, 0, a, b, false, data⟩ = false from by
              rw [← Bool.not_eq_true]
              intro h
              obtain ⟨h0, h1, h3, h4, h5, h6, h7, h8⟩ := (tell_iff _ hk rfl hform).1 h
              have e : b = 0 := h6 (by omega); omega)
            have xb : ((b : Int) != 0) = true := by rw [bne_iff_ne]; omega
            have yb : (b != 0) = true := by rw [bne_iff_ne]; omega
            clear hcc
            go_wp2_with fail
            go_meet
            exact ⟨by rw [HOK.out]; rfl, rfl⟩
          · obtain rfl : b = 0 := by omega
            by_cases hcc : a ≠ 0
            · have HOK := Lib.hid (show Txt.tellable ⟨(k : Int) + 1, 0, 0, a, 0, false, data⟩ = false from by
                rw [← Bool.not_eq_true]
                intro h
                obtain ⟨h0, h1, h3, h4, h5, h6, h7, h8⟩ := (tell_iff _ hk rfl hform).1 h
                have e : a = 0 := h7 rfl; omega)
              have xa : ((a : Int) != 0) = true := by rw [bne_iff_ne]; omega
              have ya : (a != 0) = true := by rw [bne_iff_ne]; omega
              clear hcc
              go_wp2_with fail
              go_meet
              exact ⟨by rw [HOK.out]; rfl, rfl⟩
            · obtain rfl : a = 0 := by omega
              by_cases hcc : 0 < data.length
              · have HOK := Lib.hid (show Txt.tellable ⟨(k : Int) + 1, 0, 0, 0, 0, false, data⟩ = false from by
                  rw [← Bool.not_eq_true]
                  intro h
                  obtain ⟨h0, h1, h3, h4, h5, h6, h7, h8⟩ := (tell_iff _ hk rfl hform).1 h
                  have e : data = [] := h8 rfl; rw [e] at hcc; simp at hcc)
                have xp : decide ((0 : Int) < (data.length : Int)) = true := by simp; omega
                have xq : decide (0 < data.length) = true := by simp; omega
                clear hcc
                go_wp2_with fail
                go_meet
                exact ⟨by rw [HOK.out]; rfl, rfl⟩
              · obtain rfl : data = [] := List.eq_nil_of_length_eq_zero (by omega)
                have HOK := Lib.hid (show Txt.tellable ⟨(k : Int) + 1, 0, 0, 0, 0, false, []⟩ = true from (tell_iff _ hk rfl hform).2 (by refine ⟨?_, ?_, ?_, ?_, ?_, ?_, ?_, ?_⟩ <;> simp <;> omega))
                go_wp2_with fail
                go_meet
                exact ⟨by rw [HOK.out]; rfl, rfl⟩
  case rest =>
    obtain ⟨rfl, hwc⟩ := hcut
    have hwc' := hwc.symm
    subst hwc'
    clear hwc
    by_cases ht : Txt.tellable ⟨(k : Int) + 1, ref, p, a, b, deny, data⟩ = true
    · have HOK := Lib.hid ht
      rw [ht, Bool.not_true]
      have tI := (tell_iff _ hk rfl hform).1 ht
      obtain ⟨h0, h1, h3, h4, h5, h6, h7, h8⟩ := tI
      have HI := Lib.hid (show 0 ≤ ref ∧ ref ≤ 4096 ∧ data.length ≤ 65536 from ⟨h0, h1, h3⟩)
      have hde := Lib.hid (show false = false → deny = false from fun h => h5 h)
      clear h0 h1 h3 h4 h5 h6 h7 h8 ht hbb
      have hw1 : word.size ≤ 16 := by rw [← hword]; exact opWord_len k hk
      have T3 := Touch.refl (S := Nothing) w2
      obtain ⟨sA, hsA⟩ : ∃ sA : ByteArray, word = sA := ⟨_, rfl⟩
      have hzA : sA.size ≤ 59 := by rw [← hsA]; omega
      have hLA := Lib.hid (show sA = ⟨(opWord k ++ Txt.R []).toArray⟩ by rw [← hsA, ← hword]; simp [Txt.R])
      have HT3 := Lib.hid (HT2.out.trans T3)
      have HB3 := Lib.hid (HB2.out.touch T3 (fun h => h))
      have HBF3 := Lib.hid (HBF.out.touch T3 (fun h => h))
      clear T3 c0' c1 c2 c3 c4 c5 c6 f1 f2 f3 f4 HT2 HB2 HBF
      have c3 : w2.cell? ⟨bb, 3, none⟩ = some (.int .u64 a) := HB3.out.cell 3
      have c4 : w2.cell? ⟨bb, 4, none⟩ = some (.int .u64 b) := HB3.out.cell 4
      have f1 : w2.cell? ⟨fb, 1, none⟩ = some (.bool false) := HBF3.out.cell 1
      have f2 : w2.cell? ⟨fb, 2, none⟩ = some (.int .i64 0) := HBF3.out.cell 2
      have hflt := HBF3.out.lt
      have hblt := HB3.out.lt
      go_upto_region 11 with fail
      have HT4 := Lib.hid (HT3.out.alloc (.cells #[.int .u64 a, .int .u64 b] 33))
      have HB4 := Lib.hid (HB3.out.alloc (.cells #[.int .u64 a, .int .u64 b] 33))
      have HBF4 := Lib.hid (HBF3.out.alloc (.cells #[.int .u64 a, .int .u64 b] 33))
      have HBN4 := Lib.hid (Blk.new w2 #[.int .u64 a, .int .u64 b] 33)
      obtain ⟨nb, hnb⟩ : ∃ nb, w2.heap.size = nb := ⟨_, rfl⟩
      rw [hnb] at HBN4
      rw [hnb]
      clear c3 c4 f1 f2 hflt hblt hnb HT3 HB3 HBF3
      generalize w2.alloc (.cells #[.int .u64 a, .int .u64 b] 33) = w4 at *
      go_loopw [6, 114] (fun s i wr => ∃ j ≤ 0, ∃ st : ByteArray, i = .int .i64 (j : Nat) ∧ s = .string st ∧ st.size ≤ 59 + 21 * j ∧ st = ⟨((opWord k ++ Txt.R []) ++ Txt.R ([Txt.dec a, Txt.dec b].take j)).toArray⟩ ∧ Touch Nothing w4 wr) (fun _ i _ => 0 - (intOf i).toNat)
      case atStart => exact ⟨0, by omega, sA, rfl, rfl, by omega, by rw [hLA.out]; simp [Txt.R], Touch.refl _ _⟩
      case round =>
        obtain ⟨j, hj, st, rfl, rfl, hz, hst, TL⟩ := hrel
        have HST := Lib.hid hst
        have HTL := Lib.hid TL
        clear hst TL
        by_cases hlt : j < 0
        · exact absurd hlt (by omega)
        · obtain rfl : j = 0 := by omega
          have HBr := Lib.hid (HB4.out.touch HTL.out (fun h => h))
          have HTr := Lib.hid (HT4.out.trans HTL.out)
          have f3 : wr.cell? ⟨fb, 3, none⟩ = some (.bool false) := (HBF4.out.touch HTL.out (fun h => h)).cell 3
          have c5 : wr.cell? ⟨bb, 5, none⟩ = some (.bool deny) := HBr.out.cell 5
          have c6 : wr.cell? ⟨bb, 6, none⟩ = some (.slice dp data.length dc) := HBr.out.cell 6
          clear hLA hlt hj
          cases deny
          · go_wp2_with fail
            go_ret2
            exact ⟨by rw [HOK.out, if_pos rfl, text_of _ rfl, hform, HST.out]; simp [Txt.fieldWs, Txt.adrWs, Txt.numWs, Txt.datWs, Txt.denyWs, Txt.Cx.cd, Txt.R], HTr.out⟩
          · exact absurd (hde.out (by trivial)) (by simp)
    · have ht : Txt.tellable ⟨(k : Int) + 1, ref, p, a, b, deny, data⟩ = false := Bool.eq_false_iff.2 ht
      rw [ht, Bool.not_false]
      go_wp2_with fail
      go_ret2
      exact ⟨by rw [ht]; rfl, HT2.out⟩

end Go.Proofs.YtnjcmcnjgdjbiaaGreatDoor
