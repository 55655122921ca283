/- The walk of the document's can: which calls have a line. Conditions: none. -/
import Derived.Test.YtnjcmcnjgdjbiaaGreatDoorTold
import Derived.Test.YtnjcmcnjgdjbiaaGreatDoorBehind
import Derived.Test.YtnjcmcnjgdjbiaaGreatDoorHeap
import Derived.Deep.DeepCutAuto
import Derived.Deep.CutBlock
namespace Go.Proofs.YtnjcmcnjgdjbiaaGreatDoor
open Go.RowKit

def hasI (l : List UInt8) (c : Int) : Bool := l.any fun x => ((x.toNat : Int) == c)
def cntI (l : List UInt8) : Nat := (l.filter fun x => ((x.toNat : Int) == 110)).length

theorem form_behind (k : Nat) (hk : k < 14) : Txt.formOf (k + 1) = ⟨hasI (behindAt k) 97, cntI (behindAt k), hasI (behindAt k) 100, hasI (behindAt k) 33⟩ := by
  have : ∀ k : Fin 14, (Txt.formOf (k.val + 1)).address = hasI (behindAt k.val) 97 ∧ (Txt.formOf (k.val + 1)).numbers = cntI (behindAt k.val) ∧ (Txt.formOf (k.val + 1)).data = hasI (behindAt k.val) 100 ∧ (Txt.formOf (k.val + 1)).refused = hasI (behindAt k.val) 33 := by decide +kernel
  obtain ⟨e1, e2, e3, e4⟩ := this ⟨k, hk⟩
  simp only at e1 e2 e3 e4
  rw [← e1, ← e2, ← e3, ← e4]

theorem hasI_succ (s : ByteArray) (j : Nat) (h : j < s.size) (c : Int) : hasI (s.data.toList.take (j + 1)) c = (hasI (s.data.toList.take j) c || (((s[j]'h).toNat : Int) == c)) := by
  unfold hasI
  rw [List.take_add_one, Lib.data_getElem? s j h]
  simp [List.any_append]

theorem cntI_succ (s : ByteArray) (j : Nat) (h : j < s.size) : cntI (s.data.toList.take (j + 1)) = cntI (s.data.toList.take j) + if (((s[j]'h).toNat : Int) == 110) = true then 1 else 0 := by
  unfold cntI
  rw [List.take_add_one, Lib.data_getElem? s j h, List.filter_append, List.length_append]
  by_cases e : (((s[j]'h).toNat : Int) == 110) = true
  · simp [e]
  · simp [e]

/-- what the first test tells -/
def CanAt (x : Txt.Cx) (fa fd fy bad : Bool) : Prop := (bad = true → Txt.tellable x = false) ∧ (bad = false → (fa = false → x.ref = 0 ∧ x.p = 0) ∧ (fd = false → x.data = []) ∧ (fy = false → x.deny = false))

theorem CanAt.no {x : Txt.Cx} {fa fd fy : Bool} (h : Txt.tellable x = false) : CanAt x fa fd fy true := ⟨fun _ => h, fun e => (by cases e)⟩
theorem CanAt.yes {x : Txt.Cx} {fa fd fy : Bool} (h1 : fa = false → x.ref = 0 ∧ x.p = 0) (h2 : fd = false → x.data = []) (h3 : fy = false → x.deny = false) : CanAt x fa fd fy false := ⟨fun e => (by cases e), fun _ => ⟨h1, h2, h3⟩⟩

/-- which calls have a line, by the form's numbers -/
theorem tell_iff2 (x : Txt.Cx) {k : Nat} (hk : k < 14) (hop : x.op = (k : Int) + 1) {fa fd fy : Bool} {n : Nat} (hf : Txt.formOf (k + 1) = ⟨fa, n, fd, fy⟩) (hr : 0 ≤ x.ref ∧ x.ref ≤ 4096 ∧ x.data.length ≤ 65536) :
    Txt.tellable x = true ↔ (fa = false → x.ref = 0 ∧ x.p = 0) ∧ (fy = false → x.deny = false) ∧ (fd = false → x.data = []) ∧ (n ≤ 1 → x.b = 0) ∧ (n = 0 → x.a = 0) := by
  unfold Txt.tellable
  rw [Bool.and_eq_true, decide_eq_true_eq, Txt.okCd_iff]
  have e : x.cd.op = k + 1 := by show x.op.toNat = _; omega
  rw [e, hf]
  obtain ⟨op, ref, p, a, b, deny, data⟩ := x
  simp only [Txt.Cx.cd] at *
  constructor
  · rintro ⟨h0, h1, h2, h3, h4, h5, h6, h7, h8⟩
    exact ⟨fun e => ⟨by have := (h4 e).1; omega, (h4 e).2⟩, h5, h8, h6, h7⟩
  · rintro ⟨h4, h5, h8, h6, h7⟩
    exact ⟨hr.1, ⟨by omega, by omega⟩, by omega, hr.2.2, fun e => ⟨by have := (h4 e).1; omega, (h4 e).2⟩, h5, h6, h7, h8⟩

set_option maxRecDepth 100000 in
set_option maxHeartbeats 1000000 in
theorem can_main (k : Nat) (hk : k < 14) (ref : Int) (p a b : Nat) (deny : Bool) (data : List UInt8) (dp : Option Addr) (dc : Nat) (w : World) (h0 : 0 ≤ ref) (h1 : ref ≤ 4096) (h2 : data.length ≤ 65536) :
    Calls Tryz.prog 72 #[(CallV.mk ((k : Int) + 1) ref p a b deny dp data.length dc).val] w fun e w' => e = .returned (.bool (Txt.tellable ⟨(k : Int) + 1, ref, p, a, b, deny, data⟩)) ∧ Touch Nothing w w' := by
  unfold CallV.val
  have T0 : Touch Nothing w (w.alloc (.cells #[.int .i64 ((k : Int) + 1), .int .i64 ref, .int .u64 p, .int .u64 a, .int .u64 b, .bool deny, .slice dp data.length dc] 43)) := (Touch.refl _ w).alloc _
  have B0 := Blk.new w #[.int .i64 ((k : Int) + 1), .int .i64 ref, .int .u64 p, .int .u64 a, .int .u64 b, .bool deny, .slice dp data.length dc] 43
  have HT0 := Lib.hid T0
  have HB0 := Lib.hid B0
  clear T0 B0
  have q1 : decide ((k : Int) + 1 < 1) = false := by simp; omega
  have q2 : decide ((14 : Int) < (k : Int) + 1) = false := by simp; omega
  have q3 : decide (ref < 0) = false := by simp; omega
  have q4 : decide (4096 < ref) = false := by simp; omega
  have q5 : decide ((65536 : Int) < (data.length : Int)) = false := by simp; omega
  have q6 : decide (65536 < data.length) = false := by simp; omega
  go_enter Tryz.func72, Tryz.ntmps72
  go_upto_region 3 with fail
  generalize w.alloc (.cells #[.int .i64 ((k : Int) + 1), .int .i64 ref, .int .u64 p, .int .u64 a, .int .u64 b, .bool deny, .slice dp data.length dc] 43) = w0 at *
  obtain ⟨bb, hbb⟩ : ∃ bb, w.heap.size = bb := ⟨_, rfl⟩
  rw [hbb] at HB0
  rw [hbb]
  have c0 : w0.cell? ⟨bb, 0, none⟩ = some (.int .i64 ((k : Int) + 1)) := HB0.out.cell 0
  have hblt := HB0.out.lt
  have hk3 : decide (14 ≤ k) = false := by simp; omega
  have hk4 : decide ((14 : Int) ≤ (k : Int)) = false := by simp; omega
  have hk5 : (k : Int) < 14 := by omega
  have hk6 : (0 : Int) ≤ (k : Int) := by omega
  have hwr : IntKind.i64.wrap (k : Int) = (k : Int) := IntWalk.i64_in _ (by omega)
  obtain ⟨fb, hfb⟩ : ∃ fb : ByteArray, (⟨(behindAt k).toArray⟩ : ByteArray) = fb := ⟨_, rfl⟩
  have HCF := Lib.hid (show ∀ (us : Array Value) (W : World), (callFunc 79 us).run Tryz.prog W = .ok (.enter 79 us) W from fun us W => by simp [go_sem])
  have HBW := Lib.hid (fun W => behind_ W)
  go_cut [3] (fun t wx => t = .string fb ∧ Touch Nothing w0 wx)
  case first =>
    go_region_law (refine step_call_list _ (by rfl) 79 #[] #[] (by rfl) #[] (by rfl) (HBW.out _) (HCF.out _ _) ?_; rintro e w' ⟨gb, hgb, rfl, hBb, hltb, hT⟩; refine ⟨_, rfl, ?_⟩; obtain rfl : gb = w0.heap.size := (by rw [hgb]; simp); clear hgb; have hcf : w'.cell? ⟨w0.heap.size, k, none⟩ = some (.string fb) := (by rw [← hfb, hBb.cell]; exact behind_cell k hk); have c0' : w'.cell? ⟨bb, 0, none⟩ = some (.int .i64 ((k : Int) + 1)) := (hT.cell (p := ⟨bb, 0, none⟩) (by simpa using hblt) (fun h => h)).trans (by simpa using c0); have HT' := Lib.hid hT; clear hT)
    all_goals
      go_wp2_with fail
      go_meet
      exact ⟨rfl, HT'.out.os, HT'.out.tape, HT'.out.output, HT'.out.size, HT'.out.block⟩
  case rest =>
    obtain ⟨rfl, hT1⟩ := hcut
    have HT1 := Lib.hid (HT0.out.trans hT1)
    have HB1 := Lib.hid (HB0.out.touch hT1 (fun h => h))
    have hfl : fb.data.toList = behindAt k := by rw [← hfb]
    have hfs : fb.size ≤ 3 := by
      have h1 : fb.data.toList.length = fb.size := by rw [Array.length_toList]; rfl
      rw [← h1, hfl]
      exact behind_short k
    have HFL := Lib.hid hfl
    clear hT1 hfl hfb c0 HB0 HT0 hbb HBW HCF hblt
    go_upto_block 0 with fail
    go_cut [4, 5, 6, 7] (fun n a d y wx => n = .int .i64 (cntI fb.data.toList : Nat) ∧ a = .bool (hasI fb.data.toList 97) ∧ d = .bool (hasI fb.data.toList 100) ∧ y = .bool (hasI fb.data.toList 33) ∧ wx = wc)
    case first =>
      clear HT1 HB1 HFL q1 q2 q3 q4 q5 q6 hk3 hk4 hk5 hk6 hwr h0 h1 h2
      go_wp2_with fail
      go_loop [4, 5, 6, 7, 8] (fun n a d y i => ∃ j : Nat, j ≤ fb.size ∧ i = .int .i64 j ∧ n = .int .i64 (cntI (fb.data.toList.take j) : Nat) ∧ a = .bool (hasI (fb.data.toList.take j) 97) ∧ d = .bool (hasI (fb.data.toList.take j) 100) ∧ y = .bool (hasI (fb.data.toList.take j) 33)) (fun _ _ _ _ i => fb.size - (intOf i).toNat)
      case atStart => exact ⟨0, by omega, rfl, rfl, rfl, rfl, rfl⟩
      case round =>
        obtain ⟨j, hj, rfl, rfl, rfl, rfl, rfl⟩ := hrel
        by_cases hlt : j < fb.size
        · have HA := Lib.hid (hasI_succ fb j hlt 97)
          have HD := Lib.hid (hasI_succ fb j hlt 100)
          have HY := Lib.hid (hasI_succ fb j hlt 33)
          have HN := Lib.hid (cntI_succ fb j hlt)
          have hcn : cntI (fb.data.toList.take j) ≤ 3 := by
            unfold cntI
            refine Nat.le_trans (List.length_filter_le _ _) ?_
            rw [List.length_take]
            omega
          generalize cntI (fb.data.toList.take j) = n at *
          generalize hasI (fb.data.toList.take j) 97 = fa at *
          generalize hasI (fb.data.toList.take j) 100 = fd at *
          generalize hasI (fb.data.toList.take j) 33 = fy at *
          obtain ⟨b110, hb110⟩ : ∃ b, (((fb[j]'hlt).toNat : Int) == 110) = b := ⟨_, rfl⟩
          have HB := Lib.hid hb110
          cases b110 <;> cases fa <;> cases fd <;> cases fy
          all_goals
            go_wp2_with fail
            refine ⟨⟨j + 1, by omega, by go_num, ?_, ?_, ?_, ?_⟩, by simp [intOf]; omega⟩
            · rw [HN.out, HB.out]; first | rfl | simp
            · rw [HA.out]; first | rfl | simp
            · rw [HD.out]; first | rfl | simp
            · rw [HY.out]; first | rfl | simp
        · obtain rfl : j = fb.size := by omega
          have hq : decide (fb.size < fb.size) = false := by simp
          have ht : fb.data.toList.take fb.size = fb.data.toList := List.take_of_length_le (by rw [Array.length_toList]; exact Nat.le_refl _)
          rw [ht]
          go_wp2_with fail
          go_meet
          exact ⟨rfl, rfl, rfl, rfl, rfl⟩
    case rest =>
      obtain ⟨rfl, rfl, rfl, rfl, hwc⟩ := hcut
      have hwc' := hwc.symm
      subst hwc'
      clear hwc
      have hF := form_behind k hk
      rw [← HFL.out] at hF
      generalize cntI fb.data.toList = n at *
      generalize hasI fb.data.toList 97 = fa at *
      generalize hasI fb.data.toList 100 = fd at *
      generalize hasI fb.data.toList 33 = fy at *
      have HF := Lib.hid hF
      have HR := Lib.hid (show 0 ≤ ref ∧ ref ≤ 4096 ∧ data.length ≤ 65536 from ⟨h0, h1, h2⟩)
      have c1 : wc.cell? ⟨bb, 1, none⟩ = some (.int .i64 ref) := HB1.out.cell 1
      have c2 : wc.cell? ⟨bb, 2, none⟩ = some (.int .u64 p) := HB1.out.cell 2
      have c3 : wc.cell? ⟨bb, 3, none⟩ = some (.int .u64 a) := HB1.out.cell 3
      have c4 : wc.cell? ⟨bb, 4, none⟩ = some (.int .u64 b) := HB1.out.cell 4
      have c5 : wc.cell? ⟨bb, 5, none⟩ = some (.bool deny) := HB1.out.cell 5
      have c6 : wc.cell? ⟨bb, 6, none⟩ = some (.slice dp data.length dc) := HB1.out.cell 6
      clear hF hfs HFL HB1 q1 q2 q3 q4 q5 q6 hk3 hk4 hk5 hk6 hwr h0 h1 h2
      go_upto_region 16 with fail
      go_cut [101] (fun t wx => ∃ bad : Bool, t = .bool bad ∧ wx = wc ∧ CanAt ⟨(k : Int) + 1, ref, p, a, b, deny, data⟩ fa fd fy bad)
      case first =>
        clear HT1
        cases fa
        · cases fd
          · cases fy
            · by_cases hr : ref ≠ 0
              · have x1 : (ref != 0) = true := by rw [bne_iff_ne]; omega
                go_wp2_with fail
                go_meet
                exact ⟨true, rfl, rfl, CanAt.no (by rw [← Bool.not_eq_true]; intro h; have e := (tell_iff2 _ hk rfl HF.out HR.out).1 h; exact hr (e.1 rfl).1)⟩
              · obtain rfl : ref = 0 := by omega
                by_cases hp : p ≠ 0
                · have x1 : ((p : Int) != 0) = true := by rw [bne_iff_ne]; omega
                  have x2 : (p != 0) = true := by rw [bne_iff_ne]; omega
                  go_wp2_with fail
                  go_meet
                  exact ⟨true, rfl, rfl, CanAt.no (by rw [← Bool.not_eq_true]; intro h; have e := (tell_iff2 _ hk rfl HF.out HR.out).1 h; exact hp (e.1 rfl).2)⟩
                · obtain rfl : p = 0 := by omega
                  by_cases hd : 0 < data.length
                  · have x1 : decide ((0 : Int) < (data.length : Int)) = true := by simp; omega
                    have x2 : decide (0 < data.length) = true := by simp; omega
                    go_wp2_with fail
                    go_meet
                    exact ⟨true, rfl, rfl, CanAt.no (by rw [← Bool.not_eq_true]; intro h; have e := (tell_iff2 _ hk rfl HF.out HR.out).1 h; have e3 : data = [] := e.2.2.1 rfl; rw [e3] at hd; simp at hd)⟩
                  · obtain rfl : data = [] := List.eq_nil_of_length_eq_zero (by omega)
                    cases deny
                    · go_wp2_with fail
                      go_meet
                      exact ⟨false, rfl, rfl, CanAt.yes (fun _ => ⟨rfl, rfl⟩) (fun _ => rfl) (fun _ => rfl)⟩
                    · go_wp2_with fail
                      go_meet
                      exact ⟨true, rfl, rfl, CanAt.no (by rw [← Bool.not_eq_true]; intro h; have e := (tell_iff2 _ hk rfl HF.out HR.out).1 h; cases e.2.1 rfl)⟩
            · by_cases hr : ref ≠ 0
              · have x1 : (ref != 0) = true := by rw [bne_iff_ne]; omega
                go_wp2_with fail
                go_meet
                exact ⟨true, rfl, rfl, CanAt.no (by rw [← Bool.not_eq_true]; intro h; have e := (tell_iff2 _ hk rfl HF.out HR.out).1 h; exact hr (e.1 rfl).1)⟩
              · obtain rfl : ref = 0 := by omega
                by_cases hp : p ≠ 0
                · have x1 : ((p : Int) != 0) = true := by rw [bne_iff_ne]; omega
                  have x2 : (p != 0) = true := by rw [bne_iff_ne]; omega
                  go_wp2_with fail
                  go_meet
                  exact ⟨true, rfl, rfl, CanAt.no (by rw [← Bool.not_eq_true]; intro h; have e := (tell_iff2 _ hk rfl HF.out HR.out).1 h; exact hp (e.1 rfl).2)⟩
                · obtain rfl : p = 0 := by omega
                  by_cases hd : 0 < data.length
                  · have x1 : decide ((0 : Int) < (data.length : Int)) = true := by simp; omega
                    have x2 : decide (0 < data.length) = true := by simp; omega
                    go_wp2_with fail
                    go_meet
                    exact ⟨true, rfl, rfl, CanAt.no (by rw [← Bool.not_eq_true]; intro h; have e := (tell_iff2 _ hk rfl HF.out HR.out).1 h; have e3 : data = [] := e.2.2.1 rfl; rw [e3] at hd; simp at hd)⟩
                  · obtain rfl : data = [] := List.eq_nil_of_length_eq_zero (by omega)
                    go_wp2_with fail
                    go_meet
                    exact ⟨false, rfl, rfl, CanAt.yes (fun _ => ⟨rfl, rfl⟩) (fun _ => rfl) (fun h => (by cases h))⟩
          · cases fy
            · by_cases hr : ref ≠ 0
              · have x1 : (ref != 0) = true := by rw [bne_iff_ne]; omega
                go_wp2_with fail
                go_meet
                exact ⟨true, rfl, rfl, CanAt.no (by rw [← Bool.not_eq_true]; intro h; have e := (tell_iff2 _ hk rfl HF.out HR.out).1 h; exact hr (e.1 rfl).1)⟩
              · obtain rfl : ref = 0 := by omega
                by_cases hp : p ≠ 0
                · have x1 : ((p : Int) != 0) = true := by rw [bne_iff_ne]; omega
                  have x2 : (p != 0) = true := by rw [bne_iff_ne]; omega
                  go_wp2_with fail
                  go_meet
                  exact ⟨true, rfl, rfl, CanAt.no (by rw [← Bool.not_eq_true]; intro h; have e := (tell_iff2 _ hk rfl HF.out HR.out).1 h; exact hp (e.1 rfl).2)⟩
                · obtain rfl : p = 0 := by omega
                  cases deny
                  · go_wp2_with fail
                    go_meet
                    exact ⟨false, rfl, rfl, CanAt.yes (fun _ => ⟨rfl, rfl⟩) (fun h => (by cases h)) (fun _ => rfl)⟩
                  · go_wp2_with fail
                    go_meet
                    exact ⟨true, rfl, rfl, CanAt.no (by rw [← Bool.not_eq_true]; intro h; have e := (tell_iff2 _ hk rfl HF.out HR.out).1 h; cases e.2.1 rfl)⟩
            · by_cases hr : ref ≠ 0
              · have x1 : (ref != 0) = true := by rw [bne_iff_ne]; omega
                go_wp2_with fail
                go_meet
                exact ⟨true, rfl, rfl, CanAt.no (by rw [← Bool.not_eq_true]; intro h; have e := (tell_iff2 _ hk rfl HF.out HR.out).1 h; exact hr (e.1 rfl).1)⟩
              · obtain rfl : ref = 0 := by omega
                by_cases hp : p ≠ 0
                · have x1 : ((p : Int) != 0) = true := by rw [bne_iff_ne]; omega
                  have x2 : (p != 0) = true := by rw [bne_iff_ne]; omega
                  go_wp2_with fail
                  go_meet
                  exact ⟨true, rfl, rfl, CanAt.no (by rw [← Bool.not_eq_true]; intro h; have e := (tell_iff2 _ hk rfl HF.out HR.out).1 h; exact hp (e.1 rfl).2)⟩
                · obtain rfl : p = 0 := by omega
                  go_wp2_with fail
                  go_meet
                  exact ⟨false, rfl, rfl, CanAt.yes (fun _ => ⟨rfl, rfl⟩) (fun h => (by cases h)) (fun h => (by cases h))⟩
        · cases fd
          · cases fy
            · by_cases hd : 0 < data.length
              · have x1 : decide ((0 : Int) < (data.length : Int)) = true := by simp; omega
                have x2 : decide (0 < data.length) = true := by simp; omega
                go_wp2_with fail
                go_meet
                exact ⟨true, rfl, rfl, CanAt.no (by rw [← Bool.not_eq_true]; intro h; have e := (tell_iff2 _ hk rfl HF.out HR.out).1 h; have e3 : data = [] := e.2.2.1 rfl; rw [e3] at hd; simp at hd)⟩
              · obtain rfl : data = [] := List.eq_nil_of_length_eq_zero (by omega)
                cases deny
                · go_wp2_with fail
                  go_meet
                  exact ⟨false, rfl, rfl, CanAt.yes (fun h => (by cases h)) (fun _ => rfl) (fun _ => rfl)⟩
                · go_wp2_with fail
                  go_meet
                  exact ⟨true, rfl, rfl, CanAt.no (by rw [← Bool.not_eq_true]; intro h; have e := (tell_iff2 _ hk rfl HF.out HR.out).1 h; cases e.2.1 rfl)⟩
            · by_cases hd : 0 < data.length
              · have x1 : decide ((0 : Int) < (data.length : Int)) = true := by simp; omega
                have x2 : decide (0 < data.length) = true := by simp; omega
                go_wp2_with fail
                go_meet
                exact ⟨true, rfl, rfl, CanAt.no (by rw [← Bool.not_eq_true]; intro h; have e := (tell_iff2 _ hk rfl HF.out HR.out).1 h; have e3 : data = [] := e.2.2.1 rfl; rw [e3] at hd; simp at hd)⟩
              · obtain rfl : data = [] := List.eq_nil_of_length_eq_zero (by omega)
                go_wp2_with fail
                go_meet
                exact ⟨false, rfl, rfl, CanAt.yes (fun h => (by cases h)) (fun _ => rfl) (fun h => (by cases h))⟩
          · cases fy
            · cases deny
              · go_wp2_with fail
                go_meet
                exact ⟨false, rfl, rfl, CanAt.yes (fun h => (by cases h)) (fun h => (by cases h)) (fun _ => rfl)⟩
              · go_wp2_with fail
                go_meet
                exact ⟨true, rfl, rfl, CanAt.no (by rw [← Bool.not_eq_true]; intro h; have e := (tell_iff2 _ hk rfl HF.out HR.out).1 h; cases e.2.1 rfl)⟩
            · go_wp2_with fail
              go_meet
              exact ⟨false, rfl, rfl, CanAt.yes (fun h => (by cases h)) (fun h => (by cases h)) (fun h => (by cases h))⟩
      case rest =>
        obtain ⟨bad, rfl, hwx, hC⟩ := hcut
        obtain ⟨hbad, hgood⟩ := hC
        have hwx' := hwx.symm
        subst hwx'
        clear hwx
        have hB := Lib.hid hbad
        cases bad
        · have hG := Lib.hid (hgood rfl)
          clear hbad hgood
          rcases (show n = 0 ∨ n = 1 ∨ 2 ≤ n by omega) with rfl | rfl | hn
          · by_cases ha : a = 0
            · subst ha
              by_cases hb : b = 0
              · subst hb
                go_wp2_with fail
                go_ret
                exact ⟨by rw [(tell_iff2 _ hk rfl HF.out HR.out).2 ⟨hG.out.1, hG.out.2.2, hG.out.2.1, by simp, by simp⟩]; rfl, HT1.out⟩
              · have xb : ((b : Int) == 0) = false := by rw [beq_eq_false_iff_ne]; omega
                have yb : (b == 0) = false := by rw [beq_eq_false_iff_ne]; omega
                go_wp2_with fail
                go_ret
                exact ⟨by rw [show Txt.tellable _ = false from by rw [← Bool.not_eq_true]; intro h; have e := (tell_iff2 _ hk rfl HF.out HR.out).1 h; exact hb (e.2.2.2.1 (by omega))]; rfl, HT1.out⟩
            · have xa : ((a : Int) == 0) = false := by rw [beq_eq_false_iff_ne]; omega
              have ya : (a == 0) = false := by rw [beq_eq_false_iff_ne]; omega
              go_wp2_with fail
              go_ret
              exact ⟨by rw [show Txt.tellable _ = false from by rw [← Bool.not_eq_true]; intro h; have e := (tell_iff2 _ hk rfl HF.out HR.out).1 h; exact ha (e.2.2.2.2 rfl)]; rfl, HT1.out⟩
          · by_cases hb : b = 0
            · subst hb
              go_wp2_with fail
              go_ret
              exact ⟨by rw [(tell_iff2 _ hk rfl HF.out HR.out).2 ⟨hG.out.1, hG.out.2.2, hG.out.2.1, by simp, by simp⟩]; rfl, HT1.out⟩
            · have xb : ((b : Int) == 0) = false := by rw [beq_eq_false_iff_ne]; omega
              have yb : (b == 0) = false := by rw [beq_eq_false_iff_ne]; omega
              go_wp2_with fail
              go_ret
              exact ⟨by rw [show Txt.tellable _ = false from by rw [← Bool.not_eq_true]; intro h; have e := (tell_iff2 _ hk rfl HF.out HR.out).1 h; exact hb (e.2.2.2.1 (by omega))]; rfl, HT1.out⟩
          · have x1 : decide ((0 : Int) < (n : Int)) = true := by simp; omega
            have x2 : decide (0 < n) = true := by simp; omega
            have x3 : decide ((1 : Int) < (n : Int)) = true := by simp; omega
            have x4 : decide (1 < n) = true := by simp; omega
            go_wp2_with fail
            go_ret
            exact ⟨by rw [(tell_iff2 _ hk rfl HF.out HR.out).2 ⟨hG.out.1, hG.out.2.2, hG.out.2.1, fun h => absurd h (by omega), fun h => absurd h (by omega)⟩]; rfl, HT1.out⟩
        · have hT := Lib.hid (hbad rfl)
          clear hbad hgood
          go_wp2_with fail
          go_ret
          exact ⟨by rw [hT.out]; rfl, HT1.out⟩

end Go.Proofs.YtnjcmcnjgdjbiaaGreatDoor
