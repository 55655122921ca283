/- The walk of the document's own reading of a number. Conditions: a line is at most 1048576 bytes. -/
import Derived.Test.YtnjcmcnjgdjbiaaGreatDoorCursor
namespace Go.Proofs.YtnjcmcnjgdjbiaaGreatDoor
open Go.RowKit

structure NumRel (s : ByteArray) (b i0 : Nat) (bad0 : Bool) (w : World) (i v : Nat) (bad : Bool) (wr : World) : Prop where
  lo : i0 ≤ i
  hi : i ≤ s.size
  at_ : CurAt wr b s i bad
  vlt : v < 18446744073709551616
  law : Txt.numLoop (s.data.toList.drop i0) 0 bad0 = Txt.numLoop (s.data.toList.drop i) v bad
  touch : Touch (· = b) w wr

def numStep (v d : Nat) : Nat := (v * 10 + d) % 18446744073709551616
def numOver (v d : Nat) : Bool := decide ((18446744073709551615 - d) / 10 < v)

theorem numLoop_dig (s : ByteArray) (i v : Nat) (bad : Bool) (h : i < s.size) (hd : Txt.isDig (s[i]'h) = true) :
    Txt.numLoop (s.data.toList.drop i) v bad = Txt.numLoop (s.data.toList.drop (i + 1)) (numStep v ((s[i]'h).toNat - 48)) (bad || numOver v ((s[i]'h).toNat - 48)) := by
  rw [drop_lt s i h]
  conv => lhs; unfold Txt.numLoop
  rw [if_pos hd]
  rfl

theorem numLoop_not (s : ByteArray) (i v : Nat) (bad : Bool) (h : i < s.size) (hd : Txt.isDig (s[i]'h) = false) : Txt.numLoop (s.data.toList.drop i) v bad = (v, bad, s.data.toList.drop i) := by
  rw [drop_lt s i h]
  unfold Txt.numLoop
  rw [if_neg (by rw [hd]; simp)]

theorem numLoop_end (s : ByteArray) (i v : Nat) (bad : Bool) (h : s.size ≤ i) : Txt.numLoop (s.data.toList.drop i) v bad = (v, bad, s.data.toList.drop i) := by
  rw [drop_ge s i h]
  unfold Txt.numLoop
  rfl

theorem wrap_num (v d : Nat) (_hd : d < 10) : IntKind.u64.wrap (IntKind.u64.wrap ((v : Int) * 10) + (d : Int)) = ((numStep v d : Nat) : Int) := by
  unfold numStep IntKind.wrap
  simp [IntKind.signed, IntKind.bits]

theorem NumRel.more {s : ByteArray} {b i0 i v : Nat} {bad0 bad : Bool} {w wr : World} (R : NumRel s b i0 bad0 w i v bad wr) (h : i < s.size) (hd : Txt.isDig (s[i]'h) = true) (n : Nat) (d : Nat) (hdd : d = (s[i]'h).toNat - 48) :
    (numOver v d = false → NumRel s b i0 bad0 w (i + 1) (numStep v d) bad ((wr.drewN n).setCell ⟨b, 1, none⟩ (.int .i64 ((i : Int) + 1)))) ∧
    (numOver v d = true → NumRel s b i0 bad0 w (i + 1) (numStep v d) true (((wr.drewN n).setCell ⟨b, 2, none⟩ (.bool true)).setCell ⟨b, 1, none⟩ (.int .i64 ((i : Int) + 1)))) := by
  subst hdd
  have hl := numLoop_dig s i v bad h hd
  have hlo := R.lo
  refine ⟨fun ho => ⟨by omega, h, ?_, Nat.mod_lt _ (by omega), ?_, ?_⟩, fun ho => ⟨by omega, h, ?_, Nat.mod_lt _ (by omega), ?_, ?_⟩⟩
  · exact (R.at_.drewN n).set 1 _
  · rw [R.law, hl, ho, Bool.or_false]
  · exact (R.touch.drewN n).setCell (S := (· = b)) (p := ⟨b, 1, none⟩) (fun _ => rfl) _
  · exact ((R.at_.drewN n).set 2 _).set 1 _
  · rw [R.law, hl, ho, Bool.or_true]
  · exact ((R.touch.drewN n).setCell (S := (· = b)) (p := ⟨b, 2, none⟩) (fun _ => rfl) _).setCell (S := (· = b)) (p := ⟨b, 1, none⟩) (fun _ => rfl) _

def Numd (s : ByteArray) (b i : Nat) (bad : Bool) (w : World) (e : Ending) (w' : World) : Prop := e = .returned (.int .u64 (Txt.number (cur s i bad)).1) ∧ CurTo s b w (Txt.number (cur s i bad)).2 w'

theorem number_of {s : ByteArray} {i0 i v : Nat} {bad0 bad : Bool} (h0 : i0 ≤ i) (h1 : i ≤ s.size) (hl : Txt.numLoop (s.data.toList.drop i0) 0 bad0 = (v, bad, s.data.toList.drop i)) :
    (Txt.number (cur s i0 bad0)).1 = v ∧ ∀ z : Bool, z = (bad || decide (i = i0) || (decide (i0 + 1 < i) && (s.data.toList.drop i0).head? == some 48)) → (Txt.number (cur s i0 bad0)).2 = cur s i z := by
  have hz : s.data.toList.length = s.size := by rw [Array.length_toList]; rfl
  have e1 : decide ((s.data.toList.drop i).length = (s.data.toList.drop i0).length) = decide (i = i0) := by
    simp only [List.length_drop, decide_eq_decide]; omega
  have e2 : decide ((s.data.toList.drop i).length + 1 < (s.data.toList.drop i0).length) = decide (i0 + 1 < i) := by
    simp only [List.length_drop, decide_eq_decide]; omega
  unfold Txt.number cur
  simp only [hl]
  refine ⟨trivial, fun z hz => ?_⟩
  rw [e1, e2, hz]

theorem cur_measure {s : ByteArray} {b i : Nat} {bad bad' : Bool} {wr w2 : World} (C : CurAt wr b s i bad) (C2 : CurAt w2 b s (i + 1) bad') (h : i < s.size) :
    s.size - (intOf ((w2.cell? ⟨b, 1, none⟩).getD (.int .i64 0))).toNat < s.size - (intOf ((wr.cell? ⟨b, 1, none⟩).getD (.int .i64 0))).toNat := by
  have e1 : w2.cell? ⟨b, 1, none⟩ = some (.int .i64 ((i + 1 : Nat) : Int)) := C2.cell 1
  have e2 : wr.cell? ⟨b, 1, none⟩ = some (.int .i64 (i : Int)) := C.cell 1
  rw [e1, e2]
  simp only [Option.getD_some, intOf]
  omega

theorem NumRel.mark {s : ByteArray} {b i0 i v : Nat} {bad0 bad : Bool} {w wr : World} {c : Txt.Cu} (R : NumRel s b i0 bad0 w i v bad wr) (hc : c = cur s i true) (n : Nat) : CurTo s b w c ((wr.drewN n).setCell ⟨b, 2, none⟩ (.bool true)) :=
  ⟨i, true, R.hi, (R.at_.drewN n).set 2 _, hc, (R.touch.drewN n).setCell (S := (· = b)) (p := ⟨b, 2, none⟩) (fun _ => rfl) _⟩
theorem NumRel.same {s : ByteArray} {b i0 i v : Nat} {bad0 bad : Bool} {w wr : World} {c : Txt.Cu} (R : NumRel s b i0 bad0 w i v bad wr) (hc : c = cur s i bad) (n : Nat) : CurTo s b w c (wr.drewN n) :=
  ⟨i, bad, R.hi, R.at_.drewN n, hc, R.touch.drewN n⟩

/-- how a number ends -/
inductive NumEndd (s : ByteArray) (i0 i : Nat) (bad0 bad : Bool) : Prop
  | none_ (h : i = i0) (c : (Txt.number (cur s i0 bad0)).2 = cur s i true)
  | one (h : i = i0 + 1) (c : (Txt.number (cur s i0 bad0)).2 = cur s i bad)
  | zero (h : i0 + 1 < i) (h0 : i0 < s.size) (hx : ((((s[i0]'h0).toNat : Nat) : Int) == 48) = true) (c : (Txt.number (cur s i0 bad0)).2 = cur s i true)
  | more (h : i0 + 1 < i) (h0 : i0 < s.size) (hx : ((((s[i0]'h0).toNat : Nat) : Int) == 48) = false) (c : (Txt.number (cur s i0 bad0)).2 = cur s i bad)

theorem numEnd_of {s : ByteArray} {i0 i v : Nat} {bad0 bad : Bool} (h0 : i0 ≤ i) (h1 : i ≤ s.size) (hl : Txt.numLoop (s.data.toList.drop i0) 0 bad0 = (v, bad, s.data.toList.drop i)) : NumEndd s i0 i bad0 bad := by
  have h2 := (number_of h0 h1 hl).2
  by_cases ha : i = i0
  · exact .none_ ha (h2 true (by simp [ha]))
  · by_cases hb : i = i0 + 1
    · exact .one hb (h2 bad (by simp [hb]))
    · have hlt : i0 < s.size := by omega
      have hh : (s.data.toList.drop i0).head? = some (s[i0]'hlt) := by rw [drop_lt s i0 hlt]; rfl
      by_cases hx : s[i0]'hlt = 48
      · refine .zero (by omega) hlt (by rw [hx]; rfl) (h2 true ?_)
        rw [hh, hx]
        have : decide (i0 + 1 < i) = true := by simp; omega
        rw [this]
        simp
      · refine .more (by omega) hlt (u8_ne hx) (h2 bad ?_)
        rw [hh]
        have : ((some (s[i0]'hlt)) == some 48) = false := by simpa using hx
        rw [this]
        simp [ha]

set_option maxHeartbeats 8000000 in
set_option maxRecDepth 100000 in
theorem numberR_ (s : ByteArray) (b i0 : Nat) (bad0 : Bool) (w : World) (hs : s.size ≤ 1048576) (hi : i0 ≤ s.size) (C : CurAt w b s i0 bad0) : Calls Tryz.prog 82 #[.pointer (some ⟨b, 0, none⟩)] w (Numd s b i0 bad0 w) := by
  have HR0 := Lib.hid (show NumRel s b i0 bad0 w i0 0 bad0 w from ⟨Nat.le_refl _, hi, C, by omega, rfl, Touch.refl _ _⟩)
  have c1 : w.cell? ⟨b, 1, none⟩ = some (.int .i64 i0) := C.cell 1
  clear C
  go_enter Tryz.func82, Tryz.ntmps82
  go_wp2_with fail
  go_loopw [4] (fun a wr => ∃ i v bad, a = .int .u64 (v : Nat) ∧ NumRel s b i0 bad0 w i v bad wr) (fun _ wr => s.size - (intOf ((wr.cell? ⟨b, 1, none⟩).getD (.int .i64 0))).toNat)
  case atStart => exact ⟨i0, 0, bad0, rfl, HR0.out⟩
  case round =>
    clear c1
    obtain ⟨i, v, bad, rfl, R⟩ := hrel
    have HR := Lib.hid R
    have c0 : wr.cell? ⟨b, 0, none⟩ = some (.string s) := R.at_.cell 0
    have c1 : wr.cell? ⟨b, 1, none⟩ = some (.int .i64 i) := R.at_.cell 1
    have c2 : wr.cell? ⟨b, 2, none⟩ = some (.bool bad) := R.at_.cell 2
    have f1 := R.at_.free 1
    have f2 := R.at_.free 2
    have hb := R.at_.lt
    have hi1 := R.hi
    have hlo := R.lo
    clear R
    by_cases hlt : i < s.size
    · have hd0 : decide (i < s.size) = true := by simp; omega
      by_cases hd : Txt.isDig (s[i]'hlt) = true
      · have hdb := (Txt.isDig_iff _).1 hd
        have hx1 : decide ((48 : Int) ≤ (((s[i]'hlt).toNat : Nat) : Int)) = true := by simp; omega
        have hx2 : decide ((((s[i]'hlt).toNat : Nat) : Int) ≤ 57) = true := by simp; omega
        have HM := Lib.hid (fun n => HR.out.more hlt hd n)
        obtain ⟨d, hdd⟩ : ∃ d, d = (s[i]'hlt).toNat - 48 := ⟨_, rfl⟩
        have hd9 : d < 10 := by omega
        have hw1 : IntKind.u8.wrap ((((s[i]'hlt).toNat : Nat) : Int) - 48) = (d : Int) := by
          rw [show ((((s[i]'hlt).toNat : Nat) : Int) - 48) = (d : Int) by omega]
          unfold IntKind.wrap
          simp [IntKind.signed, IntKind.bits]
          omega
        have hw2 : IntKind.u64.wrap (d : Int) = (d : Int) := by
          unfold IntKind.wrap
          simp [IntKind.signed, IntKind.bits]
          omega
        have HM := Lib.hid (HR.out.more hlt hd · d hdd)
        clear hd hdb hdd
        go_wp2_with fail
        go_quiet (fail)
        go_wp2_with fail
        go_quiet (fail)
        clear hw1 hw2
        go_wp2_with fail
        · have ho : numOver v d = true := by unfold numOver; simp; omega
          exact ⟨⟨i + 1, _, true, by rw [wrap_num v d hd9], (HM.out _).2 ho⟩, cur_measure HR.out.at_ ((HM.out _).2 ho).at_ hlt⟩
        · have ho : numOver v d = false := by unfold numOver; simp; omega
          exact ⟨⟨i + 1, _, bad, by unfold numStep; rw [Nat.mod_eq_of_lt (by omega)]; simp, (HM.out _).1 ho⟩, cur_measure HR.out.at_ ((HM.out _).1 ho).at_ hlt⟩
      · have hd' : Txt.isDig (s[i]'hlt) = false := by simpa using hd
        have hr : (((s[i]'hlt).toNat : Nat) : Int) < 48 ∨ (57 < (((s[i]'hlt).toNat : Nat) : Int)) := by
          have hn : ¬ (48 ≤ (s[i]'hlt).toNat ∧ (s[i]'hlt).toNat ≤ 57) := fun e => hd ((Txt.isDig_iff _).2 e)
          omega
        have HL := Lib.hid (HR.out.law.trans (numLoop_not s i v bad hlt hd'))
        clear hd hd'
        rcases hr with hr | hr
        · have hx1 : decide ((48 : Int) ≤ (((s[i]'hlt).toNat : Nat) : Int)) = false := by simp; omega
          have HE := numEnd_of hlo hi1 HL.out
          have HV := Lib.hid (number_of hlo hi1 HL.out).1
          clear hlo hi1
          cases HE with
          | none_ he hc =>
            subst he
            have HC := Lib.hid hc
            clear hc
            go_wp2_with fail
            go_quiet (fail)
            go_wp2_with fail
            go_ret
            exact ⟨by rw [HV.out]; rfl, HR.out.mark HC.out _⟩
          | one he hc =>
            have e1 : ((i : Int) == (i0 : Int)) = false := by rw [beq_eq_false_iff_ne]; omega
            have e2 : (i : Int) ≤ (i0 : Int) + 1 := by omega
            have HC := Lib.hid hc
            clear hc he
            go_wp2_with fail
            go_quiet (fail)
            go_wp2_with fail
            go_ret
            exact ⟨by rw [HV.out]; rfl, HR.out.same HC.out _⟩
          | zero he h0 hx hc =>
            have e1 : ((i : Int) == (i0 : Int)) = false := by rw [beq_eq_false_iff_ne]; omega
            have e2 : (i0 : Int) + 1 < (i : Int) := by omega
            have HC := Lib.hid hc
            clear hc he
            go_wp2_with fail
            go_quiet (fail)
            go_wp2_with fail
            go_ret
            exact ⟨by rw [HV.out]; rfl, HR.out.mark HC.out _⟩
          | more he h0 hx hc =>
            have e1 : ((i : Int) == (i0 : Int)) = false := by rw [beq_eq_false_iff_ne]; omega
            have e2 : (i0 : Int) + 1 < (i : Int) := by omega
            have HC := Lib.hid hc
            clear hc he
            go_wp2_with fail
            go_quiet (fail)
            go_wp2_with fail
            go_ret
            exact ⟨by rw [HV.out]; rfl, HR.out.same HC.out _⟩
        · have hx1 : decide ((48 : Int) ≤ (((s[i]'hlt).toNat : Nat) : Int)) = true := by simp; omega
          have hx2 : decide ((((s[i]'hlt).toNat : Nat) : Int) ≤ 57) = false := by simp; omega
          have HE := numEnd_of hlo hi1 HL.out
          have HV := Lib.hid (number_of hlo hi1 HL.out).1
          clear hlo hi1
          cases HE with
          | none_ he hc =>
            subst he
            have HC := Lib.hid hc
            clear hc
            go_wp2_with fail
            go_quiet (fail)
            go_wp2_with fail
            go_ret
            exact ⟨by rw [HV.out]; rfl, HR.out.mark HC.out _⟩
          | one he hc =>
            have e1 : ((i : Int) == (i0 : Int)) = false := by rw [beq_eq_false_iff_ne]; omega
            have e2 : (i : Int) ≤ (i0 : Int) + 1 := by omega
            have HC := Lib.hid hc
            clear hc he
            go_wp2_with fail
            go_quiet (fail)
            go_wp2_with fail
            go_ret
            exact ⟨by rw [HV.out]; rfl, HR.out.same HC.out _⟩
          | zero he h0 hx hc =>
            have e1 : ((i : Int) == (i0 : Int)) = false := by rw [beq_eq_false_iff_ne]; omega
            have e2 : (i0 : Int) + 1 < (i : Int) := by omega
            have HC := Lib.hid hc
            clear hc he
            go_wp2_with fail
            go_quiet (fail)
            go_wp2_with fail
            go_ret
            exact ⟨by rw [HV.out]; rfl, HR.out.mark HC.out _⟩
          | more he h0 hx hc =>
            have e1 : ((i : Int) == (i0 : Int)) = false := by rw [beq_eq_false_iff_ne]; omega
            have e2 : (i0 : Int) + 1 < (i : Int) := by omega
            have HC := Lib.hid hc
            clear hc he
            go_wp2_with fail
            go_quiet (fail)
            go_wp2_with fail
            go_ret
            exact ⟨by rw [HV.out]; rfl, HR.out.same HC.out _⟩
    · have hd0 : decide (i < s.size) = false := by simp; omega
      have HL := Lib.hid (HR.out.law.trans (numLoop_end s i v bad (by omega)))
      have HE := numEnd_of hlo hi1 HL.out
      have HV := Lib.hid (number_of hlo hi1 HL.out).1
      clear hlo hi1
      cases HE with
      | none_ he hc =>
        subst he
        have HC := Lib.hid hc
        clear hc
        go_wp2_with fail
        go_quiet (fail)
        go_wp2_with fail
        go_ret
        exact ⟨by rw [HV.out]; rfl, HR.out.mark HC.out _⟩
      | one he hc =>
        have e1 : ((i : Int) == (i0 : Int)) = false := by rw [beq_eq_false_iff_ne]; omega
        have e2 : (i : Int) ≤ (i0 : Int) + 1 := by omega
        have HC := Lib.hid hc
        clear hc he
        go_wp2_with fail
        go_quiet (fail)
        go_wp2_with fail
        go_ret
        exact ⟨by rw [HV.out]; rfl, HR.out.same HC.out _⟩
      | zero he h0 hx hc =>
        have e1 : ((i : Int) == (i0 : Int)) = false := by rw [beq_eq_false_iff_ne]; omega
        have e2 : (i0 : Int) + 1 < (i : Int) := by omega
        have HC := Lib.hid hc
        clear hc he
        go_wp2_with fail
        go_quiet (fail)
        go_wp2_with fail
        go_ret
        exact ⟨by rw [HV.out]; rfl, HR.out.mark HC.out _⟩
      | more he h0 hx hc =>
        have e1 : ((i : Int) == (i0 : Int)) = false := by rw [beq_eq_false_iff_ne]; omega
        have e2 : (i0 : Int) + 1 < (i : Int) := by omega
        have HC := Lib.hid hc
        clear hc he
        go_wp2_with fail
        go_quiet (fail)
        go_wp2_with fail
        go_ret
        exact ⟨by rw [HV.out]; rfl, HR.out.same HC.out _⟩

end Go.Proofs.YtnjcmcnjgdjbiaaGreatDoor
