/- The walks of the document's own cursor over a line: half, blank, sign. Conditions: a line is at most 1048576 bytes. -/
import Derived.Test.YtnjcmcnjgdjbiaaGreatDoorProg
import Derived.Test.YtnjcmcnjgdjbiaaGreatDoorBase
import Derived.Test.YtnjcmcnjgdjbiaaGreatDoorTxt
import Derived.RegionTactic
import Derived.BigRegion
import Derived.Deep.QuietTactic
import Derived.BigQuiet
import Derived.IntWalk
import Derived.Lib.Hide
import Derived.Handy
import Derived.WalkSmall
import Derived.Outline
import Derived.StillTailTactics
namespace Go.Proofs.YtnjcmcnjgdjbiaaGreatDoor
open Go.RowKit

/-- a cursor in memory -/
abbrev CurAt (w : World) (b : Nat) (s : ByteArray) (i : Nat) (bad : Bool) : Prop := Blk w b 154 [.string s, .int .i64 i, .bool bad]

/-- .. as data -/
def cur (s : ByteArray) (i : Nat) (bad : Bool) : Txt.Cu := ⟨s.data.toList.drop i, bad⟩

/-- the cursor behind a call -/
def CurTo (s : ByteArray) (b : Nat) (w : World) (c : Txt.Cu) (w' : World) : Prop := ∃ i bad, i ≤ s.size ∧ CurAt w' b s i bad ∧ c = cur s i bad ∧ Touch (· = b) w w'

theorem drop_lt (s : ByteArray) (i : Nat) (h : i < s.size) : s.data.toList.drop i = s[i]'h :: s.data.toList.drop (i + 1) := by
  have hz : s.data.toList.length = s.size := by rw [Array.length_toList]; rfl
  rw [List.drop_eq_getElem_cons (by omega)]
  rfl

theorem drop_ge (s : ByteArray) (i : Nat) (h : s.size ≤ i) : s.data.toList.drop i = [] := by
  have hz : s.data.toList.length = s.size := by rw [Array.length_toList]; rfl
  exact List.drop_eq_nil_of_le (by omega)

theorem CurTo.set {s : ByteArray} {b i i' : Nat} {bad : Bool} {w : World} {c : Txt.Cu} (C : CurAt w b s i bad) (h : i' ≤ s.size) (hc : c = cur s i' bad) (n : Nat) : CurTo s b w c ((w.drewN n).setCell ⟨b, 1, none⟩ (.int .i64 i')) :=
  ⟨i', bad, h, (C.drewN n).set 1 _, hc, ((Touch.refl (· = b) w).drewN n).setCell (S := (· = b)) (p := ⟨b, 1, none⟩) (fun _ => rfl) _⟩

theorem CurTo.mark {s : ByteArray} {b i : Nat} {bad : Bool} {w : World} {c : Txt.Cu} (C : CurAt w b s i bad) (h : i ≤ s.size) (hc : c = cur s i true) (n : Nat) : CurTo s b w c ((w.drewN n).setCell ⟨b, 2, none⟩ (.bool true)) :=
  ⟨i, true, h, (C.drewN n).set 2 _, hc, ((Touch.refl (· = b) w).drewN n).setCell (S := (· = b)) (p := ⟨b, 2, none⟩) (fun _ => rfl) _⟩

theorem CurTo.same {s : ByteArray} {b i : Nat} {bad : Bool} {w : World} {c : Txt.Cu} (C : CurAt w b s i bad) (h : i ≤ s.size) (hc : c = cur s i bad) (n : Nat) : CurTo s b w c (w.drewN n) :=
  ⟨i, bad, h, C.drewN n, hc, (Touch.refl _ w).drewN n⟩

def Blanked (s : ByteArray) (b i : Nat) (bad : Bool) (w : World) (e : Ending) (w' : World) : Prop := e = .returned (.tuple #[]) ∧ CurTo s b w (Txt.blank (cur s i bad)) w'

theorem u8_ne {x y : UInt8} (h : x ≠ y) : (((x.toNat : Int)) == (y.toNat : Int)) = false := by
  rw [beq_eq_false_iff_ne]
  exact fun e => h (UInt8.toNat_inj.1 (by omega))

set_option maxRecDepth 100000 in
theorem blank_ (s : ByteArray) (b i : Nat) (bad : Bool) (w : World) (hs : s.size ≤ 1048576) (hi : i ≤ s.size) (C : CurAt w b s i bad) : Calls Tryz.prog 80 #[.pointer (some ⟨b, 0, none⟩)] w (Blanked s b i bad w) := by
  have HC := Lib.hid C
  have c0 : w.cell? ⟨b, 0, none⟩ = some (.string s) := C.cell 0
  have c1 : w.cell? ⟨b, 1, none⟩ = some (.int .i64 i) := C.cell 1
  have c2 : w.cell? ⟨b, 2, none⟩ = some (.bool bad) := C.cell 2
  have f1 := C.free 1
  have f2 := C.free 2
  have hb := C.lt
  clear C
  by_cases hlt : i < s.size
  · by_cases h32 : s[i]'hlt = 32
    · have HB := Lib.hid (show Txt.blank (cur s i bad) = cur s (i + 1) bad by unfold Txt.blank cur; rw [drop_lt s i hlt]; simp only []; rw [if_pos h32])
      have hx : ((((s[i]'hlt).toNat : Nat) : Int) != 32) = false := by rw [h32]; rfl
      have hd : decide (s.size ≤ i) = false := by simp; omega
      clear h32
      go_enter Tryz.func80, Tryz.ntmps80
      go_wp2_with fail
      go_quiet (fail)
      go_wp2_with fail
      refine bodyPost_ret (results_none rfl _ _ _) rfl ?_
      exact ⟨rfl, CurTo.set HC.out (by omega) HB.out _⟩
    · have HB := Lib.hid (show Txt.blank (cur s i bad) = cur s i true by unfold Txt.blank cur; rw [drop_lt s i hlt]; simp only []; rw [if_neg h32])
      have hx : ((((s[i]'hlt).toNat : Nat) : Int) != 32) = true := by have h : ((((s[i]'hlt).toNat : Nat) : Int) == 32) = false := u8_ne h32; rw [bne, h]; rfl
      have hd : decide (s.size ≤ i) = false := by simp; omega
      clear h32
      go_enter Tryz.func80, Tryz.ntmps80
      go_wp2_with fail
      go_quiet (fail)
      go_wp2_with fail
      refine bodyPost_ret (results_none rfl _ _ _) rfl ?_
      exact ⟨rfl, CurTo.mark HC.out (by omega) HB.out _⟩
  · have HB := Lib.hid (show Txt.blank (cur s i bad) = cur s i true by unfold Txt.blank cur; rw [drop_ge s i (by omega)])
    have hd : decide (s.size ≤ i) = true := by simp; omega
    go_enter Tryz.func80, Tryz.ntmps80
    go_wp2_with fail
    go_quiet (fail)
    go_wp2_with fail
    refine bodyPost_ret (results_none rfl _ _ _) rfl ?_
    exact ⟨rfl, CurTo.mark HC.out (by omega) HB.out _⟩

def Signed (s : ByteArray) (b i : Nat) (bad : Bool) (x : UInt8) (w : World) (e : Ending) (w' : World) : Prop := e = .returned (.bool (Txt.sign x (cur s i bad)).1) ∧ CurTo s b w (Txt.sign x (cur s i bad)).2 w'

set_option maxRecDepth 100000 in
theorem sign_ (s : ByteArray) (b i : Nat) (bad : Bool) (x : UInt8) (w : World) (hs : s.size ≤ 1048576) (hi : i ≤ s.size) (C : CurAt w b s i bad) : Calls Tryz.prog 81 #[.pointer (some ⟨b, 0, none⟩), .int .u8 x.toNat] w (Signed s b i bad x w) := by
  have HC := Lib.hid C
  have c0 : w.cell? ⟨b, 0, none⟩ = some (.string s) := C.cell 0
  have c1 : w.cell? ⟨b, 1, none⟩ = some (.int .i64 i) := C.cell 1
  have f1 := C.free 1
  have hb := C.lt
  clear C
  by_cases hlt : i < s.size
  · by_cases he : s[i]'hlt = x
    · have HB := Lib.hid (show Txt.sign x (cur s i bad) = (true, cur s (i + 1) bad) by unfold Txt.sign cur; rw [drop_lt s i hlt]; simp only []; rw [if_pos he])
      have hx : (((s[i]'hlt).toNat) == x.toNat) = true := by rw [he]; simp
      have hx2 : ((((s[i]'hlt).toNat : Nat) : Int) == (x.toNat : Int)) = true := by rw [he]; simp
      have hd : decide (i < s.size) = true := by simp; omega
      clear he
      go_enter Tryz.func81, Tryz.ntmps81
      go_wp2_with fail
      go_quiet (fail)
      go_wp2_with fail
      go_ret
      exact ⟨by rw [HB.out]; rfl, by rw [HB.out]; exact CurTo.set HC.out (by omega) rfl _⟩
    · have HB := Lib.hid (show Txt.sign x (cur s i bad) = (false, cur s i bad) by unfold Txt.sign cur; rw [drop_lt s i hlt]; simp only []; rw [if_neg he])
      have hx2 : ((((s[i]'hlt).toNat : Nat) : Int) == (x.toNat : Int)) = false := u8_ne he
      have hx : (((s[i]'hlt).toNat) == x.toNat) = false := by rw [beq_eq_false_iff_ne]; exact fun e => he (UInt8.toNat_inj.1 e)
      have hd : decide (i < s.size) = true := by simp; omega
      clear he
      go_enter Tryz.func81, Tryz.ntmps81
      go_wp2_with fail
      go_quiet (fail)
      go_wp2_with fail
      go_ret
      exact ⟨by rw [HB.out]; rfl, by rw [HB.out]; exact CurTo.same HC.out (by omega) rfl _⟩
  · have HB := Lib.hid (show Txt.sign x (cur s i bad) = (false, cur s i bad) by unfold Txt.sign cur; rw [drop_ge s i (by omega)])
    have hd : decide (i < s.size) = false := by simp; omega
    go_enter Tryz.func81, Tryz.ntmps81
    go_wp2_with fail
    go_quiet (fail)
    go_wp2_with fail
    go_ret
    exact ⟨by rw [HB.out]; rfl, by rw [HB.out]; exact CurTo.same HC.out (by omega) rfl _⟩

theorem halfR_ (x : UInt8) (w : World) : Calls Tryz.prog 128 #[.int .u8 x.toNat] w fun e w' => e = .returned (.int .i64 (Txt.half x)) ∧ w' = w := by
  have hx := x.toNat_lt
  by_cases h1 : 48 ≤ x.toNat ∧ x.toNat ≤ 57
  · have H := Lib.hid (show ((x.toNat : Int) - 48) = ((Txt.half x : Nat) : Int) by unfold Txt.half; rw [if_pos h1]; omega)
    obtain ⟨a, c⟩ := h1
    have a' : (48 : Int) ≤ (x.toNat : Int) := by omega
    have c' : (x.toNat : Int) ≤ 57 := by omega
    go_enter Tryz.func128, Tryz.ntmps128
    go_wp2_with fail
    go_ret
    rw [← H.out]
    trivial
  · by_cases h2 : 97 ≤ x.toNat ∧ x.toNat ≤ 102
    · have H := Lib.hid (show ((x.toNat : Int) - 97) + 10 = ((Txt.half x : Nat) : Int) by unfold Txt.half; rw [if_neg h1, if_pos h2]; omega)
      obtain ⟨a, c⟩ := h2
      have a' : (97 : Int) ≤ (x.toNat : Int) := by omega
      have c' : (x.toNat : Int) ≤ 102 := by omega
      have d' : ¬ (x.toNat : Int) ≤ 57 := by omega
      clear h1
      go_enter Tryz.func128, Tryz.ntmps128
      go_wp2_with fail
      go_ret
      rw [← H.out]
      trivial
    · have H := Lib.hid (show Txt.half x = 16 by unfold Txt.half; rw [if_neg h1, if_neg h2])
      have hc : x.toNat < 48 ∨ (57 < x.toNat ∧ x.toNat < 97) ∨ 102 < x.toNat := by omega
      clear h1 h2
      rcases hc with hc | ⟨hc, hc2⟩ | hc
      · have a1 : ¬ (48 : Int) ≤ (x.toNat : Int) := by omega
        have a2 : ¬ (97 : Int) ≤ (x.toNat : Int) := by omega
        go_enter Tryz.func128, Tryz.ntmps128
        go_wp2_with fail
        go_ret
        rw [H.out]
        trivial
      · have a1 : ¬ (x.toNat : Int) ≤ 57 := by omega
        have a2 : ¬ (97 : Int) ≤ (x.toNat : Int) := by omega
        go_enter Tryz.func128, Tryz.ntmps128
        go_wp2_with fail
        go_ret
        rw [H.out]
        trivial
      · have a1 : ¬ (x.toNat : Int) ≤ 57 := by omega
        have a2 : ¬ (x.toNat : Int) ≤ 102 := by omega
        go_enter Tryz.func128, Tryz.ntmps128
        go_wp2_with fail
        go_ret
        rw [H.out]
        trivial

end Go.Proofs.YtnjcmcnjgdjbiaaGreatDoor
