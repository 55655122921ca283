/- The document's can, whatever the call. Conditions: the number of its kind. -/
import Derived.Test.YtnjcmcnjgdjbiaaGreatDoorCan
namespace Go.Proofs.YtnjcmcnjgdjbiaaGreatDoor
open Go.RowKit

def Canned (x : Txt.Cx) (w : World) (e : Ending) (w' : World) : Prop := e = .returned (.bool (Txt.tellable x)) ∧ Touch Nothing w w'

set_option maxRecDepth 100000 in
set_option maxHeartbeats 2000000 in
theorem can_out (op ref : Int) (p a b : Nat) (deny : Bool) (data : List UInt8) (dp : Option Addr) (dc : Nat) (w : World) (hop : -9223372036854775808 ≤ op ∧ op < 9223372036854775808) (h : op < 1 ∨ 14 < op ∨ ref < 0 ∨ 4096 < ref ∨ 65536 < data.length) :
    Calls Tryz.prog 72 #[(CallV.mk op ref p a b deny dp data.length dc).val] w (Canned ⟨op, ref, p, a, b, deny, data⟩ w) := by
  have HOK := Lib.hid (show Txt.tellable ⟨op, ref, p, a, b, deny, data⟩ = false by
    rw [← Bool.not_eq_true]
    intro ht
    unfold Txt.tellable at ht
    rw [Bool.and_eq_true, decide_eq_true_eq, Txt.okCd_iff] at ht
    obtain ⟨h0, ⟨h1, h2⟩, h3, h4, _⟩ := ht
    have h0' : 0 ≤ ref := h0
    have h1' : 1 ≤ op.toNat := h1
    have h2' : op.toNat ≤ 14 := h2
    have h3' : ref.toNat ≤ 4096 := h3
    have h4' : data.length ≤ 65536 := h4
    omega)
  unfold CallV.val
  have HT0 := Lib.hid (show Touch Nothing w (w.alloc (.cells #[.int .i64 op, .int .i64 ref, .int .u64 p, .int .u64 a, .int .u64 b, .bool deny, .slice dp data.length dc] 43)) from (Touch.refl _ w).alloc _)
  by_cases h1 : op < 1
  · have q : decide (op < 1) = true := by simp; omega
    go_enter Tryz.func72, Tryz.ntmps72
    go_wp2_with fail
    go_ret
    exact ⟨by rw [HOK.out]; rfl, HT0.out⟩
  · have q1 : decide (op < 1) = false := by simp; omega
    by_cases h2 : 14 < op
    · have q : decide (14 < op) = true := by simp; omega
      go_enter Tryz.func72, Tryz.ntmps72
      go_wp2_with fail
      go_ret
      exact ⟨by rw [HOK.out]; rfl, HT0.out⟩
    · have q2 : decide (14 < op) = false := by simp; omega
      by_cases h3 : ref < 0
      · have q : decide (ref < 0) = true := by simp; omega
        go_enter Tryz.func72, Tryz.ntmps72
        go_wp2_with fail
        go_ret
        exact ⟨by rw [HOK.out]; rfl, HT0.out⟩
      · have q3 : decide (ref < 0) = false := by simp; omega
        by_cases h4 : 4096 < ref
        · have q : decide (4096 < ref) = true := by simp; omega
          go_enter Tryz.func72, Tryz.ntmps72
          go_wp2_with fail
          go_ret
          exact ⟨by rw [HOK.out]; rfl, HT0.out⟩
        · have q4 : decide (4096 < ref) = false := by simp; omega
          have h5 : 65536 < data.length := by omega
          have q5 : decide ((65536 : Int) < (data.length : Int)) = true := by simp; omega
          have q6 : decide (65536 < data.length) = true := by simp; omega
          clear h
          go_enter Tryz.func72, Tryz.ntmps72
          go_wp2_with fail
          go_ret
          exact ⟨by rw [HOK.out]; rfl, HT0.out⟩

theorem can_ (op ref : Int) (p a b : Nat) (deny : Bool) (data : List UInt8) (dp : Option Addr) (dn dc : Nat) (w : World) (hop : -9223372036854775808 ≤ op ∧ op < 9223372036854775808) (hn : dn = data.length) :
    Calls Tryz.prog 72 #[(CallV.mk op ref p a b deny dp dn dc).val] w (Canned ⟨op, ref, p, a, b, deny, data⟩ w) := by
  subst hn
  by_cases h : op < 1 ∨ 14 < op ∨ ref < 0 ∨ 4096 < ref ∨ 65536 < data.length
  · exact can_out op ref p a b deny data dp dc w hop h
  · obtain ⟨k, rfl⟩ : ∃ k : Nat, op = (k : Int) + 1 := ⟨(op - 1).toNat, by omega⟩
    exact can_main k (by omega) ref p a b deny data dp dc w (by omega) (by omega) (by omega)

end Go.Proofs.YtnjcmcnjgdjbiaaGreatDoor
