/- The walk of script.told, whatever the call: the line of a call that has one, or false. Conditions: the call's bytes can be read. -/
import Derived.Test.YtnjcmcnjgdjbiaaGreatDoorToldForms
namespace Go.Proofs.YtnjcmcnjgdjbiaaGreatDoor
open Go.RowKit

set_option maxRecDepth 100000 in
set_option maxHeartbeats 1000000 in
theorem toldOut (op ref : Int) (p a b : Nat) (deny : Bool) (data : List UInt8) (dp : Option Addr) (dn dc : Nat) (w : World) (h : op < 1 ∨ 14 < op) (hop : -9223372036854775808 ≤ op ∧ op < 9223372036854775808) :
    Calls Tryz.prog 68 #[(CallV.mk op ref p a b deny dp dn dc).val] w (ToldTo ⟨op, ref, p, a, b, deny, data⟩ w) := by
  have HOK := Lib.hid (show Txt.tellable ⟨op, ref, p, a, b, deny, data⟩ = false by
    rw [← Bool.not_eq_true]
    intro ht
    unfold Txt.tellable at ht
    rw [Bool.and_eq_true, decide_eq_true_eq, Txt.okCd_iff] at ht
    obtain ⟨_, ⟨h1, h2⟩, _⟩ := ht
    have h1' : 1 ≤ op.toNat := h1
    have h2' : op.toNat ≤ 14 := h2
    omega)
  unfold CallV.val
  have T0 : Touch Nothing w (w.alloc (.cells #[.int .i64 op, .int .i64 ref, .int .u64 p, .int .u64 a, .int .u64 b, .bool deny, .slice dp dn dc] 43)) := (Touch.refl _ w).alloc _
  have B0 := Blk.new w #[.int .i64 op, .int .i64 ref, .int .u64 p, .int .u64 a, .int .u64 b, .bool deny, .slice dp dn dc] 43
  have HF := Lib.hid (forms_ (w.alloc (.cells #[.int .i64 op, .int .i64 ref, .int .u64 p, .int .u64 a, .int .u64 b, .bool deny, .slice dp dn dc] 43)))
  have HT0 := Lib.hid T0
  have HB0 := Lib.hid B0
  clear T0 B0
  go_enter Tryz.func68, Tryz.ntmps68
  go_wp2_with fail
  refine HF.out.mono ?_
  rintro e w1 ⟨gf, hgf, rfl, hBf, T1⟩
  have B1 := HB0.out.touch T1 (fun h => h)
  have c0 : w1.cell? ⟨w.heap.size, 0, none⟩ = some (.int .i64 op) := B1.cell 0
  have HT1 := Lib.hid (HT0.out.trans T1)
  clear T1 hBf B1 hgf
  rcases h with h | h
  · have hd : decide (op < 1) = true := by simp; omega
    go_wp2_with fail
    go_ret2
    exact ⟨by rw [HOK.out]; rfl, HT1.out⟩
  · have hd : decide (op < 1) = false := by simp; omega
    have hd2 : decide (14 ≤ op - 1) = true := by simp; omega
    go_wp2_with fail
    go_ret2
    exact ⟨by rw [HOK.out]; rfl, HT1.out⟩

theorem told_ (op ref : Int) (p a b : Nat) (deny : Bool) (data : List UInt8) (dp : Option Addr) (dn dc : Nat) (w : World) (G : Glob w) (hop : -9223372036854775808 ≤ op ∧ op < 9223372036854775808) (hp : p ≤ Txt.M64) (ha : a ≤ Txt.M64) (hb : b ≤ Txt.M64) (R : RdD w dp dn data) :
    Calls Tryz.prog 68 #[(CallV.mk op ref p a b deny dp dn dc).val] w (ToldTo ⟨op, ref, p, a, b, deny, data⟩ w) := by
  obtain rfl := R.len
  by_cases h : op < 1 ∨ 14 < op
  · exact toldOut op ref p a b deny data dp _ dc w h hop
  · obtain ⟨k, rfl⟩ : ∃ k : Nat, op = (k : Int) + 1 := ⟨(op - 1).toNat, by omega⟩
    have hk : k < 14 := by omega
    match k, hk with
    | 0, hk => exact toldN 0 hk rfl ref p a b deny data dp dc w G hp ha hb R
    | 1, hk => exact toldNN 1 hk rfl ref p a b deny data dp dc w G hp ha hb R
    | 2, hk => exact toldNN 2 hk rfl ref p a b deny data dp dc w G hp ha hb R
    | 3, hk => exact toldPN 3 hk rfl ref p a b deny data dp dc w G hp ha hb R
    | 4, hk => exact toldP 4 hk rfl ref p a b deny data dp dc w G hp ha hb R
    | 5, hk => exact toldP 5 hk rfl ref p a b deny data dp dc w G hp ha hb R
    | 6, hk => exact toldP 6 hk rfl ref p a b deny data dp dc w G hp ha hb R
    | 7, hk => exact toldPn 7 hk rfl ref p a b deny data dp dc w G hp ha hb R
    | 8, hk => exact toldP 8 hk rfl ref p a b deny data dp dc w G hp ha hb R
    | 9, hk => exact toldPn 9 hk rfl ref p a b deny data dp dc w G hp ha hb R
    | 10, hk => exact toldPn 10 hk rfl ref p a b deny data dp dc w G hp ha hb R
    | 11, hk => exact toldPD 11 hk rfl ref p a b deny data dp dc w G hp ha hb R
    | 12, hk => exact toldZ 12 hk rfl ref p a b deny data dp dc w G hp ha hb R
    | 13, hk => exact toldZ 13 hk rfl ref p a b deny data dp dc w G hp ha hb R
    | _ + 14, hk => exact absurd hk (by omega)

end Go.Proofs.YtnjcmcnjgdjbiaaGreatDoor
