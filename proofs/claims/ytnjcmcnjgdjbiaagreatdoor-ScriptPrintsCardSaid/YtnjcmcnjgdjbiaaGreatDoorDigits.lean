/- The walks of the document's digits and can: a number as decimal text; which calls have a line. Conditions: none. -/
import Derived.Test.YtnjcmcnjgdjbiaaGreatDoorTold
namespace Go.Proofs.YtnjcmcnjgdjbiaaGreatDoor
open Go.RowKit

theorem digit_cut (k : Nat) (h : k < 10) : (⟨#[48, 49, 50, 51, 52, 53, 54, 55, 56, 57]⟩ : ByteArray).extract k (k + 1) = ⟨[UInt8.ofNat (48 + k)].toArray⟩ := by
  have : ∀ k : Fin 10, (⟨#[48, 49, 50, 51, 52, 53, 54, 55, 56, 57]⟩ : ByteArray).extract k.val (k.val + 1) = ⟨[UInt8.ofNat (48 + k.val)].toArray⟩ := by decide +kernel
  exact this ⟨k, h⟩

theorem one_app (x : UInt8) (s : ByteArray) : ((⟨[x].toArray⟩ : ByteArray) ++ s).data.toList = x :: s.data.toList := by
  rw [ByteArray.data_append]
  simp

structure DigRel (u v : Nat) (s : ByteArray) : Prop where
  lt : v < 18446744073709551616
  law : Txt.dec u = Txt.dec v ++ s.data.toList
  len : s.size ≤ 20

set_option maxRecDepth 100000 in
set_option maxHeartbeats 4000000 in
theorem digits_ (u : Nat) (hu : u < 18446744073709551616) (w : World) : Calls Tryz.prog 119 #[.int .u64 u] w fun e w' => e = .returned (.string ⟨(Txt.dec u).toArray⟩) ∧ w' = w := by
  have HL := Lib.hid (dec_len u hu)
  go_enter Tryz.func119, Tryz.ntmps119
  go_wp2_with fail
  go_loop [0, 3] (fun a b => ∃ (v : Nat) (s : ByteArray), a = .int .u64 v ∧ b = .string s ∧ DigRel u v s) (fun a _ => (intOf a).toNat)
  case atStart => exact ⟨u, ⟨#[]⟩, rfl, rfl, ⟨hu, by simp, by decide⟩⟩
  case round =>
    obtain ⟨v, s, rfl, rfl, R⟩ := hrel
    have HR := Lib.hid R
    have hv := R.lt
    have hs := R.len
    clear R
    by_cases h9 : 9 < v
    · have q1 : decide ((9 : Int) < (v : Int)) = true := by simp; omega
      have q2 : decide (9 < v) = true := by simp; omega
      have HC := Lib.hid (digit_cut (v % 10) (by omega))
      go_wp2_with fail
      have hlaw : Txt.dec u = Txt.dec (v / 10) ++ ((⟨#[48, 49, 50, 51, 52, 53, 54, 55, 56, 57]⟩ : ByteArray).extract (v % 10) (v % 10 + 1) ++ s).data.toList := by
        rw [HC.out, one_app, HR.out.law, Txt.dec_big (by omega : ¬ v < 10)]
        simp
      refine ⟨⟨v / 10, _, by go_num, rfl, ⟨by omega, hlaw, ?_⟩⟩, by simp [intOf]; omega⟩
      have h := congrArg List.length hlaw
      rw [List.length_append, Array.length_toList] at h
      have h2 := HL.out
      show ByteArray.size _ ≤ 20
      exact Nat.le_trans (Nat.le_trans (Nat.le_add_left _ _) (Nat.le_of_eq h.symm)) h2
    · have q1 : decide ((9 : Int) < (v : Int)) = false := by simp; omega
      have q2 : decide (9 < v) = false := by simp; omega
      have HC := Lib.hid (digit_cut v (by omega))
      go_wp2_with fail
      go_ret
      refine ⟨?_, rfl⟩
      rw [HR.out.law, Txt.dec_small (by omega : v < 10), HC.out]
      congr 2

end Go.Proofs.YtnjcmcnjgdjbiaaGreatDoor
