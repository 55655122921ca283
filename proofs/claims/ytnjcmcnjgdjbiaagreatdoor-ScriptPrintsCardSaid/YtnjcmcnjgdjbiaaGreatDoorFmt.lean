/- The walks of strconv.FormatUint at base 10. Conditions: the table of powers of ten is laid. -/
import Derived.Test.YtnjcmcnjgdjbiaaGreatDoorGlob
import Derived.Test.YtnjcmcnjgdjbiaaGreatDoorTxt3
import Derived.Lib.ItoaMem
namespace Go.Proofs.YtnjcmcnjgdjbiaaGreatDoor
open Go.RowKit Go.Sort

theorem holds24 (w : World) (T : TypeId) (nd : Nat) (hs : nd ≤ 20) : Holds (fun (b : UInt8) => Value.int .u8 (b.toNat : Int)) (w.alloc (.cells Lib.zeros24 T)) w.heap.size 0 (Array.replicate nd (0 : UInt8)) := fun j hj => by
  have hj' : j < nd := by simpa using hj
  refine ⟨?_, World.frozen?_alloc_new _ _ _ _⟩
  rw [World.cell?_alloc_new, Lib.zeros24_at _ (by omega), getElem!_pos _ j hj]
  simp

theorem touch_grow (w : World) (os : Array Obj) : Touch Nothing w (grow w os) :=
  ⟨rfl, rfl, rfl, by simp [grow], fun k hk _ => by show (w.heap ++ os)[k]? = _; rw [Array.getElem?_append_left hk]⟩

theorem arr300 : Tryz.prog.arrayLen 300 = 24 := by kernel_rfl

def Texted (l : List UInt8) (w : World) (e : Ending) (w' : World) : Prop := e = .returned (.string ⟨l.toArray⟩) ∧ Touch Nothing w w'

set_option maxRecDepth 100000 in
set_option maxHeartbeats 4000000 in
theorem formatU_ (u : Nat) (hu64 : u < 18446744073709551616) (w : World) (G : Glob w) : Calls Tryz.prog 170 #[.int .u64 u, .int .i64 10] w (Texted (Txt.dec u) w) := by
  by_cases hs : u < 100
  · have HS := Lib.hid (Tryz.internal_strconv_small u hs w)
    have hs' : (u : Int) < 100 := by omega
    clear G
    go_enter Tryz.func170, Tryz.ntmps170
    go_wp2_with fail
    refine HS.out.mono ?_
    rintro e w' ⟨rfl, rfl⟩
    go_wp2_with fail
    go_ret
    exact ⟨rfl, Touch.refl _ _⟩
  · have hu1 : 1 ≤ u := by omega
    have hnd20 : Lib.nDigits u ≤ 20 := by have := Lib.numDigits_eq u hu1 hu64; split at this <;> omega
    have hn0 : (0 : Int) ≤ (Lib.nDigits u : Int) := by omega
    have hn2 : (Lib.nDigits u : Int) ≤ 20 := by omega
    have hu' : ¬ (u : Int) < 100 := by omega
    have hH0 := holds24 w 300 (Lib.nDigits u) hnd20
    have hfmt := Tryz.internal_strconv_formatBase10 w.heap.size 0 24 u (Array.replicate (Lib.nDigits u) 0) (w.alloc (.cells Lib.zeros24 300)) hH0 (by rw [Array.size_replicate]; exact Lib.lt_pow_nDigits u) hu64 (by rw [Array.size_replicate]; omega)
    rw [Array.size_replicate] at hfmt
    have HF := Lib.hid hfmt
    have HH0 := Lib.hid hH0
    have HN := Lib.hid (Tryz.internal_strconv_numDigits u hu1 hu64 (w.alloc (.cells Lib.zeros24 300)) (Lib.tabIs_alloc G.pow10 _))
    unfold Lib.zeros24 at HN
    have hsl : ∀ W, (Instr.sliceAt 300 (.pointer (some ⟨w.heap.size, 0, none⟩)) none (some (.int .i64 (Lib.nDigits u : Int))) none).run Tryz.prog W = .ok (.slice (some ⟨w.heap.size, 0, none⟩) (Lib.nDigits u) 24) W := fun W => by
      rw [run_sliceAt_array_h W 300 ⟨w.heap.size, 0, none⟩ (by simp [Program.arrayLen, Program.elem, Tryz.underlying300]) .i64 (Lib.nDigits u : Int) (by omega) (by rw [arr300]; omega)]
      go_simp
    clear hH0 hfmt hs
    go_enter Tryz.func170, Tryz.ntmps170
    go_wp2_with fail
    refine HN.out.mono ?_
    rintro e w' ⟨rfl, rfl⟩
    go_wp2_with fail
    refine HF.out.mono ?_
    rintro e w' ⟨rfl, k, v', dk, rfl, hFI⟩
    have hcv : (convert 34 9 (.slice (some ⟨w.heap.size, 0, none⟩) (Lib.nDigits u) 24)).run Tryz.prog ((putRow (fun (b : UInt8) => Value.int .u8 (b.toNat : Int)) (w.alloc (.cells Lib.zeros24 300)) w.heap.size 0 dk).drewN k) = .ok (.string ⟨(Txt.dec u).toArray⟩) ((putRow (fun (b : UInt8) => Value.int .u8 (b.toNat : Int)) (w.alloc (.cells Lib.zeros24 300)) w.heap.size 0 dk).drewN k) := by
      have h := run_convert_bytes_back (P := Tryz.prog) ((putRow (fun (b : UInt8) => Value.int .u8 (b.toNat : Int)) (w.alloc (.cells Lib.zeros24 300)) w.heap.size 0 dk).drewN k) 34 9 5 ⟨w.heap.size, 0, none⟩ 24 (Lib.decDigits u) Tryz.underlying34 Tryz.underlying5 Tryz.underlying9 (fun j hj => by
        rw [Lib.row_is_numeral hFI j hj, Lib.add_plain, World.cell?_drewN]
        exact cell?_putRow (fun (b : UInt8) => Value.int .u8 (b.toNat : Int)) _ w.heap.size 0 _ dk HH0.out (by rw [hFI.size, Array.size_replicate]) j (by rw [hFI.size]; rw [Lib.decDigits_length] at hj; exact hj))
      rw [Lib.decDigits_length] at h
      exact h
    have HT := Lib.hid (show Touch Nothing w ((putRow (fun (b : UInt8) => Value.int .u8 (b.toNat : Int)) (w.alloc (.cells Lib.zeros24 300)) w.heap.size 0 dk).drewN k) from by
      obtain ⟨os', _, e⟩ := putRow_grow_new (fun (b : UInt8) => Value.int .u8 (b.toNat : Int)) w #[.cells Lib.zeros24 300] w.heap.size 0 dk (Nat.le_refl _)
      rw [alloc_eq_grow, e]
      exact (touch_grow w os').drewN k)
    clear hFI
    go_wp2_with fail
    go_ret
    exact ⟨rfl, HT.out⟩

/-- strconv.FormatUint at base 10 -/
theorem formatUint_ (u : Nat) (hu64 : u < 18446744073709551616) (w : World) (G : Glob w) : Calls Tryz.prog 116 #[.int .u64 u, .int .i64 10] w (Texted (Txt.dec u) w) := by
  have H := Lib.hid (formatU_ u hu64 w G)
  go_enter Tryz.func116, Tryz.ntmps116
  go_wp2_with fail
  refine H.out.mono ?_
  rintro e w' ⟨rfl, T⟩
  have HT := Lib.hid T
  clear T
  go_wp2_with fail
  go_ret
  exact ⟨rfl, HT.out⟩

/-- strconv.Itoa of a number from 0 on -/
theorem itoa_ (n : Nat) (hn : n ≤ 9223372036854775807) (w : World) (G : Glob w) : Calls Tryz.prog 169 #[.int .i64 n] w (Texted (Txt.dec n) w) := by
  refine (Tryz.strconv_Itoa (n : Int) (by omega) (by omega) w G.pow10).mono ?_
  rintro e w' ⟨rfl, k, os, rfl⟩
  exact ⟨by rw [Lib.itoa_nonneg]; rfl, ((Touch.refl Nothing w).drewN k).trans (touch_grow _ os)⟩

end Go.Proofs.YtnjcmcnjgdjbiaaGreatDoor
