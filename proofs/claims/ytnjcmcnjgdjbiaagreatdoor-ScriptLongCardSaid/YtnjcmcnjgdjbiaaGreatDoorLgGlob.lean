/- The package variables that the walks read, as facts of a world; they stand wherever their blocks are not touched. Conditions: none. -/
import Derived.Test.YtnjcmcnjgdjbiaaGreatDoorLgShelf
import Derived.Test.YtnjcmcnjgdjbiaaGreatDoorLgBase
import Derived.Test.YtnjcmcnjgdjbiaaGreatDoorLgTxt
import Derived.RegionTactic
import Derived.BigRegion
import Derived.Deep.QuietTactic
import Derived.BigQuiet
import Derived.IntWalk
import Derived.Lib.Hide
import Derived.Handy
import Derived.WalkSmall
import Derived.Outline
import Derived.StillTailTactics
namespace Go.Proofs.YtnjcmcnjgdjbiaaGreatDoor
open Go.RowKit

/-- what the package variables hold -/
structure Glob (w : World) : Prop where
  size : 9 ≤ w.heap.size
  most : ∃ m, w.cell? ⟨0, 0, none⟩ = some (.int .i64 m)
  widths : ∀ i, i < 8 → w.cell? ⟨1, i, none⟩ = some (.int .u64 ((16 * 2 ^ i : Nat) : Int))
  pow10 : Lib.TabIs Tryz.prog w "internal/strconv.uint64pow10" .u64 Lib.pow10Tab
  syn : ∃ ev, w.cell? ⟨5, 0, none⟩ = some ev ∧ (ev = .nilIface ∨ ∃ te pe, ev = .iface te pe)
  rng : ∃ ev, w.cell? ⟨6, 0, none⟩ = some ev ∧ (ev = .nilIface ∨ ∃ te pe, ev = .iface te pe)

theorem Glob.touch {w w' : World} {S : Nat → Prop} (G : Glob w) (T : Touch S w w') (h : ∀ k, k < 9 → ¬ S k) : Glob w' := by
  have hs := G.size
  have hc : ∀ b i, b < 9 → w'.cell? ⟨b, i, none⟩ = w.cell? ⟨b, i, none⟩ := fun b i hb => T.cell (p := ⟨b, i, none⟩) (by show b < _; omega) (h b hb)
  refine ⟨Nat.le_trans hs T.size, ?_, ?_, ?_, ?_, ?_⟩
  · rw [hc 0 0 (by omega)]; exact G.most
  · intro i hi; rw [hc 1 i (by omega)]; exact G.widths i hi
  · exact var?_below (T.to_below (B := 9) hs (fun k hk => Nat.le_of_not_lt (fun hlt => h k hlt hk))) (by kernel_rfl : Tryz.prog.globalNamed "internal/strconv.uint64pow10" = some 2) (by omega) G.pow10
  · rw [hc 5 0 (by omega)]; exact G.syn
  · rw [hc 6 0 (by omega)]; exact G.rng

theorem Glob.touch0 {w w' : World} (G : Glob w) (T : Touch Nothing w w') : Glob w' := G.touch T (fun _ _ h => h)

end Go.Proofs.YtnjcmcnjgdjbiaaGreatDoor

