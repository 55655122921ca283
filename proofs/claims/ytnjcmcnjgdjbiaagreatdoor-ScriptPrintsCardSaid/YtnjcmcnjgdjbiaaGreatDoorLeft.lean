/- The walk of the law's left: a copy is as it was, and the marks lie behind it. Conditions: the copy and the calls can be read. -/
import Derived.Test.YtnjcmcnjgdjbiaaGreatDoorCopied
namespace Go.Proofs.YtnjcmcnjgdjbiaaGreatDoor
open Go.RowKit

set_option maxRecDepth 100000 in
set_option maxHeartbeats 2000000 in
theorem left_ (g cap : Nat) (pa : Option Addr) (n ca : Nat) (ks cs : List CallV) (ds : List (List UInt8)) (w : World) (RK : RdP w (some ⟨g, 0, none⟩) n ks ds) (R : RdP w pa n cs ds) (hl : ∀ (i : Nat) c0 c, cs[i]? = some c0 → ks[i]? = some c → LikeC c c0)
    (hcap : n + 2 ≤ cap) (hn : n ≤ 281474976710656) (m0 : w.cell? ⟨g, n * 7, none⟩ = some (.int .i64 77)) (m1 : w.cell? ⟨g, (n + 1) * 7, none⟩ = some (.int .i64 78)) :
    Calls Tryz.prog 23 #[.slice (some ⟨g, 0, none⟩) (n + 2) cap, .slice pa n ca] w fun e w' => e = .returned (.bool true) ∧ Touch Nothing w w' := by
  have HS := Lib.hid (same_ w (some ⟨g, 0, none⟩) pa n cap ca ks cs ds hn RK.rdAll R.rdAll (fun i c d h1 h2 => hl i d c h2 h1))
  have HM0 := Lib.hid m0
  have HM1 := Lib.hid m1
  have hg : g < w.heap.size := World.block_lt_of_cell? w _ m0
  have hcap1 : n ≤ cap := by omega
  clear RK R hl m0 m1
  go_enter Tryz.func23, Tryz.ntmps23
  go_wp2_with fail
  refine HS.out.mono ?_
  rintro e w1 ⟨rfl, T1⟩
  have m0 : w1.cell? ⟨g, n * 7, none⟩ = some (.int .i64 77) := (T1.cell (p := ⟨g, n * 7, none⟩) hg (fun h => h)).trans HM0.out
  have m1 : w1.cell? ⟨g, (n + 1) * 7, none⟩ = some (.int .i64 78) := (T1.cell (p := ⟨g, (n + 1) * 7, none⟩) hg (fun h => h)).trans HM1.out
  have HT1 := Lib.hid T1
  clear T1
  go_wp2_with fail
  go_ret
  exact ⟨rfl, HT1.out⟩

end Go.Proofs.YtnjcmcnjgdjbiaaGreatDoor
