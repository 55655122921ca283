/- The walk of law ScriptPrints: it tells true. Conditions: the calls can be read and their numbers are of their kinds. -/
import Derived.Test.YtnjcmcnjgdjbiaaGreatDoorLeft
import Derived.Test.YtnjcmcnjgdjbiaaGreatDoorReturns
import Derived.Test.YtnjcmcnjgdjbiaaGreatDoorRefPrint
namespace Go.Proofs.YtnjcmcnjgdjbiaaGreatDoor
open Go.RowKit

set_option maxRecDepth 100000 in
set_option maxHeartbeats 4000000 in
theorem prints_ (pa : Option Addr) (n ca : Nat) (cs : List CallV) (ds : List (List UInt8)) (w : World) (G : Glob w) (R : RdP w pa n cs ds) (hv : ∀ c ∈ cs, OkV c) (hn : (n + 2) * 72 ≤ 140737488355328) :
    Calls Tryz.prog 9 #[.slice pa n ca] w fun e w' => e = .returned (.bool true) ∧ Touch Nothing w w' := by
  have HG := Lib.hid G
  have HR := Lib.hid R
  have HV := Lib.hid hv
  have hn4 : n ≤ 281474976710656 := by omega
  have HC := Lib.hid (copied_ pa n ca cs ds w R hn)
  clear G R hv hn
  go_enter Tryz.func9, Tryz.ntmps9
  go_wp2_with fail
  refine HC.out.mono ?_
  rintro e w2 ⟨v, rfl, g, cap, ks, rfl, hcap, RK, hlk, T2, m0, m1⟩
  have HT2 := Lib.hid T2
  have hkl : ks.length = cs.length := by rw [← RK.len]; exact HR.out.len
  have HX := Lib.hid (cxs_like cs ks ds hkl hlk)
  have HVK := Lib.hid (show ∀ c ∈ ks, OkV c from fun c hc => by
    obtain ⟨i, hi⟩ := List.getElem?_of_mem hc
    obtain ⟨c0, h0⟩ : ∃ c0, cs[i]? = some c0 := ⟨_, List.getElem?_eq_getElem (by rw [← hkl]; exact (List.getElem?_eq_some_iff.1 hi).1)⟩
    obtain ⟨l1, l2, l3, l4, l5, l6⟩ := hlk i c0 c h0 hi
    have := HV.out c0 (List.mem_of_getElem? h0)
    exact ⟨by rw [l1]; exact this.op, by rw [l3]; exact this.p, by rw [l4]; exact this.a, by rw [l5]; exact this.b⟩)
  have HPr := Lib.hid (print_ (some ⟨g, 0, none⟩) n cap ks ds w2 (HG.out.touch0 HT2.out) RK HVK.out hn4)
  rw [HX.out] at HPr
  have HRK := Lib.hid RK
  have HLK := Lib.hid hlk
  have HM := Lib.hid (And.intro m0 m1)
  have hg : g < w2.heap.size := World.block_lt_of_cell? w2 _ m0
  have hcap1 : n ≤ cap := by omega
  have HRP := Lib.hid (fun w3 (T : Touch Nothing w w3) => refPrint_ pa n ca cs ds w3 (HR.out.touch T) HV.out hn4)
  obtain ⟨st, hst⟩ : ∃ st, (Txt.printT (cxs cs ds)).1 = st := ⟨_, rfl⟩
  obtain ⟨r, hr⟩ : ∃ r, (Txt.printT (cxs cs ds)).2 = r := ⟨_, rfl⟩
  unfold Printed at HPr HRP
  rw [hst, hr] at HPr
  simp only [hst, hr] at HRP
  clear RK hlk T2 hkl HX HVK HC m0 m1 hst hr
  go_wp2_with fail
  refine HPr.out.mono ?_
  rintro e w3 ⟨rfl, T3⟩
  have HT3 := Lib.hid T3
  clear T3 HPr
  go_wp2_with fail
  refine (HRP.out w3 (HT2.out.trans HT3.out)).mono ?_
  rintro e w4 ⟨rfl, T4⟩
  have HT4 := Lib.hid (HT3.out.trans T4)
  have HL := Lib.hid (left_ g cap pa n ca ks cs ds w4 (HRK.out.touch HT4.out) (HR.out.touch (HT2.out.trans HT4.out)) HLK.out hcap hn4 ((HT4.out.cell (p := ⟨g, n * 7, none⟩) hg (fun h => h)).trans HM.out.1) ((HT4.out.cell (p := ⟨g, (n + 1) * 7, none⟩) hg (fun h => h)).trans HM.out.2))
  have HA := Lib.hid (fun w5 (T : Touch Nothing w w5) => awake_ w5 (HG.out.touch0 T))
  clear T4 HRP HT3
  go_wp2_with fail
  refine HL.out.mono ?_
  rintro e w5 ⟨rfl, T5⟩
  have HT5 := Lib.hid ((HT2.out.trans HT4.out).trans T5)
  clear T5 HL
  go_wp2_with fail
  refine (HA.out w5 HT5.out).mono ?_
  rintro e w6 ⟨rfl, T6⟩
  go_wp2_with fail
  go_ret
  exact ⟨rfl, HT5.out.trans T6⟩

end Go.Proofs.YtnjcmcnjgdjbiaaGreatDoor
