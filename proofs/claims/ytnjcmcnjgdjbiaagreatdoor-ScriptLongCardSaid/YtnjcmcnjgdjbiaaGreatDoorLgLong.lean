/- The walk of the law ScriptLong: it answers true, whatever n. Conditions: the package variables are as their initialisers laid them. -/
import Derived.Test.YtnjcmcnjgdjbiaaGreatDoorLgLong1
import Derived.Deep.DeepCutAuto
namespace Go.Proofs.YtnjcmcnjgdjbiaaGreatDoor
open Go.RowKit

theorem run_field36 (h l c f : Int) (w : World) : (Instr.field 36 (.agg #[.int .u64 h, .int .u64 l, .int .i64 c, .int .i64 f]) 2).run Tryz.prog w = .ok (.int .i64 c) w := by kernel_rfl

def c16 : CallV := ⟨1, 0, 0, 16, 0, false, none, 0, 0⟩
def cd16 : Txt.Cd := { op := 1, ref := 0, p := 0, a := 16, b := 0, deny := false, data := [] }

theorem c16_is (w : World) (B : Nat) : CallIs w B c16 cd16 := ⟨rfl, rfl, rfl, rfl, rfl, rfl, World.ownsRow_nil _ _ _ _⟩

theorem lg_steps (hb s pb B gc cap n : Nat) : StepAt hb s pb B (List.replicate n c16) (List.replicate n cd16) ((List.range n).map fun k => numAn (lgAns k).1 (lgAns k).2) (fun k => (lgSeq k).1) gc cap := by
  intro k c a w K v aa hc ha R C A hl
  obtain rfl : c = c16 := List.eq_of_mem_replicate (List.mem_of_getElem? hc)
  have hk : k < n := by simpa using (List.getElem?_eq_some_iff.1 hc).1
  have : a = numAn (lgAns k).1 (lgAns k).2 := by
    rw [List.getElem?_map, List.getElem?_range hk] at ha
    exact (Option.some.inj ha).symm
  subst this
  exact step_malloc R c16 v _ rfl _ _ (addr_no _ v w rfl) (fun W RW => lg_call k W hb s pb K RW)

theorem play_zero {w : World} (hb c : Nat) (pa : Option Addr) :
    Calls Tryz.prog 15 #[.pointer (some ⟨hb, 0, none⟩), .slice pa 0 c] w fun e w' => e = .returned (.tuple #[.slice none 0 0, .int .i64 0]) ∧ w' = w := by
  go_enter Tryz.func15, Tryz.ntmps15
  go_wp2_with fail
  go_loopw [6, 14] (fun v a wr => v = .slice none 0 0 ∧ a = .int .i64 0 ∧ wr = w) (fun _ _ _ => 0)
  case atStart => exact ⟨rfl, rfl, rfl⟩
  case round =>
    obtain ⟨rfl, rfl, rfl⟩ := hrel
    go_wp2_with fail
    go_ret2
    exact ⟨rfl, rfl⟩

theorem play_long {w : World} (hb n c : Nat) (pa : Option Addr) (h : 4096 < n) :
    Calls Tryz.prog 15 #[.pointer (some ⟨hb, 0, none⟩), .slice pa n c] w fun e w' => e = .returned (.tuple #[.slice none 0 0, .int .i64 6]) ∧ w' = w := by
  go_enter Tryz.func15, Tryz.ntmps15
  have h1 : (4096 : Int) < (n : Int) := by omega
  go_wp2_with fail
  go_ret2
  exact ⟨rfl, rfl⟩

set_option maxHeartbeats 8000000 in
set_option maxRecDepth 100000 in
theorem long_ (n : Int) (w : World) (G : Glob w) :
    Calls Tryz.prog 6 #[.int .i64 n] w fun e w' => e = .returned (.bool true) ∧ Touch Nothing w w' := by
  have HA := Lib.hid (awake_ w G)
  have HG := Lib.hid G
  obtain ⟨i0, hi0, hz0, hz1, hz2⟩ := info_parts info43
  clear G
  have hfd := run_field36
  go_enter Tryz.func6, Tryz.ntmps6
  go_wp2_with fail
  refine HA.out.mono ?_
  rintro e w1 ⟨rfl, T1⟩
  have HT1 := Lib.hid T1
  have HH := Lib.hid (heap_ w1 (HG.out.touch0 T1))
  clear T1
  by_cases h0 : n < 0
  · go_wp2_with fail
    go_ret
    exact ⟨rfl, HT1.out⟩
  · obtain ⟨m, rfl⟩ := Int.eq_ofNat_of_zero_le (by omega : 0 ≤ n)
    by_cases h5 : 5000 < m
    · have h5' : (5000 : Int) < (m : Int) := by omega
      go_wp2_with fail
      go_ret
      exact ⟨rfl, HT1.out⟩
    · have h5' : ¬ ((5000 : Int) < (m : Int)) := by omega
      go_wp2_with fail
      refine HH.out.mono ?_
      rintro e w2 ⟨hb, s, pb, K, rfl, R, T2, F⟩
      have HR := Lib.hid R
      have HT2 := Lib.hid (HT1.out.trans T2)
      have HF := Lib.hid (show ∀ j ∈ hb :: s :: pb :: K.fp, w.heap.size ≤ j from fun j hj => Nat.le_trans HT1.out.size (F j hj))
      clear R T2 HH F
      go_wp2_with fail
      go_loopw [4, 5] (fun v a wr => ∃ k : Nat, k ≤ m ∧ a = .int .i64 k ∧ CallsAt wr w2.heap.size v (List.replicate k c16) (List.replicate k cd16) ∧ Touch Nothing w2 wr) (fun _ a _ => m - (intOf a).toNat)
      case atStart => exact ⟨0, by omega, rfl, CallsAt.nil _ _, Touch.refl _ _⟩
      case round =>
        obtain ⟨k, hk, rfl, hC, hT⟩ := hrel
        have HC := Lib.hid hC
        have HT := Lib.hid hT
        clear hC hT
        by_cases hlt : k < m
        · have hlr : (List.replicate k c16).length = k := List.length_replicate
          have hsz := HT.out.size
          have HNW := Lib.hid (news_of_blk (Blk.new wr #[.int .i64 1, .int .i64 0, .int .u64 0, .int .u64 16, .int .u64 0, .bool false, .slice none 0 0] 43))
          have hown := HC.out.own
          rw [hlr] at hown
          have HOW := Lib.hid hown
          clear hown
          go_wp2_with (at_builtin; refine wpList_append_own _ rfl _ _ 25 rfl w2.heap.size 43 i0 _ 7 72 Tryz.underlying25 hi0 hz0 hz1 hz2 rfl (by decide) _ _ _ rfl (HOW.out.alloc _) ⟨wr.heap.size, 0, none⟩ 1 1 [.int .i64 1, .int .i64 0, .int .u64 0, .int .u64 16, .int .u64 0, .bool false, .slice none 0 0] rfl rfl HNW.out (by simp [Value.oneCell']) (by unfold maxLen; omega) (by omega) (by simp; omega) ?_; intro v' w4 hown hgrow _)
          have HO := Lib.hid hown
          have HGr := Lib.hid hgrow
          clear hown hgrow
          go_wp2_with fail
          go_roundw
          case rel =>
            have ho := HO.out
            have hm := HC.out.more (c := c16) (x := cd16) (v' := v') (w1 := wr) (w2 := wr.alloc (.cells #[.int .i64 1, .int .i64 0, .int .u64 0, .int .u64 16, .int .u64 0, .bool false, .slice none 0 0] 43)) hsz (Touch.refl _ _) (c16_is _ _) ((Touch.refl Nothing wr).alloc _) (by rw [hlr]; exact ho) HGr.out
            refine ⟨k + 1, by omega, by go_num, ?_, ?_⟩
            · rw [List.replicate_succ', List.replicate_succ']
              exact hm
            · exact (HT.out.alloc _).trans' (Touch.of_grown (S := fun i => some i = _) HGr.out (fun i hi => hi.symm)) (fun i hi e => by have := (World.ownsRow.lt HOW.out i e.symm).1; omega)
          case measure => simp [intOf]; omega
        · obtain rfl : k = m := by omega
          obtain ⟨pa, cap, rfl, hrow⟩ := owns_form HC.out.own
          have hlr : (List.replicate k c16).length = k := List.length_replicate
          have HRw := Lib.hid (HR.out.touch0 HT.out)
          rw [hlr] at hrow ⊢
          by_cases hbig : 4096 < k
          · have HP := Lib.hid (play_long (w := wr) hb k cap pa hbig)
            have HS := Lib.hid HRw.out.stats_
            rw [show β0.σ.size * β0.σ.n = 0 from rfl, show liveL β0 β0.μ.pages.length = [] from rfl, show freeN β0 β0.μ.pages.length = 0 from rfl, show sumS [] = 0 from rfl] at HS
            have hb1 : (4096 : Int) < (k : Int) := by omega
            clear hrow
            go_wp2_with fail
            refine HP.out.mono ?_
            rintro e w4 ⟨rfl, rfl⟩
            go_wp2_with fail
            refine HS.out.mono ?_
            rintro e w5 ⟨rfl, R5, T5⟩
            have HT5 := Lib.hid T5
            clear R5 T5
            go_wp2_with fail
            go_ret
            exact ⟨rfl, (HT2.out.trans HT.out).trans' HT5.out (fun j hj e => by have := HF.out hb (by simp); omega)⟩
          · have hb1 : ¬ (4096 : Int) < (k : Int) := by omega
            by_cases hz : k = 0
            · subst hz
              have HP := Lib.hid (play_zero (w := wr) hb cap pa)
              have HS := Lib.hid HRw.out.stats_
              rw [show liveL β0 β0.μ.pages.length = [] from rfl] at HS
              clear hrow
              go_wp2_with fail
              refine HP.out.mono ?_
              rintro e w4 ⟨rfl, rfl⟩
              go_wp2_with fail
              refine HS.out.mono ?_
              rintro e w5 ⟨rfl, R5, T5⟩
              have HT5 := Lib.hid T5
              clear R5 T5
              go_wp2_with fail
              go_ret
              exact ⟨rfl, (HT2.out.trans HT.out).trans' HT5.out (fun j hj e => by have := HF.out hb (by simp); omega)⟩
            · obtain ⟨g, rfl, _⟩ := hrow (by omega)
              have hgl : w2.heap.size ≤ g := (World.ownsRow.lt HC.out.own g rfl).1
              have hCal : Callers wr hb s pb K g cap (List.replicate k c16) (List.replicate k cd16) := by
                refine ⟨?_, fun h => ?_, fun c hc g' hg' => ?_⟩
                · exact HC.out.lower (Nat.zero_le _)
                · have := HR.out.lt g h; omega
                · rw [List.eq_of_mem_replicate hc] at hg'
                  simp [CallV.block, c16, Value.ownBlock] at hg'
              have hPl := play_ (w := wr) (st := fun k => (lgSeq k).1) (ax := (List.range k).map fun k => numAn (lgAns k).1 (lgAns k).2) HRw.out hCal (by rw [hlr]; omega) (by simp) (lg_steps hb s pb _ g cap k)
              rw [hlr] at hPl
              have HP := Lib.hid hPl
              clear hrow hPl hCal
              go_wp2_with fail
              refine HP.out.mono ?_
              rintro e w4 ⟨K4, aa, dp, dn, dc, rfl, hPR⟩
              have hdn : dn = k := by
                have h1 := hPR.len
                rw [hlr] at h1
                rcases hPR.answers.own.2 with ⟨h, h0⟩ | ⟨g1, cap1, cur, h, _⟩
                · omega
                · cases h; omega
              subst hdn
              have hHp := hPR.heap
              rw [hlr] at hHp
              have HS := Lib.hid hHp.stats_
              have hcnt := (lgSeq dn).2.cnt
              have HT4 := Lib.hid hPR.touch
              generalize (liveL (lgSeq dn).1.1 (lgSeq dn).1.1.μ.pages.length).length = cnt at *
              clear hPR hHp
              by_cases hbl : 1024 < dn
              · have hbl' : (1024 : Int) < (dn : Int) := by omega
                obtain rfl : cnt = 1024 := by omega
                clear hcnt
                go_wp2_with fail
                refine HS.out.mono ?_
                rintro e w5 ⟨rfl, R5, T5⟩
                have HT5 := Lib.hid T5
                clear R5 T5
                go_wp2_with fail
                go_ret
                refine ⟨rfl, ?_⟩
                refine ((HT2.out.trans HT.out).trans' HT4.out (fun j hj e => ?_)).trans' HT5.out (fun j hj e => by have := HF.out hb (by simp); omega)
                rcases List.mem_cons.1 e with h | h
                · have := HF.out hb (by simp); omega
                · rcases List.mem_cons.1 h with h | h
                  · have := HF.out s (by simp); omega
                  · have := HF.out j (by simp [h]); omega
              · have hbl' : ¬ (1024 : Int) < (dn : Int) := by omega
                obtain rfl : cnt = dn := by omega
                clear hcnt
                go_wp2_with fail
                refine HS.out.mono ?_
                rintro e w5 ⟨rfl, R5, T5⟩
                have HT5 := Lib.hid T5
                clear R5 T5
                go_wp2_with fail
                go_ret
                refine ⟨rfl, ?_⟩
                refine ((HT2.out.trans HT.out).trans' HT4.out (fun j hj e => ?_)).trans' HT5.out (fun j hj e => by have := HF.out hb (by simp); omega)
                rcases List.mem_cons.1 e with h | h
                · have := HF.out hb (by simp); omega
                · rcases List.mem_cons.1 h with h | h
                  · have := HF.out s (by simp); omega
                  · have := HF.out j (by simp [h]); omega

end Go.Proofs.YtnjcmcnjgdjbiaaGreatDoor
