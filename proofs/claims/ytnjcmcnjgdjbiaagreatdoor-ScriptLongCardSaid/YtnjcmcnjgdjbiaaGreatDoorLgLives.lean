/- The walk of malloc's live: the live blocks, rising. Conditions: what the pages say is in range. -/
import Derived.Test.YtnjcmcnjgdjbiaaGreatDoorLgMallocs2
import Derived.Deep.DeepCutAuto
namespace Go.Proofs.YtnjcmcnjgdjbiaaGreatDoor
open Go.RowKit

/-- the live ones of the first m cells of a page -/
def cellsL (at_ wd : Nat) (p : Pg) : Nat → List (Nat × Nat)
  | 0 => []
  | m + 1 => cellsL at_ wd p m ++ (if p.bit m then [(at_ + m * wd, wd)] else [])

/-- the live blocks that begin in a page -/
def pageL (at_ : Nat) (p : Pg) : List (Nat × Nat) :=
  if p.kind = 2 then [(at_, 4096 * 2 ^ p.order.toNat)] else if p.kind = 4 then cellsL at_ (wdOf p.cls.toNat) p (cellsN p.cls) else []

/-- the live blocks of the first m pages -/
def liveL (β : Bu) : Nat → List (Nat × Nat)
  | 0 => []
  | m + 1 => liveL β m ++ pageL (β.addr m) (β.μ.pages.getD m zeroPg)

def blkC (b : Nat × Nat) : List Value := [.int .u64 (b.1 : Nat), .int .u64 (b.2 : Nat)]

theorem cellsL_len (at_ wd : Nat) (p : Pg) : ∀ m, (cellsL at_ wd p m).length ≤ m
  | 0 => Nat.le_refl _
  | m + 1 => by
    unfold cellsL
    rw [List.length_append]
    have := cellsL_len at_ wd p m
    split <;> simp <;> omega

theorem cellsN_le (c : Int) : cellsN c ≤ 256 := Nat.div_le_self _ _

theorem pageL_len (at_ : Nat) (p : Pg) : (pageL at_ p).length ≤ 256 := by
  unfold pageL
  split
  · simp
  · split
    · exact Nat.le_trans (cellsL_len _ _ _ _) (cellsN_le _)
    · simp

theorem liveL_len (β : Bu) : ∀ m, (liveL β m).length ≤ 256 * m
  | 0 => Nat.le_refl _
  | m + 1 => by
    unfold liveL
    rw [List.length_append]
    have := liveL_len β m
    have := pageL_len (β.addr m) (β.μ.pages.getD m zeroPg)
    omega

/-- the blocks so far, in a slice of the call's own -/
structure Lv (w : World) (l : List (Nat × Nat)) (v : Value) (wr : World) : Prop where
  own : wr.ownsRow w.heap.size 71 2 v l.length (l.flatMap blkC)
  touch : Touch Nothing w wr

theorem Lv.still {w wr w' : World} {l : List (Nat × Nat)} {v : Value} (H : Lv w l v wr) (T : Touch Nothing wr w') : Lv w l v w' := by
  refine ⟨?_, H.touch.trans T⟩
  refine ⟨H.own.1, ?_⟩
  rcases H.own.2 with hn | ⟨g, cap, cur, rfl, hb, hgg, rest⟩
  · exact .inl hn
  · refine .inr ⟨g, cap, cur, rfl, hb, ?_, rest⟩
    rw [T.block g (Array.getElem?_eq_some_iff.1 hgg).1 (fun h => h)]
    exact hgg

theorem Lv.push {w wr w1 : World} {l : List (Nat × Nat)} {v v' : Value} {o : Obj} {P S : Nat} (H : Lv w l v wr) (hown : w1.ownsRow w.heap.size 71 2 v' (l.length + 1) (l.flatMap blkC ++ [.int .u64 (P : Nat), .int .u64 (S : Nat)])) (hgrow : (wr.alloc o).grownBy w1 v.ownBlock) : Lv w (l ++ [(P, S)]) v' w1 := by
  refine ⟨by simpa [blkC] using hown, ?_⟩
  have T1 : Touch (fun k => some k = v.ownBlock) (wr.alloc o) w1 := Touch.of_grown hgrow (fun k hk => hk.symm)
  have T0 : Touch Nothing w (wr.alloc o) := H.touch.alloc o
  exact T0.trans' T1 (fun i hi e => by
    have := (World.ownsRow.lt H.own i e.symm).1
    omega)

/-- .. and the copy of a page's description beside it -/
structure Lx (w : World) (l : List (Nat × Nat)) (v : Value) (X : Nat) (cs : List Value) (wr : World) : Prop where
  lv : Lv w l v wr
  blk : Blk wr X 128 cs

theorem Lx.push {w wr w1 : World} {l : List (Nat × Nat)} {v v' : Value} {o : Obj} {P S X : Nat} {cs : List Value} (H : Lx w l v X cs wr) (hown : w1.ownsRow w.heap.size 71 2 v' (l.length + 1) (l.flatMap blkC ++ [.int .u64 (P : Nat), .int .u64 (S : Nat)])) (hgrow : (wr.alloc o).grownBy w1 v.ownBlock) : Lx w (l ++ [(P, S)]) v' X cs w1 := by
  refine ⟨H.lv.push hown hgrow, (H.blk.alloc o).touch (Touch.of_grown (S := fun k => some k = v.ownBlock) hgrow (fun k hk => hk.symm)) (fun e => ?_)⟩
  rcases H.lv.own.2 with ⟨hn, _⟩ | ⟨g1, cap, cur, hv, _, h1, _⟩
  · rw [hn] at e; cases e
  · rw [hv] at e
    simp only [Value.ownBlock, Option.some.injEq] at e
    have h2 : wr.heap[X]? = _ := H.blk
    rw [e, h1] at h2
    cases h2

theorem info71 : (Tryz.prog.info? 71).map (fun i => (i.zero, i.size, i.bytes)) = some (some (.agg #[.int .u64 0, .int .u64 0]), 2, 16) := by kernel_rfl

def Lived (w : World) (l : List (Nat × Nat)) (e : Ending) (w' : World) : Prop := ∃ v, e = .returned v ∧ Lv w l v w'

set_option maxHeartbeats 4000000 in
set_option maxRecDepth 100000 in
theorem HpRep.live_ {m : Int} {w : World} {hb s pb : Nat} {K : BuL} {β : Bu} {ps : List Int} (R : HpRep m w hb s pb K β ps) :
    Calls Tryz.prog 62 #[.pointer (some ⟨hb, 0, none⟩)] w (Lived w (liveL β β.μ.pages.length)) := by
  obtain ⟨i0, hi0, hz0, hz1, hz2⟩ := info_parts info71
  have hlen := R.sl.po.bu.mp.ok.len
  have c5 := R.cells.2.2.2.1
  have HM := Lib.hid R.sl.po.map_
  have HR := Lib.hid R
  clear R
  go_enter Tryz.func62, Tryz.ntmps62
  go_wp2_with fail
  refine HM.out.mono ?_
  rintro e w1 ⟨rfl, rfl⟩
  go_wp2_with fail
  go_loopw [3, 5] (fun v a wr => ∃ k : Nat, k ≤ β.μ.pages.length ∧ a = .int .i64 k ∧ Lv w (liveL β k) v wr) (fun _ a _ => β.μ.pages.length - (intOf a).toNat)
  case atStart => exact ⟨0, by omega, rfl, World.ownsRow_nil _ _ _ _, Touch.refl _ _⟩
  case round =>
    obtain ⟨k, hk, rfl, hL⟩ := hrel
    have HPg := Lib.hid ((HR.out.touch0 hL.touch).sl.po.bu.mp.pages_)
    have HL := Lib.hid hL
    clear hL
    go_wp2_with fail
    refine HPg.out.mono ?_
    rintro e w2 ⟨rfl, rfl⟩
    by_cases hlt : k < β.μ.pages.length
    · have hp : β.μ.pages[k]? = some β.μ.pages[k] := List.getElem?_eq_getElem hlt
      generalize β.μ.pages[k] = p at hp
      have hok := HR.out.sl.po.bu.mp.ok.page p (List.mem_of_getElem? hp)
      have htop : β.σ.base + 4096 * k + 4096 ≤ 18446744073709551615 := HR.out.sl.po.bu.ok.addr_top HR.out.sl.po.bu.sp.ok hlt
      have hat := (HR.out.touch0 HL.out.touch).sl.po.bu.mp.at_ hp
      have HP := Lib.hid hp
      have HNx := Lib.hid (show liveL β (k + 1) = liveL β k ++ pageL (β.σ.base + 4096 * k) p by
        show liveL β k ++ pageL (β.addr k) (β.μ.pages.getD k zeroPg) = _
        rw [List.getD_eq_getElem?_getD, hp]
        rfl)
      have hllen := liveL_len β k
      have hk3 : k ≤ 1023 := by omega
      have HOk := Lib.hid hok
      have HAt := Lib.hid hat
      clear hat hp hok
      go_upto_block 1 with fail
      go_cut [3] (fun v wx => Lv w (liveL β k ++ pageL (β.σ.base + 4096 * k) p) v wx)
      case first =>
        go_wp2_with fail
        refine HAt.out.mono ?_
        rintro e w3 ⟨rfl, T3⟩
        have HL3 := Lib.hid (HL.out.still T3)
        have d2 := (HR.out.touch0 HL3.out.touch).cells.2.1
        have lhb := (HR.out.touch0 HL3.out.touch).blk.lt
        clear T3
        unfold Pg.val
        go_upto_block 2 with fail
        have T4 := (Touch.refl Nothing w3).alloc (.cells #[.int .i64 p.kind, .int .i64 p.order, .int .i64 p.cls, .int .i64 p.live, .int .i64 p.next, .int .i64 p.prev, .int .i64 p.first, .int .u64 p.b0, .int .u64 p.b1, .int .u64 p.b2, .int .u64 p.b3] 128)
        have B4 := Blk.new w3 #[.int .i64 p.kind, .int .i64 p.order, .int .i64 p.cls, .int .i64 p.live, .int .i64 p.next, .int .i64 p.prev, .int .i64 p.first, .int .u64 p.b0, .int .u64 p.b1, .int .u64 p.b2, .int .u64 p.b3] 128
        have HX4 := Lib.hid (show Lx w (liveL β k) u3 w3.heap.size p.cells _ from ⟨HL3.out.still T4, B4⟩)
        generalize hX : w3.heap.size = X at *
        generalize w3.alloc (.cells #[.int .i64 p.kind, .int .i64 p.order, .int .i64 p.cls, .int .i64 p.live, .int .i64 p.next, .int .i64 p.prev, .int .i64 p.first, .int .u64 p.b0, .int .u64 p.b1, .int .u64 p.b2, .int .u64 p.b3] 128) = w4 at *
        clear T4 B4 hX d2
        have hok := HOk.out
        obtain ⟨o, ho⟩ := Int.eq_ofNat_of_zero_le hok.order.1
        have ho8 : o ≤ 8 := by have := hok.order.2; omega
        obtain ⟨c, hc⟩ := Int.eq_ofNat_of_zero_le hok.cls.1
        have hc8 : c < 8 := by have := hok.cls.2; omega
        have hsz : w.heap.size ≤ w4.heap.size := HX4.out.lv.touch.size
        by_cases h2 : p.kind = 2
        · have HPl := Lib.hid (show pageL (β.σ.base + 4096 * k) p = [(β.σ.base + 4096 * k, 4096 * 2 ^ o)] by
            unfold pageL
            rw [if_pos h2, ho]
            rfl)
          have hws := wrap_size ho8
          have hmin : min o 64 = o := by omega
          have hp8 := pow_le8' ho8
          have x1 : w4.cell? ⟨X, 1, none⟩ = some (.int .i64 (o : Int)) := by rw [← ho]; exact HX4.out.blk.cell 1
          have e2 : (p.kind == 2) = true := by rw [h2]; rfl
          have HNW := Lib.hid (news_of_blk (Blk.new w4 #[.int .u64 ((β.σ.base : Int) + (k : Int) * 4096), .int .u64 (4096 * 2 ^ o)] 71))
          clear hok ho hc h2
          go_wp2_with (at_builtin; refine wpList_append_own _ rfl _ _ 66 rfl w.heap.size 71 i0 _ 2 16 Tryz.underlying66 hi0 hz0 hz1 hz2 rfl (by decide) _ _ _ rfl (HX4.out.lv.own.alloc _) ⟨w4.heap.size, 0, none⟩ 1 1 [.int .u64 ((β.σ.base : Int) + (k : Int) * 4096), .int .u64 (4096 * 2 ^ o)] rfl rfl HNW.out (by simp [Value.oneCell']) (by unfold maxLen; omega) (by omega) (by simp; omega) ?_; intro v' w5 hown hgrow _)
          have HO := Lib.hid hown
          have HG := Lib.hid hgrow
          clear hown hgrow
          go_wp2_with fail
          go_meet
          have ho := HO.out
          rw [show ((β.σ.base : Int) + (k : Int) * 4096) = ((β.σ.base + 4096 * k : Nat) : Int) by omega, show ((4096 : Int) * 2 ^ o) = ((4096 * 2 ^ o : Nat) : Int) by simp] at ho
          rw [HPl.out]
          exact HX4.out.lv.push ho HG.out
        · have e2 : (p.kind == 2) = false := by rw [beq_eq_false_iff_ne]; exact h2
          by_cases h4 : p.kind = 4
          · have e4 : (p.kind == 4) = true := by rw [h4]; rfl
            obtain ⟨u1, u2, u3', u4', u5', u6'⟩ := wd_facts hc8
            have HPl := Lib.hid (show pageL (β.σ.base + 4096 * k) p = cellsL (β.σ.base + 4096 * k) (wdOf c) p (cellsN c) by
              unfold pageL
              rw [if_neg (by omega), if_pos h4, hc]
              rfl)
            have hws : IntKind.u64.wrap (16 * 2 ^ c) = (wdOf c : Int) := by
              have : (16 * 2 ^ c : Int) = ((wdOf c : Nat) : Int) := by unfold wdOf; push_cast; rfl
              rw [this]
              exact IntWalk.u64_in _ (by omega)
            have hmin : min c 64 = c := by omega
            have hdv : (4096 : Int) / (wdOf c : Int) = (cellsN c : Int) := by rw [← u6']; exact (Int.natCast_ediv 4096 (wdOf c)).symm
            have hw0 : ¬ (wdOf c : Int) = 0 := by omega
            have HW := Lib.hid (fun q (h : q < 4) => hok.word_lt q h)
            have HIn := Lib.hid (fun j (h : j < cellsN c) => cell_lt hc8 h)
            have hn256 : cellsN c ≤ 256 := cellsN_le _
            have x2 : w4.cell? ⟨X, 2, none⟩ = some (.int .i64 (c : Int)) := by rw [← show p.cls = (c : Int) from hc]; exact HX4.out.blk.cell 2
            clear hok ho hc h4 h2 u3' u4' u5' u6'
            generalize hwd : wdOf c = wd at *
            generalize hcn : cellsN c = n at *
            go_wp2_with fail
            go_loopw [3, 58] (fun v a wr => ∃ j : Nat, j ≤ n ∧ a = .int .u64 j ∧ Lx w (liveL β k ++ cellsL (β.σ.base + 4096 * k) wd p j) v X p.cells wr) (fun _ a _ => n - (intOf a).toNat)
            case atStart => exact ⟨0, by omega, rfl, by rw [show cellsL (β.σ.base + 4096 * k) wd p 0 = [] from rfl, List.append_nil]; exact HX4.out⟩
            case round =>
              obtain ⟨j, hj, rfl, hL⟩ := hrel
              have HLj := Lib.hid hL
              clear hL
              have hkn : liveL β k ++ cellsL (β.σ.base + 4096 * k) wd p j = liveL β k ++ cellsL (β.σ.base + 4096 * k) wd p j := rfl
              have hcl := cellsL_len (β.σ.base + 4096 * k) wd p j
              have hll : (liveL β k ++ cellsL (β.σ.base + 4096 * k) wd p j).length ≤ 256 * k + j := by rw [List.length_append]; omega
              by_cases hjn : j < n
              · obtain ⟨q, hq⟩ : ∃ q, q = j / 64 := ⟨_, rfl⟩
                obtain ⟨r, hr⟩ : ∃ r, r = j % 64 := ⟨_, rfl⟩
                have hq4 : q < 4 := by omega
                have r1 : (j : Int) / 64 = (q : Int) := by omega
                have r2 : (j : Int) % 64 = (r : Int) := by omega
                have r3 : (j : Int).tmod 64 = (r : Int) := by rw [Int.tmod_eq_emod_of_nonneg (by omega)]; exact r2
                have hqi : (q : Int) < 4 := by omega
                have hr64 : r < 64 := by omega
                have xw : wr.cell? ⟨X, 7 + q, none⟩ = some (.int .u64 (p.word q : Nat)) := (HLj.out.blk.cell (7 + q)).trans (Pg.word_cell p q hq4)
                have hbt := bit_test (p.word q) r (HW.out q hq4)
                have HBit := Lib.hid (show p.bit j = (p.word q).testBit r by unfold Pg.bit; rw [← hq, ← hr])
                have hin := HIn.out j hjn
                obtain ⟨d, hd⟩ : ∃ d, d = j * wd := ⟨_, rfl⟩
                have hdi : (j : Int) * (wd : Int) = (d : Int) := by rw [hd]; simp
                rw [← hd] at hin
                have HD := Lib.hid hd
                have hszr : w.heap.size ≤ wr.heap.size := HLj.out.lv.touch.size
                clear hd hq hr hkn hcl
                generalize p.word q = xx at *
                cases hb : xx.testBit r with
                | false =>
                  rw [hb] at hbt
                  have HE := Lib.hid (show cellsL (β.σ.base + 4096 * k) wd p (j + 1) = cellsL (β.σ.base + 4096 * k) wd p j by
                    show cellsL _ _ _ j ++ _ = _
                    rw [HBit.out, hb]
                    simp)
                  clear hb
                  go_wp2_with fail
                  go_roundw
                  case rel => exact ⟨j + 1, by omega, by go_num, by rw [HE.out]; exact HLj.out⟩
                  case measure => simp [intOf]; omega
                | true =>
                  rw [hb] at hbt
                  have HE := Lib.hid (show cellsL (β.σ.base + 4096 * k) wd p (j + 1) = cellsL (β.σ.base + 4096 * k) wd p j ++ [(β.σ.base + 4096 * k + d, wd)] by
                    show cellsL _ _ _ j ++ _ = _
                    rw [HBit.out, hb, HD.out]
                    simp)
                  have HNW := Lib.hid (news_of_blk (Blk.new wr #[.int .u64 ((β.σ.base : Int) + (k : Int) * 4096 + (d : Int)), .int .u64 (wd : Int)] 71))
                  clear hb
                  go_wp2_with (at_builtin; refine wpList_append_own _ rfl _ _ 66 rfl w.heap.size 71 i0 _ 2 16 Tryz.underlying66 hi0 hz0 hz1 hz2 rfl (by decide) _ _ _ rfl (HLj.out.lv.own.alloc _) ⟨wr.heap.size, 0, none⟩ 1 1 [.int .u64 ((β.σ.base : Int) + (k : Int) * 4096 + (d : Int)), .int .u64 (wd : Int)] rfl rfl HNW.out (by simp [Value.oneCell']) (by unfold maxLen; omega) (by omega) (by simp; omega) ?_; intro v' w5 hown hgrow _)
                  have HO := Lib.hid hown
                  have HG := Lib.hid hgrow
                  clear hown hgrow
                  go_wp2_with fail
                  go_roundw
                  case rel =>
                    have ho := HO.out
                    rw [show ((β.σ.base : Int) + (k : Int) * 4096 + (d : Int)) = ((β.σ.base + 4096 * k + d : Nat) : Int) by omega] at ho
                    refine ⟨_, _, _, ⟨j + 1, by omega, rfl, ?_⟩, rfl, rfl, by go_num⟩
                    rw [HE.out, ← List.append_assoc]
                    exact HLj.out.push ho HG.out
                  case measure => simp [intOf]; omega
              · obtain rfl : j = n := by omega
                go_wp2_with fail
                go_meet
                rw [HPl.out]
                exact HLj.out.lv
          · have e4 : (p.kind == 4) = false := by rw [beq_eq_false_iff_ne]; exact h4
            have HPl := Lib.hid (show pageL (β.σ.base + 4096 * k) p = [] by
              unfold pageL
              rw [if_neg h2, if_neg h4])
            clear hok ho hc h4 h2
            go_wp2_with fail
            go_meet
            rw [HPl.out, List.append_nil]
            exact HX4.out.lv
      case rest =>
        have HC := Lib.hid hcut
        clear hcut
        go_wp2_with fail
        go_roundw
        case rel => exact ⟨k + 1, by omega, rfl, by rw [HNx.out]; exact HC.out⟩
        case measure => simp [intOf]; omega
    · obtain rfl : k = β.μ.pages.length := by omega
      go_wp2_with fail
      go_ret
      exact ⟨_, rfl, HL.out⟩

end Go.Proofs.YtnjcmcnjgdjbiaaGreatDoor
