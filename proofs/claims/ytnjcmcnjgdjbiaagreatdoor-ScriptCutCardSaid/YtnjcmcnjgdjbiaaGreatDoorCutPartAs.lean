/- The walk of malloc's live: the live blocks, rising. Conditions: as each theorem states. -/
import Derived.Test.YtnjcmcnjgdjbiaaGreatDoorCutPartAq
import Derived.Deep.DeepCutAuto
import Derived.Test.YtnjcmcnjgdjbiaaGreatDoorCutPartAp
set_option maxRecDepth 100000
set_option maxHeartbeats 8000000
namespace Go.Proofs.YtnjcmcnjgdjbiaaGreatDoor
open Go.RowKit
def cellsL (at_ wd : Nat) (p : Pg) : Nat → List (Nat × Nat)
 | 0 => []
 | m + 1 => cellsL at_ wd p m ++ (if p.bit m then [(at_ + m * wd, wd)] else [])
def pageL (at_ : Nat) (p : Pg) : List (Nat × Nat) :=
 if p.kind = 2 then [(at_, 4096 * 2 ^ p.order.toNat)] else if p.kind = 4 then cellsL at_ (wdOf p.cls.toNat) p (cellsN p.cls) else []
def liveL (β : Bu) : Nat → List (Nat × Nat)
 | 0 => []
 | m + 1 => liveL β m ++ pageL (β.addr m) (β.μ.pages.getD m zeroPg)
def blkC (b : Nat × Nat) : List Value := [.int .u64 (b.1 : Nat), .int .u64 (b.2 : Nat)]
theorem cellsL_len (at_ wd : Nat) (p : Pg) : ∀ m, (cellsL at_ wd p m).length ≤ m
 | 0 => Nat.le_refl _
 | m + 1 => by
  unfold cellsL
  rw [List.length_append]
  have := cellsL_len at_ wd p m
  split <;> simp <;> omega
theorem cellsN_le (c : Int) : cellsN c ≤ 256 := Nat.div_le_self _ _
theorem pageL_len (at_ : Nat) (p : Pg) : (pageL at_ p).length ≤ 256 := by
 unfold pageL
 split
 ·simp
 ·split
  ·exact Nat.le_trans (cellsL_len _ _ _ _) (cellsN_le _)
  ·simp
theorem liveL_len (β : Bu) : ∀ m, (liveL β m).length ≤ 256 * m
 | 0 => Nat.le_refl _
 | m + 1 => by
  unfold liveL
  rw [List.length_append]
  have := liveL_len β m
  have := pageL_len (β.addr m) (β.μ.pages.getD m zeroPg)
  omega
structure Lv (w : World) (l : List (Nat × Nat)) (v : Value) (wr : World) : Prop where
 own : wr.ownsRow w.heap.size 71 2 v l.length (l.flatMap blkC)
 touch : Touch Nothing w wr
theorem Lv.still {w wr w' : World} {l : List (Nat × Nat)} {v : Value} (H : Lv w l v wr) (T : Touch Nothing wr w') : Lv w l v w' := by
 refine ⟨?_, H.touch.trans T⟩
 refine ⟨H.own.1, ?_⟩
 rcases H.own.2 with hn | ⟨g, cap, cur, rfl, hb, hgg, rest⟩
 ·exact .inl hn
 ·refine .inr ⟨g, cap, cur, rfl, hb, ?_, rest⟩
  rw [T.block g (Array.getElem?_eq_some_iff.1 hgg).1 (fun h => h)]
  exact hgg
theorem Lv.push {w wr w1 : World} {l : List (Nat × Nat)} {v v' : Value} {o : Obj} {P S : Nat} (H : Lv w l v wr) (hown : w1.ownsRow w.heap.size 71 2 v' (l.length + 1) (l.flatMap blkC ++ [.int .u64 (P : Nat), .int .u64 (S : Nat)])) (hgrow : (wr.alloc o).grownBy w1 v.ownBlock) : Lv w (l ++ [(P, S)]) v' w1 := by
 refine ⟨by simpa [blkC] using hown, ?_⟩
 have T1 : Touch (fun k => some k = v.ownBlock) (wr.alloc o) w1 := Touch.of_grown hgrow (fun k hk => hk.symm)
 have T0 : Touch Nothing w (wr.alloc o) := H.touch.alloc o
 exact T0.trans' T1 (fun i hi e => by
  have := (World.ownsRow.lt H.own i e.symm).1
  omega)
structure Lx (w : World) (l : List (Nat × Nat)) (v : Value) (X : Nat) (cs : List Value) (wr : World) : Prop where
 lv : Lv w l v wr
 blk : Blk wr X 128 cs
theorem Lx.push {w wr w1 : World} {l : List (Nat × Nat)} {v v' : Value} {o : Obj} {P S X : Nat} {cs : List Value} (H : Lx w l v X cs wr) (hown : w1.ownsRow w.heap.size 71 2 v' (l.length + 1) (l.flatMap blkC ++ [.int .u64 (P : Nat), .int .u64 (S : Nat)])) (hgrow : (wr.alloc o).grownBy w1 v.ownBlock) : Lx w (l ++ [(P, S)]) v' X cs w1 := by
 refine ⟨H.lv.push hown hgrow, (H.blk.alloc o).touch (Touch.of_grown (S := fun k => some k = v.ownBlock) hgrow (fun k hk => hk.symm)) (fun e => ?_)⟩
 rcases H.lv.own.2 with ⟨hn, _⟩ | ⟨g1, cap, cur, hv, _, h1, _⟩
 ·rw [hn] at e; cases e
 ·rw [hv] at e
  simp only [Value.ownBlock, Option.some.injEq] at e
  have h2 : wr.heap[X]? = _ := H.blk
  rw [e, h1] at h2
  cases h2
theorem info71 : (Tryz.prog.info? 71).map (fun i => (i.zero, i.size, i.bytes)) = some (some (.agg #[.int .u64 0, .int .u64 0]), 2, 16) := by kernel_rfl
def Lived (w : World) (l : List (Nat × Nat)) (e : Ending) (w' : World) : Prop := ∃ v, e = .returned v ∧ Lv w l v w'
theorem HpRep.live_ {m : Int} {w : World} {hb s pb : Nat} {K : BuL} {β : Bu} {ps : List Int} (R : HpRep m w hb s pb K β ps) :
  Calls Tryz.prog 62 #[.pointer (some ⟨hb, 0, none⟩)] w (Lived w (liveL β β.μ.pages.length)) := by
 obtain ⟨i0, hi0, hz0, hz1, hz2⟩ := info_parts info71
 have hlen := R.sl.po.bu.mp.ok.len
 have c5 := R.cells.2.2.2.1
 have HM := Hd R.sl.po.map_
 have HR := Hd R
 clear R
 go_enter Tryz.func62, Tryz.ntmps62
 go_wp2_with fail
 refine HM.out.mono ?_
 rintro e w1 ⟨rfl, rfl⟩
 go_wp2_with fail
 go_loopw [3, 5] (fun v a wr => ∃ k : Nat, k ≤ β.μ.pages.length ∧ a = .int .i64 k ∧ Lv w (liveL β k) v wr) (fun _ a _ => β.μ.pages.length - (intOf a).toNat)
 case atStart => exact ⟨0, by omega, rfl, World.ownsRow_nil _ _ _ _, Touch.refl _ _⟩
 case round =>
  obtain ⟨k, hk, rfl, hL⟩ := hrel
  have HPg := Hd ((HR.out.touch0 hL.touch).sl.po.bu.mp.pages_)
  have HL := Hd hL
  clear hL
  go_wp2_with fail
  refine HPg.out.mono ?_
  rintro e w2 ⟨rfl, rfl⟩
  by_cases hlt : k < β.μ.pages.length
  ·have hp : β.μ.pages[k]? = some β.μ.pages[k] := List.getElem?_eq_getElem hlt
   generalize β.μ.pages[k] = p at hp
   have hok := HR.out.sl.po.bu.mp.ok.page p (List.mem_of_getElem? hp)
   have htop : β.σ.base + 4096 * k + 4096 ≤ 18446744073709551615 := HR.out.sl.po.bu.ok.addr_top HR.out.sl.po.bu.sp.ok hlt
   have hat := (HR.out.touch0 HL.out.touch).sl.po.bu.mp.at_ hp
   have HP := Hd hp
   have HNx := Hd (show liveL β (k + 1) = liveL β k ++ pageL (β.σ.base + 4096 * k) p by
    show liveL β k ++ pageL (β.addr k) (β.μ.pages.getD k zeroPg) = _
    rw [List.getD_eq_getElem?_getD, hp]
    rfl)
   have hllen := liveL_len β k
   have hk3 : k ≤ 1023 := by omega
   have HOk := Hd hok
   have HAt := Hd hat
   clear hat hp hok
   go_upto_block 1 with fail
   go_cut [3] (fun v wx => Lv w (liveL β k ++ pageL (β.σ.base + 4096 * k) p) v wx)
   case first =>
    go_wp2_with fail
    refine HAt.out.mono ?_
    rintro e w3 ⟨rfl, T3⟩
    have HL3 := Hd (HL.out.still T3)
    have d2 := (HR.out.touch0 HL3.out.touch).cells.2.1
    have lhb := (HR.out.touch0 HL3.out.touch).blk.lt
    clear T3
    unfold Pg.val
    go_upto_block 2 with fail
    have T4 := (Touch.refl Nothing w3).alloc (.cells #[.int .i64 p.kind, .int .i64 p.order, .int .i64 p.cls, .int .i64 p.live, .int .i64 p.next, .int .i64 p.prev, .int .i64 p.first, .int .u64 p.b0, .int .u64 p.b1, .int .u64 p.b2, .int .u64 p.b3] 128)
    have B4 := Blk.new w3 #[.int .i64 p.kind, .int .i64 p.order, .int .i64 p.cls, .int .i64 p.live, .int .i64 p.next, .int .i64 p.prev, .int .i64 p.first, .int .u64 p.b0, .int .u64 p.b1, .int .u64 p.b2, .int .u64 p.b3] 128
    have HX4 := Hd (show Lx w (liveL β k) u3 w3.heap.size p.cells _ from ⟨HL3.out.still T4, B4⟩)
    generalize hX : w3.heap.size = X at *
    generalize w3.alloc (.cells #[.int .i64 p.kind, .int .i64 p.order, .int .i64 p.cls, .int .i64 p.live, .int .i64 p.next, .int .i64 p.prev, .int .i64 p.first, .int .u64 p.b0, .int .u64 p.b1, .int .u64 p.b2, .int .u64 p.b3] 128) = w4 at *
    clear T4 B4 hX d2
    have hok := HOk.out
    obtain ⟨o, ho⟩ := Int.eq_ofNat_of_zero_le hok.order.1
    have ho8 : o ≤ 8 := by have := hok.order.2; omega
    obtain ⟨c, hc⟩ := Int.eq_ofNat_of_zero_le hok.cls.1
    have hc8 : c < 8 := by have := hok.cls.2; omega
    have hsz : w.heap.size ≤ w4.heap.size := HX4.out.lv.touch.size
    by_cases h2 : p.kind = 2
    ·have HPl := Hd (show pageL (β.σ.base + 4096 * k) p = [(β.σ.base + 4096 * k, 4096 * 2 ^ o)] by
      unfold pageL
      rw [if_pos h2, ho]
      rfl)
     have hws := wrap_size ho8
     have hmin : min o 64 = o := by omega
     have hp8 := pow_le8' ho8
     have x1 : w4.cell? ⟨X, 1, none⟩ = some (.int .i64 (o : Int)) := by rw [← ho]; exact HX4.out.blk.cell 1
     have e2 : (p.kind == 2) = true := by rw [h2]; rfl
     have HNW := Hd (news_of_blk (Blk.new w4 #[.int .u64 ((β.σ.base : Int) + (k : Int) * 4096), .int .u64 (4096 * 2 ^ o)] 71))
     clear hok ho hc h2
     go_wp2_with (at_builtin; refine wpList_append_own _ rfl _ _ 66 rfl w.heap.size 71 i0 _ 2 16 Tryz.underlying66 hi0 hz0 hz1 hz2 rfl (by decide) _ _ _ rfl (HX4.out.lv.own.alloc _) ⟨w4.heap.size, 0, none⟩ 1 1 [.int .u64 ((β.σ.base : Int) + (k : Int) * 4096), .int .u64 (4096 * 2 ^ o)] rfl rfl HNW.out (by simp [Value.oneCell']) (by unfold maxLen; omega) (by omega) (by simp; omega) ?_; intro v' w5 hown hgrow _)
     have HO := Hd hown
     have HG := Hd hgrow
     clear hown hgrow
     go_wp2_with fail
     go_meet
     have ho := HO.out
     rw [show ((β.σ.base : Int) + (k : Int) * 4096) = ((β.σ.base + 4096 * k : Nat) : Int) by omega, show ((4096 : Int) * 2 ^ o) = ((4096 * 2 ^ o : Nat) : Int) by simp] at ho
     rw [HPl.out]
     exact HX4.out.lv.push ho HG.out
    ·have e2 : (p.kind == 2) = false := by rw [beq_eq_false_iff_ne]; exact h2
     by_cases h4 : p.kind = 4
     ·have e4 : (p.kind == 4) = true := by rw [h4]; rfl
      obtain ⟨u1, u2, u3', u4', u5', u6'⟩ := wd_facts hc8
      have HPl := Hd (show pageL (β.σ.base + 4096 * k) p = cellsL (β.σ.base + 4096 * k) (wdOf c) p (cellsN c) by
       unfold pageL
       rw [if_neg (by omega), if_pos h4, hc]
       rfl)
      have hws : IntKind.u64.wrap (16 * 2 ^ c) = (wdOf c : Int) := by
       have : (16 * 2 ^ c : Int) = ((wdOf c : Nat) : Int) := by unfold wdOf; push_cast; rfl
       rw [this]
       exact IntWalk.u64_in _ (by omega)
      have hmin : min c 64 = c := by omega
      have hdv : (4096 : Int) / (wdOf c : Int) = (cellsN c : Int) := by rw [← u6']; exact (Int.natCast_ediv 4096 (wdOf c)).symm
      have hw0 : ¬ (wdOf c : Int) = 0 := by omega
      have HW := Hd (fun q (h : q < 4) => hok.word_lt q h)
      have HIn := Hd (fun j (h : j < cellsN c) => cell_lt hc8 h)
      have hn256 : cellsN c ≤ 256 := cellsN_le _
      have x2 : w4.cell? ⟨X, 2, none⟩ = some (.int .i64 (c : Int)) := by rw [← show p.cls = (c : Int) from hc]; exact HX4.out.blk.cell 2
      clear hok ho hc h4 h2 u3' u4' u5' u6'
      generalize hwd : wdOf c = wd at *
      generalize hcn : cellsN c = n at *
      go_wp2_with fail
      go_loopw [3, 58] (fun v a wr => ∃ j : Nat, j ≤ n ∧ a = .int .u64 j ∧ Lx w (liveL β k ++ cellsL (β.σ.base + 4096 * k) wd p j) v X p.cells wr) (fun _ a _ => n - (intOf a).toNat)
      case atStart => exact ⟨0, by omega, rfl, by rw [show cellsL (β.σ.base + 4096 * k) wd p 0 = [] from rfl, List.append_nil]; exact HX4.out⟩
      case round =>
       obtain ⟨j, hj, rfl, hL⟩ := hrel
       have HLj := Hd hL
       clear hL
       have hkn : liveL β k ++ cellsL (β.σ.base + 4096 * k) wd p j = liveL β k ++ cellsL (β.σ.base + 4096 * k) wd p j := rfl
       have hcl := cellsL_len (β.σ.base + 4096 * k) wd p j
       have hll : (liveL β k ++ cellsL (β.σ.base + 4096 * k) wd p j).length ≤ 256 * k + j := by rw [List.length_append]; omega
       by_cases hjn : j < n
       ·obtain ⟨q, hq⟩ : ∃ q, q = j / 64 := ⟨_, rfl⟩
        obtain ⟨r, hr⟩ : ∃ r, r = j % 64 := ⟨_, rfl⟩
        have hq4 : q < 4 := by omega
        have r1 : (j : Int) / 64 = (q : Int) := by omega
        have r2 : (j : Int) % 64 = (r : Int) := by omega
        have r3 : (j : Int).tmod 64 = (r : Int) := by rw [Int.tmod_eq_emod_of_nonneg (by omega)]; exact r2
        have hqi : (q : Int) < 4 := by omega
        have hr64 : r < 64 := by omega
        have xw : wr.cell? ⟨X, 7 + q, none⟩ = some (.int .u64 (p.word q : Nat)) := (HLj.out.blk.cell (7 + q)).trans (Pg.word_cell p q hq4)
        have hbt := bit_test (p.word q) r (HW.out q hq4)
        have HBit := Hd (show p.bit j = (p.word q).testBit r by unfold Pg.bit; rw [← hq, ← hr])
        have hin := HIn.out j hjn
        obtain ⟨d, hd⟩ : ∃ d, d = j * wd := ⟨_, rfl⟩
        have hdi : (j : Int) * (wd : Int) = (d : Int) := by rw [hd]; simp
        rw [← hd] at hin
        have HD := Hd hd
        have hszr : w.heap.size ≤ wr.heap.size := HLj.out.lv.touch.size
        clear hd hq hr hkn hcl
        generalize p.word q = xx at *
        cases hb : xx.testBit r with
        | false =>
         rw [hb] at hbt
         have HE := Hd (show cellsL (β.σ.base + 4096 * k) wd p (j + 1) = cellsL (β.σ.base + 4096 * k) wd p j by
          show cellsL _ _ _ j ++ _ = _
          rw [HBit.out, hb]
          simp)
         clear hb
         go_wp2_with fail
         go_roundw
         case rel => exact ⟨j + 1, by omega, by go_num, by rw [HE.out]; exact HLj.out⟩
         case measure => simp [intOf]; omega
        | true =>
         rw [hb] at hbt
         have HE := Hd (show cellsL (β.σ.base + 4096 * k) wd p (j + 1) = cellsL (β.σ.base + 4096 * k) wd p j ++ [(β.σ.base + 4096 * k + d, wd)] by
          show cellsL _ _ _ j ++ _ = _
          rw [HBit.out, hb, HD.out]
          simp)
         have HNW := Hd (news_of_blk (Blk.new wr #[.int .u64 ((β.σ.base : Int) + (k : Int) * 4096 + (d : Int)), .int .u64 (wd : Int)] 71))
         clear hb
         go_wp2_with (at_builtin; refine wpList_append_own _ rfl _ _ 66 rfl w.heap.size 71 i0 _ 2 16 Tryz.underlying66 hi0 hz0 hz1 hz2 rfl (by decide) _ _ _ rfl (HLj.out.lv.own.alloc _) ⟨wr.heap.size, 0, none⟩ 1 1 [.int .u64 ((β.σ.base : Int) + (k : Int) * 4096 + (d : Int)), .int .u64 (wd : Int)] rfl rfl HNW.out (by simp [Value.oneCell']) (by unfold maxLen; omega) (by omega) (by simp; omega) ?_; intro v' w5 hown hgrow _)
         have HO := Hd hown
         have HG := Hd hgrow
         clear hown hgrow
         go_wp2_with fail
         go_roundw
         case rel =>
          have ho := HO.out
          rw [show ((β.σ.base : Int) + (k : Int) * 4096 + (d : Int)) = ((β.σ.base + 4096 * k + d : Nat) : Int) by omega] at ho
          refine ⟨_, _, _, ⟨j + 1, by omega, rfl, ?_⟩, rfl, rfl, by go_num⟩
          rw [HE.out, ← List.append_assoc]
          exact HLj.out.push ho HG.out
         case measure => simp [intOf]; omega
       ·obtain rfl : j = n := by omega
        go_wp2_with fail
        go_meet
        rw [HPl.out]
        exact HLj.out.lv
     ·have e4 : (p.kind == 4) = false := by rw [beq_eq_false_iff_ne]; exact h4
      have HPl := Hd (show pageL (β.σ.base + 4096 * k) p = [] by
       unfold pageL
       rw [if_neg h2, if_neg h4])
      clear hok ho hc h4 h2
      go_wp2_with fail
      go_meet
      rw [HPl.out, List.append_nil]
      exact HX4.out.lv
   case rest =>
    have HC := Hd hcut
    clear hcut
    go_wp2_with fail
    go_roundw
    case rel => exact ⟨k + 1, by omega, rfl, by rw [HNx.out]; exact HC.out⟩
    case measure => simp [intOf]; omega
  ·obtain rfl : k = β.μ.pages.length := by omega
   go_wp2_with fail
   go_ret
   exact ⟨_, rfl, HL.out⟩
end Go.Proofs.YtnjcmcnjgdjbiaaGreatDoor
namespace Go.Proofs.YtnjcmcnjgdjbiaaGreatDoor
open Go.RowKit Go.MuLone
@[reducible] def NoPanic (Q : Exit → Act → World → Prop) : Exit → Act → World → Prop := fun e a w => match e with | .panic _ => False | e' => Q e' a w
theorem wp_nopanic {P : Program} {c : Code} {Q : Exit → Act → World → Prop} {a : Act} {w : World} (h : c.wp P (NoPanic Q) a w) : c.wp P Q a w :=
 Code.wp_mono (fun e a w h => by cases e <;> first | exact h | exact h.elim) h
def sumS (l : List (Nat × Nat)) : Nat := (l.map Prod.snd).sum
def freeN (β : Bu) : Nat → Nat
 | 0 => 0
 | m + 1 => freeN β m + if (β.μ.pages.getD m zeroPg).kind = 0 ∨ (β.μ.pages.getD m zeroPg).kind = 1 then 1 else 0
theorem sumS_le : ∀ (l : List (Nat × Nat)), (∀ b ∈ l, b.2 ≤ 1048576) → sumS l ≤ 1048576 * l.length
 | [], _ => by simp [sumS]
 | b :: t, h => by
  have h1 := h b (by simp)
  have h2 := sumS_le t (fun c hc => h c (by simp [hc]))
  unfold sumS at *
  simp only [List.map_cons, List.sum_cons, List.length_cons]
  omega
theorem sumS_take (l : List (Nat × Nat)) (j : Nat) (h : j < l.length) : sumS (l.take (j + 1)) = sumS (l.take j) + l[j].2 := by
 unfold sumS
 rw [List.take_succ_eq_append_getElem h, List.map_append, List.sum_append]
 simp
theorem flat2_get : ∀ (l : List (Nat × Nat)) (j : Nat) (b : Nat × Nat), l[j]? = some b → (l.flatMap blkC)[j * 2]? = some (.int .u64 (b.1 : Nat)) ∧ (l.flatMap blkC)[j * 2 + 1]? = some (.int .u64 (b.2 : Nat))
 | [], j, b, h => by simp at h
 | c :: t, 0, b, h => by
  obtain rfl : c = b := by simpa using h
  exact ⟨rfl, rfl⟩
 | c :: t, j + 1, b, h => by
  have := flat2_get t j b (by simpa using h)
  rw [show (j + 1) * 2 = j * 2 + 2 by omega]
  exact this
theorem owns_form {w : World} {B e s n : Nat} {v : Value} {xs : List Value} (h : w.ownsRow B e s v n xs) : ∃ pa cap, v = .slice pa n cap ∧ (0 < n → ∃ g, pa = some ⟨g, 0, none⟩ ∧ (∃ cur, w.heap[g]? = some (.cells cur e (0, 0))) ∧ ∀ j, j < n * s → w.cell? ⟨g, j, none⟩ = xs[j]?) := by
 rcases h.2 with ⟨hv, hn⟩ | ⟨g, cap, cur, hv, _, hg, _⟩
 ·subst hn
  exact ⟨none, 0, hv, fun h => by omega⟩
 ·subst hv
  exact ⟨_, cap, rfl, fun _ => ⟨g, rfl, ⟨cur, hg⟩, fun j hj => World.ownsRow.cellAt h j hj⟩⟩
theorem pageL_size {at_ : Nat} {p : Pg} (ok : p.ok) : ∀ b ∈ pageL at_ p, b.2 ≤ 1048576 := by
 intro b hb
 unfold pageL at hb
 split at hb
 ·simp only [List.mem_singleton] at hb
  rw [hb]
  obtain ⟨o, ho⟩ := Int.eq_ofNat_of_zero_le ok.order.1
  have := pow_le8' (o := o) (by have := ok.order.2; omega)
  rw [ho]
  simp only [Int.toNat_natCast]
  omega
 ·split at hb
  ·have key : ∀ m, b ∈ cellsL at_ (wdOf p.cls.toNat) p m → b.2 = wdOf p.cls.toNat := by
    intro m
    induction m with
    | zero => intro h; simp [cellsL] at h
    | succ m ih =>
     intro h
     unfold cellsL at h
     rcases List.mem_append.1 h with h | h
     ·exact ih h
     ·split at h
      ·simp at h; rw [h]
      ·simp at h
   rw [key _ hb]
   have := (wdOf_cells p.cls ⟨ok.cls.1, by have := ok.cls.2; omega⟩).2.2.1
   omega
  ·simp at hb
theorem liveL_size {β : Bu} (ok : ∀ p ∈ β.μ.pages, p.ok) : ∀ m, m ≤ β.μ.pages.length → ∀ b ∈ liveL β m, b.2 ≤ 1048576
 | 0, _, b, hb => by simp [liveL] at hb
 | m + 1, hm, b, hb => by
  unfold liveL at hb
  rcases List.mem_append.1 hb with h | h
  ·exact liveL_size ok m (by omega) b h
  ·refine pageL_size (ok _ ?_) b h
   rw [List.getD_eq_getElem?_getD, List.getElem?_eq_getElem (by omega)]
   exact List.getElem_mem _
theorem sumS_mono (l : List (Nat × Nat)) (j : Nat) : sumS (l.take j) ≤ sumS l := by
 unfold sumS
 conv => rhs; rw [← List.take_append_drop j l]
 rw [List.map_append, List.sum_append]
 omega
theorem freeN_le (β : Bu) : ∀ m, freeN β m ≤ m
 | 0 => Nat.le_refl _
 | m + 1 => by
  unfold freeN
  have := freeN_le β m
  split <;> omega
theorem HpRep.stats_ {w : World} {hb s pb : Nat} {K : BuL} {β : Bu} {ps : List Int} (R : HpRep 0 w hb s pb K β ps) :
  Calls Tryz.prog 26 #[.pointer (some ⟨hb, 0, none⟩)] w (Looked w hb s pb K β ps (.agg #[.int .u64 (β.σ.size * β.σ.n : Nat), .int .u64 (sumS (liveL β β.μ.pages.length) : Nat), .int .i64 ((liveL β β.μ.pages.length).length : Nat), .int .i64 (freeN β β.μ.pages.length : Nat)])) := by
 have T0 := (Touch.refl Nothing w).alloc (.cells #[.int .u64 0, .int .u64 0, .int .i64 0, .int .i64 0] 36)
 have B0 := Blk.new w #[.int .u64 0, .int .u64 0, .int .i64 0, .int .i64 0] 36
 have hRB : w.heap.size < (w.alloc (.cells #[.int .u64 0, .int .u64 0, .int .i64 0, .int .i64 0] 36)).heap.size := by simp
 have R0 := R.touch0 T0
 have HRl := Hd R
 have HRB := Hd (show w.heap.size ∉ hb :: s :: pb :: K.fp from fun h => by have := R.lt _ h; omega)
 clear R
 obtain ⟨c0, -, -, -, -, f0⟩ := R0.cells
 have R1 := R0.locked 1
 have HR1 := Hd R1
 have HT0 := Hd T0
 have HB0 := Hd B0
 clear R1 R0 T0 B0
 go_enter_defers Tryz.func26, Tryz.ntmps26
 go_wp2_with fail
 refine (lock_free Tryz.muLib ⟨hb, 0, none⟩ _ c0 f0).mono ?_
 rintro e w' ⟨rfl, rfl⟩
 generalize hw0 : w.alloc (.cells #[.int .u64 0, .int .u64 0, .int .i64 0, .int .i64 0] 36) = w0 at *
 generalize hw1 : w0.setCell ⟨hb, 0, none⟩ (.int .i32 1) = w1 at *
 have HW0 := Hd hw0
 have HW1 := Hd hw1
 obtain ⟨-, d2, -, d5, -, -⟩ := HR1.out.cells
 have lhb : hb < w1.heap.size := HR1.out.blk.lt
 have hcf : ∀ (us : Array Value) (W : World), (callFunc 60 us).run Tryz.prog W = .ok (.enter 60 us) W := fun us W => by simp [go_sem]
 have hcf2 : ∀ (us : Array Value) (W : World), (callFunc 61 us).run Tryz.prog W = .ok (.enter 61 us) W := fun us W => by simp [go_sem]
 have HCF := Hd hcf
 have HCF2 := Hd hcf2
 have HSp := Hd (fun W (T : Touch Nothing w1 W) => (HR1.out.touch0 T).sl.po.space_)
 have HEn := Hd (fun W (T : Touch Nothing w1 W) => (HR1.out.touch0 T).sl.po.bu.sp.end_)
 have htop := HR1.out.sl.po.bu.sp.ok.le64
 obtain ⟨H, hH⟩ : ∃ H, H = β.σ.size * β.σ.n := ⟨_, rfl⟩
 have HH := Hd hH
 rw [← hH] at htop
 have hEc : ((β.σ.base + β.σ.size * β.σ.n : Nat) : Int) = (β.σ.base : Int) + (H : Int) := by rw [hH]; push_cast; rfl
 rw [hEc] at HEn
 clear hcf hcf2 hH hEc hw0 hw1 c0 f0
 generalize hBs : β.σ.base = B at *
 go_upto_region 3 with fail
 have hwd : IntKind.u64.wrap ((B : Int) + (H : Int) - (B : Int)) = (H : Int) := by rw [IntWalk.u64_in _ (by omega)]; omega
 go_cut [3] from 17 to 31 (fun v wx => ∃ SB : Nat, v = .pointer (some ⟨SB, 0, none⟩) ∧ w1.heap.size ≤ SB ∧ Blk wx SB 36 [.int .u64 (H : Int), .int .u64 0, .int .i64 0, .int .i64 0] ∧ Touch Nothing w1 wx)
 case first =>
  refine wp_nopanic ?_
  go_region_law (first | (refine step_call_list _ (by rfl) 60 #[.tmp 22] #[120] (by rfl) #[.pointer (some ⟨pb, 0, none⟩)] (by rfl) (HSp.out _ (by first | exact (Touch.refl Nothing w1).drew | exact ((Touch.refl Nothing w1).drew).alloc _)) (HCF.out _ _) ?_; rintro e w2 ⟨rfl, rfl⟩; refine ⟨_, rfl, ?_⟩) | (refine step_call_list _ (by rfl) 61 #[.tmp 23] #[115] (by rfl) #[.pointer (some ⟨K.L.sb, 0, none⟩)] (by rfl) (HEn.out _ (by first | exact (Touch.refl Nothing w1).drew | exact ((Touch.refl Nothing w1).drew).alloc _)) (HCF2.out _ _) ?_; rintro e w2 ⟨rfl, hkq⟩; refine ⟨_, rfl, ?_⟩; have T2 : Touch Nothing w1 w2 := (by obtain ⟨kq, rfl⟩ := hkq; first | exact ((Touch.refl Nothing w1).drew).drewN kq | exact (((Touch.refl Nothing w1).alloc _).drew).drewN kq); have d2' : w2.cell? ⟨hb, 2, none⟩ = some (.int .u64 B) := (T2.cell (p := ⟨hb, 2, none⟩) lhb (fun h => h)).trans d2; have lhb2 : hb < w2.heap.size := Nat.lt_of_lt_of_le lhb T2.size; have HT2 := Hd T2; first | (have BS : Blk w2 w1.heap.size 36 [.int .u64 0, .int .u64 0, .int .i64 0, .int .i64 0] := (by obtain ⟨kq, rfl⟩ := hkq; exact ((Blk.new w1 #[.int .u64 0, .int .u64 0, .int .i64 0, .int .i64 0] 36).drew).drewN kq); have z0 : w2.cell? ⟨w1.heap.size, 0, none⟩ = some (.int .u64 0) := BS.cell 0; have z1 : w2.cell? ⟨w1.heap.size, 1, none⟩ = some (.int .u64 0) := BS.cell 1; have z2 : w2.cell? ⟨w1.heap.size, 2, none⟩ = some (.int .i64 0) := BS.cell 2; have z3 : w2.cell? ⟨w1.heap.size, 3, none⟩ = some (.int .i64 0) := BS.cell 3; have y0 := BS.free 0; have y1 := BS.free 1; have y2 := BS.free 2; have y3 := BS.free 3; have HBS := Hd BS; clear BS hkq T2) | (clear hkq T2)))
  all_goals
   show Exit.then _ _ Exit.normal _ _
   try rw [hwd]
   go_wp2_with fail
   go_meet
   first
    | exact ⟨_, rfl, HT2.out.size, Blk.new _ _ _, HT2.out.alloc _⟩
    | exact ⟨_, rfl, Nat.le_refl _, (((HBS.out.set 0 _).set 1 _).set 2 _).set 3 _, (((HT2.out.setCell (fun h => absurd h (Nat.lt_irrefl _)) _).setCell (fun h => absurd h (Nat.lt_irrefl _)) _).setCell (fun h => absurd h (Nat.lt_irrefl _)) _).setCell (fun h => absurd h (Nat.lt_irrefl _)) _⟩
 case rest =>
  obtain ⟨SB, rfl, hSB, hB, hT⟩ := hcut
  have HL := Hd ((HR1.out.touch0 hT).live_)
  have HBS := Hd hB
  have HTS := Hd hT
  clear hB hT
  go_wp2_with fail
  refine HL.out.mono ?_
  rintro e wl ⟨v, rfl, hLv⟩
  have hlen := HR1.out.sl.po.bu.mp.ok.len
  have hll := liveL_len β β.μ.pages.length
  have hsz := sumS_le _ (liveL_size HR1.out.sl.po.bu.mp.ok.page _ (Nat.le_refl _))
  have hmn := sumS_mono (liveL β β.μ.pages.length)
  have htk := sumS_take (liveL β β.μ.pages.length)
  have HTl := Hd (HTS.out.trans hLv.touch)
  have HBl := Hd (HBS.out.touch hLv.touch (fun h => h))
  obtain ⟨pa, cap, rfl, hrow⟩ := owns_form hLv.own
  have HRow := Hd hrow
  generalize hl : liveL β β.μ.pages.length = l at *
  clear hLv hrow hl
  go_wp2_with fail
  go_loopw [35] (fun a wr => ∃ j : Nat, j ≤ l.length ∧ a = .int .i64 j ∧ Blk wr SB 36 [.int .u64 (H : Int), .int .u64 (sumS (l.take j) : Nat), .int .i64 (j : Nat), .int .i64 0] ∧ Touch (· = SB) wl wr) (fun a _ => l.length - (intOf a).toNat)
  case atStart => exact ⟨0, by omega, rfl, HBl.out, Touch.refl _ _⟩
  case round =>
   obtain ⟨j, hj, rfl, hB, hT⟩ := hrel
   have c1 : wr.cell? ⟨SB, 1, none⟩ = some (.int .u64 (sumS (l.take j) : Nat)) := hB.cell 1
   have c2 : wr.cell? ⟨SB, 2, none⟩ = some (.int .i64 (j : Nat)) := hB.cell 2
   have f1 := hB.free 1
   have f2 := hB.free 2
   have hsb := hB.lt
   have HB := Hd hB
   have HT := Hd hT
   clear hB
   by_cases hlt : j < l.length
   ·obtain ⟨g, hg, ⟨cur, hcur⟩, hcells⟩ := HRow.out (by omega)
    subst hg
    have hgs : g ≠ SB := by
     rintro rfl
     have h2 : wl.heap[g]? = _ := HBl.out
     rw [hcur] at h2
     cases h2
    have hgl : g < wl.heap.size := (Array.getElem?_eq_some_iff.1 hcur).1
    obtain ⟨e1, e2⟩ := flat2_get l j l[j] (List.getElem?_eq_getElem hlt)
    have x1 : wr.cell? ⟨g, j * 2, none⟩ = some (.int .u64 (l[j].1 : Nat)) := ((hT.cell (p := ⟨g, j * 2, none⟩) hgl hgs).trans (hcells (j * 2) (by omega))).trans e1
    have x2 : wr.cell? ⟨g, j * 2 + 1, none⟩ = some (.int .u64 (l[j].2 : Nat)) := ((hT.cell (p := ⟨g, j * 2 + 1, none⟩) hgl hgs).trans (hcells (j * 2 + 1) (by omega))).trans e2
    have hgr : g < wr.heap.size := Nat.lt_of_lt_of_le hgl hT.size
    have h1 := htk j hlt
    have h2 := hmn (j + 1)
    have HS := Hd h1
    generalize hP : l[j].1 = P at *
    generalize hS : l[j].2 = S at *
    generalize sumS (l.take j) = sj at *
    clear hT hcur hcells e1 e2 hP hS
    go_wp2_with fail
    go_roundw
    case rel =>
     refine ⟨j + 1, by omega, rfl, ?_, ?_⟩
     ·rw [HS.out, show (((sj + S : Nat) : Nat) : Int) = (sj : Int) + (S : Int) by omega, show ((j + 1 : Nat) : Int) = (j : Int) + 1 by omega]
      exact ((HB.out.set 1 (.int .u64 ((sj : Int) + (S : Int)))).set 2 (.int .i64 ((j : Int) + 1))).alloc _
     ·exact ((HT.out.trans (Touch.cellAt wr SB 1 _)).trans (Touch.cellAt _ SB 2 _)).alloc _
    case measure => simp [intOf]; omega
   ·obtain rfl : j = l.length := by omega
    rw [List.take_length] at HB
    have HTw := Hd (HTl.out.trans' hT (fun k hk e => by subst e; exact absurd (Nat.lt_of_lt_of_le hk hSB) (Nat.lt_irrefl _)))
    have HMp := Hd ((HR1.out.touch0 HTw.out).sl.po.map_)
    have HPg := Hd ((HR1.out.touch0 HTw.out).sl.po.bu.mp.pages_)
    obtain ⟨-, -, -, g5, -, -⟩ := (HR1.out.touch0 HTw.out).cells
    clear hT c1 c2 f1 f2 hsb htk HRow hlt
    generalize hsum : sumS l = sm at *
    generalize hlenl : l.length = ll at *
    go_wp2_with fail
    refine HMp.out.mono ?_
    rintro e wm ⟨rfl, rfl⟩
    go_wp2_with fail
    refine HPg.out.mono ?_
    rintro e wm ⟨rfl, rfl⟩
    clear HMp HPg g5
    go_wp2_with fail
    go_loopw [59] (fun a wr => ∃ k : Nat, k ≤ β.μ.pages.length ∧ a = .int .i64 k ∧ Blk wr SB 36 [.int .u64 (H : Int), .int .u64 (sm : Nat), .int .i64 (ll : Nat), .int .i64 (freeN β k : Nat)] ∧ Touch Nothing w1 wr) (fun a _ => β.μ.pages.length - (intOf a).toNat)
    case atStart => exact ⟨0, by omega, rfl, HB.out, HTw.out⟩
    case round =>
     obtain ⟨k, hk, rfl, hB, hT⟩ := hrel
     have HB2 := Hd hB
     have HT2 := Hd hT
     clear hB hT
     by_cases hlt : k < β.μ.pages.length
     ·have hp : β.μ.pages[k]? = some β.μ.pages[k] := List.getElem?_eq_getElem hlt
      generalize β.μ.pages[k] = p at hp
      have HAt := Hd ((HR1.out.touch0 HT2.out).sl.po.bu.mp.at_ hp)
      have HF := Hd (show freeN β (k + 1) = freeN β k + if p.kind = 0 ∨ p.kind = 1 then 1 else 0 by
       show freeN β k + (if (β.μ.pages.getD k zeroPg).kind = 0 ∨ (β.μ.pages.getD k zeroPg).kind = 1 then 1 else 0) = _
       rw [List.getD_eq_getElem?_getD, hp]
       rfl)
      have hfl := freeN_le β k
      clear hp
      go_wp2_with fail
      refine HAt.out.mono ?_
      rintro e w3 ⟨rfl, T3⟩
      have hB3 := HB2.out.touch T3 (fun h => h)
      have c3 : w3.cell? ⟨SB, 3, none⟩ = some (.int .i64 (freeN β k : Nat)) := hB3.cell 3
      have f3 := hB3.free 3
      have hsb := hB3.lt
      have HB3 := Hd hB3
      have HT3 := Hd (HT2.out.trans T3)
      clear hB3 T3 HAt
      generalize freeN β k = fk at *
      unfold Pg.val
      by_cases h0 : p.kind = 0
      ·rw [if_pos (.inl h0)] at HF
       have e0 : (p.kind == 0) = true := by rw [h0]; rfl
       go_wp2_with fail
       go_roundw
       case rel =>
        refine ⟨k + 1, by omega, rfl, ?_, ?_⟩
        ·rw [HF.out, show ((fk + 1 : Nat) : Int) = (fk : Int) + 1 by omega]
         exact (HB3.out.set 3 (.int .i64 ((fk : Int) + 1))).alloc _
        ·exact (HT3.out.trans' (Touch.cellAt w3 SB 3 _) (fun j hj e => by subst e; exact absurd (Nat.lt_of_lt_of_le hj hSB) (Nat.lt_irrefl _))).alloc _
       case measure => simp [intOf]; omega
      ·by_cases h1 : p.kind = 1
       ·rw [if_pos (.inr h1)] at HF
        have e0 : (p.kind == 0) = false := by rw [h1]; rfl
        have e1 : (p.kind == 1) = true := by rw [h1]; rfl
        go_wp2_with fail
        go_roundw
        case rel =>
         refine ⟨k + 1, by omega, rfl, ?_, ?_⟩
         ·rw [HF.out, show ((fk + 1 : Nat) : Int) = (fk : Int) + 1 by omega]
          exact (HB3.out.set 3 (.int .i64 ((fk : Int) + 1))).alloc _
         ·exact (HT3.out.trans' (Touch.cellAt w3 SB 3 _) (fun j hj e => by subst e; exact absurd (Nat.lt_of_lt_of_le hj hSB) (Nat.lt_irrefl _))).alloc _
        case measure => simp [intOf]; omega
       ·rw [if_neg (fun h => h.elim h0 h1)] at HF
        have e0 : (p.kind == 0) = false := by rw [beq_eq_false_iff_ne]; exact h0
        have e1 : (p.kind == 1) = false := by rw [beq_eq_false_iff_ne]; exact h1
        go_wp2_with fail
        go_roundw
        case rel =>
         refine ⟨k + 1, by omega, rfl, ?_, ?_⟩
         ·rw [HF.out]
          exact HB3.out.alloc _
         ·exact HT3.out.alloc _
        case measure => simp [intOf]; omega
     ·obtain rfl : k = β.μ.pages.length := by omega
      have s0 : wr.cell? ⟨SB, 0, none⟩ = some (.int .u64 (H : Int)) := HB2.out.cell 0
      have s1 : wr.cell? ⟨SB, 1, none⟩ = some (.int .u64 (sm : Nat)) := HB2.out.cell 1
      have s2 : wr.cell? ⟨SB, 2, none⟩ = some (.int .i64 (ll : Nat)) := HB2.out.cell 2
      have s3 : wr.cell? ⟨SB, 3, none⟩ = some (.int .i64 (freeN β β.μ.pages.length : Nat)) := HB2.out.cell 3
      have hrb : w.heap.size ≠ hb := fun e => HRB.out (by rw [e]; simp)
      have hBr : Blk wr w.heap.size 36 [.int .u64 0, .int .u64 0, .int .i64 0, .int .i64 0] := by
       have h1 : Blk w1 w.heap.size 36 [.int .u64 0, .int .u64 0, .int .i64 0, .int .i64 0] := by
        rw [← HW1.out]
        exact HB0.out.other (fun e => hrb e.symm) _
       exact h1.touch HT2.out (fun h => h)
      have q0 := hBr.cell 0
      have q1 := hBr.cell 1
      have q2 := hBr.cell 2
      have q3 := hBr.cell 3
      simp only [List.getElem?_cons_zero, List.getElem?_cons_succ] at q0 q1 q2 q3
      have p0 := hBr.free 0
      have p1 := hBr.free 1
      have p2 := hBr.free 2
      have p3 := hBr.free 3
      have HBr := Hd hBr
      clear hBr
      go_wp2_with fail
      have BZ := (((HBr.out.set 0 (.int .u64 (H : Int))).set 1 (.int .u64 (sm : Nat))).set 2 (.int .i64 (ll : Nat))).set 3 (.int .i64 (freeN β β.μ.pages.length : Nat))
      have TZ : Touch (fun k => k = w.heap.size) wr _ := (((Touch.cellAt wr w.heap.size 0 (.int .u64 (H : Int))).trans (Touch.cellAt _ w.heap.size 1 (.int .u64 (sm : Nat)))).trans (Touch.cellAt _ w.heap.size 2 (.int .i64 (ll : Nat)))).trans (Touch.cellAt _ w.heap.size 3 (.int .i64 (freeN β β.μ.pages.length : Nat)))
      generalize (((wr.setCell ⟨w.heap.size, 0, none⟩ (.int .u64 (H : Int))).setCell ⟨w.heap.size, 1, none⟩ (.int .u64 (sm : Nat))).setCell ⟨w.heap.size, 2, none⟩ (.int .i64 (ll : Nat))).setCell ⟨w.heap.size, 3, none⟩ (.int .i64 (freeN β β.μ.pages.length : Nat)) = wz at *
      have TZ1 : Touch (fun k => k = w.heap.size) w1 wz := HT2.out.none_.trans TZ
      have RZ : HpRep 1 wz hb s pb K β ps := HR1.out.touch TZ1 (fun k hk e => HRB.out (e ▸ hk)) (fun k hk e => by have := HRl.out.glob.size; omega)
      have hm := RZ.cells.1
      have fm := RZ.cells.2.2.2.2.2
      have b0 : wz.cell? ⟨w.heap.size, 0, none⟩ = some (.int .u64 (H : Int)) := BZ.cell 0
      have b1 : wz.cell? ⟨w.heap.size, 1, none⟩ = some (.int .u64 (sm : Nat)) := BZ.cell 1
      have b2 : wz.cell? ⟨w.heap.size, 2, none⟩ = some (.int .i64 (ll : Nat)) := BZ.cell 2
      have b3 : wz.cell? ⟨w.heap.size, 3, none⟩ = some (.int .i64 (freeN β β.μ.pages.length : Nat)) := BZ.cell 3
      refine leaves_cons (f := 59) (args := #[.pointer (some ⟨hb, 0, none⟩)]) (by simp) (by simp [go_sem]) ?_
      refine (unlock_deferred Tryz.muLib ⟨hb, 0, none⟩ .returning _ hm fm).mono ?_
      rintro e u' w'' ⟨rfl, rfl, rfl⟩
      have BZ' := BZ.other (p := ⟨hb, 0, none⟩) (fun e => hrb e.symm) (.int .i32 0)
      have z0 : (wz.setCell ⟨hb, 0, none⟩ (.int .i32 0)).cell? ⟨w.heap.size, 0, none⟩ = some (.int .u64 (H : Int)) := BZ'.cell 0
      have z1 : (wz.setCell ⟨hb, 0, none⟩ (.int .i32 0)).cell? ⟨w.heap.size, 1, none⟩ = some (.int .u64 (sm : Nat)) := BZ'.cell 1
      have z2 : (wz.setCell ⟨hb, 0, none⟩ (.int .i32 0)).cell? ⟨w.heap.size, 2, none⟩ = some (.int .i64 (ll : Nat)) := BZ'.cell 2
      have z3 : (wz.setCell ⟨hb, 0, none⟩ (.int .i32 0)).cell? ⟨w.heap.size, 3, none⟩ = some (.int .i64 (freeN β β.μ.pages.length : Nat)) := BZ'.cell 3
      refine ⟨.agg #[.int .u64 (H : Int), .int .u64 (sm : Nat), .int .i64 (ll : Nat), .int .i64 (freeN β β.μ.pages.length : Nat)], ?_, ?_, RZ.locked 0, ?_⟩
      ·simp [results, Tryz.results26, go_sem, z0, z1, z2, z3]
      ·rw [HH.out]
      ·have t1 : Touch (· = hb) w w1 := by
        rw [← HW1.out]
        exact HT0.out.none_.trans (Touch.cellAt w0 hb 0 _)
       exact (t1.trans' TZ1 (fun k hk e => by omega)).trans (Touch.cellAt wz hb 0 _)
end Go.Proofs.YtnjcmcnjgdjbiaaGreatDoor
namespace Go.Proofs.YtnjcmcnjgdjbiaaGreatDoor
open Go.RowKit
theorem one_none_t {w : World} (hb q : Nat) (c : CallV) (av : Value)
  (hop : opTab.reverse.find? (fun p => p.1 == c.op) = none) (hwf : (Lit.int .i64 c.op).wf = true)
  (HAd : Hid (∀ W, Touch Nothing w W → Calls Tryz.prog 38 #[c.val, av] W fun e w' => e = .returned (.tuple #[.int .u64 q, .bool true]) ∧ Touch Nothing W w')) :
  Calls Tryz.prog 22 #[.pointer (some ⟨hb, 0, none⟩), c.val, av] w (Done w fun an W W1 => an = errAns 1 ∧ Touch Nothing W W1) := by
 obtain ⟨op, ref, p, a, b, deny, dp, dn, dc⟩ := c
 have HOp := Hd (show opTab.reverse.find? (fun p => p.1 == op) = none from hop)
 have HWf := Hd (show (Lit.int .i64 op).wf = true from hwf)
 clear hop hwf
 unfold CallV.val at *
 go_enter Tryz.func22, Tryz.ntmps22
 go_wp2_with fail
 refine (HAd.out _ (((Touch.refl _ w).alloc _).alloc _)).mono ?_
 rintro e w1 ⟨rfl, T1⟩
 have B0 := (((Blk.new w #[.int .i64 op, .int .i64 ref, .int .u64 p, .int .u64 a, .int .u64 b, .bool deny, .slice dp dn dc] 43).alloc (.cells #[.int .i64 0, .int .u64 0, .slice none 0 0, .int .u64 0, .int .u64 0, .int .i64 0, .int .i64 0] 38)).touch T1 (fun h => h))
 have R0 := ((Blk.new (w.alloc (.cells #[.int .i64 op, .int .i64 ref, .int .u64 p, .int .u64 a, .int .u64 b, .bool deny, .slice dp dn dc] 43)) #[.int .i64 0, .int .u64 0, .slice none 0 0, .int .u64 0, .int .u64 0, .int .i64 0, .int .i64 0] 38).touch T1 (fun h => h))
 have hsz : (w.alloc (.cells #[.int .i64 op, .int .i64 ref, .int .u64 p, .int .u64 a, .int .u64 b, .bool deny, .slice dp dn dc] 43)).heap.size = w.heap.size + 1 := by simp
 rw [hsz] at R0
 have HT1 := Hd ((((Touch.refl Nothing w).alloc (.cells #[.int .i64 op, .int .i64 ref, .int .u64 p, .int .u64 a, .int .u64 b, .bool deny, .slice dp dn dc] 43)).alloc (.cells #[.int .i64 0, .int .u64 0, .slice none 0 0, .int .u64 0, .int .u64 0, .int .i64 0, .int .i64 0] 38)).trans T1)
 have k0 : w1.cell? ⟨w.heap.size, 0, none⟩ = some (.int .i64 op) := B0.cell 0
 have k1 : w1.cell? ⟨w.heap.size, 1, none⟩ = some (.int .i64 ref) := B0.cell 1
 have k2 : w1.cell? ⟨w.heap.size, 2, none⟩ = some (.int .u64 p) := B0.cell 2
 have k3 : w1.cell? ⟨w.heap.size, 3, none⟩ = some (.int .u64 a) := B0.cell 3
 have k4 : w1.cell? ⟨w.heap.size, 4, none⟩ = some (.int .u64 b) := B0.cell 4
 have k5 : w1.cell? ⟨w.heap.size, 5, none⟩ = some (.bool deny) := B0.cell 5
 have k6 : w1.cell? ⟨w.heap.size, 6, none⟩ = some (.slice dp dn dc) := B0.cell 6
 have HB0 := Hd B0
 have HR0 := Hd R0
 clear B0 R0 T1 hsz
 have HNe0 := Hd (show ¬ (w.heap.size = w1.heap.size + 1) by have := HB0.out.lt; omega)
 have hmm := @run_makeMap Tryz.prog
 have hmf : ∀ (fn : Fn) (first cap : Array Value) (w : World), (Instr.makeFunc fn first cap).run Tryz.prog w = .ok (.func fn first cap) w := fun _ _ _ _ => rfl
 have HM := Hd (FnMap.made (w1.alloc (.cells #[.pointer (some ⟨hb, 0, none⟩), .int .u64 q, .int .i64 op, .int .i64 ref, .int .u64 p, .int .u64 a, .int .u64 b, .bool deny, .slice dp dn dc] 103)) (.agg #[.pointer (some ⟨hb, 0, none⟩), .int .u64 q, .int .i64 op, .int .i64 ref, .int .u64 p, .int .u64 a, .int .u64 b, .bool deny, .slice dp dn dc]))
 have HBd := Hd ((Blk.new w1 #[.pointer (some ⟨hb, 0, none⟩), .int .u64 q, .int .i64 op, .int .i64 ref, .int .u64 p, .int .u64 a, .int .u64 b, .bool deny, .slice dp dn dc] 103).alloc (.map #[] 0))
 have TT : Touch Nothing w1 ((w1.alloc (.cells #[.pointer (some ⟨hb, 0, none⟩), .int .u64 q, .int .i64 op, .int .i64 ref, .int .u64 p, .int .u64 a, .int .u64 b, .bool deny, .slice dp dn dc] 103)).alloc (.map #[] 0)) := ((Touch.refl Nothing w1).alloc _).alloc _
 have HTT := Hd TT
 have HT := Hd (Touch.refl (· = w1.heap.size + 1) ((w1.alloc (.cells #[.pointer (some ⟨hb, 0, none⟩), .int .u64 q, .int .i64 op, .int .i64 ref, .int .u64 p, .int .u64 a, .int .u64 b, .bool deny, .slice dp dn dc] 103)).alloc (.map #[] 0)))
 have HNe := Hd (show ¬ (w1.heap.size = w1.heap.size + 1) by omega)
 have hsz1 : (w1.alloc (.cells #[.pointer (some ⟨hb, 0, none⟩), .int .u64 q, .int .i64 op, .int .i64 ref, .int .u64 p, .int .u64 a, .int .u64 b, .bool deny, .slice dp dn dc] 103)).heap.size = w1.heap.size + 1 := by simp
 rw [hsz1] at HM
 have d0 : True := trivial
 have d1 : True := trivial
 have d2 : True := trivial
 have d3 : True := trivial
 have d4 : True := trivial
 have d5 : True := trivial
 have d6 : True := trivial
 have d7 : True := trivial
 have d8 : True := trivial
 have d9 : True := trivial
 clear TT hsz1
 go_upto_region 5 with (first | (refine wpList_lookup_away rfl _ _ rfl _ _ _ rfl HM.out op rfl HWf.out HOp.out ?_) | (refine wpList_insert_fn rfl _ _ _ rfl _ _ _ rfl HM.out (by decide) _ _ rfl (by decide) rfl ?_; intro w9 hown hgrow; have X := And.intro (Hd hown) (Hd (HT.out.trans (Touch.of_grown hgrow (fun k hk => (Option.some.inj hk).symm)))); clear HM HT d9 d0 d1 d2 d3 d4 d5 d6 d7 d8 hown hgrow; obtain ⟨HM, HT⟩ := X; have d0 : World.cell? _ ⟨w1.heap.size, 0, none⟩ = some (.pointer (some ⟨hb, 0, none⟩)) := (HBd.out.touch HT.out HNe.out).cell 0; have d1 : World.cell? _ ⟨w1.heap.size, 1, none⟩ = some (.int .u64 q) := (HBd.out.touch HT.out HNe.out).cell 1; have d2 : World.cell? _ ⟨w1.heap.size, 2, none⟩ = some (.int .i64 op) := (HBd.out.touch HT.out HNe.out).cell 2; have d3 : World.cell? _ ⟨w1.heap.size, 3, none⟩ = some (.int .i64 ref) := (HBd.out.touch HT.out HNe.out).cell 3; have d4 : World.cell? _ ⟨w1.heap.size, 4, none⟩ = some (.int .u64 p) := (HBd.out.touch HT.out HNe.out).cell 4; have d5 : World.cell? _ ⟨w1.heap.size, 5, none⟩ = some (.int .u64 a) := (HBd.out.touch HT.out HNe.out).cell 5; have d6 : World.cell? _ ⟨w1.heap.size, 6, none⟩ = some (.int .u64 b) := (HBd.out.touch HT.out HNe.out).cell 6; have d7 : World.cell? _ ⟨w1.heap.size, 7, none⟩ = some (.bool deny) := (HBd.out.touch HT.out HNe.out).cell 7; have d8 : World.cell? _ ⟨w1.heap.size, 8, none⟩ = some (.slice dp dn dc) := (HBd.out.touch HT.out HNe.out).cell 8; have d9 : World.cell? _ ⟨w.heap.size, 0, none⟩ = some (.int .i64 op) := ((HB0.out.touch HTT.out (fun h => h)).touch HT.out HNe0.out).cell 0))
 have hsw := HT1.out.size
 have HT9 := Hd ((HT1.out.trans HTT.out).trans' HT.out (fun i hi e => by omega))
 have R9 := (((HR0.out.touch HTT.out (fun h => h))).touch HT.out (show ¬ (w.heap.size + 1 = w1.heap.size + 1) by have := HR0.out.lt; omega))
 have HR9 := Hd R9
 obtain ⟨z0, f0, z1, f1, z2, f2, z3, f3, z4, f4, z5, f5, z6, f6⟩ := R9.all7
 have HR11 := Hd (((((((R9.set 0 (.int .i64 1)).set 1 (.int .u64 0)).set 2 (.slice none 0 0)).set 3 (.int .u64 0)).set 4 (.int .u64 0)).set 5 (.int .i64 0)).set 6 (.int .i64 0))
 clear hsw d0 d1 d2 d3 d4 d5 d6 d7 d8 d9 k0 k1 k2 k3 k4 k5 k6 R9
 go_wp2_with fail
 obtain ⟨y0, y1, y2, y3, y4, y5, y6⟩ := ans7 HR11.out
 exact bodyPost_ret (v := .agg #[.int .i64 1, .int .u64 0, .slice none 0 0, .int .u64 0, .int .u64 0, .int .i64 0, .int .i64 0]) (by simp [results, Tryz.results22, go_sem, y0, y1, y2, y3, y4, y5, y6]) rfl ⟨errAns 1, rfl, _, _, w.heap.size + 1, HT9.out, ⟨rfl, Touch.refl _ _⟩, by omega, HR9.out.lt, laid7_touch _ _ (errAns 1)⟩
theorem one_none_f {w : World} (hb q : Nat) (c : CallV) (av : Value)
  (hop : opTab.reverse.find? (fun p => p.1 == c.op) = none) (hwf : (Lit.int .i64 c.op).wf = true)
  (HAd : Hid (∀ W, Touch Nothing w W → Calls Tryz.prog 38 #[c.val, av] W fun e w' => e = .returned (.tuple #[.int .u64 q, .bool false]) ∧ Touch Nothing W w')) :
  Calls Tryz.prog 22 #[.pointer (some ⟨hb, 0, none⟩), c.val, av] w (Done w fun an W W1 => an = errAns 1 ∧ Touch Nothing W W1) := by
 obtain ⟨op, ref, p, a, b, deny, dp, dn, dc⟩ := c
 have HOp := Hd (show opTab.reverse.find? (fun p => p.1 == op) = none from hop)
 have HWf := Hd (show (Lit.int .i64 op).wf = true from hwf)
 clear hop hwf
 unfold CallV.val at *
 go_enter Tryz.func22, Tryz.ntmps22
 go_wp2_with fail
 refine (HAd.out _ (((Touch.refl _ w).alloc _).alloc _)).mono ?_
 rintro e w1 ⟨rfl, T1⟩
 have B0 := (((Blk.new w #[.int .i64 op, .int .i64 ref, .int .u64 p, .int .u64 a, .int .u64 b, .bool deny, .slice dp dn dc] 43).alloc (.cells #[.int .i64 0, .int .u64 0, .slice none 0 0, .int .u64 0, .int .u64 0, .int .i64 0, .int .i64 0] 38)).touch T1 (fun h => h))
 have R0 := ((Blk.new (w.alloc (.cells #[.int .i64 op, .int .i64 ref, .int .u64 p, .int .u64 a, .int .u64 b, .bool deny, .slice dp dn dc] 43)) #[.int .i64 0, .int .u64 0, .slice none 0 0, .int .u64 0, .int .u64 0, .int .i64 0, .int .i64 0] 38).touch T1 (fun h => h))
 have hsz : (w.alloc (.cells #[.int .i64 op, .int .i64 ref, .int .u64 p, .int .u64 a, .int .u64 b, .bool deny, .slice dp dn dc] 43)).heap.size = w.heap.size + 1 := by simp
 rw [hsz] at R0
 have HT1 := Hd ((((Touch.refl Nothing w).alloc (.cells #[.int .i64 op, .int .i64 ref, .int .u64 p, .int .u64 a, .int .u64 b, .bool deny, .slice dp dn dc] 43)).alloc (.cells #[.int .i64 0, .int .u64 0, .slice none 0 0, .int .u64 0, .int .u64 0, .int .i64 0, .int .i64 0] 38)).trans T1)
 have k0 : w1.cell? ⟨w.heap.size, 0, none⟩ = some (.int .i64 op) := B0.cell 0
 have k1 : w1.cell? ⟨w.heap.size, 1, none⟩ = some (.int .i64 ref) := B0.cell 1
 have k2 : w1.cell? ⟨w.heap.size, 2, none⟩ = some (.int .u64 p) := B0.cell 2
 have k3 : w1.cell? ⟨w.heap.size, 3, none⟩ = some (.int .u64 a) := B0.cell 3
 have k4 : w1.cell? ⟨w.heap.size, 4, none⟩ = some (.int .u64 b) := B0.cell 4
 have k5 : w1.cell? ⟨w.heap.size, 5, none⟩ = some (.bool deny) := B0.cell 5
 have k6 : w1.cell? ⟨w.heap.size, 6, none⟩ = some (.slice dp dn dc) := B0.cell 6
 have HB0 := Hd B0
 have HR0 := Hd R0
 clear B0 R0 T1 hsz
 have HNe0 := Hd (show ¬ (w.heap.size = w1.heap.size + 1) by have := HB0.out.lt; omega)
 have hmm := @run_makeMap Tryz.prog
 have hmf : ∀ (fn : Fn) (first cap : Array Value) (w : World), (Instr.makeFunc fn first cap).run Tryz.prog w = .ok (.func fn first cap) w := fun _ _ _ _ => rfl
 have HM := Hd (FnMap.made (w1.alloc (.cells #[.pointer (some ⟨hb, 0, none⟩), .int .u64 q, .int .i64 op, .int .i64 ref, .int .u64 p, .int .u64 a, .int .u64 b, .bool deny, .slice dp dn dc] 103)) (.agg #[.pointer (some ⟨hb, 0, none⟩), .int .u64 q, .int .i64 op, .int .i64 ref, .int .u64 p, .int .u64 a, .int .u64 b, .bool deny, .slice dp dn dc]))
 have HBd := Hd ((Blk.new w1 #[.pointer (some ⟨hb, 0, none⟩), .int .u64 q, .int .i64 op, .int .i64 ref, .int .u64 p, .int .u64 a, .int .u64 b, .bool deny, .slice dp dn dc] 103).alloc (.map #[] 0))
 have TT : Touch Nothing w1 ((w1.alloc (.cells #[.pointer (some ⟨hb, 0, none⟩), .int .u64 q, .int .i64 op, .int .i64 ref, .int .u64 p, .int .u64 a, .int .u64 b, .bool deny, .slice dp dn dc] 103)).alloc (.map #[] 0)) := ((Touch.refl Nothing w1).alloc _).alloc _
 have HTT := Hd TT
 have HT := Hd (Touch.refl (· = w1.heap.size + 1) ((w1.alloc (.cells #[.pointer (some ⟨hb, 0, none⟩), .int .u64 q, .int .i64 op, .int .i64 ref, .int .u64 p, .int .u64 a, .int .u64 b, .bool deny, .slice dp dn dc] 103)).alloc (.map #[] 0)))
 have HNe := Hd (show ¬ (w1.heap.size = w1.heap.size + 1) by omega)
 have hsz1 : (w1.alloc (.cells #[.pointer (some ⟨hb, 0, none⟩), .int .u64 q, .int .i64 op, .int .i64 ref, .int .u64 p, .int .u64 a, .int .u64 b, .bool deny, .slice dp dn dc] 103)).heap.size = w1.heap.size + 1 := by simp
 rw [hsz1] at HM
 have d0 : True := trivial
 have d1 : True := trivial
 have d2 : True := trivial
 have d3 : True := trivial
 have d4 : True := trivial
 have d5 : True := trivial
 have d6 : True := trivial
 have d7 : True := trivial
 have d8 : True := trivial
 have d9 : True := trivial
 clear TT hsz1
 go_upto_region 5 with (first | (refine wpList_lookup_away rfl _ _ rfl _ _ _ rfl HM.out op rfl HWf.out HOp.out ?_) | (refine wpList_insert_fn rfl _ _ _ rfl _ _ _ rfl HM.out (by decide) _ _ rfl (by decide) rfl ?_; intro w9 hown hgrow; have X := And.intro (Hd hown) (Hd (HT.out.trans (Touch.of_grown hgrow (fun k hk => (Option.some.inj hk).symm)))); clear HM HT d9 d0 d1 d2 d3 d4 d5 d6 d7 d8 hown hgrow; obtain ⟨HM, HT⟩ := X; have d0 : World.cell? _ ⟨w1.heap.size, 0, none⟩ = some (.pointer (some ⟨hb, 0, none⟩)) := (HBd.out.touch HT.out HNe.out).cell 0; have d1 : World.cell? _ ⟨w1.heap.size, 1, none⟩ = some (.int .u64 q) := (HBd.out.touch HT.out HNe.out).cell 1; have d2 : World.cell? _ ⟨w1.heap.size, 2, none⟩ = some (.int .i64 op) := (HBd.out.touch HT.out HNe.out).cell 2; have d3 : World.cell? _ ⟨w1.heap.size, 3, none⟩ = some (.int .i64 ref) := (HBd.out.touch HT.out HNe.out).cell 3; have d4 : World.cell? _ ⟨w1.heap.size, 4, none⟩ = some (.int .u64 p) := (HBd.out.touch HT.out HNe.out).cell 4; have d5 : World.cell? _ ⟨w1.heap.size, 5, none⟩ = some (.int .u64 a) := (HBd.out.touch HT.out HNe.out).cell 5; have d6 : World.cell? _ ⟨w1.heap.size, 6, none⟩ = some (.int .u64 b) := (HBd.out.touch HT.out HNe.out).cell 6; have d7 : World.cell? _ ⟨w1.heap.size, 7, none⟩ = some (.bool deny) := (HBd.out.touch HT.out HNe.out).cell 7; have d8 : World.cell? _ ⟨w1.heap.size, 8, none⟩ = some (.slice dp dn dc) := (HBd.out.touch HT.out HNe.out).cell 8; have d9 : World.cell? _ ⟨w.heap.size, 0, none⟩ = some (.int .i64 op) := ((HB0.out.touch HTT.out (fun h => h)).touch HT.out HNe0.out).cell 0))
 have hsw := HT1.out.size
 have HT9 := Hd ((HT1.out.trans HTT.out).trans' HT.out (fun i hi e => by omega))
 have R9 := (((HR0.out.touch HTT.out (fun h => h))).touch HT.out (show ¬ (w.heap.size + 1 = w1.heap.size + 1) by have := HR0.out.lt; omega))
 have HR9 := Hd R9
 obtain ⟨z0, f0, z1, f1, z2, f2, z3, f3, z4, f4, z5, f5, z6, f6⟩ := R9.all7
 have HR11 := Hd (((((((R9.set 0 (.int .i64 1)).set 1 (.int .u64 0)).set 2 (.slice none 0 0)).set 3 (.int .u64 0)).set 4 (.int .u64 0)).set 5 (.int .i64 0)).set 6 (.int .i64 0))
 clear hsw d0 d1 d2 d3 d4 d5 d6 d7 d8 d9 k0 k1 k2 k3 k4 k5 k6 R9
 go_wp2_with fail
 obtain ⟨y0, y1, y2, y3, y4, y5, y6⟩ := ans7 HR11.out
 exact bodyPost_ret (v := .agg #[.int .i64 1, .int .u64 0, .slice none 0 0, .int .u64 0, .int .u64 0, .int .i64 0, .int .i64 0]) (by simp [results, Tryz.results22, go_sem, y0, y1, y2, y3, y4, y5, y6]) rfl ⟨errAns 1, rfl, _, _, w.heap.size + 1, HT9.out, ⟨rfl, Touch.refl _ _⟩, by omega, HR9.out.lt, laid7_touch _ _ (errAns 1)⟩
theorem one_off {w : World} (hb q : Nat) (c : CallV) (av : Value)
  (f : Nat) (hop : (opTab.reverse.find? (fun p => p.1 == c.op)).map Prod.snd = some f) (hwf : (Lit.int .i64 c.op).wf = true)
  (HAd : Hid (∀ W, Touch Nothing w W → Calls Tryz.prog 38 #[c.val, av] W fun e w' => e = .returned (.tuple #[.int .u64 q, .bool false]) ∧ Touch Nothing W w')) :
  Calls Tryz.prog 22 #[.pointer (some ⟨hb, 0, none⟩), c.val, av] w (Done w fun an W W1 => an = errAns 1 ∧ Touch Nothing W W1) := by
 obtain ⟨op, ref, p, a, b, deny, dp, dn, dc⟩ := c
 have HOp := Hd (show (opTab.reverse.find? (fun p => p.1 == op)).map Prod.snd = some f from hop)
 have HWf := Hd (show (Lit.int .i64 op).wf = true from hwf)
 clear hop hwf
 unfold CallV.val at *
 go_enter Tryz.func22, Tryz.ntmps22
 go_wp2_with fail
 refine (HAd.out _ (((Touch.refl _ w).alloc _).alloc _)).mono ?_
 rintro e w1 ⟨rfl, T1⟩
 have B0 := (((Blk.new w #[.int .i64 op, .int .i64 ref, .int .u64 p, .int .u64 a, .int .u64 b, .bool deny, .slice dp dn dc] 43).alloc (.cells #[.int .i64 0, .int .u64 0, .slice none 0 0, .int .u64 0, .int .u64 0, .int .i64 0, .int .i64 0] 38)).touch T1 (fun h => h))
 have R0 := ((Blk.new (w.alloc (.cells #[.int .i64 op, .int .i64 ref, .int .u64 p, .int .u64 a, .int .u64 b, .bool deny, .slice dp dn dc] 43)) #[.int .i64 0, .int .u64 0, .slice none 0 0, .int .u64 0, .int .u64 0, .int .i64 0, .int .i64 0] 38).touch T1 (fun h => h))
 have hsz : (w.alloc (.cells #[.int .i64 op, .int .i64 ref, .int .u64 p, .int .u64 a, .int .u64 b, .bool deny, .slice dp dn dc] 43)).heap.size = w.heap.size + 1 := by simp
 rw [hsz] at R0
 have HT1 := Hd ((((Touch.refl Nothing w).alloc (.cells #[.int .i64 op, .int .i64 ref, .int .u64 p, .int .u64 a, .int .u64 b, .bool deny, .slice dp dn dc] 43)).alloc (.cells #[.int .i64 0, .int .u64 0, .slice none 0 0, .int .u64 0, .int .u64 0, .int .i64 0, .int .i64 0] 38)).trans T1)
 have k0 : w1.cell? ⟨w.heap.size, 0, none⟩ = some (.int .i64 op) := B0.cell 0
 have k1 : w1.cell? ⟨w.heap.size, 1, none⟩ = some (.int .i64 ref) := B0.cell 1
 have k2 : w1.cell? ⟨w.heap.size, 2, none⟩ = some (.int .u64 p) := B0.cell 2
 have k3 : w1.cell? ⟨w.heap.size, 3, none⟩ = some (.int .u64 a) := B0.cell 3
 have k4 : w1.cell? ⟨w.heap.size, 4, none⟩ = some (.int .u64 b) := B0.cell 4
 have k5 : w1.cell? ⟨w.heap.size, 5, none⟩ = some (.bool deny) := B0.cell 5
 have k6 : w1.cell? ⟨w.heap.size, 6, none⟩ = some (.slice dp dn dc) := B0.cell 6
 have HB0 := Hd B0
 have HR0 := Hd R0
 clear B0 R0 T1 hsz
 have HNe0 := Hd (show ¬ (w.heap.size = w1.heap.size + 1) by have := HB0.out.lt; omega)
 have hmm := @run_makeMap Tryz.prog
 have hmf : ∀ (fn : Fn) (first cap : Array Value) (w : World), (Instr.makeFunc fn first cap).run Tryz.prog w = .ok (.func fn first cap) w := fun _ _ _ _ => rfl
 have HM := Hd (FnMap.made (w1.alloc (.cells #[.pointer (some ⟨hb, 0, none⟩), .int .u64 q, .int .i64 op, .int .i64 ref, .int .u64 p, .int .u64 a, .int .u64 b, .bool deny, .slice dp dn dc] 103)) (.agg #[.pointer (some ⟨hb, 0, none⟩), .int .u64 q, .int .i64 op, .int .i64 ref, .int .u64 p, .int .u64 a, .int .u64 b, .bool deny, .slice dp dn dc]))
 have HBd := Hd ((Blk.new w1 #[.pointer (some ⟨hb, 0, none⟩), .int .u64 q, .int .i64 op, .int .i64 ref, .int .u64 p, .int .u64 a, .int .u64 b, .bool deny, .slice dp dn dc] 103).alloc (.map #[] 0))
 have TT : Touch Nothing w1 ((w1.alloc (.cells #[.pointer (some ⟨hb, 0, none⟩), .int .u64 q, .int .i64 op, .int .i64 ref, .int .u64 p, .int .u64 a, .int .u64 b, .bool deny, .slice dp dn dc] 103)).alloc (.map #[] 0)) := ((Touch.refl Nothing w1).alloc _).alloc _
 have HTT := Hd TT
 have HT := Hd (Touch.refl (· = w1.heap.size + 1) ((w1.alloc (.cells #[.pointer (some ⟨hb, 0, none⟩), .int .u64 q, .int .i64 op, .int .i64 ref, .int .u64 p, .int .u64 a, .int .u64 b, .bool deny, .slice dp dn dc] 103)).alloc (.map #[] 0)))
 have HNe := Hd (show ¬ (w1.heap.size = w1.heap.size + 1) by omega)
 have hsz1 : (w1.alloc (.cells #[.pointer (some ⟨hb, 0, none⟩), .int .u64 q, .int .i64 op, .int .i64 ref, .int .u64 p, .int .u64 a, .int .u64 b, .bool deny, .slice dp dn dc] 103)).heap.size = w1.heap.size + 1 := by simp
 rw [hsz1] at HM
 have d0 : True := trivial
 have d1 : True := trivial
 have d2 : True := trivial
 have d3 : True := trivial
 have d4 : True := trivial
 have d5 : True := trivial
 have d6 : True := trivial
 have d7 : True := trivial
 have d8 : True := trivial
 have d9 : True := trivial
 clear TT hsz1
 go_upto_region 5 with (first | (refine wpList_lookup_there rfl _ _ rfl _ _ _ rfl HM.out op rfl HWf.out f HOp.out ?_) | (refine wpList_insert_fn rfl _ _ _ rfl _ _ _ rfl HM.out (by decide) _ _ rfl (by decide) rfl ?_; intro w9 hown hgrow; have X := And.intro (Hd hown) (Hd (HT.out.trans (Touch.of_grown hgrow (fun k hk => (Option.some.inj hk).symm)))); clear HM HT d9 d0 d1 d2 d3 d4 d5 d6 d7 d8 hown hgrow; obtain ⟨HM, HT⟩ := X; have d0 : World.cell? _ ⟨w1.heap.size, 0, none⟩ = some (.pointer (some ⟨hb, 0, none⟩)) := (HBd.out.touch HT.out HNe.out).cell 0; have d1 : World.cell? _ ⟨w1.heap.size, 1, none⟩ = some (.int .u64 q) := (HBd.out.touch HT.out HNe.out).cell 1; have d2 : World.cell? _ ⟨w1.heap.size, 2, none⟩ = some (.int .i64 op) := (HBd.out.touch HT.out HNe.out).cell 2; have d3 : World.cell? _ ⟨w1.heap.size, 3, none⟩ = some (.int .i64 ref) := (HBd.out.touch HT.out HNe.out).cell 3; have d4 : World.cell? _ ⟨w1.heap.size, 4, none⟩ = some (.int .u64 p) := (HBd.out.touch HT.out HNe.out).cell 4; have d5 : World.cell? _ ⟨w1.heap.size, 5, none⟩ = some (.int .u64 a) := (HBd.out.touch HT.out HNe.out).cell 5; have d6 : World.cell? _ ⟨w1.heap.size, 6, none⟩ = some (.int .u64 b) := (HBd.out.touch HT.out HNe.out).cell 6; have d7 : World.cell? _ ⟨w1.heap.size, 7, none⟩ = some (.bool deny) := (HBd.out.touch HT.out HNe.out).cell 7; have d8 : World.cell? _ ⟨w1.heap.size, 8, none⟩ = some (.slice dp dn dc) := (HBd.out.touch HT.out HNe.out).cell 8; have d9 : World.cell? _ ⟨w.heap.size, 0, none⟩ = some (.int .i64 op) := ((HB0.out.touch HTT.out (fun h => h)).touch HT.out HNe0.out).cell 0))
 have hsw := HT1.out.size
 have HT9 := Hd ((HT1.out.trans HTT.out).trans' HT.out (fun i hi e => by omega))
 have R9 := (((HR0.out.touch HTT.out (fun h => h))).touch HT.out (show ¬ (w.heap.size + 1 = w1.heap.size + 1) by have := HR0.out.lt; omega))
 have HR9 := Hd R9
 obtain ⟨z0, f0, z1, f1, z2, f2, z3, f3, z4, f4, z5, f5, z6, f6⟩ := R9.all7
 have HR11 := Hd (((((((R9.set 0 (.int .i64 1)).set 1 (.int .u64 0)).set 2 (.slice none 0 0)).set 3 (.int .u64 0)).set 4 (.int .u64 0)).set 5 (.int .i64 0)).set 6 (.int .i64 0))
 clear hsw d0 d1 d2 d3 d4 d5 d6 d7 d8 d9 k0 k1 k2 k3 k4 k5 k6 R9
 go_wp2_with fail
 obtain ⟨y0, y1, y2, y3, y4, y5, y6⟩ := ans7 HR11.out
 exact bodyPost_ret (v := .agg #[.int .i64 1, .int .u64 0, .slice none 0 0, .int .u64 0, .int .u64 0, .int .i64 0, .int .i64 0]) (by simp [results, Tryz.results22, go_sem, y0, y1, y2, y3, y4, y5, y6]) rfl ⟨errAns 1, rfl, _, _, w.heap.size + 1, HT9.out, ⟨rfl, Touch.refl _ _⟩, by omega, HR9.out.lt, laid7_touch _ _ (errAns 1)⟩
end Go.Proofs.YtnjcmcnjgdjbiaaGreatDoor
