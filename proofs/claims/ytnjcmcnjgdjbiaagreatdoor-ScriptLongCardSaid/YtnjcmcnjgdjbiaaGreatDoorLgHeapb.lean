/- Package malloc, sixth part: within, Read, Write, Load, Store. Package malloc, seventh part: Read, Write, Load, Store. Package malloc, eighth part: Write, Load, Store, Free of nothing, UsableSize of no block. Package malloc, ninth part: Load, Store, Free of nothing, UsableSize of no block, Calloc. Package malloc, tenth part: Calloc. Package malloc, eleventh part: New. -/
import Derived.Test.YtnjcmcnjgdjbiaaGreatDoorLgHeap
namespace Go.Proofs.YtnjcmcnjgdjbiaaGreatDoor
open Go.RowKit Go.MuLone

theorem within_no {w : World} (hb p n P size : Nat)
    (HB : Calls Tryz.prog 110 #[.pointer (some ⟨hb, 0, none⟩), .int .u64 p] w (Blocked w P size false)) :
    Calls Tryz.prog 66 #[.pointer (some ⟨hb, 0, none⟩), .int .u64 p, .int .u64 n] w fun e w' => e = .returned (.bool false) ∧ Touch Nothing w w' := by
  have H := Lib.hid HB
  clear HB
  go_enter Tryz.func66, Tryz.ntmps66
  go_wp2_with fail
  refine H.out.mono ?_
  rintro e w1 ⟨rfl, T1⟩
  have HT := Lib.hid T1
  clear T1
  go_wp2_with fail
  go_ret
  exact ⟨rfl, HT.out.alloc _⟩

theorem within_yes {w : World} (hb p n P size : Nat) (_h1 : P ≤ p) (h2 : p < P + size) (h3 : P + size ≤ 18446744073709551615)
    (HB : Calls Tryz.prog 110 #[.pointer (some ⟨hb, 0, none⟩), .int .u64 p] w (Blocked w P size true)) :
    Calls Tryz.prog 66 #[.pointer (some ⟨hb, 0, none⟩), .int .u64 p, .int .u64 n] w fun e w' => e = .returned (.bool (decide (n ≤ P + size - p))) ∧ Touch Nothing w w' := by
  have H := Lib.hid HB
  have hd : decide (n ≤ P + size - p) = decide ((n : Int) ≤ (P : Int) + size - p) := by rw [decide_eq_decide]; omega
  rw [hd]
  clear HB hd
  go_enter Tryz.func66, Tryz.ntmps66
  go_wp2_with fail
  refine H.out.mono ?_
  rintro e w1 ⟨rfl, T1⟩
  have HT := Lib.hid T1
  clear T1
  go_wp2_with fail
  go_ret
  exact ⟨by simp, HT.out.alloc _⟩

/-- n bytes from p on lie in one live cell of a slab page -/
theorem HpRep.within_slab {m : Int} {w : World} {hb s pb : Nat} {K : BuL} {β : Bu} {ps : List Int} (R : HpRep m w hb s pb K β ps) (p n i c : Nat) {pg : Pg} (h : InSlab β p i c pg) :
    Calls Tryz.prog 66 #[.pointer (some ⟨hb, 0, none⟩), .int .u64 p, .int .u64 n] w fun e w' => e = .returned (.bool (pg.bit (cellAt p c) && decide (n ≤ p / wdOf c * wdOf c + wdOf c - p))) ∧ Touch Nothing w w' := by
  have HB := R.block_slab p i c h
  obtain ⟨hc, hE, hi, hp, hcell, _⟩ := h.facts R.sl.po.bu.ok R.sl.po.bu.sp.ok R.sl.po.bu.mp.ok
  obtain ⟨w1, w2, w3, w4, w5, w6⟩ := wd_facts (show c < 8 by omega)
  cases hbit : pg.bit (cellAt p c) with
  | false =>
    rw [hbit] at HB
    exact within_no hb p n _ _ HB
  | true =>
    rw [hbit] at HB
    have h1 := Nat.div_mul_le_self p (wdOf c)
    have h2 := Nat.div_add_mod p (wdOf c)
    have h3 := Nat.mod_lt p (show 0 < wdOf c by omega)
    rw [Nat.mul_comm] at h2
    have hlt := (List.getElem?_eq_some_iff.1 h.page).1
    have htop := R.sl.po.bu.ok.addr_top R.sl.po.bu.sp.ok hlt
    have hat := h.at_
    have hlo := h.lo
    have hbase := R.sl.po.bu.ok.base
    refine (within_yes hb p n _ _ h1 (by omega) ?_ HB).mono ?_
    · unfold Bu.addr at htop
      have hm : p < β.σ.base + 4096 * i + 4096 := by omega
      omega
    · rintro e w' ⟨rfl, T⟩
      exact ⟨by simp, T⟩

end Go.Proofs.YtnjcmcnjgdjbiaaGreatDoor

namespace Go.Proofs.YtnjcmcnjgdjbiaaGreatDoor
open Go.RowKit Go.MuLone

/-- a method that turned the lock alone -/
def Looked (w : World) (hb s pb : Nat) (K : BuL) (β : Bu) (ps : List Int) (v : Value) (e : Ending) (w' : World) : Prop :=
  e = .returned v ∧ HpRep 0 w' hb s pb K β ps ∧ Touch (· = hb) w w'

theorem HpRep.relock {w w1 w2 : World} {hb s pb : Nat} {K : BuL} {β : Bu} {ps : List Int} {v : Value} (hw1 : w1 = w.setCell ⟨hb, 0, none⟩ (.int .i32 1)) (R1 : HpRep 1 w1 hb s pb K β ps) (T : Touch Nothing w1 w2) :
    Looked w hb s pb K β ps v (.returned v) (w2.setCell ⟨hb, 0, none⟩ (.int .i32 0)) := by
  subst hw1
  exact ⟨rfl, (R1.touch0 T).locked 0, ((Touch.cellAt w hb 0 _).trans T.none_).trans (Touch.cellAt w2 hb 0 _)⟩

set_option maxRecDepth 100000 in
theorem HpRep.read_fault {w : World} {hb s pb : Nat} {K : BuL} {β : Bu} {ps : List Int} (R : HpRep 0 w hb s pb K β ps) (p n : Nat) (hn : n ≠ 0)
    (HW : ∀ W, HpRep 1 W hb s pb K β ps → Calls Tryz.prog 66 #[.pointer (some ⟨hb, 0, none⟩), .int .u64 p, .int .u64 n] W fun e w' => e = .returned (.bool false) ∧ Touch Nothing W w') :
    Calls Tryz.prog 28 #[.pointer (some ⟨hb, 0, none⟩), .int .u64 p, .int .u64 n] w (Looked w hb s pb K β ps (.tuple #[.slice none 0 0, .int .i64 4])) := by
  obtain ⟨c0, -, -, -, -, f0⟩ := R.cells
  have R1 := R.locked 1
  have HM1 := Lib.hid (HW _ R1)
  have HR1 := Lib.hid R1
  have hne := int_ne0 hn
  clear R HW R1 hn
  go_enter_defers Tryz.func28, Tryz.ntmps28
  go_wp2_with (go_at_call 58; refine (lock_free Tryz.muLib ⟨hb, 0, none⟩ _ c0 f0).mono ?_; rintro e w' ⟨rfl, rfl⟩)
  generalize hw1 : w.setCell ⟨hb, 0, none⟩ (.int .i32 1) = w1 at *
  refine HM1.out.mono ?_
  rintro e w2 ⟨rfl, T2⟩
  have HW1 := Lib.hid hw1
  have HT2 := Lib.hid T2
  have R2 := HR1.out.touch0 T2
  have hm := R2.cells.1
  have fm := R2.cells.2.2.2.2.2
  clear hw1 R2 T2 c0 f0
  go_wp2
  refine leaves_cons (f := 59) (args := #[.pointer (some ⟨hb, 0, none⟩)]) (by simp) (by simp [go_sem]) ?_
  refine (unlock_deferred Tryz.muLib ⟨hb, 0, none⟩ .returning _ hm fm).mono ?_
  rintro e u' w'' ⟨rfl, rfl, rfl⟩
  exact ⟨_, results_tmp2 rfl _ _ _, HpRep.relock HW1.out.symm HR1.out HT2.out⟩

def ReadAs (w : World) (hb s pb : Nat) (K : BuL) (β : Bu) (ps : List Int) (n : Nat) (bs : List Value) (e : Ending) (w' : World) : Prop :=
  ∃ g, w.heap.size ≤ g ∧ Blk w' g 5 bs ∧ Looked w hb s pb K β ps (.tuple #[.slice (some ⟨g, 0, none⟩) n n, .int .i64 0]) e w'

set_option maxRecDepth 100000 in
theorem HpRep.read_ok {w : World} {hb s pb : Nat} {K : BuL} {β : Bu} {ps : List Int} (R : HpRep 0 w hb s pb K β ps) (p n : Nat) (H : β.σ.has p n)
    (HW : ∀ W, HpRep 1 W hb s pb K β ps → Calls Tryz.prog 66 #[.pointer (some ⟨hb, 0, none⟩), .int .u64 p, .int .u64 n] W fun e w' => e = .returned (.bool true) ∧ Touch Nothing W w') :
    Calls Tryz.prog 28 #[.pointer (some ⟨hb, 0, none⟩), .int .u64 p, .int .u64 n] w (ReadAs w hb s pb K β ps n (β.σ.bytes p n)) := by
  obtain ⟨c0, -, -, -, -, f0⟩ := R.cells
  have R1 := R.locked 1
  have HM1 := Lib.hid (HW _ R1)
  have HR1 := Lib.hid R1
  have hne := int_ne0 (show n ≠ 0 by have := H.pos; omega)
  have HH := Lib.hid H
  have HL := Lib.hid R.lt
  clear R HW R1 H
  go_enter_defers Tryz.func28, Tryz.ntmps28
  go_wp2_with (go_at_call 58; refine (lock_free Tryz.muLib ⟨hb, 0, none⟩ _ c0 f0).mono ?_; rintro e w' ⟨rfl, rfl⟩)
  generalize hw1 : w.setCell ⟨hb, 0, none⟩ (.int .i32 1) = w1 at *
  refine HM1.out.mono ?_
  rintro e w2 ⟨rfl, T2⟩
  have HW1 := Lib.hid hw1
  have HT2 := Lib.hid T2
  have R2 := HR1.out.touch0 T2
  have hm := R2.cells.1
  have fm := R2.cells.2.2.2.2.2
  have c5 := R2.cells.2.2.2.1
  have HSp := Lib.hid R2.sl.po.space_
  have HRd := Lib.hid (R2.sl.po.bu.sp.read_ p n HH.out)
  clear hw1 R2 T2 c0 f0 hm fm
  go_wp2_with fail
  refine HSp.out.mono ?_
  rintro e w3 ⟨rfl, rfl⟩
  go_wp2_with fail
  refine HRd.out.mono ?_
  rintro e w3 ⟨g, rfl, hg, hB, T3⟩
  have HT3 := Lib.hid (HT2.out.trans T3)
  have R3 := HR1.out.touch0 HT3.out
  have HG := Lib.hid hg
  have HB := Lib.hid hB
  have hm := R3.cells.1
  have fm := R3.cells.2.2.2.2.2
  clear R3 T3 c5 hB hg
  go_wp2
  refine leaves_cons (f := 59) (args := #[.pointer (some ⟨hb, 0, none⟩)]) (by simp) (by simp [go_sem]) ?_
  refine (unlock_deferred Tryz.muLib ⟨hb, 0, none⟩ .returning _ hm fm).mono ?_
  rintro e u' w'' ⟨rfl, rfl, rfl⟩
  have hsz : w.heap.size ≤ w2.heap.size := by
    have h1 := HT2.out.size
    have h2 := HW1.out
    subst h2
    simpa [World.setCell] using h1
  have hne2 : ¬ hb = g := by
    have := HL.out hb (by simp)
    have := HG.out
    omega
  exact ⟨_, results_tmp2 rfl _ _ _, g, Nat.le_trans hsz HG.out, HB.out.touch (Touch.cellAt w3 hb 0 _) (fun e => hne2 e.symm), HpRep.relock HW1.out.symm HR1.out HT3.out⟩

/-- a read of nothing -/
theorem HpRep.read_none {w : World} {hb s pb : Nat} {K : BuL} {β : Bu} {ps : List Int} (R : HpRep 0 w hb s pb K β ps) (p : Nat) :
    Calls Tryz.prog 28 #[.pointer (some ⟨hb, 0, none⟩), .int .u64 p, .int .u64 0] w (Looked w hb s pb K β ps (.tuple #[.slice none 0 0, .int .i64 0])) := by
  obtain ⟨c0, -, -, -, -, f0⟩ := R.cells
  have R1 := R.locked 1
  have HR1 := Lib.hid R1
  have hm := R1.cells.1
  have fm := R1.cells.2.2.2.2.2
  clear R R1
  go_enter_defers Tryz.func28, Tryz.ntmps28
  go_wp2_with (go_at_call 58; refine (lock_free Tryz.muLib ⟨hb, 0, none⟩ _ c0 f0).mono ?_; rintro e w' ⟨rfl, rfl⟩)
  refine leaves_cons (f := 59) (args := #[.pointer (some ⟨hb, 0, none⟩)]) (by simp) (by simp [go_sem]) ?_
  refine (unlock_deferred Tryz.muLib ⟨hb, 0, none⟩ .returning _ hm fm).mono ?_
  rintro e u' w'' ⟨rfl, rfl, rfl⟩
  exact ⟨_, results_tmp2 rfl _ _ _, HpRep.relock rfl HR1.out (Touch.refl _ _)⟩

end Go.Proofs.YtnjcmcnjgdjbiaaGreatDoor

namespace Go.Proofs.YtnjcmcnjgdjbiaaGreatDoor
open Go.RowKit Go.MuLone

set_option maxRecDepth 100000 in
theorem HpRep.write_ok {w : World} {hb s pb : Nat} {K : BuL} {β : Bu} {ps : List Int} (R : HpRep 0 w hb s pb K β ps) (p n c : Nat) (bs : List Nat) (ad : Addr) (H : β.σ.has p n) (hn : bs.length = n) (hnc : n ≤ c) (hbs : ∀ x ∈ bs, x < 256)
    (had : ad.block < w.heap.size) (hne : ad.block ≠ hb) (hsrc : ∀ j v, (u8s bs)[j]? = some v → w.cell? (ad.add j) = some v)
    (HW : ∀ W, HpRep 1 W hb s pb K β ps → Calls Tryz.prog 66 #[.pointer (some ⟨hb, 0, none⟩), .int .u64 p, .int .u64 n] W fun e w' => e = .returned (.bool true) ∧ Touch Nothing W w') :
    Calls Tryz.prog 97 #[.pointer (some ⟨hb, 0, none⟩), .int .u64 p, .slice (some ad) n c] w (Heaped w hb s pb K { β with σ := β.σ.put p bs } ps (.int .i64 0)) := by
  obtain ⟨c0, -, -, -, -, f0⟩ := R.cells
  have R1 := R.locked 1
  have HM1 := Lib.hid (HW _ R1)
  have HR1 := Lib.hid R1
  have hn1048 := H.le R.sl.po.bu.sp.ok
  have hne0 := int_ne0 (show n ≠ 0 by have := H.pos; omega)
  have HH := Lib.hid H
  have HN := Lib.hid (And.intro hn (And.intro hnc hbs))
  have hT1 : Touch (· = hb) w (w.setCell ⟨hb, 0, none⟩ (.int .i32 1)) := Touch.cellAt _ _ _ _
  have HAd := Lib.hid (show ad.block < (w.setCell ⟨hb, 0, none⟩ (.int .i32 1)).heap.size from Nat.lt_of_lt_of_le had hT1.size)
  have hadd : ∀ j, (ad.add j).block = ad.block := fun j => by unfold Addr.add; split <;> rfl
  have HSr := Lib.hid (show ∀ j v, (u8s bs)[j]? = some v → (w.setCell ⟨hb, 0, none⟩ (.int .i32 1)).cell? (ad.add j) = some v from fun j v hj => by
    rw [hT1.cell (p := ad.add j) (by rw [hadd]; exact had) (by rw [hadd]; exact hne)]
    exact hsrc j v hj)
  have HA := Lib.hid hadd
  clear R HW R1 H hn hnc hbs had hne hsrc hT1 hadd
  go_enter_defers Tryz.func97, Tryz.ntmps97
  go_wp2_with (go_at_call 58; refine (lock_free Tryz.muLib ⟨hb, 0, none⟩ _ c0 f0).mono ?_; rintro e w' ⟨rfl, rfl⟩)
  generalize hw1 : w.setCell ⟨hb, 0, none⟩ (.int .i32 1) = w1 at *
  refine HM1.out.mono ?_
  rintro e w2 ⟨rfl, T2⟩
  have HW1 := Lib.hid hw1
  have HT2 := Lib.hid T2
  have R2 := HR1.out.touch0 T2
  have c5 := R2.cells.2.2.2.1
  have HSp := Lib.hid R2.sl.po.space_
  have hsrc2 : ∀ j v, (u8s bs)[j]? = some v → w2.cell? (ad.add j) = some v := fun j v hj => (T2.cell (by rw [HA.out]; exact HAd.out) (fun h => h)).trans (HSr.out j v hj)
  have HWr := Lib.hid (R2.sl.po.bu.sp.write_ p n c bs ad HH.out HN.out.1 HN.out.2.1 HN.out.2.2 (Nat.lt_of_lt_of_le HAd.out T2.size) hsrc2)
  have HR2 := Lib.hid R2
  clear hw1 R2 T2 c0 f0 hsrc2
  go_wp2_with fail
  refine HSp.out.mono ?_
  rintro e w3 ⟨rfl, rfl⟩
  go_wp2_with fail
  refine HWr.out.mono ?_
  rintro e w3 ⟨rfl, r3, t3⟩
  obtain ⟨b3, T3⟩ := HR2.out.sl.po.bu.bytes r3 t3 (Sp.put_same _ _ _)
  have S3 := HR2.out.sl.next T3 (BuL.Next.refl _ _) b3
  have R3 := HR2.out.next (T3.mono (fun b _ hb => List.mem_cons_of_mem _ hb)) (BuL.Next.refl _ _) S3 ⟨rfl, rfl, rfl⟩
  have HR3 := Lib.hid R3
  have HT3 := Lib.hid T3
  have hm := R3.cells.1
  have fm := R3.cells.2.2.2.2.2
  clear r3 t3 b3 T3 S3 R3 c5
  go_wp2
  refine leaves_cons (f := 59) (args := #[.pointer (some ⟨hb, 0, none⟩)]) (by simp) (by simp [go_sem]) ?_
  refine (unlock_deferred Tryz.muLib ⟨hb, 0, none⟩ .returning _ hm fm).mono ?_
  rintro e u' w'' ⟨rfl, rfl, rfl⟩
  exact ⟨_, results_tmp rfl _ _ _, HpRep.unlocked HW1.out.symm HR3.out (BuL.Next.refl _ _) (HT2.out.none_.trans (HT3.out.mono (fun b _ hb => List.mem_cons_of_mem _ hb)))⟩

end Go.Proofs.YtnjcmcnjgdjbiaaGreatDoor

namespace Go.Proofs.YtnjcmcnjgdjbiaaGreatDoor
open Go.RowKit Go.MuLone

theorem HpRep.load_fault {w : World} {hb s pb : Nat} {K : BuL} {β : Bu} {ps : List Int} (R : HpRep 0 w hb s pb K β ps) (p : Nat)
    (HW : ∀ W, HpRep 1 W hb s pb K β ps → Calls Tryz.prog 66 #[.pointer (some ⟨hb, 0, none⟩), .int .u64 p, .int .u64 1] W fun e w' => e = .returned (.bool false) ∧ Touch Nothing W w') :
    Calls Tryz.prog 93 #[.pointer (some ⟨hb, 0, none⟩), .int .u64 p] w (Looked w hb s pb K β ps (.tuple #[.int .u8 0, .int .i64 4])) := by
  have HR := Lib.hid (R.read_fault p 1 (by omega) HW)
  clear R HW
  go_enter Tryz.func93, Tryz.ntmps93
  go_wp2_with fail
  refine HR.out.mono ?_
  rintro e w1 ⟨rfl, hR, hT⟩
  have H1 := Lib.hid hR
  have H2 := Lib.hid hT
  clear hR hT
  go_wp2_with fail
  go_ret2
  exact ⟨rfl, H1.out, H2.out⟩

theorem HpRep.load_ok {w : World} {hb s pb : Nat} {K : BuL} {β : Bu} {ps : List Int} (R : HpRep 0 w hb s pb K β ps) (p : Nat) (H : β.σ.has p 1)
    (HW : ∀ W, HpRep 1 W hb s pb K β ps → Calls Tryz.prog 66 #[.pointer (some ⟨hb, 0, none⟩), .int .u64 p, .int .u64 1] W fun e w' => e = .returned (.bool true) ∧ Touch Nothing W w') :
    Calls Tryz.prog 93 #[.pointer (some ⟨hb, 0, none⟩), .int .u64 p] w (Looked w hb s pb K β ps (.tuple #[.int .u8 (β.σ.mem p : Nat), .int .i64 0])) := by
  have HR := Lib.hid (R.read_ok p 1 H HW)
  clear R HW
  go_enter Tryz.func93, Tryz.ntmps93
  go_wp2_with fail
  refine HR.out.mono ?_
  rintro e w1 ⟨g, hg, hB, rfl, hR, hT⟩
  have c0 := hB.cell 0
  simp [Sp.bytes] at c0
  have H1 := Lib.hid hR
  have H2 := Lib.hid hT
  clear hR hT hB hg
  go_wp2_with fail
  go_ret2
  exact ⟨rfl, H1.out, H2.out⟩

set_option maxRecDepth 100000 in
theorem HpRep.store_ok {w : World} {hb s pb : Nat} {K : BuL} {β : Bu} {ps : List Int} (R : HpRep 0 w hb s pb K β ps) (p v : Nat) (hv : v < 256) (H : β.σ.has p 1)
    (HW : ∀ W, HpRep 1 W hb s pb K β ps → Calls Tryz.prog 66 #[.pointer (some ⟨hb, 0, none⟩), .int .u64 p, .int .u64 1] W fun e w' => e = .returned (.bool true) ∧ Touch Nothing W w') :
    Calls Tryz.prog 94 #[.pointer (some ⟨hb, 0, none⟩), .int .u64 p, .int .u8 v] w (Heaped w hb s pb K { β with σ := β.σ.put p [v] } ps (.int .i64 0)) := by
  have T0 : Touch Nothing w (w.alloc (.cells #[.int .u8 v] 5)) := (Touch.refl _ _).alloc _
  have B0 := Blk.new w #[.int .u8 v] 5
  have hlt := R.blk.lt
  have HWr := Lib.hid ((R.touch0 T0).write_ok p 1 1 [v] ⟨w.heap.size, 0, none⟩ H rfl (by omega) (by simpa using hv) B0.lt (by simp; omega) (news_of_blk B0) HW)
  have HT0 := Lib.hid T0
  clear R HW T0 B0 hlt hv H
  go_enter Tryz.func94, Tryz.ntmps94
  go_wp2_with fail
  refine HWr.out.mono ?_
  rintro e w1 ⟨rfl, K', hR, hN, hT⟩
  have H1 := Lib.hid hR
  have H2 := Lib.hid hT
  have H3 := Lib.hid hN
  clear hR hT hN
  go_wp2_with fail
  go_ret
  refine ⟨rfl, K', H1.out, ⟨H3.out.bb, H3.out.sb, H3.out.mb, fun k hk => ?_⟩, HT0.out.none_.trans H2.out⟩
  rcases H3.out.fresh k hk with h | h
  · exact .inl h
  · exact .inr (Nat.le_trans HT0.out.size h)

theorem start_no {w : World} (hb p P size : Nat)
    (HB : ∀ W, Touch Nothing w W → Calls Tryz.prog 110 #[.pointer (some ⟨hb, 0, none⟩), .int .u64 p] W (Blocked W P size false)) :
    Calls Tryz.prog 99 #[.pointer (some ⟨hb, 0, none⟩), .int .u64 p] w fun e w' => e = .returned (.tuple #[.agg #[.int .u64 0, .int .u64 0], .int .i64 1]) ∧ Touch Nothing w w' := by
  have T0 := Lib.hid (show Touch Nothing w (w.alloc (.cells #[.int .u64 0, .int .u64 0] 71)) from (Touch.refl _ _).alloc _)
  have B0 := Lib.hid (Blk.new w #[.int .u64 0, .int .u64 0] 71)
  have H := Lib.hid (HB _ T0.out)
  clear HB
  go_enter Tryz.func99, Tryz.ntmps99
  go_wp2_with fail
  refine H.out.mono ?_
  rintro e w1 ⟨rfl, T1⟩
  have B1 := B0.out.touch T1 (fun h => h)
  have c0 := B1.cell 0
  have c1 := B1.cell 1
  have f0 := B1.free 0
  have f1 := B1.free 1
  have lt1 : w.heap.size < w1.heap.size := B1.lt
  have HT := Lib.hid (T0.out.trans T1)
  have HB3 := Lib.hid (((B1.set 0 (.int .u64 0)).set 1 (.int .u64 0)).alloc (.cells #[.int .u64 P, .int .u64 size] 71))
  simp at c0 c1
  clear B1 T1
  go_wp2_with fail
  have d0 := HB3.out.cell 0
  have d1 := HB3.out.cell 1
  simp at d0 d1
  have T5 : Touch (· = w.heap.size) w1 (((w1.setCell ⟨w.heap.size, 0, none⟩ (.int .u64 0)).setCell ⟨w.heap.size, 1, none⟩ (.int .u64 0)).alloc (.cells #[.int .u64 P, .int .u64 size] 71)) := ((Touch.cellAt w1 w.heap.size 0 (.int .u64 0)).trans (Touch.cellAt _ w.heap.size 1 (.int .u64 0))).alloc _
  exact bodyPost_ret (v := .tuple #[.agg #[.int .u64 0, .int .u64 0], .int .i64 1]) (by simp [results, Tryz.results99, go_sem, d0, d1]) rfl ⟨rfl, HT.out.trans' T5 (fun i hi e => by omega)⟩

set_option maxRecDepth 100000 in
theorem HpRep.usable_no {w : World} {hb s pb : Nat} {K : BuL} {β : Bu} {ps : List Int} (R : HpRep 0 w hb s pb K β ps) (p P size : Nat)
    (HB : ∀ W, HpRep 1 W hb s pb K β ps → Calls Tryz.prog 110 #[.pointer (some ⟨hb, 0, none⟩), .int .u64 p] W (Blocked W P size false)) :
    Calls Tryz.prog 56 #[.pointer (some ⟨hb, 0, none⟩), .int .u64 p] w (Looked w hb s pb K β ps (.tuple #[.int .u64 0, .int .i64 1])) := by
  obtain ⟨c0, -, -, -, -, f0⟩ := R.cells
  have R1 := R.locked 1
  have HM1 := Lib.hid (start_no hb p P size (fun W T => HB W (R1.touch0 T)))
  have HR1 := Lib.hid R1
  clear R HB R1
  go_enter_defers Tryz.func56, Tryz.ntmps56
  go_wp2_with (go_at_call 58; refine (lock_free Tryz.muLib ⟨hb, 0, none⟩ _ c0 f0).mono ?_; rintro e w' ⟨rfl, rfl⟩)
  generalize hw1 : w.setCell ⟨hb, 0, none⟩ (.int .i32 1) = w1 at *
  refine HM1.out.mono ?_
  rintro e w2 ⟨rfl, T2⟩
  have HW1 := Lib.hid hw1
  have HT2 := Lib.hid (T2.alloc (.cells #[.int .u64 0, .int .u64 0] 71))
  have R2 := HR1.out.touch0 HT2.out
  have hm := R2.cells.1
  have fm := R2.cells.2.2.2.2.2
  clear hw1 R2 T2 c0 f0
  go_wp2
  refine leaves_cons (f := 59) (args := #[.pointer (some ⟨hb, 0, none⟩)]) (by simp) (by simp [go_sem]) ?_
  refine (unlock_deferred Tryz.muLib ⟨hb, 0, none⟩ .returning _ hm fm).mono ?_
  rintro e u' w'' ⟨rfl, rfl, rfl⟩
  exact ⟨_, results_tmp2 rfl _ _ _, HpRep.relock HW1.out.symm HR1.out HT2.out⟩

theorem HpRep.free_none {w : World} {hb s pb : Nat} {K : BuL} {β : Bu} {ps : List Int} (R : HpRep 0 w hb s pb K β ps) :
    Calls Tryz.prog 92 #[.pointer (some ⟨hb, 0, none⟩), .int .u64 0] w (Looked w hb s pb K β ps (.int .i64 0)) := by
  obtain ⟨c0, -, -, -, -, f0⟩ := R.cells
  have R1 := R.locked 1
  have HR1 := Lib.hid R1
  have hm := R1.cells.1
  have fm := R1.cells.2.2.2.2.2
  clear R R1
  go_enter_defers Tryz.func92, Tryz.ntmps92
  go_wp2_with (go_at_call 58; refine (lock_free Tryz.muLib ⟨hb, 0, none⟩ _ c0 f0).mono ?_; rintro e w' ⟨rfl, rfl⟩)
  refine leaves_cons (f := 59) (args := #[.pointer (some ⟨hb, 0, none⟩)]) (by simp) (by simp [go_sem]) ?_
  refine (unlock_deferred Tryz.muLib ⟨hb, 0, none⟩ .returning _ hm fm).mono ?_
  rintro e u' w'' ⟨rfl, rfl, rfl⟩
  exact ⟨_, results_tmp rfl _ _ _, HpRep.relock rfl HR1.out (Touch.refl _ _)⟩

end Go.Proofs.YtnjcmcnjgdjbiaaGreatDoor

namespace Go.Proofs.YtnjcmcnjgdjbiaaGreatDoor
open Go.RowKit Go.MuLone

set_option maxRecDepth 100000 in
set_option maxHeartbeats 1000000 in
theorem HpRep.calloc_ok {w : World} {hb s pb : Nat} {K : BuL} {β β' : Bu} {ps ps' : List Int} (R : HpRep 0 w hb s pb K β ps) (n size p r : Nat) (deny : Bool) (hσ : β'.σ.base = β.σ.base ∧ β'.σ.limit = β.σ.limit ∧ β'.μ.order = β.μ.order) (_hm : n * size < 18446744073709551616)
    (hMul : ∀ W, Calls Tryz.prog 132 #[.int .u64 n, .int .u64 size] W fun e w' => e = .returned (.tuple #[.int .u64 0, .int .u64 (n * size : Nat)]) ∧ w' = W)
    (H : β'.σ.has p r)
    (HM : ∀ W, HpRep 1 W hb s pb K β ps → Calls Tryz.prog 133 #[.pointer (some ⟨hb, 0, none⟩), .int .u64 (n * size : Nat), .int .u64 1, .bool deny] W (Did W (.tuple #[.agg #[.int .u64 p, .int .u64 r], .int .i64 0]) (QSl s pb K β' ps'))) :
    Calls Tryz.prog 89 #[.pointer (some ⟨hb, 0, none⟩), .int .u64 n, .int .u64 size, .bool deny] w (Heaped w hb s pb K { β' with σ := β'.σ.put p (List.replicate r 0) } ps' (.tuple #[.int .u64 p, .int .i64 0])) := by
  obtain ⟨c0, -, -, -, -, f0⟩ := R.cells
  have R1 := R.locked 1
  have HM1 := Lib.hid (HM _ R1)
  have HR1 := Lib.hid R1
  have HS := Lib.hid hσ
  have HMu := Lib.hid hMul
  have HH := Lib.hid H
  clear R HM R1 hσ hMul H _hm
  generalize n * size = low at *
  go_enter_defers Tryz.func89, Tryz.ntmps89
  go_wp2_with (go_at_call 58; refine (lock_free Tryz.muLib ⟨hb, 0, none⟩ _ c0 f0).mono ?_; rintro e w' ⟨rfl, rfl⟩)
  generalize hw1 : w.setCell ⟨hb, 0, none⟩ (.int .i32 1) = w1 at *
  refine (HMu.out _).mono ?_
  rintro e w2 ⟨rfl, rfl⟩
  go_wp2_with fail
  refine HM1.out.mono ?_
  rintro e w2 hD
  obtain ⟨K', R2, N2, T2⟩ := Did.hp HR1.out hD HS.out
  obtain ⟨rfl, -⟩ := hD
  have HW1 := Lib.hid hw1
  have HR2 := Lib.hid R2
  have HN2 := Lib.hid N2
  have HT2 := Lib.hid T2
  have c5 := R2.cells.2.2.2.1
  have HSp := Lib.hid (fun W (T : Touch Nothing w2 W) => (R2.touch0 T).sl.po.space_)
  have HFi := Lib.hid (fun W (T : Touch Nothing w2 W) => (R2.touch0 T).sl.po.bu.sp.fill_ p r 0 HH.out (by omega))
  have hlt2 : hb < w2.heap.size := R2.blk.lt
  have hlt3 : pb < w2.heap.size := R2.sl.po.blk.lt
  have hcf : ∀ (us : Array Value) (W : World), (callFunc 134 us).run Tryz.prog W = .ok (.enter 134 us) W := fun us W => by simp [go_sem]
  have hcf2 : ∀ (us : Array Value) (W : World), (callFunc 60 us).run Tryz.prog W = .ok (.enter 60 us) W := fun us W => by simp [go_sem]
  have HCF := Lib.hid hcf
  have HCF2 := Lib.hid hcf2
  clear hw1 R2 N2 T2 c0 f0 hcf hcf2
  go_wp2_with fail
  have T3 : Touch Nothing w2 (w2.alloc (.cells #[.int .u64 p, .int .u64 r] 71)).drew := ((Touch.refl _ _).alloc _).drew
  have B3 := (Blk.new w2 #[.int .u64 p, .int .u64 r] 71)
  have d5 : (w2.alloc (.cells #[.int .u64 p, .int .u64 r] 71)).cell? ⟨hb, 5, none⟩ = some (.pointer (some ⟨pb, 0, none⟩)) := (HR2.out.touch0 ((Touch.refl _ _).alloc _)).cells.2.2.2.1
  have b0 := B3.cell 0
  have b1 := B3.cell 1
  have HB3 := Lib.hid B3
  have HT3 := Lib.hid T3
  have HSp3 := Lib.hid (HSp.out _ T3)
  have HFi3 := Lib.hid (HFi.out _ T3)
  clear T3 B3 c5
  simp only [List.getElem?_cons_zero, List.getElem?_cons_succ] at b0 b1
  generalize (w2.alloc (.cells #[.int .u64 p, .int .u64 r] 71)) = w3 at *
  refine wp_region_still_tail 11 (by kernel_rfl) (by kernel_rfl) ?_
  simp only [List.take_succ_cons, List.take_zero, List.drop_succ_cons, List.drop_zero, World.drew_eq]
  repeat still_step
  still_call (HSp3.out.mono fun _ _ h => ⟨h.1, h.2.symm⟩)
  repeat still_step
  refine wpStill_nil ?_
  go_wp2_with fail
  refine HFi3.out.mono ?_
  rintro e w4 ⟨rfl, r4, t4⟩
  have R3 := HR2.out.touch0 HT3.out
  obtain ⟨b4, T4⟩ := R3.sl.po.bu.bytes r4 t4 (Sp.put_same _ _ _)
  have S4 := R3.sl.next T4 (BuL.Next.refl _ _) b4
  have R4 := R3.next (T4.mono (fun b _ hb => List.mem_cons_of_mem _ hb)) (BuL.Next.refl _ _) S4 ⟨rfl, rfl, rfl⟩
  have hnot : ¬ w2.heap.size ∈ K'.fp := fun hm => by
    have := HR2.out.lt w2.heap.size (by simp [hm])
    omega
  have e0 : w4.cell? ⟨w2.heap.size, 0, none⟩ = some (.int .u64 p) := by
    have := ((HB3.out.drew).touch T4 hnot).cell 0
    simpa using this
  have HR4 := Lib.hid R4
  have HT4 := Lib.hid T4
  have hm := R4.cells.1
  have fm := R4.cells.2.2.2.2.2
  clear r4 t4 R3 b4 S4 R4 T4 hnot d5 b0 b1
  go_wp2
  refine leaves_cons (f := 59) (args := #[.pointer (some ⟨hb, 0, none⟩)]) (by simp) (by simp [go_sem]) ?_
  refine (unlock_deferred Tryz.muLib ⟨hb, 0, none⟩ .returning _ hm fm).mono ?_
  rintro e u' w'' ⟨rfl, rfl, rfl⟩
  have N := HN2.out
  have TT : Touch (· ∈ s :: K.fp) _ w4 := (HT2.out.trans HT3.out.none_).trans' HT4.out (fun i hi hm => by
    rcases N.fresh i hm with h | h
    · exact List.mem_cons_of_mem _ h
    · omega)
  exact ⟨_, results_tmp2 rfl _ _ _, HpRep.unlocked HW1.out.symm HR4.out N TT⟩

end Go.Proofs.YtnjcmcnjgdjbiaaGreatDoor

namespace Go.Proofs.YtnjcmcnjgdjbiaaGreatDoor
open Go.RowKit

theorem newHeap_no (base : Nat) (limit order : Int) (w : World) (hb : base < 18446744073709551616) (h : mayB base limit order = false) :
    Calls Tryz.prog 18 #[cfgV base limit order] w fun e w' => e = .returned (.tuple #[.pointer none, .int .i64 1]) ∧ Touch Nothing w w' := by
  have HM := Lib.hid (fun w => newPool_no base limit order w hb h)
  have T0 := Lib.hid (show Touch Nothing w (w.alloc (.cells #[.int .u64 base, .int .i64 limit, .int .i64 order] 51)) from (Touch.refl _ _).alloc _)
  unfold cfgV at *
  go_enter Tryz.func18, Tryz.ntmps18
  go_wp2_with fail
  refine (HM.out _).mono ?_
  rintro e w1 ⟨rfl, T1⟩
  have HT1 := Lib.hid T1
  clear T1
  go_wp2_with fail
  go_ret2
  exact ⟨rfl, T0.out.trans HT1.out⟩

/-- no partial list -/
def noParts : List Int := List.replicate 8 (-1)

def NewHeap (w : World) (base limit order : Nat) (e : Ending) (w' : World) : Prop :=
  ∃ hb s pb K, e = .returned (.tuple #[.pointer (some ⟨hb, 0, none⟩), .int .i64 0]) ∧ HpRep 0 w' hb s pb K (Bu.fresh base limit order) noParts ∧ Touch Nothing w w' ∧ ∀ k ∈ hb :: s :: pb :: K.fp, w.heap.size ≤ k

theorem new_heap {w w0 w1 w2 : World} {base limit order pb s : Nat} {K : BuL} (G : Glob w) (T0 : Touch Nothing w w0)
    (P1 : PoRep w1 pb K (Bu.fresh base limit order)) (T1 : Touch Nothing w0 w1) (F1 : ∀ k ∈ pb :: K.fp, w0.heap.size ≤ k)
    (hs : w1.heap.size ≤ s) (B2 : Blk w2 s 163 (.pointer (some ⟨pb, 0, none⟩) :: noParts.map fun x => .int .i64 x)) (T2 : Touch Nothing w1 w2) :
    NewHeap w base limit order (.returned (.tuple #[.pointer (some ⟨w2.heap.size, 0, none⟩), .int .i64 0]))
      (w2.alloc (.cells #[.int .i32 0, .int .u32 0, .int .u64 base, .int .i64 limit, .int .i64 order, .pointer (some ⟨pb, 0, none⟩), .pointer (some ⟨s, 0, none⟩)] 97)) := by
  have hl1 := P1.lt
  have g := G.size
  have s0 := T0.size
  have s1 := T1.size
  have s2 := T2.size
  have hs2 : s < w2.heap.size := B2.lt
  have T3 : Touch Nothing w2 (w2.alloc (.cells #[.int .i32 0, .int .u32 0, .int .u64 base, .int .i64 limit, .int .i64 order, .pointer (some ⟨pb, 0, none⟩), .pointer (some ⟨s, 0, none⟩)] 97)) := (Touch.refl _ _).alloc _
  have TT := ((T0.trans T1).trans T2).trans T3
  have hns : s ∉ pb :: K.fp := fun h => by have := hl1 s h; omega
  have S3 : SlRep (w2.alloc (.cells #[.int .i32 0, .int .u32 0, .int .u64 base, .int .i64 limit, .int .i64 order, .pointer (some ⟨pb, 0, none⟩), .pointer (some ⟨s, 0, none⟩)] 97)) s pb K (Bu.fresh base limit order) noParts :=
    ⟨B2.touch T3 (fun h => h), (P1.touch0 T2).touch0 T3, hns, rfl⟩
  have hfar : ∀ k ∈ w2.heap.size :: s :: pb :: K.fp, w.heap.size ≤ k := by
    intro k hk
    rcases List.mem_cons.1 hk with h | h
    · omega
    · rcases List.mem_cons.1 h with h | h
      · omega
      · have := F1 k h; omega
  refine ⟨w2.heap.size, s, pb, K, rfl, ⟨Blk.new w2 _ 97, S3, ?_, G.touch0 TT, fun k hk => ?_⟩, TT, hfar⟩
  · intro h
    rcases List.mem_cons.1 h with h | h
    · omega
    · have := hl1 _ h; omega
  · have := hfar k hk; omega

set_option maxRecDepth 100000 in
set_option maxHeartbeats 1000000 in
theorem newHeap_yes (base limit order : Nat) (w : World) (hb : base < 18446744073709551616) (h : mayB base limit order = true) (ho : order ≤ 8) (G : Glob w) :
    Calls Tryz.prog 18 #[cfgV base limit order] w (NewHeap w base limit order) := by
  have HP := Lib.hid (fun w => newPool_yes base limit order w hb h ho)
  have HSl := Lib.hid (fun pb w => newSlab_ pb w)
  have T0 := Lib.hid (show Touch Nothing w (w.alloc (.cells #[.int .u64 base, .int .i64 limit, .int .i64 order] 51)) from (Touch.refl _ _).alloc _)
  have B0 := Lib.hid (Blk.new w #[.int .u64 base, .int .i64 limit, .int .i64 order] 51)
  have hsz : w.heap.size < (w.alloc (.cells #[.int .u64 base, .int .i64 limit, .int .i64 order] 51)).heap.size := by simp
  have HG := Lib.hid G
  have hcf : ∀ (us : Array Value) (W : World), (callFunc 36 us).run Tryz.prog W = .ok (.enter 36 us) W := fun us W => by simp [go_sem]
  have HCF := Lib.hid hcf
  unfold cfgV at *
  clear h hb G hcf
  go_enter Tryz.func18, Tryz.ntmps18
  go_wp2_with fail
  generalize w.alloc (.cells #[.int .u64 base, .int .i64 limit, .int .i64 order] 51) = w0 at *
  refine (HP.out _).mono ?_
  rintro e w1 ⟨pb, K, rfl, P1, T1, F1⟩
  have b1 := B0.out.touch T1 (fun h => h)
  have d0 := b1.cell 0
  have d1 := b1.cell 1
  have d2 := b1.cell 2
  simp at d0 d1 d2
  have HB1 := Lib.hid (b1.drew)
  have HP1 := Lib.hid P1
  have HT1 := Lib.hid T1
  have HF1 := Lib.hid F1
  have HSl1 := Lib.hid (HSl.out pb w1.drew)
  clear P1 T1 F1 b1
  go_wp2_with fail
  go_region_law (refine step_call_list _ (by rfl) 36 #[.tmp 16] #[84] (by rfl) #[.pointer (some ⟨pb, 0, none⟩)] (by rfl) HSl1.out (HCF.out _ _) ?_; rintro e w2 ⟨s, rfl, hs, hB, hT⟩; refine ⟨_, rfl, ?_⟩; have hb2 := HB1.out.touch hT (fun h => h); have z0 : w2.cell? ⟨w.heap.size, 0, none⟩ = some (.int .u64 base) := hb2.cell 0; have z1 : w2.cell? ⟨w.heap.size, 1, none⟩ = some (.int .i64 limit) := hb2.cell 1; have z2 : w2.cell? ⟨w.heap.size, 2, none⟩ = some (.int .i64 order) := hb2.cell 2; have HS := Lib.hid hs; have HB2 := Lib.hid hB; have HT2 := Lib.hid hT; clear hs hB hT hb2)
  all_goals
    go_wp2_with fail
    go_ret2
    exact new_heap HG.out T0.out HP1.out HT1.out HF1.out HS.out HB2.out ((Touch.refl Nothing w1).drew.trans HT2.out)

end Go.Proofs.YtnjcmcnjgdjbiaaGreatDoor

