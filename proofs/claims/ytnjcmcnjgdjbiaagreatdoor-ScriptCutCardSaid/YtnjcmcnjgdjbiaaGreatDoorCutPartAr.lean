/- Package malloc: Realloc. Conditions: as each theorem states. -/
import Derived.Test.YtnjcmcnjgdjbiaaGreatDoorCutPartAq
import Derived.Test.YtnjcmcnjgdjbiaaGreatDoorCutPartAa
import Derived.Test.YtnjcmcnjgdjbiaaGreatDoorCutPartAk
import Derived.Test.YtnjcmcnjgdjbiaaGreatDoorCutPartAg
set_option maxRecDepth 100000
set_option maxHeartbeats 2000000
namespace Go.Proofs.YtnjcmcnjgdjbiaaGreatDoor
open Go.RowKit Go.MuLone
theorem realloc_zero {w : World} {hb s pb : Nat} {K : BuL} {β' : Bu} {ps' : List Int} (size p : Nat) (er : Int) (deny : Bool)
  (HM : Calls Tryz.prog 88 #[.pointer (some ⟨hb, 0, none⟩), .int .u64 size, .bool deny] w (Heaped w hb s pb K β' ps' (.tuple #[.int .u64 p, .int .i64 er]))) :
  Calls Tryz.prog 91 #[.pointer (some ⟨hb, 0, none⟩), .int .u64 0, .int .u64 size, .bool deny] w (Heaped w hb s pb K β' ps' (.tuple #[.int .u64 p, .int .i64 er])) := by
 have H := Hd HM
 clear HM
 go_enter_defers Tryz.func91, Tryz.ntmps91
 go_wp2_with fail
 refine H.out.mono ?_
 rintro e w1 ⟨rfl, hR⟩
 have HRr := Hd hR
 clear hR
 go_wp2_with fail
 show Leaves _ _ _ _ _ _ _
 simp [Leaves, results, Tryz.results91, go_sem]
 exact ⟨rfl, HRr.out⟩
theorem HpRep.realloc_off {w : World} {hb s pb : Nat} {K : BuL} {β : Bu} {ps : List Int} (R : HpRep 0 w hb s pb K β ps) (p size : Nat) (deny : Bool) (hp : ((p : Int) == 0) = false)
  (HS : ∀ W, HpRep 1 W hb s pb K β ps → Calls Tryz.prog 99 #[.pointer (some ⟨hb, 0, none⟩), .int .u64 p] W (Started W 0 0 1)) :
  Calls Tryz.prog 91 #[.pointer (some ⟨hb, 0, none⟩), .int .u64 p, .int .u64 size, .bool deny] w (Looked w hb s pb K β ps (.tuple #[.int .u64 (0 : Nat), .int .i64 1])) := by
 obtain ⟨c0, -, -, -, -, f0⟩ := R.cells
 have R1 := R.locked 1
 have HM1 := Hd (HS _ R1)
 have HR1 := Hd R1
 clear R HS R1
 go_enter_defers Tryz.func91, Tryz.ntmps91
 go_wp2_with (go_at_call 58; refine (lock_free Tryz.muLib ⟨hb, 0, none⟩ _ c0 f0).mono ?_; rintro e w' ⟨rfl, rfl⟩)
 generalize hw1 : w.setCell ⟨hb, 0, none⟩ (.int .i32 1) = w1 at *
 refine HM1.out.mono ?_
 rintro e w2 ⟨rfl, T2⟩
 have HW1 := Hd hw1
 have HT2 := Hd (T2.alloc (.cells #[.int .u64 0, .int .u64 0] 71))
 have R2 := HR1.out.touch0 HT2.out
 have hm := R2.cells.1
 have fm := R2.cells.2.2.2.2.2
 have HR2 := Hd R2
 clear hw1 R2 T2 c0 f0
 go_wp2
 refine leaves_cons (f := 59) (args := #[.pointer (some ⟨hb, 0, none⟩)]) (by simp) (by simp [go_sem]) ?_
 refine (unlock_deferred Tryz.muLib ⟨hb, 0, none⟩ .returning _ hm fm).mono ?_
 rintro e u' w'' ⟨rfl, rfl, rfl⟩
 exact ⟨_, results_tmp2 rfl _ _ _, HpRep.relock HW1.out.symm HR1.out HT2.out⟩
theorem HpRep.realloc_round {w : World} {hb s pb : Nat} {K : BuL} {β : Bu} {ps : List Int} (R : HpRep 0 w hb s pb K β ps) (p size S r : Nat) (er : Int) (deny : Bool) (hp : ((p : Int) == 0) = false) (her : er ≠ 0)
  (HS : ∀ W, HpRep 1 W hb s pb K β ps → Calls Tryz.prog 99 #[.pointer (some ⟨hb, 0, none⟩), .int .u64 p] W (Started W p S 0))
  (HQ : ∀ W, HpRep 1 W hb s pb K β ps → Calls Tryz.prog 135 #[.pointer (some ⟨hb, 0, none⟩), .int .u64 size, .int .u64 1] W (Rounded W (r, er))) :
  Calls Tryz.prog 91 #[.pointer (some ⟨hb, 0, none⟩), .int .u64 p, .int .u64 size, .bool deny] w (Looked w hb s pb K β ps (.tuple #[.int .u64 (0 : Nat), .int .i64 er])) := by
 obtain ⟨c0, -, -, -, -, f0⟩ := R.cells
 have R1 := R.locked 1
 have HM1 := Hd (HS _ R1)
 have HR1 := Hd R1
 have HRd := Hd HQ
 clear R HS R1 HQ
 go_enter_defers Tryz.func91, Tryz.ntmps91
 go_wp2_with (go_at_call 58; refine (lock_free Tryz.muLib ⟨hb, 0, none⟩ _ c0 f0).mono ?_; rintro e w' ⟨rfl, rfl⟩)
 generalize hw1 : w.setCell ⟨hb, 0, none⟩ (.int .i32 1) = w1 at *
 refine HM1.out.mono ?_
 rintro e w2 ⟨rfl, T2⟩
 have HW1 := Hd hw1
 have HT2 := Hd (T2.alloc (.cells #[.int .u64 p, .int .u64 S] 71))
 have R2 := HR1.out.touch0 HT2.out
 have hm := R2.cells.1
 have fm := R2.cells.2.2.2.2.2
 have HR2 := Hd R2
 clear hw1 R2 T2 c0 f0
 go_wp2_with fail
 refine (HRd.out _ HR2.out).mono ?_
 rintro e w3 ⟨rfl, rfl⟩
 go_wp2
 refine leaves_cons (f := 59) (args := #[.pointer (some ⟨hb, 0, none⟩)]) (by simp) (by simp [go_sem]) ?_
 refine (unlock_deferred Tryz.muLib ⟨hb, 0, none⟩ .returning _ hm fm).mono ?_
 rintro e u' w'' ⟨rfl, rfl, rfl⟩
 exact ⟨_, results_tmp2 rfl _ _ _, HpRep.relock HW1.out.symm HR1.out HT2.out⟩
theorem HpRep.realloc_same {w : World} {hb s pb : Nat} {K : BuL} {β : Bu} {ps : List Int} (R : HpRep 0 w hb s pb K β ps) (p size S r : Nat) (deny : Bool) (hp : ((p : Int) == 0) = false) (hrS : (r : Int) = S)
  (HS : ∀ W, HpRep 1 W hb s pb K β ps → Calls Tryz.prog 99 #[.pointer (some ⟨hb, 0, none⟩), .int .u64 p] W (Started W p S 0))
  (HQ : ∀ W, HpRep 1 W hb s pb K β ps → Calls Tryz.prog 135 #[.pointer (some ⟨hb, 0, none⟩), .int .u64 size, .int .u64 1] W (Rounded W (r, 0))) :
  Calls Tryz.prog 91 #[.pointer (some ⟨hb, 0, none⟩), .int .u64 p, .int .u64 size, .bool deny] w (Looked w hb s pb K β ps (.tuple #[.int .u64 p, .int .i64 0])) := by
 obtain ⟨c0, -, -, -, -, f0⟩ := R.cells
 have R1 := R.locked 1
 have HM1 := Hd (HS _ R1)
 have HR1 := Hd R1
 have HRd := Hd HQ
 clear R HS R1 HQ
 go_enter_defers Tryz.func91, Tryz.ntmps91
 go_wp2_with (go_at_call 58; refine (lock_free Tryz.muLib ⟨hb, 0, none⟩ _ c0 f0).mono ?_; rintro e w' ⟨rfl, rfl⟩)
 generalize hw1 : w.setCell ⟨hb, 0, none⟩ (.int .i32 1) = w1 at *
 refine HM1.out.mono ?_
 rintro e w2 ⟨rfl, T2⟩
 have HW1 := Hd hw1
 have HT2 := Hd (T2.alloc (.cells #[.int .u64 p, .int .u64 S] 71))
 have R2 := HR1.out.touch0 HT2.out
 have hm := R2.cells.1
 have fm := R2.cells.2.2.2.2.2
 have HR2 := Hd R2
 clear hw1 R2 T2 c0 f0
 go_wp2_with fail
 refine (HRd.out _ HR2.out).mono ?_
 rintro e w3 ⟨rfl, rfl⟩
 go_wp2
 refine leaves_cons (f := 59) (args := #[.pointer (some ⟨hb, 0, none⟩)]) (by simp) (by simp [go_sem]) ?_
 refine (unlock_deferred Tryz.muLib ⟨hb, 0, none⟩ .returning _ hm fm).mono ?_
 rintro e u' w'' ⟨rfl, rfl, rfl⟩
 exact ⟨_, results_tmp2 rfl _ _ _, HpRep.relock HW1.out.symm HR1.out HT2.out⟩
theorem HpRep.realloc_cut {w : World} {hb s pb : Nat} {K : BuL} {β β' : Bu} {ps : List Int} (R : HpRep 0 w hb s pb K β ps) (p size S r k o : Nat) (deny : Bool) (hp : ((p : Int) == 0) = false) (hr1 : (4096 : Int) ≤ r) (hr2 : (r : Int) < S) (hS : S ≤ 1048576)
  (hk : (Lib.bitLen (S / 4096) : Int) - 1 = k) (ho : (Lib.bitLen (r / 4096) : Int) - 1 = o) (hσ : β'.σ.base = β.σ.base ∧ β'.σ.limit = β.σ.limit ∧ β'.μ.order = β.μ.order)
  (HS : ∀ W, HpRep 1 W hb s pb K β ps → Calls Tryz.prog 99 #[.pointer (some ⟨hb, 0, none⟩), .int .u64 p] W (Started W p S 0))
  (HQ : ∀ W, HpRep 1 W hb s pb K β ps → Calls Tryz.prog 135 #[.pointer (some ⟨hb, 0, none⟩), .int .u64 size, .int .u64 1] W (Rounded W (r, 0)))
  (HSh : ∀ W, HpRep 1 W hb s pb K β ps → Calls Tryz.prog 137 #[.pointer (some ⟨K.bb, 0, none⟩), .int .u64 p, .int .i64 k, .int .i64 o] W (Turned W K β' (.int .i64 0))) :
  Calls Tryz.prog 91 #[.pointer (some ⟨hb, 0, none⟩), .int .u64 p, .int .u64 size, .bool deny] w (Heaped w hb s pb K β' ps (.tuple #[.int .u64 p, .int .i64 0])) := by
 obtain ⟨c0, -, -, -, -, f0⟩ := R.cells
 have R1 := R.locked 1
 have HM1 := Hd (HS _ R1)
 have HR1 := Hd R1
 have HRd := Hd HQ
 have HShr := Hd HSh
 have HO1 := Hd (fun W => order_ S W (by omega))
 have HO2 := Hd (fun W => order_ r W (by omega))
 rw [hk] at HO1
 rw [ho] at HO2
 have hne1 : ¬ ((r : Int) = S) := by omega
 have HSg := Hd hσ
 clear R HS R1 HQ HSh hk ho hσ
 go_enter_defers Tryz.func91, Tryz.ntmps91
 go_wp2_with (go_at_call 58; refine (lock_free Tryz.muLib ⟨hb, 0, none⟩ _ c0 f0).mono ?_; rintro e w' ⟨rfl, rfl⟩)
 generalize hw1 : w.setCell ⟨hb, 0, none⟩ (.int .i32 1) = w1 at *
 refine HM1.out.mono ?_
 rintro e w2 ⟨rfl, T2⟩
 have HW1 := Hd hw1
 have HT2 := Hd (T2.alloc (.cells #[.int .u64 p, .int .u64 S] 71))
 have R2 := HR1.out.touch0 HT2.out
 have HR2 := Hd R2
 have c5 := R2.cells.2.2.2.1
 have b1 := (Blk.new w2 #[.int .u64 p, .int .u64 S] 71).cell 1
 clear hw1 R2 T2 c0 f0
 go_wp2_with fail
 refine (HRd.out _ HR2.out).mono ?_
 rintro e w3 ⟨rfl, rfl⟩
 go_wp2_with fail
 have HRd2 := Hd (HR2.out.touch0 ((Touch.refl Nothing _).drew))
 have HBd := Hd HRd2.out.sl.po.buddy_
 refine wp_region_still_tail 13 (by kernel_rfl) (by kernel_rfl) ?_
 simp only [List.take_succ_cons, List.take_zero, List.drop_succ_cons, List.drop_zero, World.drew_eq]
 repeat still_step
 still_call (HBd.out.mono fun _ _ h => ⟨h.1, h.2.symm⟩)
 repeat still_step
 still_call ((HO1.out _).mono fun _ _ h => ⟨h.1, h.2.symm⟩)
 repeat still_step
 still_call ((HO2.out _).mono fun _ _ h => ⟨h.1, h.2.symm⟩)
 repeat still_step
 refine wpStill_nil ?_
 go_wp2_with fail
 refine (HShr.out _ HRd2.out).mono ?_
 rintro e w4 ⟨rfl, b4, T4⟩
 have S4 := HRd2.out.sl.next T4 (BuL.Next.refl _ _) b4
 have R4 := HRd2.out.next (T4.mono (fun b _ hb => List.mem_cons_of_mem _ hb)) (BuL.Next.refl _ _) S4 HSg.out
 have HR4 := Hd R4
 have HT4 := Hd (HT2.out.none_.trans (((Touch.refl _ _).drew).trans (T4.mono (fun b _ hb => List.mem_cons_of_mem s hb))))
 have hm := R4.cells.1
 have fm := R4.cells.2.2.2.2.2
 clear S4 R4 b4 T4 c5 b1
 go_wp2
 refine leaves_cons (f := 59) (args := #[.pointer (some ⟨hb, 0, none⟩)]) (by simp) (by simp [go_sem]) ?_
 refine (unlock_deferred Tryz.muLib ⟨hb, 0, none⟩ .returning _ hm fm).mono ?_
 rintro e u' w'' ⟨rfl, rfl, rfl⟩
 exact ⟨_, results_tmp2 rfl _ _ _, HpRep.unlocked HW1.out.symm HR4.out (BuL.Next.refl _ _) HT4.out⟩
theorem put_out (σ : Sp) (p : Nat) (bs : List Nat) {a : Nat} (h : a < p ∨ p + bs.length ≤ a) : (σ.put p bs).mem a = σ.mem a := by
 show (if _ then _ else _) = _
 rw [if_neg (by omega)]
theorem put_in (σ : Sp) (p : Nat) (bs : List Nat) {i : Nat} (h : i < bs.length) : (σ.put p bs).mem (p + i) = bs.getD i 0 := by
 show (if _ then _ else _) = _
 rw [if_pos (by omega), Nat.add_sub_cancel_left]
theorem live_put (β : Bu) (p : Nat) (bs : List Nat) (P S : Nat) : Live { β with σ := β.σ.put p bs } P S ↔ Live β P S := Iff.rfl
theorem More.put {β β' : Bu} {p r : Nat} {bs : List Nat} (M : More β β' p r) (hl : bs.length ≤ r) : More β { β' with σ := β'.σ.put p bs } p r := by
 refine ⟨M.base, M.order, M.limit, fun P S => (live_put β' p bs P S).trans (M.live P S), M.new, fun P S h q h1 h2 => ?_⟩
 refine (put_out _ _ _ ?_).trans (M.byte P S h q h1 h2)
 refine Classical.byContradiction (fun hc => ?_)
 obtain ⟨rfl, rfl⟩ := ((M.live P S).2 (.inl h)).meet ((M.live p r).2 (.inr ⟨rfl, rfl⟩)) h1 h2 (by omega) (by omega)
 exact M.new h
structure Moved (β β' : Bu) (p q r m : Nat) : Prop where
 base : β'.σ.base = β.σ.base
 order : β'.μ.order = β.μ.order
 limit : β'.σ.limit = β.σ.limit
 live : ∀ P S, Live β' P S ↔ (Live β P S ∧ P ≠ p) ∨ (P = q ∧ S = r)
 new : ¬ Live β q r
 byte : ∀ P S, Live β P S → P ≠ p → ∀ x, P ≤ x → x < P + S → β'.σ.mem x = β.σ.mem x
 kept : ∀ i, i < m → β'.σ.mem (q + i) = β.σ.mem (p + i)
theorem More.moved {β β1 β3 : Bu} {p q r S m : Nat} (M : More β β1 q r) (hL : Live β p S) (hr : m ≤ r) (hS : m ≤ S) (G : Gone { β1 with σ := β1.σ.put q (β1.σ.nums p m) } β3 p) : Moved β β3 p q r m := by
 have hq1 : Live β1 q r := (M.live q r).2 (.inr ⟨rfl, rfl⟩)
 have hp1 : Live β1 p S := (M.live p S).2 (.inl hL)
 have hr0 : 0 < r := hq1.pos.1
 have hne : q ≠ p := by
  rintro rfl
  obtain ⟨_, rfl⟩ := hp1.meet hq1 (Nat.le_refl _) (by have := hL.pos.1; omega) (Nat.le_refl _) (by omega)
  exact M.new hL
 have hlen : (β1.σ.nums p m).length = m := by simp [Sp.nums]
 refine ⟨G.base.trans M.base, G.order.trans M.order, G.limit.trans M.limit, fun P T => ?_, M.new, fun P T h hP x h1 h2 => ?_, fun i hi => ?_⟩
 ·rw [G.live P T]
  constructor
  ·rintro ⟨h, hP⟩
   rcases (M.live P T).1 h with h | h
   ·exact .inl ⟨h, hP⟩
   ·exact .inr h
  ·rintro (⟨h, hP⟩ | ⟨rfl, rfl⟩)
   ·exact ⟨(M.live P T).2 (.inl h), hP⟩
   ·exact ⟨hq1, hne⟩
 ·have hP1 : Live β1 P T := (M.live P T).2 (.inl h)
  refine (G.byte P T hP1 hP x h1 h2).trans ((put_out _ _ _ ?_).trans (M.byte P T h x h1 h2))
  rw [hlen]
  refine Classical.byContradiction (fun hc => ?_)
  obtain ⟨rfl, rfl⟩ := hP1.meet hq1 h1 h2 (by omega) (by omega)
  exact M.new h
 ·refine (G.byte q r hq1 hne (q + i) (by omega) (by omega)).trans ((put_in _ _ _ (by rw [hlen]; exact hi)).trans ?_)
  have e : (β1.σ.nums p m).getD i 0 = β1.σ.mem (p + i) := by
   unfold Sp.nums
   rw [List.getD_eq_getElem?_getD, List.getElem?_map, List.getElem?_range hi]
   rfl
  rw [e]
  exact M.byte p S hL (p + i) (by omega) (by omega)
theorem HpRep.realloc_none {w : World} {hb s pb : Nat} {K : BuL} {β : Bu} {ps : List Int} (R : HpRep 0 w hb s pb K β ps) (p size S r q : Nat) (er : Int) (deny : Bool) (hp : ((p : Int) == 0) = false) (hne : ¬ ((r : Int) = S)) (hnc : ¬ ((4096 : Int) ≤ r ∧ (r : Int) < S)) (her : er ≠ 0)
  (HS : ∀ W, HpRep 1 W hb s pb K β ps → Calls Tryz.prog 99 #[.pointer (some ⟨hb, 0, none⟩), .int .u64 p] W (Started W p S 0))
  (HQ : ∀ W, HpRep 1 W hb s pb K β ps → Calls Tryz.prog 135 #[.pointer (some ⟨hb, 0, none⟩), .int .u64 size, .int .u64 1] W (Rounded W (r, 0)))
  (HT : ∀ W, HpRep 1 W hb s pb K β ps → Calls Tryz.prog 139 #[.pointer (some ⟨hb, 0, none⟩), .int .u64 r, .bool deny] W (TookAs W q er (QSl s pb K β ps))) :
  Calls Tryz.prog 91 #[.pointer (some ⟨hb, 0, none⟩), .int .u64 p, .int .u64 size, .bool deny] w (Heaped w hb s pb K β ps (.tuple #[.int .u64 (0 : Nat), .int .i64 er])) := by
 obtain ⟨c0, -, -, -, -, f0⟩ := R.cells
 have R1 := R.locked 1
 have HM1 := Hd (HS _ R1)
 have HR1 := Hd R1
 have HRd := Hd HQ
 have HTk := Hd HT
 clear R HS R1 HQ HT
 by_cases h4 : (4096 : Int) ≤ r
 ·have hlt : ¬ ((r : Int) < S) := fun h => hnc ⟨h4, h⟩
  clear hnc
  go_enter_defers Tryz.func91, Tryz.ntmps91
  go_wp2_with (go_at_call 58; refine (lock_free Tryz.muLib ⟨hb, 0, none⟩ _ c0 f0).mono ?_; rintro e w' ⟨rfl, rfl⟩)
  generalize hw1 : w.setCell ⟨hb, 0, none⟩ (.int .i32 1) = w1 at *
  refine HM1.out.mono ?_
  rintro e w2 ⟨rfl, T2⟩
  have HW1 := Hd hw1
  have HT2 := Hd (T2.alloc (.cells #[.int .u64 p, .int .u64 S] 71))
  have R2 := HR1.out.touch0 HT2.out
  have HR2 := Hd R2
  have b1 := (Blk.new w2 #[.int .u64 p, .int .u64 S] 71).cell 1
  clear hw1 R2 T2 c0 f0
  go_wp2_with fail
  refine (HRd.out _ HR2.out).mono ?_
  rintro e w3 ⟨rfl, rfl⟩
  go_wp2_with fail
  refine (HTk.out _ HR2.out).mono ?_
  rintro e w4 ⟨rfl, W, T4, K', S4, N4, T5⟩
  have R4 := (HR2.out.touch0 T4).next T5 N4 S4 ⟨rfl, rfl, rfl⟩
  have HR4 := Hd R4
  have HN4 := Hd N4
  have HT4 := Hd (HT2.out.none_.trans (T4.none_.trans T5))
  have HT40 := Hd (HT2.out.trans T4)
  have hm := R4.cells.1
  have fm := R4.cells.2.2.2.2.2
  clear S4 R4 N4 T4 T5 b1
  go_wp2
  refine leaves_cons (f := 59) (args := #[.pointer (some ⟨hb, 0, none⟩)]) (by simp) (by simp [go_sem]) ?_
  refine (unlock_deferred Tryz.muLib ⟨hb, 0, none⟩ .returning _ hm fm).mono ?_
  rintro e u' w'' ⟨rfl, rfl, rfl⟩
  have N := HN4.out
  exact ⟨_, results_tmp2 rfl _ _ _, HpRep.unlocked HW1.out.symm HR4.out ⟨N.bb, N.sb, N.mb, fun k hk => (N.fresh k hk).elim .inl (fun h => .inr (Nat.le_trans HT40.out.size h))⟩ HT4.out⟩
 ·clear hnc
  go_enter_defers Tryz.func91, Tryz.ntmps91
  go_wp2_with (go_at_call 58; refine (lock_free Tryz.muLib ⟨hb, 0, none⟩ _ c0 f0).mono ?_; rintro e w' ⟨rfl, rfl⟩)
  generalize hw1 : w.setCell ⟨hb, 0, none⟩ (.int .i32 1) = w1 at *
  refine HM1.out.mono ?_
  rintro e w2 ⟨rfl, T2⟩
  have HW1 := Hd hw1
  have HT2 := Hd (T2.alloc (.cells #[.int .u64 p, .int .u64 S] 71))
  have R2 := HR1.out.touch0 HT2.out
  have HR2 := Hd R2
  have b1 := (Blk.new w2 #[.int .u64 p, .int .u64 S] 71).cell 1
  clear hw1 R2 T2 c0 f0
  go_wp2_with fail
  refine (HRd.out _ HR2.out).mono ?_
  rintro e w3 ⟨rfl, rfl⟩
  go_wp2_with fail
  refine (HTk.out _ HR2.out).mono ?_
  rintro e w4 ⟨rfl, W, T4, K', S4, N4, T5⟩
  have R4 := (HR2.out.touch0 T4).next T5 N4 S4 ⟨rfl, rfl, rfl⟩
  have HR4 := Hd R4
  have HN4 := Hd N4
  have HT4 := Hd (HT2.out.none_.trans (T4.none_.trans T5))
  have HT40 := Hd (HT2.out.trans T4)
  have hm := R4.cells.1
  have fm := R4.cells.2.2.2.2.2
  clear S4 R4 N4 T4 T5 b1
  go_wp2
  refine leaves_cons (f := 59) (args := #[.pointer (some ⟨hb, 0, none⟩)]) (by simp) (by simp [go_sem]) ?_
  refine (unlock_deferred Tryz.muLib ⟨hb, 0, none⟩ .returning _ hm fm).mono ?_
  rintro e u' w'' ⟨rfl, rfl, rfl⟩
  have N := HN4.out
  exact ⟨_, results_tmp2 rfl _ _ _, HpRep.unlocked HW1.out.symm HR4.out ⟨N.bb, N.sb, N.mb, fun k hk => (N.fresh k hk).elim .inl (fun h => .inr (Nat.le_trans HT40.out.size h))⟩ HT4.out⟩
theorem move_done {w w1 w2 w4 w6 w7 W : World} {hb s pb : Nat} {K K' K'' : BuL} {β3 : Bu} {ps3 : List Int} (hw1 : w.setCell ⟨hb, 0, none⟩ (.int .i32 1) = w1) (T2 : Touch Nothing w1 w2) (T4 : Touch Nothing w2 W) (N4 : K.Next W K') (T5 : Touch (· ∈ s :: K.fp) W w4)
  (T6 : Touch (· ∈ K'.fp) w4 w6) (R7 : HpRep 1 w7 hb s pb K'' β3 ps3) (N7 : K'.Next w6 K'') (T7 : Touch (· ∈ s :: K'.fp) w6 w7) (v : Value) :
  Heaped w hb s pb K β3 ps3 v (.returned v) (w7.setCell ⟨hb, 0, none⟩ (.int .i32 0)) := by
 have h12 := Nat.le_trans T2.size T4.size
 have h14 := Nat.le_trans h12 T5.size
 have h16 := Nat.le_trans h14 T6.size
 have hf : ∀ k, k ∈ s :: K'.fp → k ∈ s :: K.fp ∨ W.heap.size ≤ k := fun k hk => by
  rcases List.mem_cons.1 hk with h | h
  ·exact .inl (by simp [h])
  ·exact (N4.fresh k h).imp (fun h => List.mem_cons_of_mem _ h) id
 have TT : Touch (· ∈ s :: K.fp) w1 w7 := by
  have t1 : Touch (· ∈ s :: K.fp) w1 w4 := ((T2.trans T4).none_).trans T5
  have t2 : Touch (· ∈ s :: K.fp) w1 w6 := t1.trans' T6 (fun i hi h => by
   rcases hf i (List.mem_cons_of_mem _ h) with h | h
   ·exact h
   ·omega)
  exact t2.trans' T7 (fun i hi h => by
   rcases hf i h with h | h
   ·exact h
   ·omega)
 refine HpRep.unlocked hw1.symm R7 ⟨N7.bb.trans N4.bb, N7.sb.trans N4.sb, N7.mb.trans N4.mb, fun k hk => ?_⟩ TT
 rcases N7.fresh k hk with h | h
 ·rcases N4.fresh k h with h | h
  ·exact .inl h
  ·exact .inr (by omega)
 ·exact .inr (by omega)
theorem HpRep.realloc_move {w : World} {hb s pb : Nat} {K : BuL} {β β1 β3 : Bu} {ps ps1 ps3 : List Int} (R : HpRep 0 w hb s pb K β ps) (p size S r q n : Nat) (deny : Bool) (hp : ((p : Int) == 0) = false) (hne : ¬ ((r : Int) = S)) (hnc : ¬ ((4096 : Int) ≤ r ∧ (r : Int) < S)) (hn : n = min r S) (hσ : β1.σ.base = β.σ.base ∧ β1.σ.limit = β.σ.limit ∧ β1.μ.order = β.μ.order)
  (H1 : β1.σ.has q n) (H2 : β1.σ.has p n)
  (HS : ∀ W, HpRep 1 W hb s pb K β ps → Calls Tryz.prog 99 #[.pointer (some ⟨hb, 0, none⟩), .int .u64 p] W (Started W p S 0))
  (HQ : ∀ W, HpRep 1 W hb s pb K β ps → Calls Tryz.prog 135 #[.pointer (some ⟨hb, 0, none⟩), .int .u64 size, .int .u64 1] W (Rounded W (r, 0)))
  (HT : ∀ W, HpRep 1 W hb s pb K β ps → Calls Tryz.prog 139 #[.pointer (some ⟨hb, 0, none⟩), .int .u64 r, .bool deny] W (TookAs W q 0 (QSl s pb K β1 ps1)))
  (HG : ∀ W K', HpRep 1 W hb s pb K' { β1 with σ := β1.σ.put q (β1.σ.nums p n) } ps1 → Calls Tryz.prog 141 #[.pointer (some ⟨hb, 0, none⟩), .agg #[.int .u64 p, .int .u64 S]] W (Turns 1 W hb s pb K' β3 ps3 (.tuple #[]))) :
  Calls Tryz.prog 91 #[.pointer (some ⟨hb, 0, none⟩), .int .u64 p, .int .u64 size, .bool deny] w (Heaped w hb s pb K β3 ps3 (.tuple #[.int .u64 q, .int .i64 0])) := by
 obtain ⟨c0, -, -, -, -, f0⟩ := R.cells
 have R1 := R.locked 1
 have HM1 := Hd (HS _ R1)
 have HR1 := Hd R1
 have HRd := Hd HQ
 have HTk := Hd HT
 have HGv := Hd HG
 have HH := Hd (And.intro H1 (And.intro H2 hσ))
 have HN := Hd hn
 clear R HS R1 HQ HT HG H1 H2 hσ hn
 have HMn := Hd (show min (r : Int) (S : Int) = (n : Int) by have := HN.out; omega)
 by_cases h4 : (4096 : Int) ≤ r
 ·have hlt : ¬ ((r : Int) < S) := fun h => hnc ⟨h4, h⟩
  clear hnc
  go_enter_defers Tryz.func91, Tryz.ntmps91
  go_wp2_with (go_at_call 58; refine (lock_free Tryz.muLib ⟨hb, 0, none⟩ _ c0 f0).mono ?_; rintro e w' ⟨rfl, rfl⟩)
  generalize hw1 : w.setCell ⟨hb, 0, none⟩ (.int .i32 1) = w1 at *
  refine HM1.out.mono ?_
  rintro e w2 ⟨rfl, T2⟩
  have HW1 := Hd hw1
  have HT2 := Hd (T2.alloc (.cells #[.int .u64 p, .int .u64 S] 71))
  have R2 := HR1.out.touch0 HT2.out
  have HR2 := Hd R2
  have B1 := Hd (Blk.new w2 #[.int .u64 p, .int .u64 S] 71)
  have b1 := B1.out.cell 1
  have HX := Hd (show ¬ w2.heap.size ∈ s :: K.fp from fun h => by
   have h1 := T2.size
   have h2 := HR1.out.lt w2.heap.size (by simp only [List.mem_cons] at h ⊢; rcases h with h | h; exact .inr (.inl h); exact .inr (.inr (.inr h)))
   omega)
  clear hw1 R2 T2 c0 f0
  go_wp2_with fail
  refine (HRd.out _ HR2.out).mono ?_
  rintro e w3 ⟨rfl, rfl⟩
  go_wp2_with fail
  refine (HTk.out _ HR2.out).mono ?_
  rintro e w4 ⟨rfl, W, T4, K', S4, N4, T5⟩
  have R4 := (HR2.out.touch0 T4).next T5 N4 S4 HH.out.2.2
  have B4 := (B1.out.touch T4 (fun h => h)).touch T5 HX.out
  have HR4 := Hd R4
  have HN4 := Hd N4
  have HT4 := Hd T4
  have HT5 := Hd T5
  have b0 := B4.cell 0
  have b1 := B4.cell 1
  have c5 := R4.cells.2.2.2.1
  have HB4 := Hd B4
  have R4d := R4.touch0 ((Touch.refl Nothing w4).drew)
  have HSp := Hd R4d.sl.po.space_
  have HCp := Hd (R4d.sl.po.bu.sp.copy_ q p n HH.out.1 HH.out.2.1)
  have HR4d := Hd R4d
  clear S4 R4 R4d N4 T4 T5 B4
  go_wp2_with fail
  refine wp_region_still_tail 13 (by kernel_rfl) (by kernel_rfl) ?_
  simp only [List.take_succ_cons, List.take_zero, List.drop_succ_cons, List.drop_zero, World.drew_eq]
  repeat still_step
  still_call (HSp.out.mono fun _ _ h => ⟨h.1, h.2.symm⟩)
  repeat still_step
  refine wpStill_nil ?_
  go_wp2_with fail
  rw [HMn.out]
  refine HCp.out.mono ?_
  rintro e w5 ⟨rfl, r5, t5⟩
  obtain ⟨b5, T5⟩ := HR4d.out.sl.po.bu.bytes r5 t5 (Sp.put_same _ _ _)
  have S5 := HR4d.out.sl.next T5 (BuL.Next.refl _ _) b5
  have R5 := HR4d.out.next (T5.mono (fun b _ hb => List.mem_cons_of_mem _ hb)) (BuL.Next.refl _ _) S5 ⟨rfl, rfl, rfl⟩
  have HT6 := Hd ((Touch.refl Nothing w4).drew.none_.trans T5)
  have hnot : ¬ w2.heap.size ∈ K'.fp := fun h => by
   rcases HN4.out.fresh _ h with h | h
   ·exact HX.out (List.mem_cons_of_mem _ h)
   ·have := HT4.out.size
    have := B1.out.lt
    omega
  have B5 := HB4.out.touch HT6.out hnot
  have HGc := Hd (HGv.out _ _ R5)
  have e0 := B5.cell 0
  have e1 := B5.cell 1
  simp only [List.getElem?_cons_zero, List.getElem?_cons_succ] at e0 e1
  clear r5 t5 b5 T5 S5 R5 B5 hnot b0 b1 c5
  go_wp2_with fail
  refine HGc.out.mono ?_
  rintro e w6 ⟨rfl, K'', R6, N6, T6⟩
  have HR6 := Hd R6
  have HN6 := Hd N6
  have HT7 := Hd T6
  have hm := R6.cells.1
  have fm := R6.cells.2.2.2.2.2
  clear R6 N6 T6 e0 e1
  go_wp2
  refine leaves_cons (f := 59) (args := #[.pointer (some ⟨hb, 0, none⟩)]) (by simp) (by simp [go_sem]) ?_
  refine (unlock_deferred Tryz.muLib ⟨hb, 0, none⟩ .returning _ hm fm).mono ?_
  rintro e u' w'' ⟨rfl, rfl, rfl⟩
  exact ⟨_, results_tmp2 rfl _ _ _, move_done HW1.out HT2.out HT4.out HN4.out HT5.out HT6.out HR6.out HN6.out HT7.out _⟩
 ·clear hnc
  go_enter_defers Tryz.func91, Tryz.ntmps91
  go_wp2_with (go_at_call 58; refine (lock_free Tryz.muLib ⟨hb, 0, none⟩ _ c0 f0).mono ?_; rintro e w' ⟨rfl, rfl⟩)
  generalize hw1 : w.setCell ⟨hb, 0, none⟩ (.int .i32 1) = w1 at *
  refine HM1.out.mono ?_
  rintro e w2 ⟨rfl, T2⟩
  have HW1 := Hd hw1
  have HT2 := Hd (T2.alloc (.cells #[.int .u64 p, .int .u64 S] 71))
  have R2 := HR1.out.touch0 HT2.out
  have HR2 := Hd R2
  have B1 := Hd (Blk.new w2 #[.int .u64 p, .int .u64 S] 71)
  have b1 := B1.out.cell 1
  have HX := Hd (show ¬ w2.heap.size ∈ s :: K.fp from fun h => by
   have h1 := T2.size
   have h2 := HR1.out.lt w2.heap.size (by simp only [List.mem_cons] at h ⊢; rcases h with h | h; exact .inr (.inl h); exact .inr (.inr (.inr h)))
   omega)
  clear hw1 R2 T2 c0 f0
  go_wp2_with fail
  refine (HRd.out _ HR2.out).mono ?_
  rintro e w3 ⟨rfl, rfl⟩
  go_wp2_with fail
  refine (HTk.out _ HR2.out).mono ?_
  rintro e w4 ⟨rfl, W, T4, K', S4, N4, T5⟩
  have R4 := (HR2.out.touch0 T4).next T5 N4 S4 HH.out.2.2
  have B4 := (B1.out.touch T4 (fun h => h)).touch T5 HX.out
  have HR4 := Hd R4
  have HN4 := Hd N4
  have HT4 := Hd T4
  have HT5 := Hd T5
  have b0 := B4.cell 0
  have b1 := B4.cell 1
  have c5 := R4.cells.2.2.2.1
  have HB4 := Hd B4
  have R4d := R4.touch0 ((Touch.refl Nothing w4).drew)
  have HSp := Hd R4d.sl.po.space_
  have HCp := Hd (R4d.sl.po.bu.sp.copy_ q p n HH.out.1 HH.out.2.1)
  have HR4d := Hd R4d
  clear S4 R4 R4d N4 T4 T5 B4
  go_wp2_with fail
  refine wp_region_still_tail 13 (by kernel_rfl) (by kernel_rfl) ?_
  simp only [List.take_succ_cons, List.take_zero, List.drop_succ_cons, List.drop_zero, World.drew_eq]
  repeat still_step
  still_call (HSp.out.mono fun _ _ h => ⟨h.1, h.2.symm⟩)
  repeat still_step
  refine wpStill_nil ?_
  go_wp2_with fail
  rw [HMn.out]
  refine HCp.out.mono ?_
  rintro e w5 ⟨rfl, r5, t5⟩
  obtain ⟨b5, T5⟩ := HR4d.out.sl.po.bu.bytes r5 t5 (Sp.put_same _ _ _)
  have S5 := HR4d.out.sl.next T5 (BuL.Next.refl _ _) b5
  have R5 := HR4d.out.next (T5.mono (fun b _ hb => List.mem_cons_of_mem _ hb)) (BuL.Next.refl _ _) S5 ⟨rfl, rfl, rfl⟩
  have HT6 := Hd ((Touch.refl Nothing w4).drew.none_.trans T5)
  have hnot : ¬ w2.heap.size ∈ K'.fp := fun h => by
   rcases HN4.out.fresh _ h with h | h
   ·exact HX.out (List.mem_cons_of_mem _ h)
   ·have := HT4.out.size
    have := B1.out.lt
    omega
  have B5 := HB4.out.touch HT6.out hnot
  have HGc := Hd (HGv.out _ _ R5)
  have e0 := B5.cell 0
  have e1 := B5.cell 1
  simp only [List.getElem?_cons_zero, List.getElem?_cons_succ] at e0 e1
  clear r5 t5 b5 T5 S5 R5 B5 hnot b0 b1 c5
  go_wp2_with fail
  refine HGc.out.mono ?_
  rintro e w6 ⟨rfl, K'', R6, N6, T6⟩
  have HR6 := Hd R6
  have HN6 := Hd N6
  have HT7 := Hd T6
  have hm := R6.cells.1
  have fm := R6.cells.2.2.2.2.2
  clear R6 N6 T6 e0 e1
  go_wp2
  refine leaves_cons (f := 59) (args := #[.pointer (some ⟨hb, 0, none⟩)]) (by simp) (by simp [go_sem]) ?_
  refine (unlock_deferred Tryz.muLib ⟨hb, 0, none⟩ .returning _ hm fm).mono ?_
  rintro e u' w'' ⟨rfl, rfl, rfl⟩
  exact ⟨_, results_tmp2 rfl _ _ _, move_done HW1.out HT2.out HT4.out HN4.out HT5.out HT6.out HR6.out HN6.out HT7.out _⟩
end Go.Proofs.YtnjcmcnjgdjbiaaGreatDoor
namespace Go.Proofs.YtnjcmcnjgdjbiaaGreatDoor
open Go.RowKit
theorem HS.realloc {β : Bu} {ps : List Int} {F C L : Nat → List Nat} (I : HS β ps F C L) (p size : Nat) (deny : Bool) (hp : p < 18446744073709551616) (hp0 : p ≠ 0) (h1 : size < 18446744073709551616) :
  ((∀ S, ¬ Live β p S) ∧ ∀ (w : World) (hb s pb : Nat) (K : BuL), HpRep 0 w hb s pb K β ps → Calls Tryz.prog 91 #[.pointer (some ⟨hb, 0, none⟩), .int .u64 p, .int .u64 size, .bool deny] w (Heaped w hb s pb K β ps (.tuple #[.int .u64 (0 : Nat), .int .i64 1]))) ∨
  (∃ S, Live β p S ∧
   (((roundN β.σ.size size 1).2 ≠ 0 ∧ ∀ (w : World) (hb s pb : Nat) (K : BuL), HpRep 0 w hb s pb K β ps → Calls Tryz.prog 91 #[.pointer (some ⟨hb, 0, none⟩), .int .u64 p, .int .u64 size, .bool deny] w (Heaped w hb s pb K β ps (.tuple #[.int .u64 (0 : Nat), .int .i64 (roundN β.σ.size size 1).2]))) ∨
   (∃ r, roundN β.σ.size size 1 = (r, 0) ∧ SizeOk β.μ.order r ∧
    ((r = S ∧ ∀ (w : World) (hb s pb : Nat) (K : BuL), HpRep 0 w hb s pb K β ps → Calls Tryz.prog 91 #[.pointer (some ⟨hb, 0, none⟩), .int .u64 p, .int .u64 size, .bool deny] w (Heaped w hb s pb K β ps (.tuple #[.int .u64 p, .int .i64 0]))) ∨
    (4096 ≤ r ∧ r < S ∧ ∃ β' F', HS β' ps F' C L ∧ Cutd β β' p r ∧ ∀ (w : World) (hb s pb : Nat) (K : BuL), HpRep 0 w hb s pb K β ps → Calls Tryz.prog 91 #[.pointer (some ⟨hb, 0, none⟩), .int .u64 p, .int .u64 size, .bool deny] w (Heaped w hb s pb K β' ps (.tuple #[.int .u64 p, .int .i64 0]))) ∨
    (r ≠ S ∧ ¬ (4096 ≤ r ∧ r < S) ∧ ∃ β1 β' ps' F' C' L' q, Took β F L r deny β1 q ∧ β'.σ.n = β1.σ.n ∧ HS β' ps' F' C' L' ∧ Moved β β' p q r (min r S) ∧ ∀ (w : World) (hb s pb : Nat) (K : BuL), HpRep 0 w hb s pb K β ps → Calls Tryz.prog 91 #[.pointer (some ⟨hb, 0, none⟩), .int .u64 p, .int .u64 size, .bool deny] w (Heaped w hb s pb K β' ps' (.tuple #[.int .u64 q, .int .i64 0]))) ∨
    (r ≠ S ∧ ¬ (4096 ≤ r ∧ r < S) ∧ NoRoom β.μ.order F L r ∧ (deny = true ∨ β.σ.n = β.σ.limit) ∧ ∀ (w : World) (hb s pb : Nat) (K : BuL), HpRep 0 w hb s pb K β ps → Calls Tryz.prog 91 #[.pointer (some ⟨hb, 0, none⟩), .int .u64 p, .int .u64 size, .bool deny] w (Heaped w hb s pb K β ps (.tuple #[.int .u64 (0 : Nat), .int .i64 2]))))))) := by
 have hpi : ((p : Int) == 0) = false := by
  simp
  omega
 rcases I.start p hp with ⟨S, hL, HSt⟩ | ⟨hno, HSt⟩
 ·right
  refine ⟨S, hL, ?_⟩
  by_cases he : (roundN β.σ.size size 1).2 = 0
  ·right
   obtain ⟨r, hr⟩ : ∃ r, roundN β.σ.size size 1 = (r, 0) := ⟨_, Prod.ext rfl he⟩
   have hok : SizeOk β.μ.order r := (round_ok (align := 1) I.inv.ord h1 (by omega) (by rw [← I.nums.size]; exact hr)).1
   have HQ : ∀ {w : World} {hb s pb : Nat} {K : BuL}, ∀ W, HpRep 1 W hb s pb K β ps → Calls Tryz.prog 135 #[.pointer (some ⟨hb, 0, none⟩), .int .u64 size, .int .u64 1] W (Rounded W (r, 0)) := fun W R => by
    have := R.round_ size 1 h1 (by omega)
    rwa [hr] at this
   refine ⟨r, hr, hok, ?_⟩
   by_cases h2 : r = S
   ·exact .inl ⟨h2, fun w hb s pb K R => (R.realloc_same p size S r deny hpi (by omega) (fun W RW => HSt 1 W hb s pb K RW) (HQ (w := w))).mono fun _ _ h => h.heaped⟩
   right
   by_cases h3 : 4096 ≤ r ∧ r < S
   ·left
    refine ⟨h3.1, h3.2, ?_⟩
    rcases hL with ⟨a, k, hk, hB, rfl, rfl⟩ | ⟨i, c, x, hc, hx, rfl, rfl⟩
    ·rcases hok with ⟨c, hc, rfl⟩ | ⟨o, ho, rfl⟩
     ·have := (wdOf_pos hc).2
      omega
     ·have lo : o ≤ k := pow_mono_le (by omega)
      obtain ⟨I', Cd⟩ := I.shrinkBig I.nums.has lo hk hB
      have bl : ∀ j, j ≤ β.μ.order → (Lib.bitLen (4096 * 2 ^ j / 4096) : Int) - 1 = j := fun j hj => by
       have := I.inv.ord
       rw [Nat.mul_div_cancel_left _ (by omega), bitLen_pow j (by omega)]
       omega
      have hp8 := pow_le8' (o := k) (by have := I.inv.ord; omega)
      exact ⟨_, _, I', Cd, fun w hb s pb K R => R.realloc_cut (β.addr a) size _ _ k o deny hpi (by omega) (by omega) (by omega) (bl k hk) (bl o ho) ⟨Cd.base, Cd.limit, Cd.order⟩ (fun W RW => HSt 1 W hb s pb K RW) (HQ (w := w)) (fun W RW => RW.sl.po.bu.shrink_ I.inv lo hk hB)⟩
    ·have := (wdOf_pos hc).2
     omega
   right
   have h2' : ¬ ((r : Int) = S) := by omega
   have h3' : ¬ ((4096 : Int) ≤ r ∧ (r : Int) < S) := by omega
   rcases I.take r deny hok with ⟨β1, ps1, F1, C1, L1, q, I1, T, HC⟩ | ⟨h4, h5, HC⟩
   ·left
    have hq1 : Live β1 q r := (T.more.live q r).2 (.inr ⟨rfl, rfl⟩)
    have hp1 : Live β1 p S := (T.more.live p S).2 (.inl hL)
    have hr0 : 0 < r := hq1.pos.1
    have hS0 : 0 < S := hL.pos.1
    have hinq : InLive β1 q (min r S) := ⟨q, r, hq1, Nat.le_refl _, by omega⟩
    have hinp : InLive β1 p (min r S) := ⟨p, S, hp1, Nat.le_refl _, by omega⟩
    have hlen : (β1.σ.nums p (min r S)).length = min r S := by simp [Sp.nums]
    have I2 := I1.write (p := q) (bs := β1.σ.nums p (min r S)) (by rw [hlen]; exact hinq)
    obtain ⟨β3, ps3, F3, C3, L3, I3, G, HG⟩ := I2.give hp1
    refine ⟨h2, h3, β1, β3, ps3, F3, C3, L3, q, T, G.n, I3, T.more.moved hL (by omega) (by omega) G, fun w hb s pb K R => ?_⟩
    exact R.realloc_move p size S r q (min r S) deny hpi h2' h3' rfl T.more.same (I1.hasIn (by omega) hinq) (I1.hasIn (by omega) hinp) (fun W RW => HSt 1 W hb s pb K RW) (HQ (w := w)) (fun W RW => HC 1 W hb s pb K RW) (fun W K' RW => HG 1 W hb s pb K' RW)
   ·right
    exact ⟨h2, h3, h4, h5, fun w hb s pb K R => R.realloc_none p size S r 0 2 deny hpi h2' h3' (by omega) (fun W RW => HSt 1 W hb s pb K RW) (HQ (w := w)) (fun W RW => HC 1 W hb s pb K RW)⟩
  ·left
   refine ⟨he, fun w hb s pb K R => (R.realloc_round p size S _ _ deny hpi he (fun W RW => HSt 1 W hb s pb K RW) (fun W RW => RW.round_ size 1 h1 (by omega))).mono fun _ _ h => h.heaped⟩
 ·left
  exact ⟨hno, fun w hb s pb K R => (R.realloc_off p size deny hpi (fun W RW => HSt 1 W hb s pb K RW)).mono fun _ _ h => h.heaped⟩
end Go.Proofs.YtnjcmcnjgdjbiaaGreatDoor
namespace Go.Proofs.YtnjcmcnjgdjbiaaGreatDoor
open Go.RowKit Go.MuLone
theorem HpRep.calloc_over {w : World} {hb s pb : Nat} {K : BuL} {β : Bu} {ps : List Int} (R : HpRep 0 w hb s pb K β ps) (n size hi lo : Nat) (deny : Bool) (hne : ¬ ((hi : Int) = 0))
  (hMul : ∀ W, Calls Tryz.prog 132 #[.int .u64 n, .int .u64 size] W fun e w' => e = .returned (.tuple #[.int .u64 hi, .int .u64 lo]) ∧ w' = W) :
  Calls Tryz.prog 89 #[.pointer (some ⟨hb, 0, none⟩), .int .u64 n, .int .u64 size, .bool deny] w (Looked w hb s pb K β ps (.tuple #[.int .u64 (0 : Nat), .int .i64 3])) := by
 obtain ⟨c0, -, -, -, -, f0⟩ := R.cells
 have R1 := R.locked 1
 have HR1 := Hd R1
 have HMu := Hd hMul
 have hm := R1.cells.1
 have fm := R1.cells.2.2.2.2.2
 clear R R1 hMul
 go_enter_defers Tryz.func89, Tryz.ntmps89
 go_wp2_with (go_at_call 58; refine (lock_free Tryz.muLib ⟨hb, 0, none⟩ _ c0 f0).mono ?_; rintro e w' ⟨rfl, rfl⟩)
 generalize hw1 : w.setCell ⟨hb, 0, none⟩ (.int .i32 1) = w1 at *
 have HW1 := Hd hw1
 clear hw1
 refine (HMu.out _).mono ?_
 rintro e w2 ⟨rfl, rfl⟩
 go_wp2
 refine leaves_cons (f := 59) (args := #[.pointer (some ⟨hb, 0, none⟩)]) (by simp) (by simp [go_sem]) ?_
 refine (unlock_deferred Tryz.muLib ⟨hb, 0, none⟩ .returning _ hm fm).mono ?_
 rintro e u' w'' ⟨rfl, rfl, rfl⟩
 exact ⟨_, results_tmp2 rfl _ _ _, HpRep.relock HW1.out.symm HR1.out (Touch.refl _ _)⟩
theorem HpRep.calloc_err {w : World} {hb s pb : Nat} {K : BuL} {β : Bu} {ps : List Int} (R : HpRep 0 w hb s pb K β ps) (n size low : Nat) (er : Int) (deny : Bool) (her : er ≠ 0)
  (hMul : ∀ W, Calls Tryz.prog 132 #[.int .u64 n, .int .u64 size] W fun e w' => e = .returned (.tuple #[.int .u64 (0 : Nat), .int .u64 low]) ∧ w' = W)
  (HM : ∀ W, HpRep 1 W hb s pb K β ps → Calls Tryz.prog 133 #[.pointer (some ⟨hb, 0, none⟩), .int .u64 low, .int .u64 1, .bool deny] W (Did W (.tuple #[.agg #[.int .u64 (0 : Nat), .int .u64 (0 : Nat)], .int .i64 er]) (QSl s pb K β ps))) :
  Calls Tryz.prog 89 #[.pointer (some ⟨hb, 0, none⟩), .int .u64 n, .int .u64 size, .bool deny] w (Heaped w hb s pb K β ps (.tuple #[.int .u64 (0 : Nat), .int .i64 er])) := by
 obtain ⟨c0, -, -, -, -, f0⟩ := R.cells
 have R1 := R.locked 1
 have HM1 := Hd (HM _ R1)
 have HR1 := Hd R1
 have HMu := Hd hMul
 clear R HM R1 hMul
 go_enter_defers Tryz.func89, Tryz.ntmps89
 go_wp2_with (go_at_call 58; refine (lock_free Tryz.muLib ⟨hb, 0, none⟩ _ c0 f0).mono ?_; rintro e w' ⟨rfl, rfl⟩)
 generalize hw1 : w.setCell ⟨hb, 0, none⟩ (.int .i32 1) = w1 at *
 refine (HMu.out _).mono ?_
 rintro e w2 ⟨rfl, rfl⟩
 go_wp2_with fail
 refine HM1.out.mono ?_
 rintro e w2 hD
 obtain ⟨K', R2, N2, T2⟩ := Did.hp HR1.out hD ⟨rfl, rfl, rfl⟩
 obtain ⟨rfl, -⟩ := hD
 have HW1 := Hd hw1
 have R3 := R2.touch0 ((Touch.refl Nothing w2).alloc (.cells #[.int .u64 (0 : Nat), .int .u64 (0 : Nat)] 71))
 have HR3 := Hd R3
 have HN2 := Hd N2
 have HT2 := Hd (T2.alloc (.cells #[.int .u64 (0 : Nat), .int .u64 (0 : Nat)] 71))
 have hm := R3.cells.1
 have fm := R3.cells.2.2.2.2.2
 clear hw1 R2 R3 N2 T2 c0 f0
 go_wp2
 refine leaves_cons (f := 59) (args := #[.pointer (some ⟨hb, 0, none⟩)]) (by simp) (by simp [go_sem]) ?_
 refine (unlock_deferred Tryz.muLib ⟨hb, 0, none⟩ .returning _ hm fm).mono ?_
 rintro e u' w'' ⟨rfl, rfl, rfl⟩
 exact ⟨_, results_tmp2 rfl _ _ _, HpRep.unlocked HW1.out.symm HR3.out HN2.out HT2.out⟩
theorem HS.calloc {β : Bu} {ps : List Int} {F C L : Nat → List Nat} (I : HS β ps F C L) (n size : Nat) (deny : Bool) (h1 : n < 18446744073709551616) (h2 : size < 18446744073709551616) :
  (18446744073709551616 ≤ n * size ∧ ∀ (w : World) (hb s pb : Nat) (K : BuL), HpRep 0 w hb s pb K β ps → Calls Tryz.prog 89 #[.pointer (some ⟨hb, 0, none⟩), .int .u64 n, .int .u64 size, .bool deny] w (Heaped w hb s pb K β ps (.tuple #[.int .u64 (0 : Nat), .int .i64 3]))) ∨
  (n * size < 18446744073709551616 ∧ (roundN β.σ.size (n * size) 1).2 ≠ 0 ∧ ∀ (w : World) (hb s pb : Nat) (K : BuL), HpRep 0 w hb s pb K β ps → Calls Tryz.prog 89 #[.pointer (some ⟨hb, 0, none⟩), .int .u64 n, .int .u64 size, .bool deny] w (Heaped w hb s pb K β ps (.tuple #[.int .u64 (0 : Nat), .int .i64 (roundN β.σ.size (n * size) 1).2]))) ∨
  (n * size < 18446744073709551616 ∧ ∃ r β' ps' F' C' L' p, roundN β.σ.size (n * size) 1 = (r, 0) ∧ SizeOk β.μ.order r ∧ HS β' ps' F' C' L' ∧ Took β F L r deny β' p ∧ (∀ i, i < r → β'.σ.mem (p + i) = 0) ∧
   ∀ (w : World) (hb s pb : Nat) (K : BuL), HpRep 0 w hb s pb K β ps → Calls Tryz.prog 89 #[.pointer (some ⟨hb, 0, none⟩), .int .u64 n, .int .u64 size, .bool deny] w (Heaped w hb s pb K β' ps' (.tuple #[.int .u64 p, .int .i64 0]))) ∨
  (n * size < 18446744073709551616 ∧ ∃ r, roundN β.σ.size (n * size) 1 = (r, 0) ∧ SizeOk β.μ.order r ∧ NoRoom β.μ.order F L r ∧ (deny = true ∨ β.σ.n = β.σ.limit) ∧
   ∀ (w : World) (hb s pb : Nat) (K : BuL), HpRep 0 w hb s pb K β ps → Calls Tryz.prog 89 #[.pointer (some ⟨hb, 0, none⟩), .int .u64 n, .int .u64 size, .bool deny] w (Heaped w hb s pb K β ps (.tuple #[.int .u64 (0 : Nat), .int .i64 2]))) := by
 have hmul := fun W => Tryz.bits_Mul64 n size h1 h2 W
 by_cases ho : 18446744073709551616 ≤ n * size
 ·left
  have hhi : ¬ (((n * size / 18446744073709551616 : Nat) : Int) = 0) := by
   have := Nat.div_pos ho (by omega)
   omega
  exact ⟨ho, fun w hb s pb K R => (R.calloc_over n size _ _ deny hhi hmul).mono fun _ _ h => h.heaped⟩
 ·right
  have ho' : n * size < 18446744073709551616 := by omega
  have hmul' : ∀ W, Calls Tryz.prog 132 #[.int .u64 n, .int .u64 size] W fun e w' => e = .returned (.tuple #[.int .u64 (0 : Nat), .int .u64 (n * size : Nat)]) ∧ w' = W := fun W => by
   have := hmul W
   rw [Nat.div_eq_of_lt ho', Nat.mod_eq_of_lt ho'] at this
   exact this
  rcases I.malloc (n * size) 1 deny ho' (by omega) with ⟨he, H⟩ | ⟨r, β', ps', F', C', L', p, h3, h4, I', T, H⟩ | ⟨r, h3, h4, h5, h6, H⟩
  ·exact .inl ⟨ho', he, fun w hb s pb K R => R.calloc_err n size (n * size) _ deny he hmul' (fun W RW => H 1 W hb s pb K RW)⟩
  ·right; left
   have hL : Live β' p r := (T.more.live p r).2 (.inr ⟨rfl, rfl⟩)
   have hr0 : 0 < r := hL.pos.1
   have hin : InLive β' p r := ⟨p, r, hL, Nat.le_refl _, Nat.le_refl _⟩
   have hin' : InLive β' p (List.replicate r 0).length := by rw [List.length_replicate]; exact hin
   have I2 := I'.write hin'
   refine ⟨ho', r, _, ps', F', C', L', p, h3, h4, I2, ⟨T.more.put (by rw [List.length_replicate]; exact Nat.le_refl _), T.grew⟩, fun i hi => ?_, fun w hb s pb K R => ?_⟩
   ·rw [put_in _ _ _ (by rw [List.length_replicate]; exact hi)]
    rw [List.getD_eq_getElem?_getD, List.getElem?_replicate, if_pos hi]
    rfl
   ·exact R.calloc_ok n size p r deny T.more.same ho' (fun W => (hmul' W).mono fun _ _ h => h) (I'.hasIn hr0 hin) (fun W RW => H 1 W hb s pb K RW)
  ·exact .inr (.inr ⟨ho', r, h3, h4, h5, h6, fun w hb s pb K R => R.calloc_err n size (n * size) 2 deny (by omega) hmul' (fun W RW => H 1 W hb s pb K RW)⟩)
end Go.Proofs.YtnjcmcnjgdjbiaaGreatDoor
namespace Go.Proofs.YtnjcmcnjgdjbiaaGreatDoor
def Bu.topPage (β : Bu) : Nat := β.μ.pages.length - 2 ^ β.μ.order
def Bu.lowered (β : Bu) : Bu :=
 { β.pulled β.topPage with σ := (β.pulled β.topPage).σ.less, μ := (β.pulled β.topPage).μ.shrink }
theorem lowered_σ (β : Bu) : β.lowered.σ = (β.pulled β.topPage).σ.less := by unfold Bu.lowered; rfl
theorem lowered_μ (β : Bu) : β.lowered.μ = (β.pulled β.topPage).μ.shrink := by unfold Bu.lowered; rfl
theorem less_same (σ : Sp) : σ.less.base = σ.base ∧ σ.less.limit = σ.limit ∧ σ.less.order = σ.order ∧ σ.less.size = σ.size ∧ σ.less.n = σ.n - 1 ∧ σ.less.mem = σ.mem := ⟨rfl, rfl, rfl, rfl, rfl, rfl⟩
theorem lowered_inv {β : Bu} {F : Nat → List Nat} {H : Nat → Prop} (h : BInv { β.pulled β.topPage with σ := (β.pulled β.topPage).σ.less, μ := (β.pulled β.topPage).μ.shrink } F H) : BInv β.lowered F H := by unfold Bu.lowered; exact h
theorem pulled_order (β : Bu) (x : Nat) : (β.pulled x).μ.order = β.μ.order := by unfold Bu.pulled; exact (run_same _ _ _ _).1
theorem pulled_len (β : Bu) (x : Nat) : (β.pulled x).μ.pages.length = β.μ.pages.length := by unfold Bu.pulled; exact run_len _ _ _ _
structure Lowered (β β' : Bu) : Prop where
 base : β'.σ.base = β.σ.base
 order : β'.μ.order = β.μ.order
 limit : β'.σ.limit = β.σ.limit
 n : β'.σ.n + 1 = β.σ.n
 live : ∀ P S, Live β' P S ↔ Live β P S
 byte : ∀ P S, Live β P S → ∀ q, P ≤ q → q < P + S → β'.σ.mem q = β.σ.mem q
theorem SInv.same4 {β β' : Bu} {ps : List Int} {C L : Nat → List Nat} (S : SInv β ps C L) (hpg : ∀ (i : Nat) (p : Pg), p.kind = 4 → (β'.μ.pages[i]? = some p ↔ β.μ.pages[i]? = some p)) (hb : β'.σ.base = β.σ.base) (hm : ∀ a, β'.σ.mem a = β.σ.mem a) : SInv β' ps C L := by
 refine ⟨S.len, fun i p hp h4 => ?_, fun c hc => ?_, S.nodup, fun c hc i => ?_⟩
 ·have hp0 := (hpg i p h4).1 hp
  have := S.pages i p hp0 h4
  unfold Bu.addr at this ⊢
  rw [hb]
  exact this.page_bytes (fun off _ => hm _)
 ·refine PL.congr (fun i hi => ?_) (S.lists c hc)
  obtain ⟨p, hp, h4, _⟩ := (S.mem c hc i).1 hi
  have hp' := (hpg i p h4).2 hp
  rw [nextF_of hp, nextF_of hp', prevF_of hp, prevF_of hp']
  exact ⟨rfl, rfl⟩
 ·rw [S.mem c hc i]
  constructor
  ·rintro ⟨p, hp, h4, h⟩
   exact ⟨p, (hpg i p h4).2 hp, h4, h⟩
  ·rintro ⟨p, hp, h4, h⟩
   exact ⟨p, (hpg i p h4).1 hp, h4, h⟩
theorem HS.pop {β : Bu} {ps : List Int} {F C L : Nat → List Nat} (I : HS β ps F C L) (hn : 0 < β.σ.n) (hx : β.topPage ∈ F β.μ.order) :
  HS β.lowered ps (upd F β.μ.order ((F β.μ.order).erase β.topPage)) C L ∧ Lowered β β.lowered := by
 obtain ⟨I1, K1, B1, U1⟩ := I.inv.pull hx
 have ho := pulled_order β β.topPage
 have hl := pulled_len β β.topPage
 have hB2 : BlkAt (β.pulled β.topPage).μ.pages ((β.pulled β.topPage).μ.pages.length - 2 ^ (β.pulled β.topPage).μ.order) (β.pulled β.topPage).μ.order 2 := by
  rw [hl, ho]
  exact B1
 have I2 := I1.drop hB2
 have hfull := I.nums.full
 have p0 := pow0 β.μ.order
 have hge : 2 ^ β.μ.order ≤ β.μ.pages.length := by rw [hfull]; exact Nat.le_mul_of_pos_left _ hn
 have ht : β.topPage + 2 ^ β.μ.order = β.μ.pages.length := by unfold Bu.topPage; omega
 have hsl := shrink_len (β.pulled β.topPage).μ
 rw [hl, ho] at hsl
 have hlen : β.lowered.μ.pages.length = β.topPage := by rw [lowered_μ, hsl.1, Bu.topPage]
 have hord : β.lowered.μ.order = β.μ.order := by rw [lowered_μ, hsl.2]
 have hold : ∀ y, y < β.topPage → β.lowered.μ.pages[y]? = (β.pulled β.topPage).μ.pages[y]? := fun y hy => by
  rw [lowered_μ]
  exact shrink_old _ (by rw [hl, ho]; exact hy)
 have hbase : β.lowered.σ.base = β.σ.base := by rw [lowered_σ, (less_same _).1]; exact K1.base
 have hmem : ∀ a, β.lowered.σ.mem a = (β.pulled β.topPage).σ.mem a := fun a => by rw [lowered_σ, (less_same _).2.2.2.2.2]
 have haddr : ∀ j, β.lowered.addr j = β.addr j := fun j => by unfold Bu.addr; rw [hbase]
 -- pages below the top that are no free ones are as they were
 have hpg : ∀ {y : Nat} {p : Pg}, (p.kind = 2 ∨ p.kind = 3 ∨ p.kind = 4) → (β.lowered.μ.pages[y]? = some p ↔ β.μ.pages[y]? = some p) := by
  intro y p hk
  constructor
  ·intro h
   have hy : y < β.topPage := by have := (List.getElem?_eq_some_iff.1 h).1; omega
   rw [hold y hy] at h
   have hno : ¬ Upen β.μ.order F NoHole y := by
    intro hu
    have := (I1.isFree h).1 (by rw [ho]; exact (U1 y).2 ⟨hu, fun hi => by have := hi.1; omega⟩)
    omega
   rw [← K1.page y hno]
   exact h
  ·intro h
   have hno := I.inv.notOpen h hk
   have hy : y < β.topPage := by
    refine Classical.byContradiction (fun hc => hno (.inr ⟨_, Nat.le_refl _, _, hx, by omega, ?_⟩))
    have := (List.getElem?_eq_some_iff.1 h).1
    omega
   rw [hold y hy, K1.page y hno]
   exact h
 have hblk : ∀ a k, BlkAt β.lowered.μ.pages a k 2 ↔ BlkAt β.μ.pages a k 2 := by
  intro a k
  constructor
  ·intro h
   exact ⟨h.al, fun j hj => (hpg (by have := runPg_kind k j; omega)).1 (h.at_ j hj)⟩
  ·intro h
   exact ⟨h.al, fun j hj => (hpg (by have := runPg_kind k j; omega)).2 (h.at_ j hj)⟩
 refine ⟨⟨?_, ?_, ?_⟩, ?_⟩
 ·exact lowered_inv I2
 ·refine (I.slab.keeps K1 (fun i p hp h4 => I.inv.notOpen hp (.inr (.inr h4)))).same4 (fun i p h4 => ?_) ?_ hmem
  ·rw [hpg (.inr (.inr h4))]
   constructor
   ·intro h
    rw [K1.page i (I.inv.notOpen h (.inr (.inr h4)))]
    exact h
   ·intro h
    exact K1.slab i p h h4
  ·rw [hbase, K1.base]
 ·have hN := I.nums
  have e : β.lowered.σ.n = β.σ.n - 1 := by rw [lowered_σ, (less_same _).2.2.2.2.1, K1.n]
  have el : β.lowered.σ.limit = β.σ.limit := by rw [lowered_σ, (less_same _).2.1]; exact K1.limit
  refine ⟨?_, ?_, ?_, ?_, ?_, ?_, ?_⟩
  ·rw [hlen, hord, e, Nat.sub_mul, Nat.one_mul, ← hfull, Bu.topPage]
  ·rw [hord, lowered_σ, (less_same _).2.2.2.1]; exact K1.size.trans hN.size
  ·rw [e, el]; have := hN.le; omega
  ·rw [el, hord]; exact hN.pages
  ·rw [hbase, el, hord]; exact hN.top
  ·rw [hord, lowered_σ, (less_same _).2.2.1]; exact K1.so.trans hN.so
  ·rw [hbase, hord]; exact hN.al
 ·refine ⟨hbase, hord, by rw [lowered_σ, (less_same _).2.1]; exact K1.limit, ?_, fun P S => ?_, fun P S h q h1 h2 => ?_⟩
  ·rw [lowered_σ, (less_same _).2.2.2.2.1, K1.n]; omega
  ·constructor
   ·rintro (⟨a, k, hk, hb, rfl, rfl⟩ | ⟨i, c, y, hc, ⟨p, hp, h4, h⟩, rfl, rfl⟩)
    ·exact .inl ⟨a, k, by rw [← hord]; exact hk, (hblk a k).1 hb, haddr a, rfl⟩
    ·exact .inr ⟨i, c, y, hc, ⟨p, (hpg (.inr (.inr h4))).1 hp, h4, h⟩, by rw [haddr], rfl⟩
   ·rintro (⟨a, k, hk, hb, rfl, rfl⟩ | ⟨i, c, y, hc, ⟨p, hp, h4, h⟩, rfl, rfl⟩)
    ·exact .inl ⟨a, k, by rw [hord]; exact hk, (hblk a k).2 hb, (haddr a).symm, rfl⟩
    ·exact .inr ⟨i, c, y, hc, ⟨p, (hpg (.inr (.inr h4))).2 hp, h4, h⟩, by rw [haddr], rfl⟩
  ·rw [hmem]
   exact K1.kept.bytes I.inv h h1 h2
def Bu.mayPop (β : Bu) : Prop := 0 < β.σ.n ∧ ∃ p, β.μ.pages[β.topPage]? = some p ∧ p.kind = 0 ∧ p.order = β.μ.order
theorem HS.mayPop_iff {β : Bu} {ps : List Int} {F C L : Nat → List Nat} (I : HS β ps F C L) : β.mayPop ↔ 0 < β.σ.n ∧ β.topPage ∈ F β.μ.order := by
 constructor
 ·rintro ⟨hn, p, hp, hk, ho⟩
  obtain ⟨k, _, hx, hk2⟩ := I.inv.headFree hp hk
  rw [hk2] at ho
  have : k = β.μ.order := by omega
  subst this
  exact ⟨hn, hx⟩
 ·rintro ⟨hn, hx⟩
  have := (I.inv.free _ (Nat.le_refl _) _ hx).at_ 0 (pow0 _)
  rw [Nat.add_zero] at this
  exact ⟨hn, _, this, rfl, rfl⟩
def Bu.popN (β : Bu) : Nat → Bu
 | 0 => β
 | m + 1 => (β.popN m).lowered
theorem popN_succ (β : Bu) : ∀ m, β.lowered.popN m = β.popN (m + 1)
 | 0 => rfl
 | m + 1 => by
  show (β.lowered.popN m).lowered = (β.popN (m + 1)).lowered
  rw [popN_succ β m]
structure Trimmed (β β' : Bu) (m : Nat) : Prop where
 base : β'.σ.base = β.σ.base
 order : β'.μ.order = β.μ.order
 limit : β'.σ.limit = β.σ.limit
 n : β'.σ.n + m = β.σ.n
 live : ∀ P S, Live β' P S ↔ Live β P S
 byte : ∀ P S, Live β P S → ∀ q, P ≤ q → q < P + S → β'.σ.mem q = β.σ.mem q
theorem HS.pops : ∀ (N : Nat) {β : Bu} {ps : List Int} {F C L : Nat → List Nat}, HS β ps F C L → β.σ.n = N →
  ∃ m F', HS (β.popN m) ps F' C L ∧ Trimmed β (β.popN m) m ∧ ¬ (β.popN m).mayPop ∧ ∀ i, i < m → (β.popN i).mayPop ∧ ∃ Fi, HS (β.popN i) ps Fi C L
 | 0, β, ps, F, C, L, I, hn => ⟨0, F, I, ⟨rfl, rfl, rfl, rfl, fun _ _ => Iff.rfl, fun _ _ _ _ _ _ => rfl⟩, fun h => by have := h.1; simp only [Bu.popN] at this; omega, fun i hi => by omega⟩
 | N + 1, β, ps, F, C, L, I, hn => by
  by_cases hm : β.mayPop
  ·obtain ⟨h0, hx⟩ := I.mayPop_iff.1 hm
   obtain ⟨I1, P1⟩ := I.pop h0 hx
   obtain ⟨m, F', I2, T2, N2, A2⟩ := HS.pops N I1 (by have := P1.n; omega)
   rw [popN_succ] at I2 T2 N2
   refine ⟨m + 1, F', I2, ⟨T2.base.trans P1.base, T2.order.trans P1.order, T2.limit.trans P1.limit, by have := T2.n; have := P1.n; omega, fun P S => (T2.live P S).trans (P1.live P S), fun P S h q h1 h2 => (T2.byte P S ((P1.live P S).2 h) q h1 h2).trans (P1.byte P S h q h1 h2)⟩, N2, fun i hi => ?_⟩
   cases i with
   | zero => exact ⟨hm, F, I⟩
   | succ i =>
    have := A2 i (by omega)
    rw [popN_succ] at this
    exact this
  ·exact ⟨0, F, I, ⟨rfl, rfl, rfl, by simp only [Bu.popN]; omega, fun _ _ => Iff.rfl, fun _ _ _ _ _ _ => rfl⟩, hm, fun i hi => by omega⟩
end Go.Proofs.YtnjcmcnjgdjbiaaGreatDoor
namespace Go.Proofs.YtnjcmcnjgdjbiaaGreatDoor
open Go.RowKit
theorem top_none_cells (b sb mb o : Nat) (y : Nat) (w : World) (c2 : w.cell? ⟨b, 2, none⟩ = some (.int .i64 o)) (c3 : w.cell? ⟨b, 3, none⟩ = some (.pointer (some ⟨sb, 0, none⟩))) (c4 : w.cell? ⟨b, 4, none⟩ = some (.pointer (some ⟨mb, 0, none⟩)))
  (hr : ∀ k, Calls Tryz.prog 284 #[.pointer (some ⟨sb, 0, none⟩)] (w.drewN k) fun e w' => e = .returned (.int .i64 (0 : Nat)) ∧ w' = w.drewN k)
  (hmin : min o 64 = o) (h2 : IntKind.i64.wrap (2 ^ o) = (y : Int)) (_h2' : wrap64 (2 ^ o) = (y : Int)) :
  Calls Tryz.prog 254 #[.pointer (some ⟨b, 0, none⟩)] w fun e w' => (∃ v, e = .returned (.tuple #[v, .bool false])) ∧ ∃ k, w' = w.drewN k := by
 have HRg := Hd hr
 clear hr
 go_enter Tryz.func254, Tryz.ntmps254
 go_wp2_with fail
 go_quiet (first | (go_at_call 284; refine Calls.quiet_of_same (HRg.out _)))
 go_wp2_with fail
 replace c2 : (w.drewN nq).cell? ⟨b, 2, none⟩ = some (.int .i64 o) := c2
 replace c4 : (w.drewN nq).cell? ⟨b, 4, none⟩ = some (.pointer (some ⟨mb, 0, none⟩)) := c4
 have hW := Hd (show ∀ k, ∃ m, (w.drewN nq).drewN k = w.drewN m from fun k => ⟨nq + k, World.drewN_drewN ..⟩)
 clear c3
 generalize w.drewN nq = W at *
 go_quiet (fail)
 go_wp2_with fail
 go_ret2
 exact ⟨⟨_, rfl⟩, hW.out _⟩
theorem BuRep.top_none {w : World} {K : BuL} {β : Bu} (R : BuRep w K β) (hn : β.σ.n = 0) :
  Calls Tryz.prog 254 #[.pointer (some ⟨K.bb, 0, none⟩)] w fun e w' => (∃ v, e = .returned (.tuple #[v, .bool false])) ∧ Touch Nothing w w' := by
 obtain ⟨-, -, c2, c3, c4, -⟩ := R.cells
 have ho := R.mp.ok.order
 have hp := pow_le8' ho
 have hpc : ((2 : Int) ^ β.μ.order) = ((2 ^ β.μ.order : Nat) : Int) := by simp
 refine (top_none_cells K.bb K.L.sb K.M.mb β.μ.order (2 ^ β.μ.order) w c2 c3 c4 ?_ (by omega) ?_ ?_).mono ?_
 ·intro k
  have h := (R.sp.touch0 ((Touch.refl Nothing w).drewN k)).regions_
  rw [hn] at h
  exact h.mono fun _ _ h => ⟨h.1, h.2.symm⟩
 ·rw [hpc]; exact IntWalk.i64_in _ (by omega)
 ·rw [hpc]; exact IntWalk.wrap64_in _ ⟨by omega, by omega⟩
 ·rintro e w' ⟨h, k, rfl⟩
  exact ⟨h, (Touch.refl Nothing w).drewN k⟩
theorem BuRep.pull_none {w : World} {K : BuL} {β : Bu} (R : BuRep w K β) (hn : β.σ.n = 0) :
  Calls Tryz.prog 201 #[.pointer (some ⟨K.bb, 0, none⟩)] w fun e w' => e = .returned (.int .i64 9) ∧ Touch Nothing w w' := by
 have HT := Hd (R.top_none hn)
 clear R hn
 go_enter Tryz.func201, Tryz.ntmps201
 go_wp2_with fail
 refine HT.out.mono ?_
 rintro e w1 ⟨⟨v, rfl⟩, T1⟩
 have HT1 := Hd T1
 clear T1
 go_wp2_with fail
 go_ret
 exact ⟨rfl, HT1.out⟩
theorem BuRep.pull_no {w : World} {K : BuL} {β : Bu} (R : BuRep w K β) (hn : 0 < β.σ.n) (hl : β.μ.pages.length = β.σ.n * 2 ^ β.μ.order) {p : Pg} (hp : β.μ.pages[β.topPage]? = some p) (hno : ¬ (p.kind = 0 ∧ p.order = β.μ.order)) (hso : β.σ.order = β.μ.order) :
  Calls Tryz.prog 201 #[.pointer (some ⟨K.bb, 0, none⟩)] w fun e w' => e = .returned (.int .i64 9) ∧ Touch Nothing w w' := by
 have HT := Hd (R.top_ hn hl)
 have HR := Hd R
 have HP := Hd hp
 have HN := Hd hno
 have HSo := Hd hso
 have hle : 2 ^ β.μ.order ≤ β.μ.pages.length := by rw [hl]; exact Nat.le_mul_of_pos_left _ hn
 clear R hn hl hp hno hso
 go_enter Tryz.func201, Tryz.ntmps201
 go_wp2_with fail
 refine HT.out.mono ?_
 rintro e w1 ⟨rfl, T1⟩
 have R1 := HR.out.touch0 T1
 obtain ⟨-, -, c2, -, c4, -⟩ := R1.cells
 have HA := Hd (R1.mp.at_ HP.out)
 unfold Bu.topPage at HA
 have HT1 := Hd T1
 clear R1 T1
 go_wp2_with fail
 refine HA.out.mono ?_
 rintro e w2 ⟨rfl, T2⟩
 obtain ⟨kind, ord, p2, p3, p4, p5, p6, p7, p8, p9, p10⟩ := p
 have HT2 := Hd (T2.alloc (.cells #[.int .i64 kind, .int .i64 ord, .int .i64 p2, .int .i64 p3, .int .i64 p4, .int .i64 p5, .int .i64 p6, .int .u64 p7, .int .u64 p8, .int .u64 p9, .int .u64 p10] 128))
 have d2 := (HR.out.touch0 (HT1.out.trans HT2.out)).cells.2.2.1
 have B3 := Blk.new w2 #[.int .i64 kind, .int .i64 ord, .int .i64 p2, .int .i64 p3, .int .i64 p4, .int .i64 p5, .int .i64 p6, .int .u64 p7, .int .u64 p8, .int .u64 p9, .int .u64 p10] 128
 have b0 := B3.cell 0
 have b1 := B3.cell 1
 simp only [List.getElem?_cons_zero, List.getElem?_cons_succ] at b0 b1
 clear T2 c2 c4 B3
 unfold Pg.val
 by_cases hk : kind = 0
 ·have ho : ¬ (ord = (β.μ.order : Int)) := fun h => HN.out ⟨hk, h⟩
  subst hk
  go_wp2_with fail
  generalize w2.alloc _ = w3 at *
  go_quiet (fail)
  go_wp2
  go_ret
  exact ⟨rfl, (HT1.out.trans HT2.out).drewN _⟩
 ·go_wp2_with fail
  generalize w2.alloc _ = w3 at *
  go_quiet (fail)
  go_wp2
  go_ret
  exact ⟨rfl, (HT1.out.trans HT2.out).drewN _⟩
theorem BuRep.pull_ {w : World} {K : BuL} {β : Bu} {F : Nat → List Nat} (R : BuRep w K β) (I : BInv β F NoHole) (hn : 0 < β.σ.n) (hl : β.μ.pages.length = β.σ.n * 2 ^ β.μ.order) (hx : β.topPage ∈ F β.μ.order) :
  Calls Tryz.prog 201 #[.pointer (some ⟨K.bb, 0, none⟩)] w (Turned w K (β.pulled β.topPage) (.int .i64 0)) := by
 have hB := I.free _ (Nat.le_refl _) _ hx
 have hp : β.μ.pages[β.topPage]? = some ⟨0, β.μ.order, 0, 0, -1, -1, -1, 0, 0, 0, 0⟩ := by
  have := hB.at_ 0 (pow0 _)
  rw [Nat.add_zero] at this
  exact this
 have hle := hB.le
 have al := hB.al
 have hxl := (I.lt (Nat.le_refl _) hx).2
 have HT := Hd (R.top_ hn hl)
 have HR := Hd R
 have HP := Hd hp
 have HI := Hd (And.intro I hx)
 have HX := Hd (And.intro hle (And.intro al hxl))
 have hm := R.mp.ok.len
 clear R hn hl hp hB I hx hle al
 go_enter Tryz.func201, Tryz.ntmps201
 go_wp2_with fail
 refine HT.out.mono ?_
 rintro e w1 ⟨rfl, T1⟩
 have R1 := HR.out.touch0 T1
 obtain ⟨-, -, c2, -, c4, -⟩ := R1.cells
 rw [show β.μ.pages.length - 2 ^ β.μ.order = β.topPage from rfl] at *
 generalize hxx : β.topPage = x at *
 have hA := R1.mp.at_ HP.out
 unfold Pg.val at hA
 have HA := Hd hA
 have HT1 := Hd T1
 clear R1 T1 hA
 go_wp2_with fail
 refine HA.out.mono ?_
 rintro e w2 ⟨rfl, T2⟩
 have HT2 := Hd (T2.alloc (.cells #[.int .i64 0, .int .i64 β.μ.order, .int .i64 0, .int .i64 0, .int .i64 (-1), .int .i64 (-1), .int .i64 (-1), .int .u64 (0 : Nat), .int .u64 (0 : Nat), .int .u64 (0 : Nat), .int .u64 (0 : Nat)] 128))
 have d2 := (HR.out.touch0 (HT1.out.trans HT2.out)).cells.2.2.1
 have B3 := Blk.new w2 #[.int .i64 0, .int .i64 β.μ.order, .int .i64 0, .int .i64 0, .int .i64 (-1), .int .i64 (-1), .int .i64 (-1), .int .u64 (0 : Nat), .int .u64 (0 : Nat), .int .u64 (0 : Nat), .int .u64 (0 : Nat)] 128
 have b0 := B3.cell 0
 have b1 := B3.cell 1
 simp only [List.getElem?_cons_zero, List.getElem?_cons_succ] at b0 b1
 clear T2 c2 c4 B3
 go_wp2_with fail
 generalize w2.alloc _ = w2' at *
 go_quiet (fail)
 go_wp2_with fail
 have T3 : Touch Nothing w (w2'.drewN nq) := (HT1.out.trans HT2.out).drewN nq
 have HT3 := Hd T3
 have R3 := HR.out.touch0 T3
 have HR3 := Hd R3
 generalize w2'.drewN nq = w3 at *
 obtain ⟨g, cap, lb, hv, hc, hlb, hcell, hhd⟩ := R3.listAt (k := β.μ.order) (Nat.le_refl _)
 obtain ⟨-, -, c2, -, c4, c5⟩ := R3.cells
 rw [hv] at c5
 have hadd : β.addr x + 4096 ≤ 18446744073709551615 := R3.ok.addr_top R3.sp.ok hxl
 have HAd := Hd (fun W (T : Touch Nothing w3 W) => (R3.touch0 T).address_ x (by omega))
 have HRm := Hd (fun W (T : Touch Nothing w3 W) => BuRep.remove_ (R3.touch0 T) rfl rfl HI.out.1 rfl (Nat.le_refl _) HI.out.2 hlb hhd)
 have hkl : (β.μ.order : Int) < (β.heads.length : Int) := by have := HI.out.1.heads; omega
 have hlg := World.block_lt_of_cell? _ _ hcell
 clear R3 T3 hv hc hlb hhd hadd d2
 refine wp_region_still_tail 14 (by kernel_rfl) (by kernel_rfl) ?_
 simp only [List.take_succ_cons, List.take_zero, List.drop_succ_cons, List.drop_zero, World.drew_eq]
 repeat still_step
 still_call ((HAd.out _ ((Touch.refl Nothing w3).drew)).mono fun _ _ h => ⟨h.1, h.2.symm⟩)
 refine wpStill_nil ?_
 go_wp2_with fail
 refine (HRm.out _ ((Touch.refl Nothing w3).drew)).mono ?_
 rintro e w4 ⟨rfl, r4, t4⟩
 have HR4 := Hd r4
 have HT4 := Hd ((Touch.refl Nothing w3).drew.none_.trans t4)
 have e2 : (β.detach β.μ.order x).μ = β.μ := detach_μ _ _ _
 have d2 := r4.cells.2.2.1
 have d4 := r4.cells.2.2.2.2.1
 rw [e2] at d2
 have HRun := Hd (fun W (T : Touch Nothing w4 W) => (r4.touch0 T).mp.run2_ x β.μ.order (by rw [e2]; exact Nat.le_refl _) (tmod_dvd HX.out.2.1) (by rw [e2]; exact HX.out.1))
 clear r4 t4 c2 c4 c5 hcell hlg
 go_wp2_with fail
 refine wp_region_still_tail 10 (by kernel_rfl) (by kernel_rfl) ?_
 simp only [List.take_succ_cons, List.take_zero, List.drop_succ_cons, List.drop_zero, World.drew_eq]
 repeat still_step
 refine wpStill_nil ?_
 go_wp2_with fail
 refine (HRun.out _ ((Touch.refl Nothing w4).drew)).mono ?_
 rintro e w5 ⟨rfl, r5, t5⟩
 have HR5 := Hd r5
 have HT5 := Hd t5
 clear r5 t5
 go_wp2_with fail
 go_ret
 have T5 : Touch (· ∈ K.M.fp) w4 w5 := (Touch.refl Nothing w4).drew.none_.trans (HT5.out.mono (fun b _ e => by simp [MpL.fp, e.symm]))
 have M := HR4.out.mapped HR5.out T5 rfl (runL_len _ _ _ _ _)
 refine ⟨rfl, ?_, (HT3.out.none_.trans HT4.out).trans (T5.mono (fun b _ hb => by simp [BuL.fp, hb]))⟩
 rw [e2] at M
 exact M
theorem take_cells (l : List Pg) : ∀ n, (l.take n).flatMap Pg.cells = (l.flatMap Pg.cells).take (n * 11) := by
 induction l with
 | nil => intro n; simp
 | cons p l ih =>
  intro n
  cases n with
  | zero => simp
  | succ n =>
   have hs := p.size
   rw [List.take_succ_cons, List.flatMap_cons, List.flatMap_cons, ih n, List.take_append, List.take_of_length_le (l := p.cells) (by omega), hs, show (n + 1) * 11 - 11 = n * 11 by omega]
theorem MpRep.fewer {w w' : World} {L : MpL} {μ : Mp} {g cap m : Nat} (R : MpRep w L μ) (hv : L.gv = .slice (some ⟨g, 0, none⟩) μ.pages.length cap) (hm : m ≤ μ.pages.length) (hw : w' = w.setCell ⟨L.mb, 1, none⟩ (.slice (some ⟨g, 0, none⟩) m cap)) :
  MpRep w' { L with gv := .slice (some ⟨g, 0, none⟩) m cap } { μ with pages := μ.pages.take m } := by
 subst hw
 have T := Touch.cellAt w L.mb 1 (.slice (some ⟨g, 0, none⟩) m cap)
 have hn := R.apart
 have hfp : ({ L with gv := .slice (some ⟨g, 0, none⟩) m cap } : MpL).fp = L.fp := by simp only [MpL.fp, hv]; rfl
 have hrow := R.pages
 rw [hv] at hrow
 have hmb : ∀ k, k ∈ L.gv.ownBlock.toList ++ L.sv.ownBlock.toList ++ (L.sets.flatMap fun l => [l.1, l.2]) → ¬ (k = L.mb) := fun k hk e => by
  unfold MpL.fp at hn
  rw [List.nodup_cons] at hn
  exact hn.1 (e ▸ hk)
 refine ⟨R.blk.set 1 _, ?_, R.pairs.touch T (fun k hk => hmb k (by simp [hk])), ?_, by rw [hfp]; exact hn, ⟨R.ok.order, ?_, R.ok.pairs, fun p hp => R.ok.page p (List.mem_of_mem_take hp)⟩⟩
 ·have h2 := Row.shrink hrow hm
  have hl : (μ.pages.take m).length = m := by rw [List.length_take]; omega
  show Row _ 128 11 _ (μ.pages.take m).length _
  rw [hl, take_cells]
  exact Row.touch h2 T (fun k hk e => hmb k (by rw [hv]; exact List.mem_append.2 (.inl (List.mem_append.2 (.inl (by cases hk; simp [Value.ownBlock]))))) e)
 ·intro i l s hl hs
  have hm := List.mem_of_getElem? hl
  refine (R.sets i l s hl hs).touch T (hmb _ ?_) (hmb _ ?_)
  ·simp only [List.mem_append, List.mem_flatMap]; exact .inr ⟨l, hm, by simp⟩
  ·simp only [List.mem_append, List.mem_flatMap]; exact .inr ⟨l, hm, by simp⟩
 ·show (μ.pages.take m).length ≤ 1024
  rw [List.length_take]
  have := R.ok.len
  omega
theorem MpRep.shrinkMap_ {w : World} {L : MpL} {μ : Mp} (R : MpRep w L μ) (hle : 2 ^ μ.order ≤ μ.pages.length) :
  Calls Tryz.prog 202 #[.pointer (some ⟨L.mb, 0, none⟩), .int .i64 1] w fun e w' => ∃ L', e = .returned (.int .i64 0) ∧ GrownRel w w' L L' μ μ.shrink := by
 have hpw := pow_le8' R.ok.order
 obtain ⟨g, cap, hv, hcap, hlt⟩ := R.pages.form (by omega)
 have c1 := R.blk.cell 1
 have f1 := R.blk.free 1
 simp [hv] at c1
 have hlen := R.ok.len
 have HSz := Hd (fun k => ((R.touch0 ((Touch.refl Nothing w).drewN k)).size_).mono fun _ _ h => (⟨h.1, h.2.symm⟩ : _ ∧ _))
 have HR := Hd R
 have HV := Hd hv
 generalize hy : 2 ^ μ.order = y at *
 have HY := Hd hy
 have hq1 : (1 : Int) ≤ (μ.pages.length : Int) / (y : Int) := by
  have : 1 ≤ μ.pages.length / y := (Nat.one_le_div_iff (by omega)).2 hle
  omega
 have hq2 : (μ.pages.length : Int) / (y : Int) ≤ 1024 := by
  have : μ.pages.length / y ≤ μ.pages.length := Nat.div_le_self _ _
  have h2 : ((μ.pages.length / y : Nat) : Int) ≤ 1024 := by omega
  simpa using h2
 have hsub : (μ.pages.length : Int) - (y : Int) = ((μ.pages.length - y : Nat) : Int) := by omega
 have hw1 : IntKind.i64.wrap (y : Int) = (y : Int) := IntWalk.i64_in _ (by omega)
 have hw2 : IntKind.i64.wrap ((μ.pages.length : Int) - (y : Int)) = ((μ.pages.length - y : Nat) : Int) := by rw [hsub]; exact IntWalk.i64_in _ (by omega)
 have hcp : ((μ.pages.length - y : Nat) : Int) ≤ cap := by omega
 clear R hv hy hsub
 go_enter Tryz.func202, Tryz.ntmps202
 go_wp2_with fail
 go_quiet (first | (go_at_call 257; refine Calls.quiet_of_same (HSz.out _)))
 go_wp2_with fail
 have HT1 := Hd ((Touch.refl Nothing w).drewN nq)
 have HR1 := Hd (HR.out.touch0 HT1.out)
 replace c1 : (w.drewN nq).cell? ⟨L.mb, 1, none⟩ = some (.slice (some ⟨g, 0, none⟩) μ.pages.length cap) := c1
 replace f1 : (w.drewN nq).frozen? ⟨L.mb, 1, none⟩ = false := f1
 have HSz1 := Hd (HSz.out (nq + 1))
 rw [← World.drewN_drewN] at HSz1
 generalize w.drewN nq = w1 at *
 refine wp_region_still_tail 18 (by kernel_rfl) (by kernel_rfl) ?_
 simp only [List.take_succ_cons, List.take_zero, List.drop_succ_cons, List.drop_zero, World.drew_eq]
 repeat still_step
 still_call (HSz1.out.mono fun _ _ h => ⟨h.1, h.2⟩)
 repeat still_step
 refine wpStill_nil ?_
 go_wp2_with fail
 have hF := (HR1.out.fewer (g := g) (cap := cap) (m := μ.pages.length - y) HV.out (Nat.sub_le _ _) rfl).touch0 ((Touch.refl Nothing _).drew)
 have HT2 := Hd ((Touch.cellAt w1 L.mb 1 (.slice (some ⟨g, 0, none⟩) (μ.pages.length - y) cap)).drew)
 have HP := Hd hF.paired_
 have HF := Hd hF
 clear hF c1 f1
 generalize World.drew (World.setCell w1 _ _) = w2 at *
 refine HP.out.mono ?_
 rintro e w3 ⟨L5, rfl, hP5⟩
 have HP5 := Hd hP5
 clear hP5
 go_wp2_with fail
 go_ret
 have hfp : ({ L with gv := .slice (some ⟨g, 0, none⟩) (μ.pages.length - y) cap } : MpL).fp = L.fp := by simp only [MpL.fp, HV.out]; rfl
 have hfr : ∀ k ∈ L5.fp, k ∈ L.fp ∨ w.heap.size ≤ k := fun k hk => by
  rcases HP5.out.next.fresh k hk with h | h
  ·rw [hfp] at h; exact .inl h
  ·have := HT2.out.size
   have := HT1.out.size
   exact .inr (by omega)
 refine ⟨L5, rfl, ?_, HP5.out.next.mb, hfr, ?_⟩
 ·have := HP5.out.rep
  unfold Mp.shrink Mp.paired
  rw [HY.out]
  exact this
 ·refine (HT1.out.none_.trans (HT2.out.mono (fun k _ e => by rw [e]; simp [MpL.fp]))).trans (HP5.out.touch.mono (fun k _ e => ?_))
  obtain ⟨l, hl, rfl⟩ := List.mem_map.1 e
  simp only [MpL.fp, List.mem_cons, List.mem_append, List.mem_flatMap]
  exact .inr (.inr ⟨l, hl, by simp⟩)
end Go.Proofs.YtnjcmcnjgdjbiaaGreatDoor
namespace Go.Proofs.YtnjcmcnjgdjbiaaGreatDoor
open Go.RowKit Go.MuLone
theorem BuRep.decommitted {w w' : World} {K : BuL} {β : Bu} {e : Ending} (R : BuRep w K β) (h : β.μ.pages.length ≤ (β.σ.n - 1) * 2 ^ β.μ.order) (G : Shrank w K.L β.σ e w') :
  e = .returned (.int .i64 0) ∧ ∃ K', BuRep w' K' { β with σ := β.σ.less } ∧ K.Next w K' ∧ Touch (· ∈ K.fp) w w' := by
 obtain ⟨pv, he, hpv, hS, hT⟩ := G
 obtain ⟨_, s2, s3⟩ := R.split
 have hlt := R.lt
 have T : Touch (· ∈ K.L.fp) w w' := hT.mono (fun k _ hk => by
  rcases hk with hk | hk
  ·simp [SpL.fp, hk]
  ·simp [SpL.fp, ← hk])
 have hf : ∀ k ∈ (⟨K.L.sb, pv, K.L.rbs.dropLast⟩ : SpL).fp, k ∈ K.L.fp ∨ w.heap.size ≤ k := by
  intro k hk
  simp only [SpL.fp, List.mem_append, List.mem_cons, Option.mem_toList, hpv] at hk ⊢
  rcases hk with (h | h) | h
  ·exact .inl (.inl (.inl h))
  ·exact .inl (.inl (.inr (List.dropLast_subset _ h)))
  ·exact .inl (.inr h)
 obtain ⟨h1, h2, h3⟩ := R.own_touch T (fun k hk => (s2 k hk).1)
 have o := R.ok
 refine ⟨he, { K with L := ⟨K.L.sb, pv, K.L.rbs.dropLast⟩ }, ⟨h1, h2, h3, hS, R.mp.touch T (fun k hk h => s3 k h hk), ?_, ?_⟩, ⟨rfl, rfl, rfl, ?_⟩, T.mono (fun k _ hk => by simp [BuL.fp, hk])⟩
 ·exact apart_next R.apart hS.fp_nodup hf (fun k hk => hlt k (List.mem_append.2 (.inl hk))) (fun k hk => hlt k (List.mem_append.2 (.inr (List.mem_append.2 (.inr hk)))))
 ·exact ⟨o.order, o.heads, o.size, o.limit, o.base, o.pages, h, o.head⟩
 ·intro k hk
  simp only [BuL.fp, List.mem_append] at hk ⊢
  rcases hk with h | h | h
  ·exact .inl (.inl h)
  ·rcases hf k h with h | h
   ·exact .inl (.inr (.inl h))
   ·exact .inr h
  ·exact .inl (.inr (.inr h))
structure TrimRel (w : World) (pb : Nat) (K : BuL) (β : Bu) (k : Nat) (wr : World) : Prop where
 rep : ∃ K', PoRep wr pb K' (β.popN k) ∧ K.Next w K' ∧ Touch (· ∈ K.fp) w wr
theorem PoRep.trim_ {w : World} {pb : Nat} {K : BuL} {β : Bu} {ps : List Int} {F C L : Nat → List Nat} (R : PoRep w pb K β) (m : Nat) (I : HS (β.popN m) ps F C L) (hm : m ≤ 1024) (Z : ¬ (β.popN m).mayPop) (A : ∀ i, i < m → (β.popN i).mayPop ∧ ∃ Fi, HS (β.popN i) ps Fi C L) :
  Calls Tryz.prog 145 #[.pointer (some ⟨pb, 0, none⟩)] w (Needed w pb K (β.popN m) (.int .i64 m)) := by
 have HR0 := Hd (show TrimRel w pb K β 0 w from ⟨K, R, BuL.Next.refl _ _, Touch.refl _ _⟩)
 have HZ := Hd (And.intro I Z)
 have HA := Hd A
 clear R I Z A
 go_enter Tryz.func145, Tryz.ntmps145
 go_wp2_with fail
 go_loopw [3] (fun a wr => ∃ k : Nat, k ≤ m ∧ a = .int .i64 k ∧ TrimRel w pb K β k wr) (fun a _ => m - (intOf a).toNat)
 case atStart => exact ⟨0, Nat.zero_le _, rfl, HR0.out⟩
 case round =>
  obtain ⟨k, hk, rfl, hR⟩ := hrel
  obtain ⟨K1, P1, N1, T1⟩ := hR.rep
  clear hR
  have cl := P1.cells
  by_cases hlt : k < m
  ·obtain ⟨hp, Fi, Ii⟩ := HA.out k hlt
   obtain ⟨hn, hx⟩ := Ii.mayPop_iff.1 hp
   have HPl := Hd (P1.bu.pull_ Ii.inv hn Ii.nums.full hx)
   have HP1 := Hd P1
   have HN1 := Hd N1
   have HT1 := Hd T1
   have HI := Hd (And.intro Ii (And.intro hn hx))
   obtain ⟨c0, c1, c2⟩ := cl
   clear P1 N1 T1 Ii hn hx hp
   generalize hβ : β.popN k = β1 at *
   have HBe := Hd hβ
   clear hβ
   go_wp2_with fail
   refine HPl.out.mono ?_
   rintro e w1 ⟨rfl, r1, t1⟩
   have P2 := HP1.out.next t1 (BuL.Next.refl _ _) r1
   have d1 := P2.cells.2.1
   have hle : 2 ^ (β1.pulled β1.topPage).μ.order ≤ (β1.pulled β1.topPage).μ.pages.length := by
    rw [pulled_order, pulled_len, HI.out.1.nums.full]
    exact Nat.le_mul_of_pos_left _ HI.out.2.1
   have HSh := Hd (P2.bu.mp.shrinkMap_ hle)
   have HP2 := Hd P2
   have HT2 := Hd t1
   clear P2 r1 t1 c0 c1 c2
   go_wp2_with fail
   refine HSh.out.mono ?_
   rintro e w2 ⟨L', rfl, G⟩
   have hsl := shrink_len (β1.pulled β1.topPage).μ
   rw [pulled_order, pulled_len] at hsl
   have hfull := HI.out.1.nums.full
   have hnn := HI.out.2.1
   have hl2 : β1.μ.pages.length - 2 ^ β1.μ.order = (β1.σ.n - 1) * 2 ^ β1.μ.order := by rw [hfull, Nat.sub_mul, Nat.one_mul]
   have hkn : (β1.pulled β1.topPage).σ.n = β1.σ.n := (HI.out.1.inv.pull HI.out.2.2).2.1.n
   obtain ⟨K2, r2, n2, t2⟩ := HP2.out.bu.grown G (by rw [hsl.2, pulled_order]) (by rw [hsl.1, pulled_order]; have := HP2.out.bu.ok.pages; rw [pulled_len, pulled_order] at this; omega) (by rw [hsl.1, pulled_order, hl2, hkn]; exact Nat.mul_le_mul_right _ (Nat.sub_le _ _))
   have P3 := HP2.out.next t2 n2 r2
   have d0 := P3.cells.1
   have HD := Hd (P3.bu.sp.decommit_ (by show 0 < (β1.pulled β1.topPage).σ.n; omega))
   have HP3 := Hd P3
   have HN3 := Hd n2
   have HT3 := Hd t2
   have HLe := Hd (show (β1.pulled β1.topPage).μ.shrink.pages.length ≤ ((β1.pulled β1.topPage).σ.n - 1) * 2 ^ (β1.pulled β1.topPage).μ.shrink.order by rw [hsl.1, hsl.2, hl2, hkn]; exact Nat.le_refl _)
   clear P3 n2 t2 r2 G hsl hl2 d1 hle
   go_wp2_with fail
   refine HD.out.mono ?_
   rintro e w3 hS
   obtain ⟨rfl, K3, r3, n3, t3⟩ := HP3.out.bu.decommitted HLe.out hS
   have P4 := HP3.out.next t3 n3 r3
   have HP4 := Hd P4
   have HN4 := Hd n3
   have HT4 := Hd t3
   clear P4 n3 t3 r3 d0 hS
   go_wp2_with fail
   go_roundw
   case rel =>
    refine ⟨k + 1, by omega, by go_num, ⟨K3, ?_, ?_, ?_⟩⟩
    ·show PoRep w3 pb K3 (β.popN k).lowered
     rw [HBe.out]
     exact HP4.out
    ·have s1 := HT1.out.size
     have s2 := HT2.out.size
     have s3 := HT3.out.size
     exact (HN1.out.trans (K1 := K1) (K2 := K2) ⟨HN3.out.bb, HN3.out.sb, HN3.out.mb, fun i hi => HN3.out.fresh i hi⟩ (by omega)).trans HN4.out (by omega)
    ·have t12 := HT1.out.next HN1.out HT2.out
     have t13 := t12.next HN1.out HT3.out
     refine t13.next ?_ HT4.out
     exact HN1.out.trans ⟨HN3.out.bb, HN3.out.sb, HN3.out.mb, HN3.out.fresh⟩ (Nat.le_trans HT1.out.size HT2.out.size)
   case measure => simp [intOf]; omega
  ·obtain rfl : k = m := by omega
   have hP : Calls Tryz.prog 201 #[.pointer (some ⟨K1.bb, 0, none⟩)] wr fun e w' => e = .returned (.int .i64 9) ∧ Touch Nothing wr w' := by
    by_cases hn : (β.popN k).σ.n = 0
    ·exact P1.bu.pull_none hn
    ·have hn' : 0 < (β.popN k).σ.n := by omega
     have hfull := HZ.out.1.nums.full
     have hge : 2 ^ (β.popN k).μ.order ≤ (β.popN k).μ.pages.length := by rw [hfull]; exact Nat.le_mul_of_pos_left _ hn'
     have p0 := pow0 (β.popN k).μ.order
     have ht : (β.popN k).topPage < (β.popN k).μ.pages.length := by unfold Bu.topPage; omega
     exact P1.bu.pull_no hn' hfull (List.getElem?_eq_getElem ht) (fun h => HZ.out.2 ⟨hn', _, List.getElem?_eq_getElem ht, h.1, h.2⟩) HZ.out.1.nums.so
   have HP := Hd hP
   have HP1 := Hd P1
   have HN1 := Hd N1
   have HT1 := Hd T1
   obtain ⟨c0, c1, c2⟩ := cl
   clear hP P1 N1 T1
   generalize hβ : β.popN k = β1 at *
   have HBe := Hd hβ
   clear hβ
   go_wp2_with fail
   refine HP.out.mono ?_
   rintro e w1 ⟨rfl, T2⟩
   have HT2 := Hd T2
   clear T2
   go_wp2_with fail
   go_ret
   exact ⟨rfl, K1, HP1.out.touch0 HT2.out, HN1.out, HT1.out.trans HT2.out.none_⟩
theorem HpRep.trim_ {w : World} {hb s pb : Nat} {K : BuL} {β β' : Bu} {ps : List Int} (R : HpRep 0 w hb s pb K β ps) (m : Nat) (hσ : β'.σ.base = β.σ.base ∧ β'.σ.limit = β.σ.limit ∧ β'.μ.order = β.μ.order)
  (HT : ∀ W, PoRep W pb K β → Calls Tryz.prog 145 #[.pointer (some ⟨pb, 0, none⟩)] W (Needed W pb K β' (.int .i64 m))) :
  Calls Tryz.prog 98 #[.pointer (some ⟨hb, 0, none⟩)] w (Heaped w hb s pb K β' ps (.int .i64 m)) := by
 obtain ⟨c0, -, -, -, -, f0⟩ := R.cells
 have R1 := R.locked 1
 have c5 := R1.cells.2.2.2.1
 have HM1 := Hd (HT _ R1.sl.po)
 have HR1 := Hd R1
 have HS := Hd hσ
 clear R HT R1 hσ
 go_enter_defers Tryz.func98, Tryz.ntmps98
 go_wp2_with (go_at_call 58; refine (lock_free Tryz.muLib ⟨hb, 0, none⟩ _ c0 f0).mono ?_; rintro e w' ⟨rfl, rfl⟩)
 generalize hw1 : w.setCell ⟨hb, 0, none⟩ (.int .i32 1) = w1 at *
 refine HM1.out.mono ?_
 rintro e w2 ⟨rfl, K', P2, N2, T2⟩
 have HW1 := Hd hw1
 have S2 := HR1.out.sl.next T2 N2 P2.bu
 have R2 := HR1.out.next (T2.mono (fun b _ hb => List.mem_cons_of_mem _ hb)) N2 S2 HS.out
 have HR2 := Hd R2
 have HN2 := Hd N2
 have HT2 := Hd (show Touch (· ∈ s :: K.fp) w1 w2 from T2.mono (fun b _ hb => List.mem_cons_of_mem _ hb))
 have hm := R2.cells.1
 have fm := R2.cells.2.2.2.2.2
 clear hw1 P2 N2 T2 S2 R2 c0 f0 c5
 go_wp2
 refine leaves_cons (f := 59) (args := #[.pointer (some ⟨hb, 0, none⟩)]) (by simp) (by simp [go_sem]) ?_
 refine (unlock_deferred Tryz.muLib ⟨hb, 0, none⟩ .returning _ hm fm).mono ?_
 rintro e u' w'' ⟨rfl, rfl, rfl⟩
 exact ⟨_, results_tmp rfl _ _ _, HpRep.unlocked HW1.out.symm HR2.out HN2.out HT2.out⟩
theorem HS.trim {β : Bu} {ps : List Int} {F C L : Nat → List Nat} (I : HS β ps F C L) :
  ∃ m β' F', HS β' ps F' C L ∧ Trimmed β β' m ∧ ¬ β'.mayPop ∧ (∀ i, i < m → (β.popN i).mayPop) ∧ β' = β.popN m ∧ m ≤ 1024 ∧
   ∀ (w : World) (hb s pb : Nat) (K : BuL), HpRep 0 w hb s pb K β ps → Calls Tryz.prog 98 #[.pointer (some ⟨hb, 0, none⟩)] w (Heaped w hb s pb K β' ps (.int .i64 m)) := by
 obtain ⟨m, F', I', T, N, A⟩ := I.pops β.σ.n rfl
 have hm : m ≤ 1024 := by
  have h1 := T.n
  have h2 := I.nums.le
  have h3 := I.nums.pages
  have h4 : β.σ.limit ≤ β.σ.limit * 2 ^ β.μ.order := Nat.le_mul_of_pos_right _ (pow0 _)
  omega
 exact ⟨m, β.popN m, F', I', T, N, fun i hi => (A i hi).1, rfl, hm, fun w hb s pb K R => R.trim_ m ⟨T.base, T.limit, T.order⟩ (fun W PW => PW.trim_ m I' hm N A)⟩
end Go.Proofs.YtnjcmcnjgdjbiaaGreatDoor
