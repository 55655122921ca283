/- The walk of malloc's Stats. Conditions: the heap is as its invariant of memory says. -/
import Derived.Test.YtnjcmcnjgdjbiaaGreatDoorLgLives
namespace Go.Proofs.YtnjcmcnjgdjbiaaGreatDoor
open Go.RowKit Go.MuLone

/-- a post that bars a panic: for a region that draws, in a function that defers -/
@[reducible] def NoPanic (Q : Exit → Act → World → Prop) : Exit → Act → World → Prop := fun e a w => match e with | .panic _ => False | e' => Q e' a w
theorem wp_nopanic {P : Program} {c : Code} {Q : Exit → Act → World → Prop} {a : Act} {w : World} (h : c.wp P (NoPanic Q) a w) : c.wp P Q a w :=
  Code.wp_mono (fun e a w h => by cases e <;> first | exact h | exact h.elim) h

def sumS (l : List (Nat × Nat)) : Nat := (l.map Prod.snd).sum

/-- how many of the first m pages are free -/
def freeN (β : Bu) : Nat → Nat
  | 0 => 0
  | m + 1 => freeN β m + if (β.μ.pages.getD m zeroPg).kind = 0 ∨ (β.μ.pages.getD m zeroPg).kind = 1 then 1 else 0

theorem sumS_le : ∀ (l : List (Nat × Nat)), (∀ b ∈ l, b.2 ≤ 1048576) → sumS l ≤ 1048576 * l.length
  | [], _ => by simp [sumS]
  | b :: t, h => by
    have h1 := h b (by simp)
    have h2 := sumS_le t (fun c hc => h c (by simp [hc]))
    unfold sumS at *
    simp only [List.map_cons, List.sum_cons, List.length_cons]
    omega

theorem sumS_take (l : List (Nat × Nat)) (j : Nat) (h : j < l.length) : sumS (l.take (j + 1)) = sumS (l.take j) + l[j].2 := by
  unfold sumS
  rw [List.take_succ_eq_append_getElem h, List.map_append, List.sum_append]
  simp

theorem flat2_get : ∀ (l : List (Nat × Nat)) (j : Nat) (b : Nat × Nat), l[j]? = some b → (l.flatMap blkC)[j * 2]? = some (.int .u64 (b.1 : Nat)) ∧ (l.flatMap blkC)[j * 2 + 1]? = some (.int .u64 (b.2 : Nat))
  | [], j, b, h => by simp at h
  | c :: t, 0, b, h => by
    obtain rfl : c = b := by simpa using h
    exact ⟨rfl, rfl⟩
  | c :: t, j + 1, b, h => by
    have := flat2_get t j b (by simpa using h)
    rw [show (j + 1) * 2 = j * 2 + 2 by omega]
    exact this

theorem owns_form {w : World} {B e s n : Nat} {v : Value} {xs : List Value} (h : w.ownsRow B e s v n xs) : ∃ pa cap, v = .slice pa n cap ∧ (0 < n → ∃ g, pa = some ⟨g, 0, none⟩ ∧ (∃ cur, w.heap[g]? = some (.cells cur e (0, 0))) ∧ ∀ j, j < n * s → w.cell? ⟨g, j, none⟩ = xs[j]?) := by
  rcases h.2 with ⟨hv, hn⟩ | ⟨g, cap, cur, hv, _, hg, _⟩
  · subst hn
    exact ⟨none, 0, hv, fun h => by omega⟩
  · subst hv
    exact ⟨_, cap, rfl, fun _ => ⟨g, rfl, ⟨cur, hg⟩, fun j hj => World.ownsRow.cellAt h j hj⟩⟩

theorem pageL_size {at_ : Nat} {p : Pg} (ok : p.ok) : ∀ b ∈ pageL at_ p, b.2 ≤ 1048576 := by
  intro b hb
  unfold pageL at hb
  split at hb
  · simp only [List.mem_singleton] at hb
    rw [hb]
    obtain ⟨o, ho⟩ := Int.eq_ofNat_of_zero_le ok.order.1
    have := pow_le8' (o := o) (by have := ok.order.2; omega)
    rw [ho]
    simp only [Int.toNat_natCast]
    omega
  · split at hb
    · have key : ∀ m, b ∈ cellsL at_ (wdOf p.cls.toNat) p m → b.2 = wdOf p.cls.toNat := by
        intro m
        induction m with
        | zero => intro h; simp [cellsL] at h
        | succ m ih =>
          intro h
          unfold cellsL at h
          rcases List.mem_append.1 h with h | h
          · exact ih h
          · split at h
            · simp at h; rw [h]
            · simp at h
      rw [key _ hb]
      have := (wdOf_cells p.cls ⟨ok.cls.1, by have := ok.cls.2; omega⟩).2.2.1
      omega
    · simp at hb

theorem liveL_size {β : Bu} (ok : ∀ p ∈ β.μ.pages, p.ok) : ∀ m, m ≤ β.μ.pages.length → ∀ b ∈ liveL β m, b.2 ≤ 1048576
  | 0, _, b, hb => by simp [liveL] at hb
  | m + 1, hm, b, hb => by
    unfold liveL at hb
    rcases List.mem_append.1 hb with h | h
    · exact liveL_size ok m (by omega) b h
    · refine pageL_size (ok _ ?_) b h
      rw [List.getD_eq_getElem?_getD, List.getElem?_eq_getElem (by omega)]
      exact List.getElem_mem _

theorem sumS_mono (l : List (Nat × Nat)) (j : Nat) : sumS (l.take j) ≤ sumS l := by
  unfold sumS
  conv => rhs; rw [← List.take_append_drop j l]
  rw [List.map_append, List.sum_append]
  omega

theorem freeN_le (β : Bu) : ∀ m, freeN β m ≤ m
  | 0 => Nat.le_refl _
  | m + 1 => by
    unfold freeN
    have := freeN_le β m
    split <;> omega

set_option maxHeartbeats 8000000 in
set_option maxRecDepth 100000 in
theorem HpRep.stats_ {w : World} {hb s pb : Nat} {K : BuL} {β : Bu} {ps : List Int} (R : HpRep 0 w hb s pb K β ps) :
    Calls Tryz.prog 26 #[.pointer (some ⟨hb, 0, none⟩)] w (Looked w hb s pb K β ps (.agg #[.int .u64 (β.σ.size * β.σ.n : Nat), .int .u64 (sumS (liveL β β.μ.pages.length) : Nat), .int .i64 ((liveL β β.μ.pages.length).length : Nat), .int .i64 (freeN β β.μ.pages.length : Nat)])) := by
  have T0 := (Touch.refl Nothing w).alloc (.cells #[.int .u64 0, .int .u64 0, .int .i64 0, .int .i64 0] 36)
  have B0 := Blk.new w #[.int .u64 0, .int .u64 0, .int .i64 0, .int .i64 0] 36
  have hRB : w.heap.size < (w.alloc (.cells #[.int .u64 0, .int .u64 0, .int .i64 0, .int .i64 0] 36)).heap.size := by simp
  have R0 := R.touch0 T0
  have HRl := Lib.hid R
  have HRB := Lib.hid (show w.heap.size ∉ hb :: s :: pb :: K.fp from fun h => by have := R.lt _ h; omega)
  clear R
  obtain ⟨c0, -, -, -, -, f0⟩ := R0.cells
  have R1 := R0.locked 1
  have HR1 := Lib.hid R1
  have HT0 := Lib.hid T0
  have HB0 := Lib.hid B0
  clear R1 R0 T0 B0
  go_enter_defers Tryz.func26, Tryz.ntmps26
  go_wp2_with fail
  refine (lock_free Tryz.muLib ⟨hb, 0, none⟩ _ c0 f0).mono ?_
  rintro e w' ⟨rfl, rfl⟩
  generalize hw0 : w.alloc (.cells #[.int .u64 0, .int .u64 0, .int .i64 0, .int .i64 0] 36) = w0 at *
  generalize hw1 : w0.setCell ⟨hb, 0, none⟩ (.int .i32 1) = w1 at *
  have HW0 := Lib.hid hw0
  have HW1 := Lib.hid hw1
  obtain ⟨-, d2, -, d5, -, -⟩ := HR1.out.cells
  have lhb : hb < w1.heap.size := HR1.out.blk.lt
  have hcf : ∀ (us : Array Value) (W : World), (callFunc 60 us).run Tryz.prog W = .ok (.enter 60 us) W := fun us W => by simp [go_sem]
  have hcf2 : ∀ (us : Array Value) (W : World), (callFunc 61 us).run Tryz.prog W = .ok (.enter 61 us) W := fun us W => by simp [go_sem]
  have HCF := Lib.hid hcf
  have HCF2 := Lib.hid hcf2
  have HSp := Lib.hid (fun W (T : Touch Nothing w1 W) => (HR1.out.touch0 T).sl.po.space_)
  have HEn := Lib.hid (fun W (T : Touch Nothing w1 W) => (HR1.out.touch0 T).sl.po.bu.sp.end_)
  have htop := HR1.out.sl.po.bu.sp.ok.le64
  obtain ⟨H, hH⟩ : ∃ H, H = β.σ.size * β.σ.n := ⟨_, rfl⟩
  have HH := Lib.hid hH
  rw [← hH] at htop
  have hEc : ((β.σ.base + β.σ.size * β.σ.n : Nat) : Int) = (β.σ.base : Int) + (H : Int) := by rw [hH]; push_cast; rfl
  rw [hEc] at HEn
  clear hcf hcf2 hH hEc hw0 hw1 c0 f0
  generalize hBs : β.σ.base = B at *
  go_upto_region 3 with fail
  have hwd : IntKind.u64.wrap ((B : Int) + (H : Int) - (B : Int)) = (H : Int) := by rw [IntWalk.u64_in _ (by omega)]; omega
  go_cut [3] from 17 to 31 (fun v wx => ∃ SB : Nat, v = .pointer (some ⟨SB, 0, none⟩) ∧ w1.heap.size ≤ SB ∧ Blk wx SB 36 [.int .u64 (H : Int), .int .u64 0, .int .i64 0, .int .i64 0] ∧ Touch Nothing w1 wx)
  case first =>
   refine wp_nopanic ?_
   go_region_law (first | (refine step_call_list _ (by rfl) 60 #[.tmp 22] #[120] (by rfl) #[.pointer (some ⟨pb, 0, none⟩)] (by rfl) (HSp.out _ (by first | exact (Touch.refl Nothing w1).drew | exact ((Touch.refl Nothing w1).drew).alloc _)) (HCF.out _ _) ?_; rintro e w2 ⟨rfl, rfl⟩; refine ⟨_, rfl, ?_⟩) | (refine step_call_list _ (by rfl) 61 #[.tmp 23] #[115] (by rfl) #[.pointer (some ⟨K.L.sb, 0, none⟩)] (by rfl) (HEn.out _ (by first | exact (Touch.refl Nothing w1).drew | exact ((Touch.refl Nothing w1).drew).alloc _)) (HCF2.out _ _) ?_; rintro e w2 ⟨rfl, hkq⟩; refine ⟨_, rfl, ?_⟩; have T2 : Touch Nothing w1 w2 := (by obtain ⟨kq, rfl⟩ := hkq; first | exact ((Touch.refl Nothing w1).drew).drewN kq | exact (((Touch.refl Nothing w1).alloc _).drew).drewN kq); have d2' : w2.cell? ⟨hb, 2, none⟩ = some (.int .u64 B) := (T2.cell (p := ⟨hb, 2, none⟩) lhb (fun h => h)).trans d2; have lhb2 : hb < w2.heap.size := Nat.lt_of_lt_of_le lhb T2.size; have HT2 := Lib.hid T2; first | (have BS : Blk w2 w1.heap.size 36 [.int .u64 0, .int .u64 0, .int .i64 0, .int .i64 0] := (by obtain ⟨kq, rfl⟩ := hkq; exact ((Blk.new w1 #[.int .u64 0, .int .u64 0, .int .i64 0, .int .i64 0] 36).drew).drewN kq); have z0 : w2.cell? ⟨w1.heap.size, 0, none⟩ = some (.int .u64 0) := BS.cell 0; have z1 : w2.cell? ⟨w1.heap.size, 1, none⟩ = some (.int .u64 0) := BS.cell 1; have z2 : w2.cell? ⟨w1.heap.size, 2, none⟩ = some (.int .i64 0) := BS.cell 2; have z3 : w2.cell? ⟨w1.heap.size, 3, none⟩ = some (.int .i64 0) := BS.cell 3; have y0 := BS.free 0; have y1 := BS.free 1; have y2 := BS.free 2; have y3 := BS.free 3; have HBS := Lib.hid BS; clear BS hkq T2) | (clear hkq T2)))
   all_goals
     show Exit.then _ _ Exit.normal _ _
     try rw [hwd]
     go_wp2_with fail
     go_meet
     first
       | exact ⟨_, rfl, HT2.out.size, Blk.new _ _ _, HT2.out.alloc _⟩
       | exact ⟨_, rfl, Nat.le_refl _, (((HBS.out.set 0 _).set 1 _).set 2 _).set 3 _, (((HT2.out.setCell (fun h => absurd h (Nat.lt_irrefl _)) _).setCell (fun h => absurd h (Nat.lt_irrefl _)) _).setCell (fun h => absurd h (Nat.lt_irrefl _)) _).setCell (fun h => absurd h (Nat.lt_irrefl _)) _⟩
  case rest =>
    obtain ⟨SB, rfl, hSB, hB, hT⟩ := hcut
    have HL := Lib.hid ((HR1.out.touch0 hT).live_)
    have HBS := Lib.hid hB
    have HTS := Lib.hid hT
    clear hB hT
    go_wp2_with fail
    refine HL.out.mono ?_
    rintro e wl ⟨v, rfl, hLv⟩
    have hlen := HR1.out.sl.po.bu.mp.ok.len
    have hll := liveL_len β β.μ.pages.length
    have hsz := sumS_le _ (liveL_size HR1.out.sl.po.bu.mp.ok.page _ (Nat.le_refl _))
    have hmn := sumS_mono (liveL β β.μ.pages.length)
    have htk := sumS_take (liveL β β.μ.pages.length)
    have HTl := Lib.hid (HTS.out.trans hLv.touch)
    have HBl := Lib.hid (HBS.out.touch hLv.touch (fun h => h))
    obtain ⟨pa, cap, rfl, hrow⟩ := owns_form hLv.own
    have HRow := Lib.hid hrow
    generalize hl : liveL β β.μ.pages.length = l at *
    clear hLv hrow hl
    go_wp2_with fail
    go_loopw [35] (fun a wr => ∃ j : Nat, j ≤ l.length ∧ a = .int .i64 j ∧ Blk wr SB 36 [.int .u64 (H : Int), .int .u64 (sumS (l.take j) : Nat), .int .i64 (j : Nat), .int .i64 0] ∧ Touch (· = SB) wl wr) (fun a _ => l.length - (intOf a).toNat)
    case atStart => exact ⟨0, by omega, rfl, HBl.out, Touch.refl _ _⟩
    case round =>
      obtain ⟨j, hj, rfl, hB, hT⟩ := hrel
      have c1 : wr.cell? ⟨SB, 1, none⟩ = some (.int .u64 (sumS (l.take j) : Nat)) := hB.cell 1
      have c2 : wr.cell? ⟨SB, 2, none⟩ = some (.int .i64 (j : Nat)) := hB.cell 2
      have f1 := hB.free 1
      have f2 := hB.free 2
      have hsb := hB.lt
      have HB := Lib.hid hB
      have HT := Lib.hid hT
      clear hB
      by_cases hlt : j < l.length
      · obtain ⟨g, hg, ⟨cur, hcur⟩, hcells⟩ := HRow.out (by omega)
        subst hg
        have hgs : g ≠ SB := by
          rintro rfl
          have h2 : wl.heap[g]? = _ := HBl.out
          rw [hcur] at h2
          cases h2
        have hgl : g < wl.heap.size := (Array.getElem?_eq_some_iff.1 hcur).1
        obtain ⟨e1, e2⟩ := flat2_get l j l[j] (List.getElem?_eq_getElem hlt)
        have x1 : wr.cell? ⟨g, j * 2, none⟩ = some (.int .u64 (l[j].1 : Nat)) := ((hT.cell (p := ⟨g, j * 2, none⟩) hgl hgs).trans (hcells (j * 2) (by omega))).trans e1
        have x2 : wr.cell? ⟨g, j * 2 + 1, none⟩ = some (.int .u64 (l[j].2 : Nat)) := ((hT.cell (p := ⟨g, j * 2 + 1, none⟩) hgl hgs).trans (hcells (j * 2 + 1) (by omega))).trans e2
        have hgr : g < wr.heap.size := Nat.lt_of_lt_of_le hgl hT.size
        have h1 := htk j hlt
        have h2 := hmn (j + 1)
        have HS := Lib.hid h1
        generalize hP : l[j].1 = P at *
        generalize hS : l[j].2 = S at *
        generalize sumS (l.take j) = sj at *
        clear hT hcur hcells e1 e2 hP hS
        go_wp2_with fail
        go_roundw
        case rel =>
          refine ⟨j + 1, by omega, rfl, ?_, ?_⟩
          · rw [HS.out, show (((sj + S : Nat) : Nat) : Int) = (sj : Int) + (S : Int) by omega, show ((j + 1 : Nat) : Int) = (j : Int) + 1 by omega]
            exact ((HB.out.set 1 (.int .u64 ((sj : Int) + (S : Int)))).set 2 (.int .i64 ((j : Int) + 1))).alloc _
          · exact ((HT.out.trans (Touch.cellAt wr SB 1 _)).trans (Touch.cellAt _ SB 2 _)).alloc _
        case measure => simp [intOf]; omega
      · obtain rfl : j = l.length := by omega
        rw [List.take_length] at HB
        have HTw := Lib.hid (HTl.out.trans' hT (fun k hk e => by subst e; exact absurd (Nat.lt_of_lt_of_le hk hSB) (Nat.lt_irrefl _)))
        have HMp := Lib.hid ((HR1.out.touch0 HTw.out).sl.po.map_)
        have HPg := Lib.hid ((HR1.out.touch0 HTw.out).sl.po.bu.mp.pages_)
        obtain ⟨-, -, -, g5, -, -⟩ := (HR1.out.touch0 HTw.out).cells
        clear hT c1 c2 f1 f2 hsb htk HRow hlt
        generalize hsum : sumS l = sm at *
        generalize hlenl : l.length = ll at *
        go_wp2_with fail
        refine HMp.out.mono ?_
        rintro e wm ⟨rfl, rfl⟩
        go_wp2_with fail
        refine HPg.out.mono ?_
        rintro e wm ⟨rfl, rfl⟩
        clear HMp HPg g5
        go_wp2_with fail
        go_loopw [59] (fun a wr => ∃ k : Nat, k ≤ β.μ.pages.length ∧ a = .int .i64 k ∧ Blk wr SB 36 [.int .u64 (H : Int), .int .u64 (sm : Nat), .int .i64 (ll : Nat), .int .i64 (freeN β k : Nat)] ∧ Touch Nothing w1 wr) (fun a _ => β.μ.pages.length - (intOf a).toNat)
        case atStart => exact ⟨0, by omega, rfl, HB.out, HTw.out⟩
        case round =>
          obtain ⟨k, hk, rfl, hB, hT⟩ := hrel
          have HB2 := Lib.hid hB
          have HT2 := Lib.hid hT
          clear hB hT
          by_cases hlt : k < β.μ.pages.length
          · have hp : β.μ.pages[k]? = some β.μ.pages[k] := List.getElem?_eq_getElem hlt
            generalize β.μ.pages[k] = p at hp
            have HAt := Lib.hid ((HR1.out.touch0 HT2.out).sl.po.bu.mp.at_ hp)
            have HF := Lib.hid (show freeN β (k + 1) = freeN β k + if p.kind = 0 ∨ p.kind = 1 then 1 else 0 by
              show freeN β k + (if (β.μ.pages.getD k zeroPg).kind = 0 ∨ (β.μ.pages.getD k zeroPg).kind = 1 then 1 else 0) = _
              rw [List.getD_eq_getElem?_getD, hp]
              rfl)
            have hfl := freeN_le β k
            clear hp
            go_wp2_with fail
            refine HAt.out.mono ?_
            rintro e w3 ⟨rfl, T3⟩
            have hB3 := HB2.out.touch T3 (fun h => h)
            have c3 : w3.cell? ⟨SB, 3, none⟩ = some (.int .i64 (freeN β k : Nat)) := hB3.cell 3
            have f3 := hB3.free 3
            have hsb := hB3.lt
            have HB3 := Lib.hid hB3
            have HT3 := Lib.hid (HT2.out.trans T3)
            clear hB3 T3 HAt
            generalize freeN β k = fk at *
            unfold Pg.val
            by_cases h0 : p.kind = 0
            · rw [if_pos (.inl h0)] at HF
              have e0 : (p.kind == 0) = true := by rw [h0]; rfl
              go_wp2_with fail
              go_roundw
              case rel =>
                refine ⟨k + 1, by omega, rfl, ?_, ?_⟩
                · rw [HF.out, show ((fk + 1 : Nat) : Int) = (fk : Int) + 1 by omega]
                  exact (HB3.out.set 3 (.int .i64 ((fk : Int) + 1))).alloc _
                · exact (HT3.out.trans' (Touch.cellAt w3 SB 3 _) (fun j hj e => by subst e; exact absurd (Nat.lt_of_lt_of_le hj hSB) (Nat.lt_irrefl _))).alloc _
              case measure => simp [intOf]; omega
            · by_cases h1 : p.kind = 1
              · rw [if_pos (.inr h1)] at HF
                have e0 : (p.kind == 0) = false := by rw [h1]; rfl
                have e1 : (p.kind == 1) = true := by rw [h1]; rfl
                go_wp2_with fail
                go_roundw
                case rel =>
                  refine ⟨k + 1, by omega, rfl, ?_, ?_⟩
                  · rw [HF.out, show ((fk + 1 : Nat) : Int) = (fk : Int) + 1 by omega]
                    exact (HB3.out.set 3 (.int .i64 ((fk : Int) + 1))).alloc _
                  · exact (HT3.out.trans' (Touch.cellAt w3 SB 3 _) (fun j hj e => by subst e; exact absurd (Nat.lt_of_lt_of_le hj hSB) (Nat.lt_irrefl _))).alloc _
                case measure => simp [intOf]; omega
              · rw [if_neg (fun h => h.elim h0 h1)] at HF
                have e0 : (p.kind == 0) = false := by rw [beq_eq_false_iff_ne]; exact h0
                have e1 : (p.kind == 1) = false := by rw [beq_eq_false_iff_ne]; exact h1
                go_wp2_with fail
                go_roundw
                case rel =>
                  refine ⟨k + 1, by omega, rfl, ?_, ?_⟩
                  · rw [HF.out]
                    exact HB3.out.alloc _
                  · exact HT3.out.alloc _
                case measure => simp [intOf]; omega
          · obtain rfl : k = β.μ.pages.length := by omega
            have s0 : wr.cell? ⟨SB, 0, none⟩ = some (.int .u64 (H : Int)) := HB2.out.cell 0
            have s1 : wr.cell? ⟨SB, 1, none⟩ = some (.int .u64 (sm : Nat)) := HB2.out.cell 1
            have s2 : wr.cell? ⟨SB, 2, none⟩ = some (.int .i64 (ll : Nat)) := HB2.out.cell 2
            have s3 : wr.cell? ⟨SB, 3, none⟩ = some (.int .i64 (freeN β β.μ.pages.length : Nat)) := HB2.out.cell 3
            have hrb : w.heap.size ≠ hb := fun e => HRB.out (by rw [e]; simp)
            have hBr : Blk wr w.heap.size 36 [.int .u64 0, .int .u64 0, .int .i64 0, .int .i64 0] := by
              have h1 : Blk w1 w.heap.size 36 [.int .u64 0, .int .u64 0, .int .i64 0, .int .i64 0] := by
                rw [← HW1.out]
                exact HB0.out.other (fun e => hrb e.symm) _
              exact h1.touch HT2.out (fun h => h)
            have q0 := hBr.cell 0
            have q1 := hBr.cell 1
            have q2 := hBr.cell 2
            have q3 := hBr.cell 3
            simp only [List.getElem?_cons_zero, List.getElem?_cons_succ] at q0 q1 q2 q3
            have p0 := hBr.free 0
            have p1 := hBr.free 1
            have p2 := hBr.free 2
            have p3 := hBr.free 3
            have HBr := Lib.hid hBr
            clear hBr
            go_wp2_with fail
            have BZ := (((HBr.out.set 0 (.int .u64 (H : Int))).set 1 (.int .u64 (sm : Nat))).set 2 (.int .i64 (ll : Nat))).set 3 (.int .i64 (freeN β β.μ.pages.length : Nat))
            have TZ : Touch (fun k => k = w.heap.size) wr _ := (((Touch.cellAt wr w.heap.size 0 (.int .u64 (H : Int))).trans (Touch.cellAt _ w.heap.size 1 (.int .u64 (sm : Nat)))).trans (Touch.cellAt _ w.heap.size 2 (.int .i64 (ll : Nat)))).trans (Touch.cellAt _ w.heap.size 3 (.int .i64 (freeN β β.μ.pages.length : Nat)))
            generalize (((wr.setCell ⟨w.heap.size, 0, none⟩ (.int .u64 (H : Int))).setCell ⟨w.heap.size, 1, none⟩ (.int .u64 (sm : Nat))).setCell ⟨w.heap.size, 2, none⟩ (.int .i64 (ll : Nat))).setCell ⟨w.heap.size, 3, none⟩ (.int .i64 (freeN β β.μ.pages.length : Nat)) = wz at *
            have TZ1 : Touch (fun k => k = w.heap.size) w1 wz := HT2.out.none_.trans TZ
            have RZ : HpRep 1 wz hb s pb K β ps := HR1.out.touch TZ1 (fun k hk e => HRB.out (e ▸ hk)) (fun k hk e => by have := HRl.out.glob.size; omega)
            have hm := RZ.cells.1
            have fm := RZ.cells.2.2.2.2.2
            have b0 : wz.cell? ⟨w.heap.size, 0, none⟩ = some (.int .u64 (H : Int)) := BZ.cell 0
            have b1 : wz.cell? ⟨w.heap.size, 1, none⟩ = some (.int .u64 (sm : Nat)) := BZ.cell 1
            have b2 : wz.cell? ⟨w.heap.size, 2, none⟩ = some (.int .i64 (ll : Nat)) := BZ.cell 2
            have b3 : wz.cell? ⟨w.heap.size, 3, none⟩ = some (.int .i64 (freeN β β.μ.pages.length : Nat)) := BZ.cell 3
            refine leaves_cons (f := 59) (args := #[.pointer (some ⟨hb, 0, none⟩)]) (by simp) (by simp [go_sem]) ?_
            refine (unlock_deferred Tryz.muLib ⟨hb, 0, none⟩ .returning _ hm fm).mono ?_
            rintro e u' w'' ⟨rfl, rfl, rfl⟩
            have BZ' := BZ.other (p := ⟨hb, 0, none⟩) (fun e => hrb e.symm) (.int .i32 0)
            have z0 : (wz.setCell ⟨hb, 0, none⟩ (.int .i32 0)).cell? ⟨w.heap.size, 0, none⟩ = some (.int .u64 (H : Int)) := BZ'.cell 0
            have z1 : (wz.setCell ⟨hb, 0, none⟩ (.int .i32 0)).cell? ⟨w.heap.size, 1, none⟩ = some (.int .u64 (sm : Nat)) := BZ'.cell 1
            have z2 : (wz.setCell ⟨hb, 0, none⟩ (.int .i32 0)).cell? ⟨w.heap.size, 2, none⟩ = some (.int .i64 (ll : Nat)) := BZ'.cell 2
            have z3 : (wz.setCell ⟨hb, 0, none⟩ (.int .i32 0)).cell? ⟨w.heap.size, 3, none⟩ = some (.int .i64 (freeN β β.μ.pages.length : Nat)) := BZ'.cell 3
            refine ⟨.agg #[.int .u64 (H : Int), .int .u64 (sm : Nat), .int .i64 (ll : Nat), .int .i64 (freeN β β.μ.pages.length : Nat)], ?_, ?_, RZ.locked 0, ?_⟩
            · simp [results, Tryz.results26, go_sem, z0, z1, z2, z3]
            · rw [HH.out]
            · have t1 : Touch (· = hb) w w1 := by
                rw [← HW1.out]
                exact HT0.out.none_.trans (Touch.cellAt w0 hb 0 _)
              exact (t1.trans' TZ1 (fun k hk e => by omega)).trans (Touch.cellAt wz hb 0 _)

end Go.Proofs.YtnjcmcnjgdjbiaaGreatDoor
