/- The walk of ScriptParses, whole. Conditions: none. -/
import Derived.Test.YtnjcmcnjgdjbiaaGreatDoorParses
namespace Go.Proofs.YtnjcmcnjgdjbiaaGreatDoor
open Go.RowKit

theorem word_slice {w : World} {B n g cap : Nat} {cs : List CallV} (h : w.ownsRow B 43 7 (.slice (some ⟨g, 0, none⟩) n cap) cs.length (cs.flatMap CallV.cells)) (i : Nat) (c : CallV) (hc : cs[i]? = some c) : w.cell? ⟨g, i * 7 + 6, none⟩ = some (.slice c.dp c.dn c.dc) := by
  obtain ⟨p, cp, hv⟩ := owns_form h
  cases hv
  have hi := (List.getElem?_eq_some_iff.1 hc).1
  rw [World.ownsRow.cellAt h (i * 7 + 6) (by omega)]
  exact flat_cell cs i 6 c _ hc rfl

theorem byte_dp {w : World} {B dn dc : Nat} {dp : Option Addr} {xs : List Value} (h : w.ownsRow B 5 1 (.slice dp dn dc) xs.length xs) (h0 : 0 < xs.length) : ∃ g, dp = some ⟨g, 0, none⟩ ∧ g < w.heap.size ∧ dn = xs.length := by
  obtain ⟨g, cap, hv, -, -⟩ := World.ownsRow.form h h0
  cases hv
  exact ⟨g, rfl, (World.ownsRow.lt h g rfl).2, rfl⟩

theorem dn_of {w : World} {B dn dc : Nat} {dp : Option Addr} {xs : List Value} (h : w.ownsRow B 5 1 (.slice dp dn dc) xs.length xs) : dn = xs.length := by
  obtain ⟨p, c, hv⟩ := owns_form h
  injection hv

theorem owns_cells {w : World} {B n cap : Nat} {p : Option Addr} {ys : List Value} (h : w.ownsRow B 5 1 (.slice p n cap) n ys) : (p = none → n = 0 ∧ cap = 0) ∧ ∀ b, p = some b → ∀ j u, ys[j]? = some u → w.cell? (b.add j) = some u := by
  refine ⟨fun e => ?_, fun b e j u hj => ?_⟩
  · rcases h.2 with ⟨h1, h2⟩ | ⟨gb, cap', cur, h1, h2, _⟩
    · injection h1 with _ e1 e2
      exact ⟨e1, e2⟩
    · injection h1 with e0
      rw [e] at e0
      cases e0
  · rcases h.2 with ⟨h1, h2⟩ | ⟨gb, cap', cur, h1, h2, _⟩
    · injection h1 with e0
      rw [e] at e0
      cases e0
    · injection h1 with e0 e1 e2
      rw [e] at e0
      cases e0
      subst e
      have hl := (List.getElem?_eq_some_iff.1 hj).1
      have hn := h.1
      have e : (⟨gb, 0, none⟩ : Addr).add j = ⟨gb, j, none⟩ := by unfold Addr.add; split <;> simp_all
      rw [e, World.ownsRow.cellAt h j (by omega)]
      exact hj

set_option maxRecDepth 100000 in
set_option maxHeartbeats 16000000 in
theorem parses_ (s : ByteArray) (w : World) (G : Glob w) : Calls Tryz.prog 4 #[.string s] w fun e w' => e = .returned (.bool true) ∧ Touch Nothing w w' := by
  have HG := Lib.hid G
  have HP := Lib.hid (parse_ s w G)
  have HR := Lib.hid (fun w1 => parseR_ s w1)
  obtain ⟨xs, hxs⟩ : ∃ xs, (Txt.parseW s.data.toList).1 = xs := ⟨_, rfl⟩
  have HSm := Lib.hid (parse_small s.data.toList)
  unfold ParsedAs at HP HR
  rw [hxs] at HP HSm
  simp only [hxs] at HR
  clear G hxs
  obtain ⟨i0, hi0, hz0, hz1, hz2⟩ := info_parts infoR5
  go_enter Tryz.func4, Tryz.ntmps4
  go_wp2_with fail
  refine HP.out.mono ?_
  rintro e w1 ⟨dp, dn, dc, cs, rfl, hc, T1⟩
  have HC1 := Lib.hid hc
  have HT1 := Lib.hid T1
  clear hc T1
  go_wp2_with fail
  refine (HR.out w1).mono ?_
  rintro e w2 ⟨dp2, dn2, dc2, cs2, rfl, hc2, T2⟩
  have HC2 := Lib.hid hc2
  have HT2 := Lib.hid T2
  obtain ⟨hn, R1⟩ := (HC1.out.still HT2.out).rd
  obtain ⟨hn2, R2⟩ := hc2.rd
  have hcl : cs2.length = cs.length := by rw [hc2.len, HC1.out.len]
  have hcs : cs.length ≤ 4096 := by rw [HC1.out.len]; exact HSm.out.2
  rw [hcl] at hn2
  rw [hn] at R1
  rw [hn2] at R2
  have HSame := Lib.hid (same_ w2 dp dp2 cs.length dc dc2 cs cs2 _ (by omega) R1 R2 (fun i c d hci hdi => by
    obtain ⟨x, hx⟩ : ∃ x, xs[i]? = some x := ⟨_, List.getElem?_eq_getElem (by rw [← HC1.out.len]; exact (List.getElem?_eq_some_iff.1 hci).1)⟩
    exact likeC_of (HC1.out.each i c x hci hx) (HC2.out.each i d x hdi hx)))
  subst hn hn2
  clear hc2 T2 R1 R2 HP HR HC2
  go_wp2_with fail
  refine HSame.out.mono ?_
  rintro e w3 ⟨rfl, T3⟩
  have HT3 := Lib.hid T3
  clear T3 HSame
  go_wp2_with fail
  refine (awake_ w3 (HG.out.touch0 ((HT1.out.trans HT2.out).trans HT3.out))).mono ?_
  rintro e w4 ⟨rfl, T4⟩
  have HT4 := Lib.hid T4
  obtain ⟨v, hv⟩ : ∃ v, Value.slice dp cs.length dc = v := ⟨_, rfl⟩
  have HM := Lib.hid (MutRel.start HC1.out ((HT2.out.trans HT3.out).trans HT4.out) (((HT1.out.trans HT2.out).trans HT3.out).trans HT4.out))
  obtain ⟨f0, hf0⟩ : ∃ f0 : Nat → List Value, (fun j : Nat => bytesV ((xs[j]?.map Txt.Cd.data).getD [])) = f0 := ⟨_, rfl⟩
  rw [hf0] at HM
  have HL := Lib.hid (show ∀ j, (f0 j).length ≤ 65536 from fun j => by
    rw [← hf0]
    cases hj : xs[j]? with
    | none => simp [bytesV, hj]
    | some x => simpa [bytesV, hj] using HSm.out.1 x (List.mem_of_getElem? hj))
  clear hf0 T4 HT1 HT2 HT3 HT4 HC1 HSm HG hv
  go_upto_block 0 with fail
  go_cut [] (fun wx => MutRel w.heap.size (.slice dp cs.length dc) cs (fun j => marks j (f0 j).length) w wx)
  case first =>
    go_wp2_with fail
    go_loopw [9] (fun a wr => ∃ i : Nat, i ≤ cs.length ∧ a = .int .i64 i ∧ MutRel w.heap.size (.slice dp cs.length dc) cs (fun j => if j < i then marks j (f0 j).length else f0 j) w wr) (fun a _ => cs.length - (intOf a).toNat)
    case atStart => exact ⟨0, by omega, rfl, HM.out.congr (fun j _ => by simp)⟩
    case round =>
      obtain ⟨i, hi, rfl, M⟩ := hrel
      have HMi := Lib.hid M
      clear M HM
      by_cases hlt : i < cs.length
      · obtain ⟨g, cap, hv, -, hgl⟩ := World.ownsRow.form HMi.out.own (by omega)
        cases hv
        obtain ⟨c, hc⟩ : ∃ c, cs[i]? = some c := ⟨_, List.getElem?_eq_getElem hlt⟩
        have HCi := Lib.hid hc
        clear hc
        go_upto_block 2 with fail
        go_cut [] (fun wx => MutRel w.heap.size (.slice (some ⟨g, 0, none⟩) cs.length dc) cs (fun j => if j < i + 1 then marks j (f0 j).length else f0 j) w wx)
        case first =>
          go_wp2_with fail
          go_loopw [10] (fun a wq => ∃ k : Nat, k ≤ (f0 i).length ∧ a = .int .i64 k ∧ MutRel w.heap.size (.slice (some ⟨g, 0, none⟩) cs.length dc) cs (fun j => if j = i then marks i k ++ (f0 i).drop k else if j < i then marks j (f0 j).length else f0 j) w wq) (fun a _ => (f0 i).length - (intOf a).toNat)
          case atStart => exact ⟨0, by omega, rfl, HMi.out.congr (fun j _ => by
            by_cases e : j = i
            · subst e; simp [marks]
            · simp [e])⟩
          case round =>
            obtain ⟨k, hk, rfl, M⟩ := hrel
            have HMk := Lib.hid M
            have hcell := word_slice M.own i c HCi.out
            have hgl2 : g < wr.heap.size := (World.ownsRow.lt M.own g rfl).2
            have hrow := M.each i c HCi.out
            simp only [if_true] at hrow
            have hlen : (marks i k ++ (f0 i).drop k).length = (f0 i).length := by simp [marks]; omega
            have hdn : c.dn = (f0 i).length := (dn_of hrow).trans hlen
            have hb := HL.out i
            clear M
            by_cases hkl : k < (f0 i).length
            · obtain ⟨gd, hdp, hgd, -⟩ := byte_dp hrow (by omega)
              have h1 : wr.ownsRow w.heap.size 5 1 (.slice (some ⟨gd, 0, none⟩) (marks i k ++ (f0 i).drop k).length c.dc) (marks i k ++ (f0 i).drop k).length (marks i k ++ (f0 i).drop k) := by
                have h2 := hrow
                rw [hdp, hdn, ← hlen] at h2
                exact h2
              have hfree : wr.frozen? ⟨gd, k, none⟩ = false := World.ownsRow.frozenAt h1 k
              obtain ⟨old, hold⟩ : ∃ old, wr.cell? ⟨gd, k, none⟩ = some old := by
                rw [World.ownsRow.cellAt h1 k (by omega)]
                exact ⟨_, List.getElem?_eq_getElem (by omega)⟩
              have HNx := Lib.hid ((HMk.out.set HCi.out hdp (Nat.lt_of_lt_of_eq hkl (show (f0 i).length = ((fun j => if j = i then marks i k ++ (f0 i).drop k else if j < i then marks j (f0 j).length else f0 j) i).length by simp only [if_true]; exact hlen.symm)) (Nat.le_refl _) (u8 i)).congr (f' := fun j => if j = i then marks i (k + 1) ++ (f0 i).drop (k + 1) else if j < i then marks j (f0 j).length else f0 j) (fun j _ => by
                by_cases e : j = i
                · subst e; simp only [if_true]; exact marks_set _ k (f0 j) hkl
                · simp only [if_neg e]))
              rw [hdp, hdn] at hcell
              unfold u8 at HNx
              clear hrow hdp hdn hlen h1
              go_wp2_with fail
              exact ⟨⟨k + 1, by omega, by go_num, HNx.out⟩, by simp [intOf]; omega⟩
            · obtain rfl : k = (f0 i).length := by omega
              rw [hdn] at hcell
              clear hrow hdn hlen
              go_wp2_with fail
              go_meet
              exact HMk.out.congr (fun j _ => by
                by_cases e : j = i
                · subst e; simp
                · by_cases h : j < i
                  · simp [e, h, show j < i + 1 by omega]
                  · simp [e, h, show ¬ j < i + 1 by omega])
        case rest =>
          have HMr := Lib.hid hcut
          have hcell := word_slice hcut.own i c HCi.out
          have hrow := hcut.each i c HCi.out
          simp only [show i < i + 1 by omega, if_true] at hrow
          have hlen : (marks i (f0 i).length).length = (f0 i).length := by simp [marks]
          have hb := HL.out i
          have hgl3 : g < wc.heap.size := (World.ownsRow.lt hcut.own g rfl).2
          have hwz : w.heap.size ≤ wc.heap.size := hcut.touch.size
          have HA0 := Lib.hid (App.start hcut HCi.out)
          simp only [show i < i + 1 by omega, if_true] at HA0
          clear hcut hrow HMi
          go_wp2_with fail
          clear hcell
          go_loopw [11, 12] (fun a b wq => ∃ k : Nat, k ≤ 20 ∧ b = .int .i64 k ∧ MutRel w.heap.size (.slice (some ⟨g, 0, none⟩) cs.length dc) cs (fun j => if j < i + 1 then marks j (f0 j).length else f0 j) w wq ∧ App w.heap.size (.slice (some ⟨g, 0, none⟩) cs.length dc) cs c (marks i (f0 i).length) k a wq) (fun _ b _ => 20 - (intOf b).toNat)
          case atStart => exact ⟨0, by omega, rfl, HMr.out, HA0.out⟩
          case round =>
            obtain ⟨k, hk, rfl, M, A⟩ := hrel
            have HMk := Lib.hid M
            obtain ⟨ys, hown, hor⟩ := A
            have hys : ys.length = (marks i (f0 i).length).length + k := by have := hown.1; simpa using this
            obtain ⟨p, cap, hv⟩ := owns_form hown
            subst hv
            rw [hlen] at hys hown hor
            have HY := Lib.hid hys
            have HO := Lib.hid hown
            have HOr := Lib.hid hor
            have hsz : w.heap.size ≤ wr.heap.size := M.touch.size
            rw [hlen]
            clear M hown hor hys
            by_cases hkl : k < 20
            · by_cases hroom : (f0 i).length + k + 1 ≤ cap
              · have hp : ∃ gb, p = some ⟨gb, 0, none⟩ ∧ w.heap.size ≤ gb := by
                  rcases HO.out.2 with ⟨h1, h2⟩ | ⟨gb, cap', cur, h1, h2, _⟩
                  · injection h1 with _ e1 e2; omega
                  · injection h1 with e0 e1 e2; exact ⟨gb, e0, h2⟩
                obtain ⟨gb, rfl, hgb⟩ := hp
                have HNx := Lib.hid (fun w1 o h1 h2 => App.room (f := fun j => if j < i + 1 then marks j (f0 j).length else f0 j) (i := i) (k := k) (w1 := w1) (o := o) HMk.out HCi.out (Nat.le_refl _) (ys := ys) (by simp only [show i < i + 1 by omega, if_true]; rw [hlen]; exact HOr.out) hgb (by simp only [show i < i + 1 by omega, if_true]; rw [hlen]; exact HY.out) h1 h2)
                simp only [show i < i + 1 by omega, if_true] at HNx
                rw [hlen] at HNx
                go_wp2_with (at_builtin; refine wpList_append_own_spare _ rfl _ _ 34 rfl w.heap.size 5 i0 1 Tryz.underlying34 hi0 hz1 gb ((f0 i).length + k) cap _ rfl (HO.out.alloc _) ⟨wr.heap.size, 0, none⟩ 1 1 [.int .u8 99] rfl rfl (cell_one_new _ _ _) (by simp [Value.oneCell']) (by omega) ?_; intro w1 hown1 hgrow1)
                obtain ⟨hM1, hA1⟩ := HNx.out _ _ hown1 hgrow1
                have HM1 := Lib.hid hM1
                have HA1 := Lib.hid hA1
                clear hM1 hA1 hown1 hgrow1
                go_wp2_with fail
                exact ⟨⟨k + 1, by omega, by go_num, HM1.out, HA1.out⟩, by simp [intOf]; omega⟩
              · have HNx := Lib.hid (fun v' w1 o h1 h2 => App.grow (f := fun j => if j < i + 1 then marks j (f0 j).length else f0 j) (i := i) (k := k) (c := c) (v' := v') (w1 := w1) (o := o) (ys := ys) HMk.out (Nat.le_refl _) hsz h1 h2)
                simp only [show i < i + 1 by omega, if_true] at HNx
                rw [hlen] at HNx
                have HOC := Lib.hid (owns_cells (HO.out.alloc (.cells #[.int .u8 99] 5)))
                go_wp2_with (at_builtin; refine wpList_append_grows _ rfl _ _ 34 rfl 5 i0 _ 1 1 Tryz.underlying34 hi0 hz0 hz1 hz2 rfl (by decide) p ((f0 i).length + k) cap ys rfl HOC.out.1 (by have := HY.out; omega) HOC.out.2 ⟨wr.heap.size, 0, none⟩ 1 1 [.int .u8 99] rfl rfl (cell_one_new _ _ _) (by simp [Value.oneCell']) (by omega) (by unfold maxLen; omega) (by omega) ?_; intro v' w1 hown1 hgrow1)
                obtain ⟨hM1, hA1⟩ := HNx.out _ _ _ hown1 hgrow1
                have HM1 := Lib.hid hM1
                have HA1 := Lib.hid hA1
                clear hM1 hA1 hown1 hgrow1
                go_wp2_with fail
                exact ⟨⟨k + 1, by omega, by go_num, HM1.out, HA1.out⟩, by simp [intOf]; omega⟩
            · obtain rfl : k = 20 := by omega
              go_wp2_with fail
              exact ⟨⟨i + 1, by omega, by go_num, HMk.out⟩, by simp [intOf]; omega⟩
      · obtain rfl : i = cs.length := by omega
        go_wp2_with fail
        go_meet
        exact HMi.out.congr (fun j hj => by simp [hj])
  case rest =>
    have HMz := Lib.hid hcut
    clear hcut HM
    go_wp2_with fail
    go_loop [13] (fun a => ∃ i : Nat, i ≤ cs.length ∧ a = .int .i64 i) (fun a => cs.length - (intOf a).toNat)
    case atStart => exact ⟨0, by omega, rfl⟩
    case round =>
      obtain ⟨i, hi, rfl⟩ := hrel
      by_cases hlt : i < cs.length
      · obtain ⟨g, cap, hv, -, hgl⟩ := World.ownsRow.form HMz.out.own (by omega)
        cases hv
        obtain ⟨c, hc⟩ : ∃ c, cs[i]? = some c := ⟨_, List.getElem?_eq_getElem hlt⟩
        have hcell := word_slice HMz.out.own i c hc
        have hgl3 : g < wc.heap.size := (World.ownsRow.lt HMz.out.own g rfl).2
        have hrow := HMz.out.each i c hc
        have hlen : (marks i (f0 i).length).length = (f0 i).length := by simp [marks]
        have hdn : c.dn = (f0 i).length := (dn_of hrow).trans hlen
        have hb := HL.out i
        have HRow := Lib.hid hrow
        rw [hdn] at hcell
        clear hrow hc
        go_wp2_with fail
        go_loop [14] (fun a => ∃ k : Nat, k ≤ (f0 i).length ∧ a = .int .i64 k) (fun a => (f0 i).length - (intOf a).toNat)
        case atStart => exact ⟨0, by omega, rfl⟩
        case round =>
          obtain ⟨k, hk, rfl⟩ := hrel
          by_cases hkl : k < (f0 i).length
          · obtain ⟨gd, hdp, hgd, -⟩ := byte_dp HRow.out (by omega)
            have hold : wc.cell? ⟨gd, k, none⟩ = some (.int .u8 ((i : Int) % 256)) := by
              have h1 := HRow.out
              rw [hdp, hdn, hlen] at h1
              rw [World.ownsRow.cellAt h1 k (by omega)]
              unfold marks
              rw [List.getElem?_replicate, if_pos hkl]
              rfl
            rw [hdp] at hcell
            clear hdp hdn hlen
            go_wp2_with fail
            go_round
            case rel => exact ⟨k + 1, by omega, by go_num⟩
            case measure => simp [intOf]; omega
          · obtain rfl : k = (f0 i).length := by omega
            clear hdn hlen
            go_wp2_with fail
            exact ⟨⟨i + 1, by omega, by go_num⟩, by simp [intOf]; omega⟩
      · obtain rfl : i = cs.length := by omega
        go_wp2_with fail
        go_ret
        exact ⟨rfl, HMz.out.touch⟩

end Go.Proofs.YtnjcmcnjgdjbiaaGreatDoor
