/- The walk of the document's Print: the same text as script.Print's law. Conditions: the calls can be read, their numbers of their kinds. -/
import Derived.Test.YtnjcmcnjgdjbiaaGreatDoorRefText
import Derived.Test.YtnjcmcnjgdjbiaaGreatDoorCanAll
namespace Go.Proofs.YtnjcmcnjgdjbiaaGreatDoor
open Go.RowKit

theorem textR_ (op ref : Int) (p a b : Nat) (deny : Bool) (data : List UInt8) (dp : Option Addr) (dn dc : Nat) (w : World) (hp : p ≤ Txt.M64) (ha : a ≤ Txt.M64) (hb : b ≤ Txt.M64) (ht : Txt.tellable ⟨op, ref, p, a, b, deny, data⟩ = true) (R : RdD w dp dn data) :
    Calls Tryz.prog 73 #[(CallV.mk op ref p a b deny dp dn dc).val] w (Texted (Txt.textOf (Txt.Cx.cd ⟨op, ref, p, a, b, deny, data⟩)) w) := by
  obtain rfl := R.len
  have h := ht
  unfold Txt.tellable at h
  rw [Bool.and_eq_true, decide_eq_true_eq, Txt.okCd_iff] at h
  obtain ⟨h0, ⟨h1, h2⟩, h3, h4, _⟩ := h
  have h0' : 0 ≤ ref := h0
  have h1' : 1 ≤ op.toNat := h1
  have h2' : op.toNat ≤ 14 := h2
  have h3' : ref.toNat ≤ 4096 := h3
  obtain ⟨k, rfl⟩ : ∃ k : Nat, op = (k : Int) + 1 := ⟨(op - 1).toNat, by omega⟩
  obtain ⟨r, rfl⟩ : ∃ r : Nat, ref = (r : Int) := ⟨ref.toNat, by omega⟩
  exact text_ k (by omega) r p a b deny data dp dc w (by omega) h4 hp ha hb ht R

set_option maxRecDepth 100000 in
set_option maxHeartbeats 4000000 in
theorem refPrint_ (pa : Option Addr) (n ca : Nat) (cs : List CallV) (ds : List (List UInt8)) (w : World) (R : RdP w pa n cs ds) (hv : ∀ c ∈ cs, OkV c) (hn : n ≤ 281474976710656) :
    Calls Tryz.prog 30 #[.slice pa n ca] w (Printed (cxs cs ds) w) := by
  have HR := Lib.hid R
  have HV := Lib.hid hv
  have hlen : (cxs cs ds).length = n := by rw [cxs_length _ _ (by have := R.len; have := R.len2; omega)]; exact R.len.symm
  have HL := Lib.hid hlen
  clear R hv hlen
  obtain ⟨t0, hi0, hz0, hz1, hz2⟩ := info_parts info5
  by_cases hl : 4096 < n
  · have HP := Lib.hid (show Txt.printT (cxs cs ds) = ([], 6) by unfold Txt.printT; rw [HL.out, if_pos hl])
    have e1 : decide ((4096 : Int) < (n : Int)) = true := by simp; omega
    have e2 : decide (4096 < n) = true := by simp; omega
    go_enter Tryz.func30, Tryz.ntmps30
    go_wp2_with fail
    go_ret2
    exact ⟨by rw [HP.out]; rfl, Touch.refl _ _⟩
  · have HP := Lib.hid (show Txt.printT (cxs cs ds) = Txt.printGo (cxs cs ds) [] by unfold Txt.printT; rw [HL.out, if_neg hl])
    have e1 : decide ((4096 : Int) < (n : Int)) = false := by simp; omega
    have e2 : decide (4096 < n) = false := by simp; omega
    have hmk := mk0 w
    go_enter Tryz.func30, Tryz.ntmps30
    go_wp2_with fail
    clear hmk
    go_loopw [4, 5] (fun v i wq => ∃ (k : Nat) (acc : List UInt8), k ≤ n ∧ i = .int .i64 k ∧ wq.ownsRow w.heap.size 5 1 v acc.length (bytesV acc) ∧ Touch Nothing w wq ∧ acc.length ≤ 1048576 ∧ Txt.printGo (cxs cs ds) [] = Txt.printGo ((cxs cs ds).drop k) acc) (fun _ i _ => n - (intOf i).toNat)
    case atStart => exact ⟨0, [], by omega, rfl, ⟨rfl, .inr ⟨w.heap.size, 0, #[], rfl, Nat.le_refl _, heap_alloc_new w _, by simp, by unfold maxLen; omega, rfl, rfl⟩⟩, (Touch.refl _ _).alloc _, by simp, rfl⟩
    case round =>
      obtain ⟨k, acc, hk, rfl, hO, hT, hz, hgo⟩ := hrel
      have HO := Lib.hid hO
      have HT := Lib.hid hT
      have HGO := Lib.hid hgo
      have hsz := hT.size
      obtain ⟨dp9, dc9, rfl⟩ := owns_form hO
      clear hO hT hgo
      by_cases hlt : k < n
      · have hlt2 : (k : Int) < (n : Int) := by omega
        obtain ⟨ga, oa, hpa, ea⟩ := (HR.out.touch HT.out).each (by omega)
        subst hpa
        obtain ⟨c, hc⟩ : ∃ c, cs[k]? = some c := ⟨_, List.getElem?_eq_getElem (by have := HR.out.len; omega)⟩
        obtain ⟨dat, hdat⟩ : ∃ x, ds[k]? = some x := ⟨_, List.getElem?_eq_getElem (by have := HR.out.len2; omega)⟩
        have HA := Lib.hid (ea k c dat hc hdat)
        have HX := Lib.hid (cxs_at cs ds k c dat hc hdat)
        have HK := Lib.hid (HV.out c (List.mem_of_getElem? hc))
        obtain ⟨op, ref, p, a, b, deny, dp, dn, dc⟩ := c
        clear ea hc hdat
        have a0 : wr.cell? ⟨ga, oa + k * 7, none⟩ = some (.int .i64 op) := HA.out.1 0 _ rfl
        have a1 : wr.cell? ⟨ga, oa + k * 7 + 1, none⟩ = some (.int .i64 ref) := HA.out.1 1 _ rfl
        have a2 : wr.cell? ⟨ga, oa + k * 7 + 2, none⟩ = some (.int .u64 p) := HA.out.1 2 _ rfl
        have a3 : wr.cell? ⟨ga, oa + k * 7 + 3, none⟩ = some (.int .u64 a) := HA.out.1 3 _ rfl
        have a4 : wr.cell? ⟨ga, oa + k * 7 + 4, none⟩ = some (.int .u64 b) := HA.out.1 4 _ rfl
        have a5 : wr.cell? ⟨ga, oa + k * 7 + 5, none⟩ = some (.bool deny) := HA.out.1 5 _ rfl
        have a6 : wr.cell? ⟨ga, oa + k * 7 + 6, none⟩ = some (.slice dp dn dc) := HA.out.1 6 _ rfl
        have hga : ga < wr.heap.size := World.block_lt_of_cell? wr _ a0
        have HCan := Lib.hid (can_ op ref p a b deny dat dp dn dc wr HK.out.op HA.out.2.len)
        have HTx := Lib.hid (fun w3 (T : Touch Nothing wr w3) (ht : Txt.tellable ⟨op, ref, p, a, b, deny, dat⟩ = true) => textR_ op ref p a b deny dat dp dn dc w3 HK.out.p HK.out.a HK.out.b ht (HA.out.2.touch T))
        have HX2 := Lib.hid (show (cxs cs ds).drop k = ⟨op, ref, p, a, b, deny, dat⟩ :: (cxs cs ds).drop (k + 1) from HX.out)
        have HA2 := Lib.hid HA.out.1
        obtain ⟨x, hx⟩ : ∃ x : Txt.Cx, (⟨op, ref, p, a, b, deny, dat⟩ : Txt.Cx) = x := ⟨_, rfl⟩
        have HTL := Lib.hid (fun h => text_len x h (by rw [← hx]; exact HK.out.p) (by rw [← hx]; exact HK.out.a) (by rw [← hx]; exact HK.out.b))
        rw [hx] at HX2 HCan HTx
        unfold Canned at HCan
        clear HX HK HA hx
        go_wp2_with fail
        refine HCan.out.mono ?_
        rintro e w3 ⟨rfl, T3⟩
        have HT3 := Lib.hid T3
        have HO3 := Lib.hid (owns_touch HO.out T3 (fun _ _ _ h => h))
        have b0 : w3.cell? ⟨ga, oa + k * 7, none⟩ = some (.int .i64 op) := (T3.cell (p := ⟨ga, oa + k * 7, none⟩) hga (fun h => h)).trans a0
        have b1 : w3.cell? ⟨ga, oa + k * 7 + 1, none⟩ = some (.int .i64 ref) := (T3.cell (p := ⟨ga, oa + k * 7 + 1, none⟩) hga (fun h => h)).trans a1
        have b2 : w3.cell? ⟨ga, oa + k * 7 + 2, none⟩ = some (.int .u64 p) := (T3.cell (p := ⟨ga, oa + k * 7 + 2, none⟩) hga (fun h => h)).trans a2
        have b3 : w3.cell? ⟨ga, oa + k * 7 + 3, none⟩ = some (.int .u64 a) := (T3.cell (p := ⟨ga, oa + k * 7 + 3, none⟩) hga (fun h => h)).trans a3
        have b4 : w3.cell? ⟨ga, oa + k * 7 + 4, none⟩ = some (.int .u64 b) := (T3.cell (p := ⟨ga, oa + k * 7 + 4, none⟩) hga (fun h => h)).trans a4
        have b5 : w3.cell? ⟨ga, oa + k * 7 + 5, none⟩ = some (.bool deny) := (T3.cell (p := ⟨ga, oa + k * 7 + 5, none⟩) hga (fun h => h)).trans a5
        have b6 : w3.cell? ⟨ga, oa + k * 7 + 6, none⟩ = some (.slice dp dn dc) := (T3.cell (p := ⟨ga, oa + k * 7 + 6, none⟩) hga (fun h => h)).trans a6
        clear T3 HCan a0 a1 a2 a3 a4 a5 a6 hga
        by_cases ht : Txt.tellable x = true
        · have HTT := Lib.hid ht
          have hts := HTL.out ht
          have HTx3 := Lib.hid (HTx.out w3 HT3.out ht)
          obtain ⟨ts, hts2⟩ : ∃ ts, Txt.textOf x.cd = ts := ⟨_, rfl⟩
          rw [hts2] at hts HTx3
          rw [ht]
          unfold Texted at HTx3
          clear HTx ht HTL HA2
          go_wp2_with fail
          refine HTx3.out.mono ?_
          rintro e w4 ⟨rfl, T4⟩
          have HT4 := Lib.hid ((HT.out.trans HT3.out).trans T4)
          have HO4 := Lib.hid (owns_touch HO3.out T4 (fun _ _ _ h => h))
          have hsz4 := HT4.out.size
          obtain ⟨s4, hs4⟩ : ∃ s4 : ByteArray, (⟨ts.toArray⟩ : ByteArray) = s4 := ⟨_, rfl⟩
          have hz4 : s4.size = ts.length := by rw [← hs4]; simp [ByteArray.size]
          have HS4 := Lib.hid (show s4.data.toList = ts by rw [← hs4])
          have hs45 : s4.size ≤ 200000 := by omega
          have HZ4 := Lib.hid hz4
          obtain ⟨N, hN⟩ : ∃ N : Nat, acc.length + s4.size + 1 = N := ⟨_, rfl⟩
          have hNi : (acc.length : Int) + (s4.size : Int) + 1 = (N : Int) := by omega
          have HN := Lib.hid hN
          rw [hs4]
          clear T4 HTx3 HO3 HT3 b0 b1 b2 b3 b4 b5 b6 HO hs4
          by_cases hfit : acc.length + ts.length + 1 ≤ 1048576
          · have HG2 := Lib.hid (HGO.out.trans (by rw [HX2.out, Txt.printGo, if_pos ⟨HTT.out, by rw [hts2]; exact hfit⟩]))
            have g1 : decide ((1048576 : Int) < (N : Int)) = false := by simp; omega
            have g2 : decide (1048576 < N) = false := by simp; omega
            have hb1 : acc.length + s4.size ≤ 1048575 := by omega
            clear hfit hN hz4 hts
            go_wp2_with fail
            obtain ⟨wo, hwo⟩ : ∃ wo, w4 = wo := ⟨_, rfl⟩
            go_loopw [4, 7] (fun v i wq => ∃ m : Nat, m ≤ s4.size ∧ i = .int .i64 m ∧ wq.ownsRow w.heap.size 5 1 v (acc.length + m) (bytesV (acc ++ s4.data.toList.take m)) ∧ Touch Nothing w wq) (fun _ i _ => s4.size - (intOf i).toNat)
            case atStart => exact ⟨0, by omega, rfl, by simpa using HO4.out, HT4.out⟩
            case round =>
              obtain ⟨m, hm, rfl, hO, hTq⟩ := hrel
              have HOq := Lib.hid hO
              have HTq := Lib.hid hTq
              have hszq := hTq.size
              clear hO hTq
              by_cases hmlt : m < s4.size
              · have hm2 : (m : Int) < (s4.size : Int) := by omega
                have HNW := Lib.hid (news_of_blk (Blk.new wr #[.int .u8 (s4[m]'hmlt).toNat] 5))
                go_wp2_with (at_builtin; refine wpList_append_own _ rfl _ _ 34 rfl w.heap.size 5 t0 (.int .u8 0) 1 1 Tryz.underlying34 hi0 hz0 hz1 hz2 rfl (by decide) _ _ _ rfl (HOq.out.alloc _) ⟨wr.heap.size, 0, none⟩ 1 1 [.int .u8 (s4[m]'hmlt).toNat] rfl rfl HNW.out (by simp [Value.oneCell']) (by unfold maxLen; omega) (by omega) (by simp; omega) ?_; intro v' w5 hown hgrow _)
                have HO5 := Lib.hid (show w5.ownsRow w.heap.size 5 1 v' (acc.length + (m + 1)) (bytesV (acc ++ s4.data.toList.take (m + 1))) by
                  rw [List.take_add_one, Lib.data_getElem? s4 m hmlt, ← List.append_assoc]
                  have h := hown
                  simpa [bytesV, Nat.add_assoc] using h)
                have HT5 := Lib.hid ((HTq.out.alloc (.cells #[.int .u8 (s4[m]'hmlt).toNat] 5)).trans' (Touch.of_grown hgrow (fun i hi => hi)) (fun i hi h => by have := (World.ownsRow.lt HOq.out i h).1; omega))
                clear hown hgrow
                go_wp2_with fail
                exact ⟨⟨m + 1, by omega, by go_num, HO5.out, HT5.out⟩, by simp [intOf]; omega⟩
              · obtain rfl : m = s4.size := by omega
                have HNW := Lib.hid (news_of_blk (Blk.new wr #[.int .u8 10] 5))
                go_wp2_with (at_builtin; refine wpList_append_own _ rfl _ _ 34 rfl w.heap.size 5 t0 (.int .u8 0) 1 1 Tryz.underlying34 hi0 hz0 hz1 hz2 rfl (by decide) _ _ _ rfl (HOq.out.alloc _) ⟨wr.heap.size, 0, none⟩ 1 1 [.int .u8 10] rfl rfl HNW.out (by simp [Value.oneCell']) (by unfold maxLen; omega) (by omega) (by simp; omega) ?_; intro v' w5 hown hgrow _)
                have HO5 := Lib.hid (show w5.ownsRow w.heap.size 5 1 v' (acc ++ (ts ++ [10])).length (bytesV (acc ++ (ts ++ [10]))) by
                  have h := hown
                  rw [List.take_of_length_le (by rw [Array.length_toList]; exact Nat.le_refl _), HS4.out] at h
                  rw [HZ4.out] at h
                  simpa [bytesV, Nat.add_assoc] using h)
                have HT5 := Lib.hid ((HTq.out.alloc (.cells #[.int .u8 10] 5)).trans' (Touch.of_grown hgrow (fun i hi => hi)) (fun i hi h => by have := (World.ownsRow.lt HOq.out i h).1; omega))
                clear hown hgrow
                go_wp2_with fail
                exact ⟨⟨k + 1, _, by omega, by go_num, HO5.out, HT5.out, by have := HZ4.out; simp; omega, by rw [HG2.out, hts2]⟩, by simp [intOf]; omega⟩
          · have HG2 := Lib.hid (HGO.out.trans (by rw [HX2.out, Txt.printGo, if_neg (fun h => hfit (by have := h.2; rw [hts2] at this; exact this))]))
            have g1 : decide ((1048576 : Int) < (N : Int)) = true := by simp; omega
            have g2 : decide (1048576 < N) = true := by simp; omega
            clear hfit hN hz4 hts
            go_wp2_with fail
            go_ret2
            exact ⟨by rw [HP.out, HG2.out]; rfl, HT4.out⟩
        · have HG2 := Lib.hid (HGO.out.trans (by rw [HX2.out, Txt.printGo, if_neg (fun h => ht h.1)]))
          rw [Bool.not_eq_true] at ht
          rw [ht]
          go_wp2_with fail
          go_ret2
          exact ⟨by rw [HP.out, HG2.out]; rfl, HT.out.trans HT3.out⟩
      · obtain rfl : k = n := by omega
        have hlt2 : ¬ (k : Int) < (k : Int) := by omega
        have HG2 := Lib.hid (HGO.out.trans (show _ = (acc, 0) by rw [List.drop_of_length_le (by have := HL.out; omega)]; rfl))
        have HCV := Lib.hid (conv_own (d := acc) HO.out rfl)
        go_wp2_with fail
        rw [HCV.out]
        go_wp2_with fail
        go_ret2
        exact ⟨by rw [HP.out, HG2.out]; rfl, HT.out⟩

end Go.Proofs.YtnjcmcnjgdjbiaaGreatDoor
