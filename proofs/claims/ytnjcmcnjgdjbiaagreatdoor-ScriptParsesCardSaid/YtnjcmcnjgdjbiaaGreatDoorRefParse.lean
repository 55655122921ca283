/- The walk of the document's own Parse. Conditions: none. -/
import Derived.Test.YtnjcmcnjgdjbiaaGreatDoorCursorL
namespace Go.Proofs.YtnjcmcnjgdjbiaaGreatDoor
open Go.RowKit

/- the plain law of the counting and the parting -/
theorem lineCount_cons (x : UInt8) (l : List UInt8) : Txt.lineCount (x :: l) = (if l = [] then 1 else (if x = 10 then 1 else 0) + Txt.lineCount l) := by
  cases l with
  | nil => rfl
  | cons y l => simp [Txt.lineCount]

theorem lineCount_le (l : List UInt8) : Txt.lineCount l ≤ l.length := by
  induction l with
  | nil => exact Nat.le_refl _
  | cons x l ih =>
    rw [lineCount_cons]
    split
    · simp
    · simp only [List.length_cons]
      split <;> omega

theorem lineCount_pos {l : List UInt8} (h : l ≠ []) : 0 < Txt.lineCount l := by
  induction l with
  | nil => exact absurd rfl h
  | cons x l ih =>
    rw [lineCount_cons]
    split
    · omega
    · rename_i hl
      have := ih hl
      omega

theorem lineCount_cut (l : List UInt8) (h : l ≠ []) : Txt.lineCount l = 1 + Txt.lineCount (Txt.cutC 10 l).2.1 := by
  induction l with
  | nil => exact absurd rfl h
  | cons x l ih =>
    rw [lineCount_cons]
    unfold Txt.cutC
    by_cases hx : x = 10
    · rw [if_pos hx, if_pos hx]
      by_cases hl : l = []
      · subst hl; simp [Txt.lineCount]
      · rw [if_neg hl]
    · rw [if_neg hx, if_neg hx]
      by_cases hl : l = []
      · subst hl; simp [Txt.lineCount, Txt.cutC]
      · rw [if_neg hl, Nat.zero_add]
        exact ih hl

structure CountRel (s : ByteArray) (k c : Nat) : Prop where
  le : k ≤ s.size
  small : c ≤ k
  law : Txt.lineCount s.data.toList = c + Txt.lineCount (s.data.toList.drop k)

theorem CountRel.one {s : ByteArray} {k c : Nat} (R : CountRel s k c) (h : k < s.size) (hx : s[k]'h = 10 ∨ k + 1 = s.size) : CountRel s (k + 1) (c + 1) := by
  refine ⟨h, by have := R.small; omega, ?_⟩
  rw [R.law, drop_lt s k h, lineCount_cons]
  split
  · rename_i hl
    rw [hl]; simp [Txt.lineCount]
  · rename_i hl
    have hk : k + 1 ≠ s.size := fun e => hl (drop_ge s (k + 1) (by omega))
    rw [if_pos (hx.resolve_right hk)]
    omega
theorem CountRel.none_ {s : ByteArray} {k c : Nat} (R : CountRel s k c) (h : k < s.size) (hx : s[k]'h ≠ 10) (hk : k + 1 ≠ s.size) : CountRel s (k + 1) c := by
  refine ⟨h, by have := R.small; omega, ?_⟩
  rw [R.law, drop_lt s k h, lineCount_cons, if_neg, if_neg hx, Nat.zero_add]
  rw [drop_lt s (k + 1) (by omega)]
  simp
theorem CountRel.stop {s : ByteArray} {c : Nat} (R : CountRel s s.size c) : Txt.lineCount s.data.toList = c := by
  rw [R.law, drop_ge s s.size (Nat.le_refl _)]
  rfl

/-- how far a line was read -/
def TailRel (s : ByteArray) (a k : Nat) : Prop := a ≤ k ∧ k ≤ s.size ∧ (Txt.cutC 10 (s.data.toList.drop a)).1 = (s.data.toList.drop a).take (k - a) ++ (Txt.cutC 10 (s.data.toList.drop k)).1 ∧ (Txt.cutC 10 (s.data.toList.drop a)).2.1 = (Txt.cutC 10 (s.data.toList.drop k)).2.1

theorem TailRel.more {s : ByteArray} {a k : Nat} (H : TailRel s a k) (h : k < s.size) (hx : s[k]'h ≠ 10) : TailRel s a (k + 1) := by
  obtain ⟨h1, h2, h3, h4⟩ := H
  refine ⟨by omega, h, ?_, ?_⟩
  · rw [h3, drop_lt s k h, show k + 1 - a = (k - a) + 1 by omega, List.take_add_one]
    have : (s.data.toList.drop a)[k - a]? = some (s[k]'h) := by
      rw [List.getElem?_drop, show a + (k - a) = k by omega]
      exact Lib.data_getElem? s k h
    rw [this]
    conv => lhs; unfold Txt.cutC
    rw [if_neg hx]
    simp
  · rw [h4, drop_lt s k h]
    conv => lhs; unfold Txt.cutC
    rw [if_neg hx]

theorem TailRel.stop {s : ByteArray} {a k : Nat} (H : TailRel s a k) (h : ∀ h : k < s.size, s[k]'h = 10) : (Txt.cutC 10 (s.data.toList.drop a)).1 = (s.extract a k).data.toList ∧ (Txt.cutC 10 (s.data.toList.drop a)).2.1 = s.data.toList.drop (k + 1) := by
  obtain ⟨h1, h2, h3, h4⟩ := H
  have he : (s.extract a k).data.toList = (s.data.toList.drop a).take (k - a) := by
    simp [ByteArray.data_extract]
  rw [h3, h4, he]
  by_cases hk : k < s.size
  · rw [drop_lt s k hk]
    unfold Txt.cutC
    rw [if_pos (h hk)]
    simp
  · rw [drop_ge s k (by omega), drop_ge s (k + 1) (by omega)]
    simp [Txt.cutC]

structure RefRel (s : ByteArray) (w : World) (N k a : Nat) (v : Value) (cs : List CallV) (xs : List Txt.Cd) (wr : World) : Prop where
  calls : CallsAt wr w.heap.size v cs xs
  len : xs.length = k
  law : Txt.parseW s.data.toList = Txt.runR (N - k) (s.data.toList.drop a) k xs
  left : Txt.lineCount (s.data.toList.drop a) = N - k
  touch : Touch Nothing w wr

theorem runR_bad {n k : Nat} {l : List UInt8} {xs : List Txt.Cd} (h : Txt.lineW (Txt.cutC 10 l).1 = none) : Txt.runR (n + 1) l k xs = ([], k, 7) := by
  rw [← Txt.line_eq] at h
  simp only [Txt.runR, h]
theorem runR_one {n k : Nat} {l : List UInt8} {xs : List Txt.Cd} {x : Txt.Cd} (h : Txt.lineW (Txt.cutC 10 l).1 = some x) : Txt.runR (n + 1) l k xs = Txt.runR n (Txt.cutC 10 l).2.1 (k + 1) (xs ++ [x]) := by
  rw [← Txt.line_eq] at h
  simp only [Txt.runR, h]

theorem RefRel.more {s : ByteArray} {w wr w1 w2 w3 : World} {N k a : Nat} {v v' : Value} {cs : List CallV} {xs : List Txt.Cd} {c : CallV} {x : Txt.Cd} {to_ : Nat} (R : RefRel s w N k a v cs xs wr) (hk : k < N) (hl : Txt.lineW (Txt.cutC 10 (s.data.toList.drop a)).1 = some x)
    (ht : (Txt.cutC 10 (s.data.toList.drop a)).2.1 = s.data.toList.drop (to_ + 1))
    (T1 : Touch Nothing wr w1) (hc : CallIs w1 wr.heap.size c x) (T2 : Touch Nothing w1 w2) (hown : w3.ownsRow w.heap.size 43 7 v' (cs.length + 1) (cs.flatMap CallV.cells ++ c.cells)) (hg : w2.grownBy w3 v.ownBlock) :
    RefRel s w N (k + 1) (to_ + 1) v' (cs ++ [c]) (xs ++ [x]) w3 := by
  have TG : Touch (fun i => v.ownBlock = some i) w2 w3 := Touch.of_grown hg (fun i hi => hi)
  have T3 : Touch (fun i => v.ownBlock = some i) wr w3 := (T1.trans T2).none_.trans TG
  have hne : s.data.toList.drop a ≠ [] := fun e => by have := R.left; rw [e] at this; simp [Txt.lineCount] at this; omega
  refine ⟨R.calls.more R.touch.size T1 hc T2 hown hg, by simp [R.len], ?_, ?_, ?_⟩
  · rw [R.law, show N - k = (N - (k + 1)) + 1 by omega, runR_one hl, ht]
  · have := R.left
    rw [lineCount_cut _ hne, ht] at this
    omega
  · exact R.touch.trans' T3 (fun i hi h => by have := (World.ownsRow.lt R.calls.own i h).1; omega)

theorem parseR_long (s : ByteArray) (w : World) (hs : 1048576 < s.size) : Calls Tryz.prog 16 #[.string s] w (ParsedAs s w) := by
  have hz : s.data.toList.length = s.size := by rw [Array.length_toList]; rfl
  have HW := Lib.hid (show Txt.parseW s.data.toList = ([], 0, 6) by unfold Txt.parseW; rw [if_pos (by omega)])
  have hs' : (1048576 : Int) < (s.size : Int) := by omega
  clear hz hs
  go_enter Tryz.func16, Tryz.ntmps16
  go_wp2_with fail
  go_ret3
  exact ⟨none, 0, 0, [], by rw [HW.out]; rfl, by rw [HW.out]; exact .nil _ _, Touch.refl _ _⟩

theorem extract_size (s : ByteArray) (a b : Nat) (h : b ≤ s.size) : (s.extract a b).size ≤ s.size := by
  rw [ByteArray.size_extract]
  omega

set_option maxRecDepth 100000 in
set_option maxHeartbeats 8000000 in
theorem parseR_main (s : ByteArray) (w : World) (hs : s.size ≤ 1048576) : Calls Tryz.prog 16 #[.string s] w (ParsedAs s w) := by
  have hz : s.data.toList.length = s.size := by rw [Array.length_toList]; rfl
  have HP := Lib.hid (show Txt.parseW s.data.toList = if 4096 < Txt.lineCount s.data.toList then ([], 4096, 6) else Txt.runR (Txt.lineCount s.data.toList) s.data.toList 0 [] by
    rw [← Txt.parse_eq]
    unfold Txt.parseR
    rw [if_neg (by omega)])
  have HL := Lib.hid (fun (t : ByteArray) (W : World) (h : t.size ≤ 1048576) => lineR_ t W h)
  obtain ⟨t0, hi0, hz0, hz1, hz2⟩ := info_parts info43
  clear hz
  go_enter Tryz.func16, Tryz.ntmps16
  go_upto_block 0 with fail
  go_cut [5] (fun a wc => ∃ c : Nat, a = .int .i64 c ∧ Txt.lineCount s.data.toList = c ∧ c ≤ s.size ∧ wc = w)
  case first =>
    go_wp2_with fail
    go_loop [5, 6] (fun a b => ∃ k c : Nat, a = .int .i64 c ∧ b = .int .i64 k ∧ CountRel s k c) (fun _ b => s.size - (intOf b).toNat)
    case atStart => exact ⟨0, 0, rfl, rfl, ⟨by omega, by omega, by simp⟩⟩
    case round =>
      obtain ⟨k, c, rfl, rfl, R⟩ := hrel
      have HR := Lib.hid R
      have hk := R.le
      have hck := R.small
      clear R
      by_cases hlt : k < s.size
      · by_cases h10 : s[k]'hlt = 10
        · have q : ((((s[k]'hlt).toNat : Nat) : Int) == 10) = true := by rw [h10]; rfl
          have HM := Lib.hid (HR.out.one hlt (.inl h10))
          clear h10
          go_wp2_with fail
          go_round
          case rel => exact ⟨k + 1, c + 1, by go_num, by go_num, HM.out⟩
          case measure => simp [intOf]; omega
        · have q : ((((s[k]'hlt).toNat : Nat) : Int) == 10) = false := u8_ne h10
          by_cases hl : k + 1 = s.size
          · have q2 : ((k : Int) == (s.size : Int) - 1) = true := by rw [beq_iff_eq]; omega
            have HM := Lib.hid (HR.out.one hlt (.inr hl))
            clear h10 hl
            go_wp2_with fail
            go_round
            case rel => exact ⟨k + 1, c + 1, by go_num, by go_num, HM.out⟩
            case measure => simp [intOf]; omega
          · have q2 : ((k : Int) == (s.size : Int) - 1) = false := by rw [beq_eq_false_iff_ne]; omega
            have HM := Lib.hid (HR.out.none_ hlt h10 hl)
            clear h10 hl
            go_wp2_with fail
            go_round
            case rel => exact ⟨k + 1, c, by go_num, by go_num, HM.out⟩
            case measure => simp [intOf]; omega
      · obtain rfl : k = s.size := by omega
        have HS := Lib.hid HR.out.stop
        go_wp2_with fail
        go_meet
        exact ⟨c, rfl, HS.out, hck, rfl⟩
  case rest =>
    obtain ⟨N, rfl, hN, hNs, hwc⟩ := hcut
    subst hwc
    obtain ⟨wc0, hw0⟩ : ∃ wc0, wc0 = wc := ⟨_, rfl⟩
    subst hw0
    by_cases hbig : 4096 < N
    · have HW := Lib.hid (show Txt.parseW s.data.toList = ([], 4096, 6) by rw [HP.out, hN, if_pos hbig])
      have hb' : (4096 : Int) < (N : Int) := by omega
      clear hbig hN
      go_wp2_with fail
      go_ret3
      exact ⟨none, 0, 0, [], by rw [HW.out]; rfl, by rw [HW.out]; exact .nil _ _, Touch.refl _ _⟩
    · have hb' : (N : Int) ≤ 4096 := by omega
      have HR0 := Lib.hid (show RefRel s wc0 N 0 0 (.slice none 0 0) [] [] wc0 from ⟨.nil _ _, rfl, by rw [HP.out, hN, if_neg hbig]; rfl, by simpa using hN, Touch.refl _ _⟩)
      clear hbig hN
      go_wp2_with fail
      go_loopw [7, 8, 9] (fun v a b wr => ∃ k from_ cs xs, k ≤ N ∧ b = .int .i64 (k : Nat) ∧ a = .int .i64 (from_ : Nat) ∧ from_ ≤ s.size + 1 ∧ RefRel s wc0 N k from_ v cs xs wr) (fun _ _ b _ => N - (intOf b).toNat)
      case atStart => exact ⟨0, 0, [], [], by omega, rfl, rfl, by omega, HR0.out⟩
      case round =>
        obtain ⟨k, a, cs, xs, hk, rfl, rfl, ha, R⟩ := hrel
        have HR := Lib.hid R
        by_cases hlk : k < N
        · have has : a < s.size := by
            rcases Nat.lt_or_ge a s.size with h | h
            · exact h
            · have h2 := R.left
              rw [drop_ge s a h] at h2
              simp [Txt.lineCount] at h2
              omega
          clear R
          go_upto_block 4 with fail
          go_cut [10] (fun t wx => ∃ to_ : Nat, t = .int .i64 to_ ∧ a ≤ to_ ∧ to_ ≤ s.size ∧ (Txt.cutC 10 (s.data.toList.drop a)).1 = (s.extract a to_).data.toList ∧ (Txt.cutC 10 (s.data.toList.drop a)).2.1 = s.data.toList.drop (to_ + 1) ∧ wx = wr)
          case first =>
            go_wp2_with fail
            go_loop [10] (fun b => ∃ k : Nat, b = .int .i64 k ∧ TailRel s a k) (fun b => s.size - (intOf b).toNat)
            case atStart => exact ⟨a, rfl, Nat.le_refl _, by omega, by simp, rfl⟩
            case round =>
              obtain ⟨n, rfl, H⟩ := hrel
              have HH := Lib.hid H
              have hn := H.2.1
              have han := H.1
              clear H
              by_cases hlt : n < s.size
              · have hd0 : decide (n < s.size) = true := by simp; omega
                by_cases h10 : s[n]'hlt = 10
                · have hx1 : ((((s[n]'hlt).toNat : Nat) : Int) != 10) = false := by rw [h10]; rfl
                  have HS := Lib.hid (HH.out.stop (fun _ => h10))
                  clear h10
                  go_wp2_with fail
                  go_meet
                  exact ⟨n, rfl, han, hn, HS.out.1, HS.out.2, rfl⟩
                · have hx1 : ((((s[n]'hlt).toNat : Nat) : Int) != 10) = true := by have h : ((((s[n]'hlt).toNat : Nat) : Int) == 10) = false := u8_ne h10; rw [bne, h]; rfl
                  have HM := Lib.hid (HH.out.more hlt h10)
                  clear h10
                  go_wp2_with fail
                  go_round
                  case rel => exact ⟨n + 1, by go_num, HM.out⟩
                  case measure => simp [intOf]; omega
              · have hd0 : decide (n < s.size) = false := by simp; omega
                have HS := Lib.hid (HH.out.stop (fun h => absurd h hlt))
                go_wp2_with fail
                go_meet
                exact ⟨n, rfl, han, hn, HS.out.1, HS.out.2, rfl⟩
          case rest =>
            obtain ⟨to_, rfl, hat, hts, hc1, hc2, hwx⟩ := hcut
            subst hwx
            have HC1 := Lib.hid hc1
            have HC2 := Lib.hid hc2
            have HLn := Lib.hid (HL.out (s.extract a to_) wc (Nat.le_trans (extract_size s a to_ hts) hs))
            rw [show Lined (s.extract a to_) wc = fun e w' => ∃ c : CallV, e = .returned (.tuple #[c.val, .bool (Txt.lineW (s.extract a to_).data.toList).isSome]) ∧ (∀ y, Txt.lineW (s.extract a to_).data.toList = some y → CallIs w' wc.heap.size c y) ∧ Touch Nothing wc w' from rfl] at HLn
            clear hc1 hc2
            go_wp2_with fail
            refine HLn.out.mono ?_
            rintro e w2 ⟨c, rfl, hc, T2⟩
            have HC := Lib.hid hc
            have HT2 := Lib.hid T2
            clear hc T2
            obtain ⟨cop, cref, cp, ca, cb, cd, cdp, cdn, cdc⟩ := c
            unfold CallV.val at *
            cases hlw : Txt.lineW (s.extract a to_).data.toList with
            | none =>
              have HLW := Lib.hid (show Txt.parseW s.data.toList = ([], k, 7) by rw [HR.out.law, show N - k = (N - k - 1) + 1 by omega, runR_bad (by rw [HC1.out]; exact hlw)])
              clear hlw
              simp only [Option.isSome_none]
              go_wp2_with fail
              go_ret3
              exact ⟨none, 0, 0, [], by rw [HLW.out]; rfl, by rw [HLW.out]; exact .nil _ _, (HR.out.touch.trans HT2.out).alloc _⟩
            | some y =>
              have HLW := Lib.hid hlw
              clear hlw
              simp only [Option.isSome_some]
              have hkl : cs.length ≤ 4096 := by have := HR.out.calls.len; have := HR.out.len; omega
              have HOW := Lib.hid (HR.out.calls.still HT2.out).own
              have hz2s : (w2.alloc (.cells #[.int .i64 cop, .int .i64 cref, .int .u64 cp, .int .u64 ca, .int .u64 cb, .bool cd, .slice cdp cdn cdc] 43)).heap.size = w2.heap.size + 1 := by simp
              have hB2 := Blk.new (w2.alloc (.cells #[.int .i64 cop, .int .i64 cref, .int .u64 cp, .int .u64 ca, .int .u64 cb, .bool cd, .slice cdp cdn cdc] 43)) #[.int .i64 cop, .int .i64 cref, .int .u64 cp, .int .u64 ca, .int .u64 cb, .bool cd, .slice cdp cdn cdc] 43
              rw [hz2s] at hB2
              have HNW := Lib.hid (news_of_blk hB2)
              have hbs : wc0.heap.size ≤ w2.heap.size := Nat.le_trans HR.out.touch.size HT2.out.size
              clear hB2 hz2s
              go_wp2_with (at_builtin; refine wpList_append_own _ rfl _ _ 25 rfl wc0.heap.size 43 t0 _ 7 72 Tryz.underlying25 hi0 hz0 hz1 hz2 rfl (by decide) _ _ _ rfl ((HOW.out.alloc _).alloc _) ⟨w2.heap.size + 1, 0, none⟩ 1 1 [.int .i64 cop, .int .i64 cref, .int .u64 cp, .int .u64 ca, .int .u64 cb, .bool cd, .slice cdp cdn cdc] rfl rfl HNW.out (by simp [Value.oneCell']) (by unfold maxLen; omega) (by omega) (by simp; omega) ?_; intro v' w3 hown hgrow _)
              have HO := Lib.hid hown
              have HG := Lib.hid hgrow
              clear hown hgrow
              go_wp2_with fail
              exact ⟨⟨k + 1, to_ + 1, cs ++ [⟨cop, cref, cp, ca, cb, cd, cdp, cdn, cdc⟩], xs ++ [y], by omega, by go_num, by go_num, by omega, HR.out.more (c := ⟨cop, cref, cp, ca, cb, cd, cdp, cdn, cdc⟩) hlk (by rw [HC1.out]; exact HLW.out) HC2.out HT2.out (HC.out y HLW.out) (((Touch.refl _ _).alloc _).alloc _) HO.out HG.out⟩, by simp [intOf]; omega⟩
        · obtain rfl : k = N := by omega
          have HPz := Lib.hid (show Txt.parseW s.data.toList = (xs, 0, 0) by rw [R.law, Nat.sub_self]; rfl)
          have ⟨dp, dn, dc, hv⟩ := owns_slice R.calls.own
          clear R
          subst hv
          go_wp2_with fail
          go_ret3
          exact ⟨dp, dn, dc, cs, by rw [HPz.out]; rfl, by rw [HPz.out]; exact HR.out.calls, HR.out.touch⟩

theorem parseR_ (s : ByteArray) (w : World) : Calls Tryz.prog 16 #[.string s] w (ParsedAs s w) := by
  by_cases hl : 1048576 < s.size
  · exact parseR_long s w hl
  · exact parseR_main s w (by omega)

end Go.Proofs.YtnjcmcnjgdjbiaaGreatDoor
