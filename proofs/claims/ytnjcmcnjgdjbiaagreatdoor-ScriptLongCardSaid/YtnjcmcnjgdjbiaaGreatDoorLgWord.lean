/- The walks of script's reading of words: number, half, place, data. Conditions: a word is at most 1048576 bytes. The walk of script's reading of an address. Conditions: a word is at most 1048576 bytes. The walk of script's reading of an address with '$'. Conditions: a word is at most 1048576 bytes. The walks of script's reading of bytes: half, data. Conditions: a word is at most 1048576 bytes. The walk of script.fields' closure: it hands out the next word. Conditions: none. The walks of script.forms and of the parting of a text. Conditions: none. Printed by wip/tools/gforms.py. -/
import Derived.Test.YtnjcmcnjgdjbiaaGreatDoorLgGlob
import Derived.Test.YtnjcmcnjgdjbiaaGreatDoorLgTxt
import Derived.Test.YtnjcmcnjgdjbiaaGreatDoorLgMem
import Derived.StillTailTactics
import Derived.Lib.SplitLaws
namespace Go.Proofs.YtnjcmcnjgdjbiaaGreatDoor
open Go.RowKit

/-- a world with a string's iterator -/
theorem Touch.iter (w : World) (s : ByteArray) (pos : Nat) : Touch Nothing w (w.iter s pos) := by
  have := (Touch.refl Nothing w).alloc (.stringIter s pos)
  exact this

theorem numW_empty : Txt.numW [] = none := by decide

def Numbered (s : ByteArray) (w : World) (e : Ending) (w' : World) : Prop :=
  ∃ v : Nat, e = .returned (.tuple #[.int .u64 v, .bool (Txt.numW s.data.toList).isSome]) ∧ (∀ u, Txt.numW s.data.toList = some u → v = u) ∧ Touch Nothing w w'

theorem number_empty (s : ByteArray) (w : World) (h : s.data.toList = []) : Calls Tryz.prog 126 #[.string s] w (Numbered s w) := by
  have h' : s.toList = [] := by rw [ByteArray.toList_eq]; exact h
  have H := Lib.hid h
  clear h
  go_enter Tryz.func126, Tryz.ntmps126
  go_wp2
  go_ret2
  exact ⟨0, by rw [H.out, numW_empty]; rfl, fun u hu => (by rw [H.out, numW_empty] at hu; cases hu), Touch.refl _ _⟩

theorem numW_zero (s : ByteArray) (h : 1 < s.size) (h0 : (s[0]'(by omega)).toNat = 48) : Txt.numW s.data.toList = none := by
  unfold Txt.numW
  rw [if_pos]
  refine .inr (.inl ⟨by simpa using h, ?_⟩)
  rw [List.head?_eq_getElem?, Lib.data_getElem? s 0 (by omega)]
  congr 1
  exact UInt8.toNat_inj.1 h0

theorem ne_toList (s : ByteArray) (h : 0 < s.size) : s.toList.isEmpty = false := by
  rw [ByteArray.toList_eq]
  cases hs : s.data.toList with
  | nil =>
    have : s.data.toList.length = 0 := by rw [hs]; rfl
    simp only [Array.length_toList] at this
    have h2 : s.data.size = s.size := rfl
    omega
  | cons => rfl

theorem number_zero (s : ByteArray) (w : World) (h : 1 < s.size) (h0 : (s[0]'(by omega)).toNat = 48) : Calls Tryz.prog 126 #[.string s] w (Numbered s w) := by
  have hne := ne_toList s (by omega)
  have H := Lib.hid (numW_zero s h h0)
  have h' : (1 : Int) < (s.size : Int) := by omega
  have h0' : (((s[0]'(by omega)).toNat : Nat) : Int) = 48 := by omega
  clear h0
  go_enter Tryz.func126, Tryz.ntmps126
  go_wp2
  go_ret2
  exact ⟨0, by rw [H.out]; rfl, fun u hu => (by rw [H.out] at hu; cases hu), Touch.refl _ _⟩

theorem numW_not (s : ByteArray) (p : Nat) (h : p < s.size) (hd : Txt.isDig (s[p]'h) = false) : Txt.numW s.data.toList = none := by
  unfold Txt.numW
  rw [if_pos]
  refine .inr (.inr ?_)
  rw [List.all_eq_false]
  exact ⟨_, List.mem_of_getElem? (Lib.data_getElem? s p h), by simp [hd]⟩

theorem numW_dig (s : ByteArray) (h : 0 < s.size) (hz : ¬ (1 < s.size ∧ (s[0]'h).toNat = 48)) (hd : ∀ p (hp : p < s.size), Txt.isDig (s[p]'hp) = true) :
    Txt.numW s.data.toList = match Lib.parseUintB 64 s.data.toList with | .ok u => some u | _ => none := by
  have hl : s.data.toList.length = s.size := by simp
  unfold Txt.numW
  refine if_neg ?_
  rintro (e | e | e)
  · rw [e] at hl; simp at hl; omega
  · refine hz ⟨by omega, ?_⟩
    have := e.2
    rw [List.head?_eq_getElem?, Lib.data_getElem? s 0 h] at this
    rw [Option.some.inj this]; rfl
  · rw [List.all_eq_false] at e
    obtain ⟨x, hx, hn⟩ := e
    obtain ⟨i, hi⟩ := List.mem_iff_getElem?.1 hx
    have hlt := (List.getElem?_eq_some_iff.1 hi).1
    rw [Lib.data_getElem? s i (by omega)] at hi
    rw [← Option.some.inj hi] at hn
    exact hn (hd i (by omega))

theorem parse_call (s : ByteArray) (w : World) (hs : s.size ≤ 1048576) (G : Glob w) :
    Calls Tryz.prog 179 #[.string s, .int .i64 10, .int .i64 64] w fun e w' => ∃ (v : Nat) (er : Value), e = .returned (.tuple #[.int .u64 v, er]) ∧ Touch Nothing w w' ∧
      ((er = .nilIface ∧ Lib.parseUintB 64 s.data.toList = .ok v) ∨ ((∃ t p, er = .iface t p) ∧ ∀ u, Lib.parseUintB 64 s.data.toList ≠ .ok u)) := by
  cases hp : Lib.parseUintB 64 s.data.toList with
  | ok u =>
    refine (Tryz.strconv_ParseUint_10_at64_ok s (by omega) u hp w).mono ?_
    rintro e w' ⟨rfl, h⟩
    refine ⟨u, _, rfl, ?_, .inl ⟨rfl, rfl⟩⟩
    rcases h with rfl | rfl
    · exact Touch.refl _ _
    · exact Touch.of_below (Lib.bytesWorld_below _ _ _)
  | range =>
    obtain ⟨ev, hv, hev⟩ := G.rng
    refine (Tryz.strconv_ParseUint_10_at64_range s (by omega) hp ev w hv hev).mono ?_
    rintro e w' ⟨N, rfl, _, _, hb⟩
    exact ⟨18446744073709551615, _, rfl, Touch.of_below hb, .inr ⟨⟨_, _, rfl⟩, fun u h => (by cases h)⟩⟩
  | _ =>
    obtain ⟨ev, hv, hev⟩ := G.syn
    refine (Tryz.strconv_ParseUint_10_at64_syntax s (by omega) hp ev w hv hev).mono ?_
    rintro e w' ⟨N, rfl, _, _, hb⟩
    exact ⟨0, _, rfl, Touch.of_below hb, .inr ⟨⟨_, _, rfl⟩, fun u h => (by cases h)⟩⟩

def Reached (s : ByteArray) (w : World) (w' : World) (pos : Nat) : Prop := w' = w.iter s pos ∧ ∀ p (hp : p < s.size), p < pos → Txt.isDig (s[p]'hp) = true

theorem dig_bounds {c : UInt8} (h : Txt.isDig c = true) : 48 ≤ ((c.toNat : Nat) : Int) ∧ ((c.toNat : Nat) : Int) ≤ 57 := by
  have := (Txt.isDig_iff c).1 h
  omega

set_option maxRecDepth 100000 in
theorem number_main (s : ByteArray) (w : World) (hs : s.size ≤ 1048576) (G : Glob w) (h : 0 < s.size) (hz : ¬ (1 < s.size ∧ (s[0]'h).toNat = 48)) : Calls Tryz.prog 126 #[.string s] w (Numbered s w) := by
  have hne := ne_toList s h
  have HD := Lib.hid (numW_dig s h hz)
  have HN := Lib.hid (numW_not s)
  have HP := Lib.hid (fun w1 (T : Touch Nothing w w1) => parse_call s w1 hs (G.touch0 T))
  have hz1 : 1 < s.size → (((((s[0]'h).toNat : Nat) : Int)) == 48) = false := fun h1 => by
    rw [beq_eq_false_iff_ne]
    exact fun e => hz ⟨h1, by omega⟩
  clear G hz
  by_cases h1 : 1 < s.size
  all_goals
    first | have hz2 := hz1 h1 | skip
    clear hz1
    have hlo := Lib.hid h
    go_enter Tryz.func126, Tryz.ntmps126
    go_wp2_with fail
    go_loopw [5] (fun _ w' => ∃ pos, Reached s w w' pos) (fun _ w' => s.size - w'.iterPos w.heap.size)
    case atStart => exact ⟨0, rfl, fun p _ hp => absurd hp (by omega)⟩
    case round =>
      obtain ⟨pos, rfl, hall⟩ := hrel
      have HA := Lib.hid hall
      clear hall
      by_cases hp : pos < s.size
      · by_cases ha : (s[pos]'hp).toNat < 128
        · have hnx : ∀ ty, (Instr.next (.pointer (some ⟨w.heap.size, 0, none⟩)) true ty).run Tryz.prog (w.iter s pos) = _ := fun ty => run_next_ascii w s pos ty hp ha
          by_cases hd : Txt.isDig (s[pos]'hp) = true
          · have hb := dig_bounds hd
            obtain ⟨hb1, hb2⟩ := hb
            have HDg := Lib.hid hd
            clear hd
            go_wp2_with fail
            go_roundw
            case rel =>
              refine ⟨pos + 1, rfl, fun q hq hlt => ?_⟩
              by_cases e : q = pos
              · subst e; exact HDg.out
              · exact HA.out q hq (by omega)
            case measure => simp; omega
          · have hd' : Txt.isDig (s[pos]'hp) = false := by simpa using hd
            have hno := Lib.hid (HN.out pos hp hd')
            have hr : (((s[pos]'hp).toNat : Nat) : Int) < 48 ∨ (48 ≤ (((s[pos]'hp).toNat : Nat) : Int) ∧ 57 < (((s[pos]'hp).toNat : Nat) : Int)) := by
              have hn : ¬ (48 ≤ (s[pos]'hp).toNat ∧ (s[pos]'hp).toNat ≤ 57) := fun e => hd ((Txt.isDig_iff _).2 e)
              omega
            clear hd hd'
            rcases hr with hr | ⟨hr0, hr⟩
            all_goals
              go_wp2_with fail
              go_ret2
              exact ⟨0, by rw [hno.out]; rfl, fun u hu => (by rw [hno.out] at hu; cases hu), Touch.iter _ _ _⟩
        · have hh := decode_high s pos hp (by omega)
          have hnx : ∀ ty, (Instr.next (.pointer (some ⟨w.heap.size, 0, none⟩)) true ty).run Tryz.prog (w.iter s pos) = _ := fun ty => run_next_any w s pos ty hp
          have hdn : Txt.isDig (s[pos]'hp) = false := by
            rw [← Bool.not_eq_true]
            exact fun e => by have := (Txt.isDig_iff _).1 e; omega
          have hno := Lib.hid (HN.out pos hp hdn)
          have hl : (57 : Int) < (((Utf8.decode s pos).1 : Nat) : Int) := by omega
          have hl0 : (48 : Int) ≤ (((Utf8.decode s pos).1 : Nat) : Int) := by omega
          clear hdn hh
          go_wp2_with fail
          go_ret2
          exact ⟨0, by rw [hno.out]; rfl, fun u hu => (by rw [hno.out] at hu; cases hu), Touch.iter _ _ _⟩
      · have hnx : ∀ ty, (Instr.next (.pointer (some ⟨w.heap.size, 0, none⟩)) true ty).run Tryz.prog (w.iter s pos) = _ := fun ty => run_next_end w s pos ty hp
        have hv := Lib.hid (HD.out (fun p hq => HA.out p hq (by omega)))
        have HPc := Lib.hid (HP.out _ (Touch.iter w s pos))
        have hT := Lib.hid (Touch.iter w s pos)
        go_wp2_with fail
        refine HPc.out.mono ?_
        rintro e w1 ⟨v, er, rfl, T1, hor⟩
        have HT1 := Lib.hid T1
        clear T1 hnx
        rcases hor with ⟨rfl, ho⟩ | ⟨⟨t, q, rfl⟩, ho⟩
        · have HO := Lib.hid ho
          clear ho
          go_wp2_with fail
          go_quiet (fail)
          go_wp2_with fail
          go_ret2
          refine ⟨v, ?_, fun u hu => ?_, (hT.out.trans HT1.out).drewN _⟩
          · rw [hv.out, HO.out]; rfl
          · rw [hv.out, HO.out] at hu; exact Option.some.inj hu
        · have HO := Lib.hid ho
          clear ho
          go_wp2_with fail
          go_quiet (fail)
          go_wp2_with fail
          go_ret2
          refine ⟨v, ?_, fun u hu => ?_, (hT.out.trans HT1.out).drewN _⟩
          · rw [hv.out]
            cases hq : Lib.parseUintB 64 s.data.toList with
            | ok u => exact absurd hq (HO.out u)
            | _ => rfl
          · rw [hv.out] at hu
            cases hq : Lib.parseUintB 64 s.data.toList with
            | ok u => exact absurd hq (HO.out u)
            | _ => rw [hq] at hu; cases hu

theorem number_ (s : ByteArray) (w : World) (hs : s.size ≤ 1048576) (G : Glob w) : Calls Tryz.prog 126 #[.string s] w (Numbered s w) := by
  by_cases h : 0 < s.size
  · by_cases hz : 1 < s.size ∧ (s[0]'h).toNat = 48
    · exact number_zero s w hz.1 hz.2
    · exact number_main s w hs G h hz
  · refine number_empty s w ?_
    have : s.data.toList.length = 0 := by
      have h2 : s.data.size = s.size := rfl
      rw [Array.length_toList]
      omega
    exact List.eq_nil_of_length_eq_zero this

end Go.Proofs.YtnjcmcnjgdjbiaaGreatDoor

namespace Go.Proofs.YtnjcmcnjgdjbiaaGreatDoor
open Go.RowKit

def Placed (s : ByteArray) (w : World) (e : Ending) (w' : World) : Prop :=
  ∃ r p : Nat, e = .returned (.tuple #[.int .i64 r, .int .u64 p, .bool (Txt.placeW s.data.toList).isSome]) ∧ (∀ u, Txt.placeW s.data.toList = some u → r = u.1 ∧ p = u.2) ∧ Touch Nothing w w'

theorem of_list (l : List UInt8) : (⟨l.toArray⟩ : ByteArray).data.toList = l := rfl
theorem of_list_size (l : List UInt8) : (⟨l.toArray⟩ : ByteArray).size = l.length := by show l.toArray.size = _; simp

theorem place_plain (s : ByteArray) (w : World) (hs : s.size ≤ 1048576) (G : Glob w) (h : s.data.toList.head? ≠ some 36) : Calls Tryz.prog 125 #[.string s] w (Placed s w) := by
  have hp : Lib.hasPrefix s.data.toList [36] = false := by rw [Txt.hasPrefix_one]; simpa using h
  have HC := Lib.hid (Tryz.strings_CutPrefix s ⟨#[36]⟩ w)
  have HP := Lib.hid hp
  have HN := Lib.hid (number_ s w hs G)
  have HW := Lib.hid (show Txt.placeW s.data.toList = (Txt.numW s.data.toList).map fun p => (0, p) by
    unfold Txt.placeW
    cases hl : s.data.toList with
    | nil => simp [numW_empty]
    | cons x l =>
      rw [hl] at h
      simp only []
      rw [if_neg (fun e => h (by simp [e]))])
  clear hp h G
  go_enter Tryz.func125, Tryz.ntmps125
  go_wp2_with fail
  refine HC.out.mono ?_
  rintro e w1 ⟨rfl, rfl⟩
  rw [HP.out]
  go_wp2_with fail
  refine HN.out.mono ?_
  rintro e w2 ⟨v, rfl, hv, hT⟩
  have HV := Lib.hid hv
  have HT := Lib.hid hT
  clear hv hT
  go_wp2_with fail
  go_ret3
  refine ⟨0, v, ?_, fun u hu => ?_, HT.out⟩
  · rw [HW.out, Option.isSome_map]; rfl
  · rw [HW.out, Option.map_eq_some_iff] at hu
    obtain ⟨a, ha, rfl⟩ := hu
    exact ⟨rfl, HV.out a ha⟩

end Go.Proofs.YtnjcmcnjgdjbiaaGreatDoor

namespace Go.Proofs.YtnjcmcnjgdjbiaaGreatDoor
open Go.RowKit

theorem cutC_le (c : UInt8) (l : List UInt8) : (Txt.cutC c l).1.length ≤ l.length ∧ (Txt.cutC c l).2.1.length ≤ l.length := by
  induction l with
  | nil => simp [Txt.cutC]
  | cons x l ih =>
    unfold Txt.cutC
    split
    · simp
    · simp only [List.length_cons]; omega

set_option maxRecDepth 100000 in
theorem place_none (s : ByteArray) (w : World) (hs : s.size ≤ 1048576) (G : Glob w) (l : List UInt8) (hl : s.data.toList = 36 :: l) (hA : Txt.numW (Txt.cutC 43 l).1 = none) : Calls Tryz.prog 125 #[.string s] w (Placed s w) := by
  have hp : Lib.hasPrefix s.data.toList [36] = true := by rw [Txt.hasPrefix_one, hl]; rfl
  have ht : Lib.trimPrefix s.data.toList [36] = l := by rw [hl]; exact Txt.trimPrefix_one 36 l
  have hz : l.length + 1 = s.size := by have := congrArg List.length hl; simp at this; omega
  have hc := cutC_le 43 l
  obtain ⟨m0, hm0⟩ := G.most
  have HC := Lib.hid (Tryz.strings_CutPrefix s ⟨#[36]⟩ w)
  have HP := Lib.hid hp
  have HT := Lib.hid ht
  have HU := Lib.hid (Tryz.strings_Cut ⟨l.toArray⟩ ⟨#[43]⟩ _ w (by rw [of_list_size]; omega) hm0)
  have HCL := Lib.hid (Txt.cut_lib 43 l)
  have HA := Lib.hid (fun W (T : Touch Nothing w W) => number_ ⟨(Txt.cutC 43 l).1.toArray⟩ W (by rw [of_list_size]; omega) (G.touch0 T))
  have HB := Lib.hid (fun W (T : Touch Nothing w W) => number_ ⟨(Txt.cutC 43 l).2.1.toArray⟩ W (by rw [of_list_size]; omega) (G.touch0 T))
  have HAe := Lib.hid hA
  have HW := Lib.hid (show Txt.placeW s.data.toList = none by rw [hl]; simp only [Txt.placeW]; rw [if_pos (by trivial), hA])
  clear hA
  clear hp ht hz hc G hl hs hm0
  go_enter Tryz.func125, Tryz.ntmps125
  go_wp2_with fail
  refine HC.out.mono ?_
  rintro e w0 ⟨rfl, h0⟩
  obtain rfl : w = w0 := h0.symm
  rw [HP.out, show Lib.trimPrefix s.data.toList (⟨#[36]⟩ : ByteArray).data.toList = l from HT.out]
  go_wp2_with fail
  refine HU.out.mono ?_
  rintro e w1 ⟨rfl, k, rfl⟩
  rw [show Lib.cut (⟨l.toArray⟩ : ByteArray).data.toList (⟨#[43]⟩ : ByteArray).data.toList = Txt.cutC 43 l from HCL.out]
  have hT1 : Touch Nothing w (w.drewN k) := (Touch.refl _ _).drewN k
  generalize w.drewN k = w1 at *
  have HT1 := Lib.hid hT1
  clear hT1
  go_wp2_with fail
  refine (HA.out _ HT1.out).mono ?_
  rintro e w2 ⟨v, rfl, hv, hT2⟩
  have HT2 := Lib.hid (HT1.out.trans hT2)
  have HV := Lib.hid hv
  clear hv hT2
  rw [show Txt.numW (⟨(Txt.cutC 43 l).1.toArray⟩ : ByteArray).data.toList = none from HAe.out]
  simp only [Option.isSome_none]
  go_wp2_with fail
  go_ret3
  exact ⟨0, 0, by rw [HW.out]; rfl, fun u hu => (by rw [HW.out] at hu; cases hu), HT2.out⟩
set_option maxRecDepth 100000 in
theorem place_low (s : ByteArray) (w : World) (hs : s.size ≤ 1048576) (G : Glob w) (l : List UInt8) (hl : s.data.toList = 36 :: l) (n : Nat) (hA : Txt.numW (Txt.cutC 43 l).1 = some n) (hn : n < 1) : Calls Tryz.prog 125 #[.string s] w (Placed s w) := by
  have hp : Lib.hasPrefix s.data.toList [36] = true := by rw [Txt.hasPrefix_one, hl]; rfl
  have ht : Lib.trimPrefix s.data.toList [36] = l := by rw [hl]; exact Txt.trimPrefix_one 36 l
  have hz : l.length + 1 = s.size := by have := congrArg List.length hl; simp at this; omega
  have hc := cutC_le 43 l
  obtain ⟨m0, hm0⟩ := G.most
  have HC := Lib.hid (Tryz.strings_CutPrefix s ⟨#[36]⟩ w)
  have HP := Lib.hid hp
  have HT := Lib.hid ht
  have HU := Lib.hid (Tryz.strings_Cut ⟨l.toArray⟩ ⟨#[43]⟩ _ w (by rw [of_list_size]; omega) hm0)
  have HCL := Lib.hid (Txt.cut_lib 43 l)
  have HA := Lib.hid (fun W (T : Touch Nothing w W) => number_ ⟨(Txt.cutC 43 l).1.toArray⟩ W (by rw [of_list_size]; omega) (G.touch0 T))
  have HB := Lib.hid (fun W (T : Touch Nothing w W) => number_ ⟨(Txt.cutC 43 l).2.1.toArray⟩ W (by rw [of_list_size]; omega) (G.touch0 T))
  have HAe := Lib.hid hA
  have HW := Lib.hid (show Txt.placeW s.data.toList = none by rw [hl]; simp only [Txt.placeW]; rw [if_pos (by trivial), hA]; simp only []; rw [if_pos (by omega)])
  clear hA
  clear hp ht hz hc G hl hs hm0
  go_enter Tryz.func125, Tryz.ntmps125
  go_wp2_with fail
  refine HC.out.mono ?_
  rintro e w0 ⟨rfl, h0⟩
  obtain rfl : w = w0 := h0.symm
  rw [HP.out, show Lib.trimPrefix s.data.toList (⟨#[36]⟩ : ByteArray).data.toList = l from HT.out]
  go_wp2_with fail
  refine HU.out.mono ?_
  rintro e w1 ⟨rfl, k, rfl⟩
  rw [show Lib.cut (⟨l.toArray⟩ : ByteArray).data.toList (⟨#[43]⟩ : ByteArray).data.toList = Txt.cutC 43 l from HCL.out]
  have hT1 : Touch Nothing w (w.drewN k) := (Touch.refl _ _).drewN k
  generalize w.drewN k = w1 at *
  have HT1 := Lib.hid hT1
  clear hT1
  go_wp2_with fail
  refine (HA.out _ HT1.out).mono ?_
  rintro e w2 ⟨v, rfl, hv, hT2⟩
  have HT2 := Lib.hid (HT1.out.trans hT2)
  have HV := Lib.hid hv
  clear hv hT2
  rw [show Txt.numW (⟨(Txt.cutC 43 l).1.toArray⟩ : ByteArray).data.toList = some n from HAe.out]
  obtain rfl : v = n := HV.out n HAe.out
  simp only [Option.isSome_some]
  go_wp2_with fail
  all_goals (go_ret3; exact ⟨0, 0, by rw [HW.out]; rfl, fun u hu => (by rw [HW.out] at hu; cases hu), HT2.out⟩)
set_option maxRecDepth 100000 in
theorem place_high (s : ByteArray) (w : World) (hs : s.size ≤ 1048576) (G : Glob w) (l : List UInt8) (hl : s.data.toList = 36 :: l) (n : Nat) (hA : Txt.numW (Txt.cutC 43 l).1 = some n) (hn : 4096 < n) : Calls Tryz.prog 125 #[.string s] w (Placed s w) := by
  have hp : Lib.hasPrefix s.data.toList [36] = true := by rw [Txt.hasPrefix_one, hl]; rfl
  have ht : Lib.trimPrefix s.data.toList [36] = l := by rw [hl]; exact Txt.trimPrefix_one 36 l
  have hz : l.length + 1 = s.size := by have := congrArg List.length hl; simp at this; omega
  have hc := cutC_le 43 l
  obtain ⟨m0, hm0⟩ := G.most
  have HC := Lib.hid (Tryz.strings_CutPrefix s ⟨#[36]⟩ w)
  have HP := Lib.hid hp
  have HT := Lib.hid ht
  have HU := Lib.hid (Tryz.strings_Cut ⟨l.toArray⟩ ⟨#[43]⟩ _ w (by rw [of_list_size]; omega) hm0)
  have HCL := Lib.hid (Txt.cut_lib 43 l)
  have HA := Lib.hid (fun W (T : Touch Nothing w W) => number_ ⟨(Txt.cutC 43 l).1.toArray⟩ W (by rw [of_list_size]; omega) (G.touch0 T))
  have HB := Lib.hid (fun W (T : Touch Nothing w W) => number_ ⟨(Txt.cutC 43 l).2.1.toArray⟩ W (by rw [of_list_size]; omega) (G.touch0 T))
  have HAe := Lib.hid hA
  have HW := Lib.hid (show Txt.placeW s.data.toList = none by rw [hl]; simp only [Txt.placeW]; rw [if_pos (by trivial), hA]; simp only []; rw [if_pos (by omega)])
  clear hA
  clear hp ht hz hc G hl hs hm0
  go_enter Tryz.func125, Tryz.ntmps125
  go_wp2_with fail
  refine HC.out.mono ?_
  rintro e w0 ⟨rfl, h0⟩
  obtain rfl : w = w0 := h0.symm
  rw [HP.out, show Lib.trimPrefix s.data.toList (⟨#[36]⟩ : ByteArray).data.toList = l from HT.out]
  go_wp2_with fail
  refine HU.out.mono ?_
  rintro e w1 ⟨rfl, k, rfl⟩
  rw [show Lib.cut (⟨l.toArray⟩ : ByteArray).data.toList (⟨#[43]⟩ : ByteArray).data.toList = Txt.cutC 43 l from HCL.out]
  have hT1 : Touch Nothing w (w.drewN k) := (Touch.refl _ _).drewN k
  generalize w.drewN k = w1 at *
  have HT1 := Lib.hid hT1
  clear hT1
  go_wp2_with fail
  refine (HA.out _ HT1.out).mono ?_
  rintro e w2 ⟨v, rfl, hv, hT2⟩
  have HT2 := Lib.hid (HT1.out.trans hT2)
  have HV := Lib.hid hv
  clear hv hT2
  rw [show Txt.numW (⟨(Txt.cutC 43 l).1.toArray⟩ : ByteArray).data.toList = some n from HAe.out]
  obtain rfl : v = n := HV.out n HAe.out
  simp only [Option.isSome_some]
  go_wp2_with fail
  all_goals (go_ret3; exact ⟨0, 0, by rw [HW.out]; rfl, fun u hu => (by rw [HW.out] at hu; cases hu), HT2.out⟩)
set_option maxRecDepth 100000 in
theorem place_bare (s : ByteArray) (w : World) (hs : s.size ≤ 1048576) (G : Glob w) (l : List UInt8) (hl : s.data.toList = 36 :: l) (n : Nat) (hA : Txt.numW (Txt.cutC 43 l).1 = some n) (hn1 : 1 ≤ n) (hn2 : n ≤ 4096) (hf : (Txt.cutC 43 l).2.2 = false) : Calls Tryz.prog 125 #[.string s] w (Placed s w) := by
  have hp : Lib.hasPrefix s.data.toList [36] = true := by rw [Txt.hasPrefix_one, hl]; rfl
  have ht : Lib.trimPrefix s.data.toList [36] = l := by rw [hl]; exact Txt.trimPrefix_one 36 l
  have hz : l.length + 1 = s.size := by have := congrArg List.length hl; simp at this; omega
  have hc := cutC_le 43 l
  obtain ⟨m0, hm0⟩ := G.most
  have HC := Lib.hid (Tryz.strings_CutPrefix s ⟨#[36]⟩ w)
  have HP := Lib.hid hp
  have HT := Lib.hid ht
  have HU := Lib.hid (Tryz.strings_Cut ⟨l.toArray⟩ ⟨#[43]⟩ _ w (by rw [of_list_size]; omega) hm0)
  have HCL := Lib.hid (Txt.cut_lib 43 l)
  have HA := Lib.hid (fun W (T : Touch Nothing w W) => number_ ⟨(Txt.cutC 43 l).1.toArray⟩ W (by rw [of_list_size]; omega) (G.touch0 T))
  have HB := Lib.hid (fun W (T : Touch Nothing w W) => number_ ⟨(Txt.cutC 43 l).2.1.toArray⟩ W (by rw [of_list_size]; omega) (G.touch0 T))
  have HAe := Lib.hid hA
  have HF := Lib.hid hf
  have HW := Lib.hid (show Txt.placeW s.data.toList = some (n, 0) by rw [hl]; simp only [Txt.placeW]; rw [if_pos (by trivial), hA]; simp only []; rw [if_neg (by omega), hf]; rfl)
  clear hA hf
  clear hp ht hz hc G hl hs hm0
  go_enter Tryz.func125, Tryz.ntmps125
  go_wp2_with fail
  refine HC.out.mono ?_
  rintro e w0 ⟨rfl, h0⟩
  obtain rfl : w = w0 := h0.symm
  rw [HP.out, show Lib.trimPrefix s.data.toList (⟨#[36]⟩ : ByteArray).data.toList = l from HT.out]
  go_wp2_with fail
  refine HU.out.mono ?_
  rintro e w1 ⟨rfl, k, rfl⟩
  rw [show Lib.cut (⟨l.toArray⟩ : ByteArray).data.toList (⟨#[43]⟩ : ByteArray).data.toList = Txt.cutC 43 l from HCL.out]
  have hT1 : Touch Nothing w (w.drewN k) := (Touch.refl _ _).drewN k
  generalize w.drewN k = w1 at *
  have HT1 := Lib.hid hT1
  clear hT1
  go_wp2_with fail
  refine (HA.out _ HT1.out).mono ?_
  rintro e w2 ⟨v, rfl, hv, hT2⟩
  have HT2 := Lib.hid (HT1.out.trans hT2)
  have HV := Lib.hid hv
  clear hv hT2
  rw [show Txt.numW (⟨(Txt.cutC 43 l).1.toArray⟩ : ByteArray).data.toList = some n from HAe.out, HF.out]
  obtain rfl : v = n := HV.out n HAe.out
  simp only [Option.isSome_some]
  go_wp2_with fail
  go_ret3
  exact ⟨v, 0, by rw [HW.out]; simp, fun u hu => (by rw [HW.out] at hu; cases hu; exact ⟨rfl, rfl⟩), HT2.out⟩
set_option maxRecDepth 100000 in
theorem place_plusno (s : ByteArray) (w : World) (hs : s.size ≤ 1048576) (G : Glob w) (l : List UInt8) (hl : s.data.toList = 36 :: l) (n : Nat) (hA : Txt.numW (Txt.cutC 43 l).1 = some n) (hn1 : 1 ≤ n) (hn2 : n ≤ 4096) (hf : (Txt.cutC 43 l).2.2 = true) (hB : Txt.numW (Txt.cutC 43 l).2.1 = none) : Calls Tryz.prog 125 #[.string s] w (Placed s w) := by
  have hp : Lib.hasPrefix s.data.toList [36] = true := by rw [Txt.hasPrefix_one, hl]; rfl
  have ht : Lib.trimPrefix s.data.toList [36] = l := by rw [hl]; exact Txt.trimPrefix_one 36 l
  have hz : l.length + 1 = s.size := by have := congrArg List.length hl; simp at this; omega
  have hc := cutC_le 43 l
  obtain ⟨m0, hm0⟩ := G.most
  have HC := Lib.hid (Tryz.strings_CutPrefix s ⟨#[36]⟩ w)
  have HP := Lib.hid hp
  have HT := Lib.hid ht
  have HU := Lib.hid (Tryz.strings_Cut ⟨l.toArray⟩ ⟨#[43]⟩ _ w (by rw [of_list_size]; omega) hm0)
  have HCL := Lib.hid (Txt.cut_lib 43 l)
  have HA := Lib.hid (fun W (T : Touch Nothing w W) => number_ ⟨(Txt.cutC 43 l).1.toArray⟩ W (by rw [of_list_size]; omega) (G.touch0 T))
  have HB := Lib.hid (fun W (T : Touch Nothing w W) => number_ ⟨(Txt.cutC 43 l).2.1.toArray⟩ W (by rw [of_list_size]; omega) (G.touch0 T))
  have HAe := Lib.hid hA
  have HBe := Lib.hid hB
  have HF := Lib.hid hf
  have HW := Lib.hid (show Txt.placeW s.data.toList = none by rw [hl]; simp only [Txt.placeW]; rw [if_pos (by trivial), hA]; simp only []; rw [if_neg (by omega), hf]; simp only [if_true]; rw [hB])
  clear hA hB hf
  clear hp ht hz hc G hl hs hm0
  go_enter Tryz.func125, Tryz.ntmps125
  go_wp2_with fail
  refine HC.out.mono ?_
  rintro e w0 ⟨rfl, h0⟩
  obtain rfl : w = w0 := h0.symm
  rw [HP.out, show Lib.trimPrefix s.data.toList (⟨#[36]⟩ : ByteArray).data.toList = l from HT.out]
  go_wp2_with fail
  refine HU.out.mono ?_
  rintro e w1 ⟨rfl, k, rfl⟩
  rw [show Lib.cut (⟨l.toArray⟩ : ByteArray).data.toList (⟨#[43]⟩ : ByteArray).data.toList = Txt.cutC 43 l from HCL.out]
  have hT1 : Touch Nothing w (w.drewN k) := (Touch.refl _ _).drewN k
  generalize w.drewN k = w1 at *
  have HT1 := Lib.hid hT1
  clear hT1
  go_wp2_with fail
  refine (HA.out _ HT1.out).mono ?_
  rintro e w2 ⟨v, rfl, hv, hT2⟩
  have HT2 := Lib.hid (HT1.out.trans hT2)
  have HV := Lib.hid hv
  clear hv hT2
  rw [show Txt.numW (⟨(Txt.cutC 43 l).1.toArray⟩ : ByteArray).data.toList = some n from HAe.out, HF.out]
  obtain rfl : v = n := HV.out n HAe.out
  simp only [Option.isSome_some]
  go_wp2_with fail
  refine (HB.out _ HT2.out).mono ?_
  rintro e w3 ⟨p, rfl, hp, hT3⟩
  have HT3 := Lib.hid (HT2.out.trans hT3)
  have HV3 := Lib.hid hp
  clear hp hT3
  rw [show Txt.numW (⟨(Txt.cutC 43 l).2.1.toArray⟩ : ByteArray).data.toList = _ from HBe.out]
  simp only [Option.isSome_none]
  go_wp2_with fail
  go_ret3
  exact ⟨v, p, by rw [HW.out]; rfl, fun u hu => (by rw [HW.out] at hu; cases hu), HT3.out⟩
set_option maxRecDepth 100000 in
theorem place_plus0 (s : ByteArray) (w : World) (hs : s.size ≤ 1048576) (G : Glob w) (l : List UInt8) (hl : s.data.toList = 36 :: l) (n : Nat) (hA : Txt.numW (Txt.cutC 43 l).1 = some n) (hn1 : 1 ≤ n) (hn2 : n ≤ 4096) (hf : (Txt.cutC 43 l).2.2 = true) (hB : Txt.numW (Txt.cutC 43 l).2.1 = some 0) : Calls Tryz.prog 125 #[.string s] w (Placed s w) := by
  have hp : Lib.hasPrefix s.data.toList [36] = true := by rw [Txt.hasPrefix_one, hl]; rfl
  have ht : Lib.trimPrefix s.data.toList [36] = l := by rw [hl]; exact Txt.trimPrefix_one 36 l
  have hz : l.length + 1 = s.size := by have := congrArg List.length hl; simp at this; omega
  have hc := cutC_le 43 l
  obtain ⟨m0, hm0⟩ := G.most
  have HC := Lib.hid (Tryz.strings_CutPrefix s ⟨#[36]⟩ w)
  have HP := Lib.hid hp
  have HT := Lib.hid ht
  have HU := Lib.hid (Tryz.strings_Cut ⟨l.toArray⟩ ⟨#[43]⟩ _ w (by rw [of_list_size]; omega) hm0)
  have HCL := Lib.hid (Txt.cut_lib 43 l)
  have HA := Lib.hid (fun W (T : Touch Nothing w W) => number_ ⟨(Txt.cutC 43 l).1.toArray⟩ W (by rw [of_list_size]; omega) (G.touch0 T))
  have HB := Lib.hid (fun W (T : Touch Nothing w W) => number_ ⟨(Txt.cutC 43 l).2.1.toArray⟩ W (by rw [of_list_size]; omega) (G.touch0 T))
  have HAe := Lib.hid hA
  have HBe := Lib.hid hB
  have HF := Lib.hid hf
  have HW := Lib.hid (show Txt.placeW s.data.toList = none by rw [hl]; simp only [Txt.placeW]; rw [if_pos (by trivial), hA]; simp only []; rw [if_neg (by omega), hf]; simp only [if_true]; rw [hB]; rfl)
  clear hA hB hf
  clear hp ht hz hc G hl hs hm0
  go_enter Tryz.func125, Tryz.ntmps125
  go_wp2_with fail
  refine HC.out.mono ?_
  rintro e w0 ⟨rfl, h0⟩
  obtain rfl : w = w0 := h0.symm
  rw [HP.out, show Lib.trimPrefix s.data.toList (⟨#[36]⟩ : ByteArray).data.toList = l from HT.out]
  go_wp2_with fail
  refine HU.out.mono ?_
  rintro e w1 ⟨rfl, k, rfl⟩
  rw [show Lib.cut (⟨l.toArray⟩ : ByteArray).data.toList (⟨#[43]⟩ : ByteArray).data.toList = Txt.cutC 43 l from HCL.out]
  have hT1 : Touch Nothing w (w.drewN k) := (Touch.refl _ _).drewN k
  generalize w.drewN k = w1 at *
  have HT1 := Lib.hid hT1
  clear hT1
  go_wp2_with fail
  refine (HA.out _ HT1.out).mono ?_
  rintro e w2 ⟨v, rfl, hv, hT2⟩
  have HT2 := Lib.hid (HT1.out.trans hT2)
  have HV := Lib.hid hv
  clear hv hT2
  rw [show Txt.numW (⟨(Txt.cutC 43 l).1.toArray⟩ : ByteArray).data.toList = some n from HAe.out, HF.out]
  obtain rfl : v = n := HV.out n HAe.out
  simp only [Option.isSome_some]
  go_wp2_with fail
  refine (HB.out _ HT2.out).mono ?_
  rintro e w3 ⟨p, rfl, hp, hT3⟩
  have HT3 := Lib.hid (HT2.out.trans hT3)
  have HV3 := Lib.hid hp
  clear hp hT3
  rw [show Txt.numW (⟨(Txt.cutC 43 l).2.1.toArray⟩ : ByteArray).data.toList = _ from HBe.out]
  obtain rfl : p = 0 := HV3.out 0 HBe.out
  simp only [Option.isSome_some]
  go_wp2_with fail
  go_ret3
  exact ⟨v, 0, by rw [HW.out]; rfl, fun u hu => (by rw [HW.out] at hu; cases hu), HT3.out⟩
set_option maxRecDepth 100000 in
theorem place_plus (s : ByteArray) (w : World) (hs : s.size ≤ 1048576) (G : Glob w) (l : List UInt8) (hl : s.data.toList = 36 :: l) (n : Nat) (hA : Txt.numW (Txt.cutC 43 l).1 = some n) (hn1 : 1 ≤ n) (hn2 : n ≤ 4096) (hf : (Txt.cutC 43 l).2.2 = true) (m : Nat) (hB : Txt.numW (Txt.cutC 43 l).2.1 = some m) (hm : 0 < m) : Calls Tryz.prog 125 #[.string s] w (Placed s w) := by
  have hp : Lib.hasPrefix s.data.toList [36] = true := by rw [Txt.hasPrefix_one, hl]; rfl
  have ht : Lib.trimPrefix s.data.toList [36] = l := by rw [hl]; exact Txt.trimPrefix_one 36 l
  have hz : l.length + 1 = s.size := by have := congrArg List.length hl; simp at this; omega
  have hc := cutC_le 43 l
  obtain ⟨m0, hm0⟩ := G.most
  have HC := Lib.hid (Tryz.strings_CutPrefix s ⟨#[36]⟩ w)
  have HP := Lib.hid hp
  have HT := Lib.hid ht
  have HU := Lib.hid (Tryz.strings_Cut ⟨l.toArray⟩ ⟨#[43]⟩ _ w (by rw [of_list_size]; omega) hm0)
  have HCL := Lib.hid (Txt.cut_lib 43 l)
  have HA := Lib.hid (fun W (T : Touch Nothing w W) => number_ ⟨(Txt.cutC 43 l).1.toArray⟩ W (by rw [of_list_size]; omega) (G.touch0 T))
  have HB := Lib.hid (fun W (T : Touch Nothing w W) => number_ ⟨(Txt.cutC 43 l).2.1.toArray⟩ W (by rw [of_list_size]; omega) (G.touch0 T))
  have HAe := Lib.hid hA
  have HBe := Lib.hid hB
  have HF := Lib.hid hf
  have HW := Lib.hid (show Txt.placeW s.data.toList = some (n, m) by rw [hl]; simp only [Txt.placeW]; rw [if_pos (by trivial), hA]; simp only []; rw [if_neg (by omega), hf]; simp only [if_true]; rw [hB]; simp only []; rw [if_neg (by omega)])
  clear hA hB hf
  clear hp ht hz hc G hl hs hm0
  go_enter Tryz.func125, Tryz.ntmps125
  go_wp2_with fail
  refine HC.out.mono ?_
  rintro e w0 ⟨rfl, h0⟩
  obtain rfl : w = w0 := h0.symm
  rw [HP.out, show Lib.trimPrefix s.data.toList (⟨#[36]⟩ : ByteArray).data.toList = l from HT.out]
  go_wp2_with fail
  refine HU.out.mono ?_
  rintro e w1 ⟨rfl, k, rfl⟩
  rw [show Lib.cut (⟨l.toArray⟩ : ByteArray).data.toList (⟨#[43]⟩ : ByteArray).data.toList = Txt.cutC 43 l from HCL.out]
  have hT1 : Touch Nothing w (w.drewN k) := (Touch.refl _ _).drewN k
  generalize w.drewN k = w1 at *
  have HT1 := Lib.hid hT1
  clear hT1
  go_wp2_with fail
  refine (HA.out _ HT1.out).mono ?_
  rintro e w2 ⟨v, rfl, hv, hT2⟩
  have HT2 := Lib.hid (HT1.out.trans hT2)
  have HV := Lib.hid hv
  clear hv hT2
  rw [show Txt.numW (⟨(Txt.cutC 43 l).1.toArray⟩ : ByteArray).data.toList = some n from HAe.out, HF.out]
  obtain rfl : v = n := HV.out n HAe.out
  simp only [Option.isSome_some]
  go_wp2_with fail
  refine (HB.out _ HT2.out).mono ?_
  rintro e w3 ⟨p, rfl, hp, hT3⟩
  have HT3 := Lib.hid (HT2.out.trans hT3)
  have HV3 := Lib.hid hp
  clear hp hT3
  rw [show Txt.numW (⟨(Txt.cutC 43 l).2.1.toArray⟩ : ByteArray).data.toList = _ from HBe.out]
  obtain rfl : p = m := HV3.out m HBe.out
  simp only [Option.isSome_some]
  go_wp2_with fail
  go_ret3
  exact ⟨v, p, by rw [HW.out]; simp, fun u hu => (by rw [HW.out] at hu; cases hu; exact ⟨rfl, rfl⟩), HT3.out⟩
theorem place_ (s : ByteArray) (w : World) (hs : s.size ≤ 1048576) (G : Glob w) : Calls Tryz.prog 125 #[.string s] w (Placed s w) := by
  by_cases h : s.data.toList.head? = some 36
  · obtain ⟨l, hl⟩ : ∃ l, s.data.toList = 36 :: l := by
      cases hq : s.data.toList with
      | nil => rw [hq] at h; cases h
      | cons x l => rw [hq] at h; simp at h; exact ⟨l, by rw [h]⟩
    cases hA : Txt.numW (Txt.cutC 43 l).1 with
    | none => exact place_none s w hs G l hl hA
    | some n =>
      by_cases h1 : n < 1
      · exact place_low s w hs G l hl n hA h1
      by_cases h2 : 4096 < n
      · exact place_high s w hs G l hl n hA h2
      cases hf : (Txt.cutC 43 l).2.2 with
      | false => exact place_bare s w hs G l hl n hA (by omega) (by omega) hf
      | true =>
        cases hB : Txt.numW (Txt.cutC 43 l).2.1 with
        | none => exact place_plusno s w hs G l hl n hA (by omega) (by omega) hf hB
        | some m =>
          by_cases hm : m = 0
          · subst hm
            exact place_plus0 s w hs G l hl n hA (by omega) (by omega) hf hB
          · exact place_plus s w hs G l hl n hA (by omega) (by omega) hf m hB (by omega)
  · exact place_plain s w hs G h

end Go.Proofs.YtnjcmcnjgdjbiaaGreatDoor

namespace Go.Proofs.YtnjcmcnjgdjbiaaGreatDoor
open Go.RowKit

def hf (x : UInt8) : Int := if Txt.half x = 16 then -1 else (Txt.half x : Int)

def hexDigits : List UInt8 := [48, 49, 50, 51, 52, 53, 54, 55, 56, 57, 97, 98, 99, 100, 101, 102]

theorem hf_index (x : UInt8) : Lib.indexByte hexDigits x = hf x := by
  have h : ∀ n : Fin 256, Lib.indexByte hexDigits (UInt8.ofNat n.val) = hf (UInt8.ofNat n.val) := by decide +kernel
  have := h ⟨x.toNat, x.toNat_lt⟩
  simpa using this

theorem half_le (x : UInt8) : Txt.half x ≤ 16 := by
  unfold Txt.half
  split
  · omega
  · split <;> omega

theorem half_ (x : UInt8) (w : World) : Calls Tryz.prog 180 #[.int .u8 x.toNat] w fun e w' => e = .returned (.int .i64 (hf x)) ∧ w' = w := by
  have HI := Lib.hid (Tryz.strings_IndexByte ⟨#[48, 49, 50, 51, 52, 53, 54, 55, 56, 57, 97, 98, 99, 100, 101, 102]⟩ (x.toNat : Int) w)
  have HE := Lib.hid (hf_index x)
  go_enter Tryz.func180, Tryz.ntmps180
  go_wp2_with fail
  refine HI.out.mono ?_
  rintro e w1 ⟨rfl, h0⟩
  obtain rfl : w = w1 := h0.symm
  rw [show Lib.indexByte (⟨#[48, 49, 50, 51, 52, 53, 54, 55, 56, 57, 97, 98, 99, 100, 101, 102]⟩ : ByteArray).data.toList ((x.toNat : Int).toNat.toUInt8) = hf x by
    rw [← HE.out]; simp [hexDigits]]
  go_wp2_with fail
  go_ret
  trivial

def Dataed (s : ByteArray) (w : World) (e : Ending) (w' : World) : Prop :=
  ∃ dp dn dc, e = .returned (.tuple #[.slice dp dn dc, .bool (Txt.dataW s.data.toList).isSome]) ∧
    (∀ d, Txt.dataW s.data.toList = some d → w'.ownsRow w.heap.size 5 1 (.slice dp dn dc) d.length (d.map fun x => .int .u8 x.toNat)) ∧ Touch Nothing w w'

structure DataRel (s : ByteArray) (w wr : World) (k : Nat) (v : Value) (out : List UInt8) : Prop where
  len : out.length = k
  law : Txt.hexW s.data.toList = (Txt.hexW (s.data.toList.drop (2 * k))).map (out ++ ·)
  own : wr.ownsRow w.heap.size 5 1 v k (out.map fun x => .int .u8 x.toNat)
  touch : Touch Nothing w wr

theorem hf_pair (x y : UInt8) (hx : Txt.half x ≠ 16) (hy : Txt.half y ≠ 16) : bits BinOp.or IntKind.i64 (wrap64 (hf x * 16)) (hf y) % 256 = ((Txt.half x * 16 + Txt.half y).toUInt8.toNat : Int) := by
  have h1 := half_le x
  have h2 := half_le y
  unfold hf
  rw [if_neg hx, if_neg hy]
  have key : ∀ a b : Fin 16, bits BinOp.or IntKind.i64 (wrap64 ((a.val : Int) * 16)) (b.val : Int) % 256 = ((a.val * 16 + b.val).toUInt8.toNat : Int) := by decide +kernel
  exact key ⟨Txt.half x, by omega⟩ ⟨Txt.half y, by omega⟩

theorem toList_45 {s : ByteArray} (h : (s.toList == [45]) = false) : s.data.toList ≠ [45] := by
  intro e
  rw [ByteArray.toList_eq, e] at h
  simp at h

theorem dataW_hex {s : ByteArray} (h45 : (s.toList == [45]) = false) (h0 : 0 < s.size) (h2 : s.size % 2 = 0) (hb : s.size ≤ 131072) : Txt.dataW s.data.toList = Txt.hexW s.data.toList := by
  have hz : s.data.toList.length = s.size := by rw [Array.length_toList]; rfl
  unfold Txt.dataW
  rw [if_neg (toList_45 h45), if_neg]
  rintro (e | e | e)
  · rw [e] at hz; simp at hz; omega
  · omega
  · omega

theorem dataW_bad {s : ByteArray} (h45 : (s.toList == [45]) = false) (h0 : 0 < s.size) (h2 : s.size % 2 = 0) (hb : s.size ≤ 131072) {l t out : List UInt8} {x y : UInt8}
    (hl : Txt.hexW s.data.toList = (Txt.hexW l).map (out ++ ·)) (hs : l = x :: y :: t) (h : Txt.half x = 16 ∨ Txt.half y = 16) : Txt.dataW s.data.toList = none := by
  rw [dataW_hex h45 h0 h2 hb, hl, hs]
  unfold Txt.hexW
  rw [if_pos h]
  rfl

theorem DataRel.step {s : ByteArray} {w wd w1 : World} {k : Nat} {v v' : Value} {out : List UInt8} {x y : UInt8} {o : Obj} {z : Int} (D : DataRel s w wd k v out) (hs : s.data.toList.drop (2 * k) = x :: y :: s.data.toList.drop (2 * (k + 1)))
    (hx : Txt.half x ≠ 16) (hy : Txt.half y ≠ 16) (hz : z = ((Txt.half x * 16 + Txt.half y).toUInt8.toNat : Int))
    (hown : w1.ownsRow w.heap.size 5 1 v' (k + 1) ((out.map fun x => .int .u8 x.toNat) ++ [.int .u8 z])) (hgrow : (wd.alloc o).grownBy w1 v.ownBlock) : DataRel s w w1 (k + 1) v' (out ++ [(Txt.half x * 16 + Txt.half y).toUInt8]) := by
  refine ⟨by simp [D.len], ?_, by rw [List.map_append, List.map_cons, List.map_nil, ← hz]; exact hown, ?_⟩
  · rw [D.law, hs]
    conv => lhs; rw [Txt.hexW]
    rw [if_neg (fun h => h.elim hx hy)]
    simp only [Option.map_map]
    congr 1
    funext l
    simp
  · refine (D.touch.alloc o).none_.trans' (Touch.of_grown (S := fun i => w.heap.size ≤ i) hgrow (fun i hi => (World.ownsRow.lt D.own i hi).1)) (fun i hi h => by omega)

theorem data_end {s : ByteArray} {w wr : World} {k : Nat} {v : Value} {out : List UInt8} (h45 : (s.toList == [45]) = false) (h0 : 0 < s.size) (h2 : s.size % 2 = 0) (hb : s.size ≤ 131072) (D : DataRel s w wr k v out) (hk : 2 * k = s.size) :
    Txt.dataW s.data.toList = some out := by
  have hz : s.data.toList.length = s.size := by rw [Array.length_toList]; rfl
  rw [dataW_hex h45 h0 h2 hb, D.law, List.drop_eq_nil_of_le (by omega)]
  simp [Txt.hexW]

theorem owns_slice {w : World} {base e size n : Nat} {v : Value} {xs : List Value} (h : w.ownsRow base e size v n xs) : ∃ dp dn dc, v = .slice dp dn dc := by
  rcases h.2 with ⟨h, _⟩ | ⟨g, cap, cur, h, _⟩
  · exact ⟨none, 0, 0, h⟩
  · exact ⟨_, _, _, h⟩

set_option maxRecDepth 100000 in
theorem data_loop (s : ByteArray) (w : World) (h45 : (s.toList == [45]) = false) (h0 : 0 < s.size) (h2 : s.size % 2 = 0) (hb : s.size ≤ 131072) :
    Calls Tryz.prog 127 #[.string s] w (Dataed s w) := by
  have hne := ne_toList s h0
  have hr : ((s.size : Int)).tmod 2 = 0 := by rw [Int.tmod_eq_emod_of_nonneg (by omega)]; omega
  obtain ⟨i0, hi0, hz0, hz1, hz2⟩ := info_parts info5
  go_enter Tryz.func127, Tryz.ntmps127
  go_wp2_with fail
  go_loopw [4, 5] (fun v i wr => ∃ k : Nat, 2 * k ≤ s.size ∧ i = .int .i64 ((2 * k : Nat) : Int) ∧ ∃ out, DataRel s w wr k v out) (fun _ i _ => s.size - (intOf i).toNat)
  case atStart => exact ⟨0, by omega, rfl, [], rfl, by simp, World.ownsRow_nil _ _ _ _, Touch.refl _ _⟩
  case round =>
    obtain ⟨k, hk, rfl, out, hD⟩ := hrel
    have HD := Lib.hid hD
    clear hD
    by_cases hlt : 2 * k < s.size
    · have hl1 : 2 * k < s.size := hlt
      have hl2 : 2 * k + 1 < s.size := by omega
      have q1 : (2 * (k : Int)).toNat < s.size := by omega
      have q2 : (2 * (k : Int) + 1).toNat < s.size := by omega
      have p0 : (0 : Int) ≤ 2 * (k : Int) := by omega
      have p1 : (0 : Int) ≤ 2 * (k : Int) + 1 := by omega
      have p2 : 2 * (k : Int) + 1 < (s.size : Int) := by omega
      have hw1 : IntKind.i64.wrap (2 * (k : Int) + 1) = 2 * (k : Int) + 1 := IntWalk.i64_in _ (by omega)
      have HA := Lib.hid (half_ (s[(2 * (k : Int)).toNat]'q1) wr.drew)
      have HB := Lib.hid (half_ (s[(2 * (k : Int) + 1).toNat]'q2) wr.drew)
      have HDr := Lib.hid (show DataRel s w wr.drew k u4 out from ⟨HD.out.len, HD.out.law, HD.out.own.drew, HD.out.touch.drew⟩)
      have HS := Lib.hid (show s.data.toList.drop (2 * k) = s[2 * k]'hl1 :: s[2 * k + 1]'hl2 :: s.data.toList.drop (2 * (k + 1)) by
        have hz : s.data.toList.length = s.size := by rw [Array.length_toList]; rfl
        rw [List.drop_eq_getElem_cons (by omega), List.drop_eq_getElem_cons (by omega)]
        rfl)
      by_cases hx : Txt.half (s[2 * k]'hl1) = 16
      · have ha : hf (s[2 * k]'hl1) < 0 := by unfold hf; rw [if_pos hx]; omega
        have HN := Lib.hid (show Txt.dataW s.data.toList = none from dataW_bad h45 h0 h2 hb HD.out.law HS.out (.inl hx))
        clear hx
        go_wp2_with fail
        refine wp_region_still_tail 9 (by kernel_rfl) (by kernel_rfl) ?_
        simp only [List.take_succ_cons, List.take_zero, List.drop_succ_cons, List.drop_zero, World.drew_eq]
        repeat still_step
        still_call HA.out
        repeat still_step
        still_call HB.out
        refine wpStill_nil ?_
        go_wp2_with fail
        go_ret2
        exact ⟨none, 0, 0, by rw [HN.out]; rfl, fun d hd => (by rw [HN.out] at hd; cases hd), HDr.out.touch⟩
      · have hx' := half_le (s[2 * k]'hl1)
        have ha0 : 0 ≤ hf (s[2 * k]'hl1) := by unfold hf; rw [if_neg hx]; omega
        have ha : ¬ hf (s[2 * k]'hl1) < 0 := by omega
        by_cases hy : Txt.half (s[2 * k + 1]'hl2) = 16
        · have hbb : hf (s[2 * k + 1]'hl2) < 0 := by unfold hf; rw [if_pos hy]; omega
          have HN := Lib.hid (show Txt.dataW s.data.toList = none from dataW_bad h45 h0 h2 hb HD.out.law HS.out (.inr hy))
          clear hx hy hx'
          go_wp2_with fail
          refine wp_region_still_tail 9 (by kernel_rfl) (by kernel_rfl) ?_
          simp only [List.take_succ_cons, List.take_zero, List.drop_succ_cons, List.drop_zero, World.drew_eq]
          repeat still_step
          still_call HA.out
          repeat still_step
          still_call HB.out
          refine wpStill_nil ?_
          go_wp2_with fail
          go_ret2
          exact ⟨none, 0, 0, by rw [HN.out]; rfl, fun d hd => (by rw [HN.out] at hd; cases hd), HDr.out.touch⟩
        · have hy' := half_le (s[2 * k + 1]'hl2)
          have hb0 : 0 ≤ hf (s[2 * k + 1]'hl2) := by unfold hf; rw [if_neg hy]; omega
          have hbb : ¬ hf (s[2 * k + 1]'hl2) < 0 := by omega
          have HE := Lib.hid (hf_pair (s[2 * k]'hl1) (s[2 * k + 1]'hl2) hx hy)
          have HX := Lib.hid hx
          have HY := Lib.hid hy
          have hko : k ≤ 65536 := by omega
          clear hx hy hx' hy'
          go_wp2_with fail
          refine wp_region_still_tail 9 (by kernel_rfl) (by kernel_rfl) ?_
          simp only [List.take_succ_cons, List.take_zero, List.drop_succ_cons, List.drop_zero, World.drew_eq]
          repeat still_step
          still_call HA.out
          repeat still_step
          still_call HB.out
          refine wpStill_nil ?_
          generalize wr.drew = wd at *
          have hsz : w.heap.size ≤ wd.heap.size := HDr.out.touch.size
          go_wp2_with (at_builtin; refine wpList_append_own _ rfl _ _ 34 rfl w.heap.size 5 i0 (.int .u8 0) 1 1 Tryz.underlying34 hi0 hz0 hz1 hz2 rfl (by decide) _ _ _ rfl (HDr.out.own.alloc _) ⟨wd.heap.size, 0, none⟩ 1 1 [.int .u8 (bits BinOp.or IntKind.i64 (wrap64 (hf (s[2 * k]'hl1) * 16)) (hf (s[2 * k + 1]'hl2)) % 256)] rfl rfl (by intro j u hj; match j, hj with | 0, hj => simp at hj; subst hj; simp [Addr.add]) (by intro u hu; simp at hu; subst hu; rfl) (by unfold maxLen; omega) (by omega) (by simp; omega) ?_; intro v' w1 hown1 hgrow _)
          have HO := Lib.hid hown1
          have HG := Lib.hid hgrow
          clear hown1 hgrow
          go_wp2_with fail
          go_roundw
          case rel => exact ⟨k + 1, by omega, by go_num, _, HDr.out.step HS.out HX.out HY.out HE.out HO.out HG.out⟩
          case measure => simp [intOf]; omega
    · have hke : 2 * k = s.size := by omega
      have HN := Lib.hid (data_end h45 h0 h2 hb HD.out hke)
      obtain ⟨dp, dn, dc, rfl⟩ := owns_slice HD.out.own
      have HL := Lib.hid HD.out.len
      clear hke
      go_wp2_with fail
      go_ret2
      refine ⟨dp, dn, dc, by rw [HN.out]; rfl, fun d hd => ?_, HD.out.touch⟩
      rw [HN.out] at hd
      cases hd
      rw [HL.out]
      exact HD.out.own

theorem data_dash (s : ByteArray) (w : World) (h45 : (s.toList == [45]) = true) : Calls Tryz.prog 127 #[.string s] w (Dataed s w) := by
  have HN := Lib.hid (show Txt.dataW s.data.toList = some [] by
    have e : s.data.toList = [45] := by rw [← ByteArray.toList_eq]; simpa using h45
    unfold Txt.dataW; rw [if_pos e])
  go_enter Tryz.func127, Tryz.ntmps127
  go_wp2_with fail
  go_ret2
  refine ⟨none, 0, 0, by rw [HN.out]; rfl, fun d hd => ?_, Touch.refl _ _⟩
  rw [HN.out] at hd
  cases hd
  exact World.ownsRow_nil _ _ _ _

theorem data_empty (s : ByteArray) (w : World) (h : s.data.toList = []) : Calls Tryz.prog 127 #[.string s] w (Dataed s w) := by
  have h' : s.toList = [] := by rw [ByteArray.toList_eq]; exact h
  have H := Lib.hid (show Txt.dataW s.data.toList = none by rw [h]; rfl)
  clear h
  go_enter Tryz.func127, Tryz.ntmps127
  go_wp2_with fail
  go_ret2
  exact ⟨none, 0, 0, by rw [H.out]; rfl, fun d hd => (by rw [H.out] at hd; cases hd), Touch.refl _ _⟩

theorem data_odd (s : ByteArray) (w : World) (h45 : (s.toList == [45]) = false) (h0 : 0 < s.size) (hs : s.size ≤ 1048576) (h2 : s.size % 2 = 1) : Calls Tryz.prog 127 #[.string s] w (Dataed s w) := by
  have hne := ne_toList s h0
  have hz : s.data.toList.length = s.size := by rw [Array.length_toList]; rfl
  have H := Lib.hid (show Txt.dataW s.data.toList = none by unfold Txt.dataW; rw [if_neg (toList_45 h45), if_pos (.inr (.inl (by omega)))])
  have hr : ((s.size : Int)).tmod 2 = 1 := by rw [Int.tmod_eq_emod_of_nonneg (by omega)]; omega
  clear h2 hz
  go_enter Tryz.func127, Tryz.ntmps127
  go_wp2_with fail
  go_ret2
  exact ⟨none, 0, 0, by rw [H.out]; rfl, fun d hd => (by rw [H.out] at hd; cases hd), Touch.refl _ _⟩

theorem data_long (s : ByteArray) (w : World) (h45 : (s.toList == [45]) = false) (hs : s.size ≤ 1048576) (h2 : s.size % 2 = 0) (hl : 131072 < s.size) : Calls Tryz.prog 127 #[.string s] w (Dataed s w) := by
  have hne := ne_toList s (by omega)
  have hz : s.data.toList.length = s.size := by rw [Array.length_toList]; rfl
  have H := Lib.hid (show Txt.dataW s.data.toList = none by unfold Txt.dataW; rw [if_neg (toList_45 h45), if_pos (.inr (.inr (by omega)))])
  have hr : ((s.size : Int)).tmod 2 = 0 := by rw [Int.tmod_eq_emod_of_nonneg (by omega)]; omega
  clear h2 hz
  go_enter Tryz.func127, Tryz.ntmps127
  go_wp2_with fail
  go_ret2
  exact ⟨none, 0, 0, by rw [H.out]; rfl, fun d hd => (by rw [H.out] at hd; cases hd), Touch.refl _ _⟩

theorem data_ (s : ByteArray) (w : World) (hs : s.size ≤ 1048576) : Calls Tryz.prog 127 #[.string s] w (Dataed s w) := by
  cases h45 : (s.toList == [45]) with
  | true => exact data_dash s w h45
  | false =>
    by_cases h0 : 0 < s.size
    · by_cases h2 : s.size % 2 = 1
      · exact data_odd s w h45 h0 hs h2
      · by_cases hl : 131072 < s.size
        · exact data_long s w h45 hs (by omega) hl
        · exact data_loop s w h45 h0 (by omega) (by omega)
    · refine data_empty s w ?_
      have hz : s.data.toList.length = s.size := by rw [Array.length_toList]; rfl
      exact List.eq_nil_of_length_eq_zero (by omega)

end Go.Proofs.YtnjcmcnjgdjbiaaGreatDoor

namespace Go.Proofs.YtnjcmcnjgdjbiaaGreatDoor
open Go.RowKit

/-- a slice of strings in block g -/
def Strs (w : World) (g : Nat) (ws : List (List UInt8)) (p : Option Addr) (c : Nat) : Prop :=
  ws.length ≤ c ∧ (ws ≠ [] → ∃ off, p = some ⟨g, off, none⟩ ∧ ∀ i x, ws[i]? = some x → w.cell? ⟨g, off + i, none⟩ = some (.string ⟨x.toArray⟩))

theorem Strs.touch {w w' : World} {g : Nat} {ws : List (List UInt8)} {p : Option Addr} {c : Nat} {S : Nat → Prop} (h : Strs w g ws p c) (T : Touch S w w') (hg : ¬ S g) : Strs w' g ws p c := by
  refine ⟨h.1, fun hne => ?_⟩
  obtain ⟨off, hp, hc⟩ := h.2 hne
  refine ⟨off, hp, fun i x hx => ?_⟩
  have := hc i x hx
  rw [T.cell (p := ⟨g, off + i, none⟩) (World.block_lt_of_cell? _ _ this) hg]
  exact this

theorem Strs.nil (w : World) (g : Nat) (p : Option Addr) (c : Nat) : Strs w g [] p c := ⟨Nat.zero_le _, fun h => absurd rfl h⟩

def Popped (w : World) (W g : Nat) (x : List UInt8) (t : List (List UInt8)) (e : Ending) (w' : World) : Prop :=
  e = .returned (.string ⟨x.toArray⟩) ∧ ∃ p' c', Strs w g t p' c' ∧ w' = w.setCell ⟨W, 0, none⟩ (.slice p' t.length c')

theorem pop_ (W O g c : Nat) (p : Option Addr) (x : List UInt8) (t : List (List UInt8)) (w : World) (hw : w.cell? ⟨W, 0, none⟩ = some (.slice p (t.length + 1) c)) (hwf : w.frozen? ⟨W, 0, none⟩ = false)
    (hs : Strs w g (x :: t) p c) : Calls Tryz.prog 124 #[.pointer (some ⟨W, 0, none⟩), .pointer (some ⟨O, 0, none⟩)] w (Popped w W g x t) := by
  obtain ⟨hn, hc⟩ := hs
  obtain ⟨off, rfl, hc2⟩ := hc (by simp)
  have hn' : t.length + 1 ≤ c := by simpa using hn
  have h0 : w.cell? ⟨g, off, none⟩ = some (.string ⟨x.toArray⟩) := hc2 0 x rfl
  have H1 := Lib.hid (show ∀ i y, t[i]? = some y → w.cell? ⟨g, off + 1 + i, none⟩ = some (.string ⟨y.toArray⟩) from fun i y hy => by
    have := hc2 (i + 1) y (by simpa using hy)
    rwa [show off + 1 + i = off + (i + 1) by omega])
  have H2 := Lib.hid hn'
  obtain ⟨n, hN⟩ : ∃ n, n = t.length + 1 := ⟨_, rfl⟩
  rw [← hN] at hw hn'
  have HN := Lib.hid hN
  have hpos : 0 < n := by omega
  clear hn hc hc2 hN
  go_enter Tryz.func124, Tryz.ntmps124
  go_wp2_with fail
  · go_ret
    have e : n - 1 = t.length := by have := HN.out; omega
    rw [e]
    refine ⟨rfl, _, _, ⟨by have := HN.out; omega, fun hne => ?_⟩, rfl⟩
    have := List.length_pos_iff.2 hne
    have := HN.out
    omega
  · go_ret
    have e : n - 1 = t.length := by have := HN.out; omega
    rw [e]
    exact ⟨rfl, _, _, ⟨by have := HN.out; omega, fun _ => ⟨off + 1, rfl, H1.out⟩⟩, rfl⟩

theorem pop_none (W O c : Nat) (p : Option Addr) (v : Value) (w : World) (hw : w.cell? ⟨W, 0, none⟩ = some (.slice p 0 c)) (ho : w.cell? ⟨O, 0, none⟩ = some v) (hof : w.frozen? ⟨O, 0, none⟩ = false) :
    Calls Tryz.prog 124 #[.pointer (some ⟨W, 0, none⟩), .pointer (some ⟨O, 0, none⟩)] w fun e w' => e = .returned (.string ⟨#[]⟩) ∧ w' = w.setCell ⟨O, 0, none⟩ (.bool false) := by
  go_enter Tryz.func124, Tryz.ntmps124
  go_wp2_with fail
  go_ret
  trivial

end Go.Proofs.YtnjcmcnjgdjbiaaGreatDoor

namespace Go.Proofs.YtnjcmcnjgdjbiaaGreatDoor
open Go.RowKit

def formAt (k : Nat) : Txt.Form := Txt.formAt.getD k ⟨false, 0, false, false⟩
def opWord (k : Nat) : List UInt8 := Txt.opWords.getD k []
def formRow (k : Nat) : List Value := [.string ⟨(opWord k).toArray⟩, .bool (formAt k).address, .int .i64 (formAt k).numbers, .bool (formAt k).data, .bool (formAt k).refused]
def formCells : Array Value := #[.string ⟨#[109, 97, 108, 108, 111, 99]⟩, .bool false, .int .i64 1, .bool false, .bool true, .string ⟨#[99, 97, 108, 108, 111, 99]⟩, .bool false, .int .i64 2, .bool false, .bool true, .string ⟨#[97, 108, 105, 103, 110, 101, 100]⟩, .bool false, .int .i64 2, .bool false, .bool true, .string ⟨#[114, 101, 97, 108, 108, 111, 99]⟩, .bool true, .int .i64 1, .bool false, .bool true, .string ⟨#[102, 114, 101, 101]⟩, .bool true, .int .i64 0, .bool false, .bool false, .string ⟨#[117, 115, 97, 98, 108, 101]⟩, .bool true, .int .i64 0, .bool false, .bool false, .string ⟨#[108, 111, 97, 100]⟩, .bool true, .int .i64 0, .bool false, .bool false, .string ⟨#[115, 116, 111, 114, 101]⟩, .bool true, .int .i64 1, .bool false, .bool false, .string ⟨#[108, 111, 97, 100, 119, 111, 114, 100]⟩, .bool true, .int .i64 0, .bool false, .bool false, .string ⟨#[115, 116, 111, 114, 101, 119, 111, 114, 100]⟩, .bool true, .int .i64 1, .bool false, .bool false, .string ⟨#[114, 101, 97, 100]⟩, .bool true, .int .i64 1, .bool false, .bool false, .string ⟨#[119, 114, 105, 116, 101]⟩, .bool true, .int .i64 0, .bool true, .bool false, .string ⟨#[116, 114, 105, 109]⟩, .bool false, .int .i64 0, .bool false, .bool false, .string ⟨#[115, 116, 97, 116, 115]⟩, .bool false, .int .i64 0, .bool false, .bool false]

def Formed (w : World) (e : Ending) (w' : World) : Prop :=
  ∃ g, w.heap.size ≤ g ∧ e = .returned (.slice (some ⟨g, 0, none⟩) 14 14) ∧ Blk w' g 148 formCells.toList ∧ Touch Nothing w w'

set_option maxRecDepth 100000 in
set_option maxHeartbeats 4000000 in
theorem forms_ (w : World) : Calls Tryz.prog 76 #[] w (Formed w) := by
  have H := Lib.hid (show Blk (w.alloc (.cells #[.string ⟨#[109, 97, 108, 108, 111, 99]⟩, .bool false, .int .i64 1, .bool false, .bool true, .string ⟨#[99, 97, 108, 108, 111, 99]⟩, .bool false, .int .i64 2, .bool false, .bool true, .string ⟨#[97, 108, 105, 103, 110, 101, 100]⟩, .bool false, .int .i64 2, .bool false, .bool true, .string ⟨#[114, 101, 97, 108, 108, 111, 99]⟩, .bool true, .int .i64 1, .bool false, .bool true, .string ⟨#[102, 114, 101, 101]⟩, .bool true, .int .i64 0, .bool false, .bool false, .string ⟨#[117, 115, 97, 98, 108, 101]⟩, .bool true, .int .i64 0, .bool false, .bool false, .string ⟨#[108, 111, 97, 100]⟩, .bool true, .int .i64 0, .bool false, .bool false, .string ⟨#[115, 116, 111, 114, 101]⟩, .bool true, .int .i64 1, .bool false, .bool false, .string ⟨#[108, 111, 97, 100, 119, 111, 114, 100]⟩, .bool true, .int .i64 0, .bool false, .bool false, .string ⟨#[115, 116, 111, 114, 101, 119, 111, 114, 100]⟩, .bool true, .int .i64 1, .bool false, .bool false, .string ⟨#[114, 101, 97, 100]⟩, .bool true, .int .i64 1, .bool false, .bool false, .string ⟨#[119, 114, 105, 116, 101]⟩, .bool true, .int .i64 0, .bool true, .bool false, .string ⟨#[116, 114, 105, 109]⟩, .bool false, .int .i64 0, .bool false, .bool false, .string ⟨#[115, 116, 97, 116, 115]⟩, .bool false, .int .i64 0, .bool false, .bool false] 148)) w.heap.size 148 formCells.toList from Blk.new w formCells 148)
  go_enter Tryz.func76, Tryz.ntmps76
  go_wp2_with fail
  go_ret
  exact ⟨w.heap.size, Nat.le_refl _, rfl, H.out, (Touch.refl _ _).alloc _⟩

theorem form_row (k : Nat) (hk : k < 14) (j : Nat) (hj : j < 5) : formCells.toList[k * 5 + j]? = (formRow k)[j]? := by
  match k, hk, j, hj with
  | 0, _, 0, _ => rfl
  | 0, _, 1, _ => rfl
  | 0, _, 2, _ => rfl
  | 0, _, 3, _ => rfl
  | 0, _, 4, _ => rfl
  | 1, _, 0, _ => rfl
  | 1, _, 1, _ => rfl
  | 1, _, 2, _ => rfl
  | 1, _, 3, _ => rfl
  | 1, _, 4, _ => rfl
  | 2, _, 0, _ => rfl
  | 2, _, 1, _ => rfl
  | 2, _, 2, _ => rfl
  | 2, _, 3, _ => rfl
  | 2, _, 4, _ => rfl
  | 3, _, 0, _ => rfl
  | 3, _, 1, _ => rfl
  | 3, _, 2, _ => rfl
  | 3, _, 3, _ => rfl
  | 3, _, 4, _ => rfl
  | 4, _, 0, _ => rfl
  | 4, _, 1, _ => rfl
  | 4, _, 2, _ => rfl
  | 4, _, 3, _ => rfl
  | 4, _, 4, _ => rfl
  | 5, _, 0, _ => rfl
  | 5, _, 1, _ => rfl
  | 5, _, 2, _ => rfl
  | 5, _, 3, _ => rfl
  | 5, _, 4, _ => rfl
  | 6, _, 0, _ => rfl
  | 6, _, 1, _ => rfl
  | 6, _, 2, _ => rfl
  | 6, _, 3, _ => rfl
  | 6, _, 4, _ => rfl
  | 7, _, 0, _ => rfl
  | 7, _, 1, _ => rfl
  | 7, _, 2, _ => rfl
  | 7, _, 3, _ => rfl
  | 7, _, 4, _ => rfl
  | 8, _, 0, _ => rfl
  | 8, _, 1, _ => rfl
  | 8, _, 2, _ => rfl
  | 8, _, 3, _ => rfl
  | 8, _, 4, _ => rfl
  | 9, _, 0, _ => rfl
  | 9, _, 1, _ => rfl
  | 9, _, 2, _ => rfl
  | 9, _, 3, _ => rfl
  | 9, _, 4, _ => rfl
  | 10, _, 0, _ => rfl
  | 10, _, 1, _ => rfl
  | 10, _, 2, _ => rfl
  | 10, _, 3, _ => rfl
  | 10, _, 4, _ => rfl
  | 11, _, 0, _ => rfl
  | 11, _, 1, _ => rfl
  | 11, _, 2, _ => rfl
  | 11, _, 3, _ => rfl
  | 11, _, 4, _ => rfl
  | 12, _, 0, _ => rfl
  | 12, _, 1, _ => rfl
  | 12, _, 2, _ => rfl
  | 12, _, 3, _ => rfl
  | 12, _, 4, _ => rfl
  | 13, _, 0, _ => rfl
  | 13, _, 1, _ => rfl
  | 13, _, 2, _ => rfl
  | 13, _, 3, _ => rfl
  | 13, _, 4, _ => rfl

theorem form_cell {w : World} {g : Nat} (B : Blk w g 148 formCells.toList) (k : Nat) (hk : k < 14) (j : Nat) (hj : j < 5) : w.cell? ⟨g, k * 5 + j, none⟩ = (formRow k)[j]? := by
  rw [B.cell]
  exact form_row k hk j hj

theorem splitC_le (c : UInt8) (s : List UInt8) : ∀ x ∈ Txt.splitC c s, x.length ≤ s.length := by
  induction s with
  | nil => intro x hx; simp [Txt.splitC] at hx; simp [hx]
  | cons y s ih =>
    intro x hx
    unfold Txt.splitC at hx
    split at hx
    · rcases List.mem_cons.1 hx with h | h
      · simp [h]
      · have := ih x h; simp; omega
    · split at hx
      · rename_i he
        simp at hx; simp [hx]
      · rename_i v ws he
        rw [he] at ih
        rcases List.mem_cons.1 hx with h | h
        · have := ih v (by simp); simp [h]; omega
        · have := ih x (by simp [h]); simp; omega

theorem splitC_ne (c : UInt8) (s : List UInt8) : Txt.splitC c s ≠ [] := by
  cases s with
  | nil => simp [Txt.splitC]
  | cons y s =>
    unfold Txt.splitC
    split
    · simp
    · split <;> simp

/-- a text, parted at a byte, in memory -/
def Parted (c : UInt8) (l : List UInt8) (w : World) (e : Ending) (w' : World) : Prop :=
  ∃ g, w.heap.size ≤ g ∧ e = .returned (.slice (some ⟨g, 0, none⟩) (Txt.splitC c l).length (Txt.splitC c l).length) ∧ Strs w' g (Txt.splitC c l) (some ⟨g, 0, none⟩) (Txt.splitC c l).length ∧ g < w'.heap.size ∧ Touch Nothing w w'

theorem split_ (c : UInt8) (s : ByteArray) (w : World) (hs : s.size ≤ 1048576) (G : Glob w) : Calls Tryz.prog 31 #[.string s, .string ⟨#[c]⟩] w (Parted c s.data.toList w) := by
  obtain ⟨m, hm⟩ := G.most
  refine (Tryz.strings_Split s ⟨#[c]⟩ m w (by omega) hm (Nat.le_refl 1)).mono ?_
  rintro e w' ⟨rfl, rfl⟩
  obtain ⟨h1, h2⟩ := Txt.split_lib c s.data.toList
  have hc : Lib.countB s ⟨#[c]⟩ = Lib.count s.data.toList [c] := rfl
  have hd := Lib.splitB_data ⟨#[c]⟩ 0 (Lib.countB s ⟨#[c]⟩) s
  rw [hc, h1] at hd
  rw [hc, h2]
  refine ⟨w.heap.size, Nat.le_refl _, rfl, ⟨Nat.le_refl _, fun _ => ⟨0, rfl, fun i x hx => ?_⟩⟩, by simp, (Touch.refl _ _).alloc _⟩
  have B := Blk.new w (List.map Value.string (Lib.splitB ⟨#[c]⟩ 0 (Lib.count s.data.toList [c]) s)).toArray 9
  rw [show (0 : Nat) + i = i by omega, B.cell]
  rw [← hd, List.getElem?_map, Option.map_eq_some_iff] at hx
  obtain ⟨b, hb, rfl⟩ := hx
  simp [hb]

end Go.Proofs.YtnjcmcnjgdjbiaaGreatDoor

