/- The walks of script's hex, address2: bytes and addresses as text. Conditions: the bytes can be read. -/
import Derived.Test.YtnjcmcnjgdjbiaaGreatDoorBuild
import Derived.Test.YtnjcmcnjgdjbiaaGreatDoorSame
namespace Go.Proofs.YtnjcmcnjgdjbiaaGreatDoor
open Go.RowKit

/-- bytes that can be read, in a plain row -/
structure RdD (w : World) (dp : Option Addr) (dn : Nat) (dat : List UInt8) : Prop where
  len : dn = dat.length
  none_ : dp = none → dat = []
  data : dat ≠ [] → ∃ g off, dp = some ⟨g, off, none⟩ ∧ ∀ (j : Nat) x, dat[j]? = some x → w.cell? ⟨g, off + j, none⟩ = some (.int .u8 x.toNat)

theorem RdD.below {w w' : World} {dp : Option Addr} {dn : Nat} {dat : List UInt8} (h : RdD w dp dn dat) (T : Below w.heap.size w w') : RdD w' dp dn dat :=
  ⟨h.len, h.none_, fun hne => by
    obtain ⟨g, off, hp, hc⟩ := h.data hne
    refine ⟨g, off, hp, fun j x hj => ?_⟩
    have h1 := hc j x hj
    have hlt := World.block_lt_of_cell? w _ h1
    exact (T.cell (p := ⟨g, off + j, none⟩) hlt).trans h1⟩

theorem RdD.touch {w w' : World} {dp : Option Addr} {dn : Nat} {dat : List UInt8} (h : RdD w dp dn dat) (T : Touch Nothing w w') : RdD w' dp dn dat := h.below T.below

theorem RdD.rdB {w : World} {dp : Option Addr} {dn : Nat} {dat : List UInt8} (h : RdD w dp dn dat) : RdB w dp dn dat :=
  ⟨h.len, h.none_, fun a ha j x hj => by
    obtain ⟨g, off, hp, hc⟩ := h.data (by intro e; rw [e] at hj; simp at hj)
    rw [hp] at ha
    cases ha
    rw [Lib.add_plain]
    exact hc j x hj⟩

theorem hexB_snoc (l : List UInt8) (c : UInt8) : Txt.hexB (l ++ [c]) = Txt.hexB l ++ [Txt.hexD (c.toNat / 16)] ++ [Txt.hexD (c.toNat % 16)] := by
  induction l with
  | nil => rfl
  | cons x l ih => simp [Txt.hexB, ih]

def hexDs : ByteArray := ⟨#[48, 49, 50, 51, 52, 53, 54, 55, 56, 57, 97, 98, 99, 100, 101, 102]⟩

theorem hexD_lit (k : Nat) (h : k < 16) (h' : k < (⟨#[48, 49, 50, 51, 52, 53, 54, 55, 56, 57, 97, 98, 99, 100, 101, 102]⟩ : ByteArray).size) : Txt.hexD k = (⟨#[48, 49, 50, 51, 52, 53, 54, 55, 56, 57, 97, 98, 99, 100, 101, 102]⟩ : ByteArray)[k]'h' := by
  have : ∀ k : Fin 16, Txt.hexD k.val = (⟨#[48, 49, 50, 51, 52, 53, 54, 55, 56, 57, 97, 98, 99, 100, 101, 102]⟩ : ByteArray)[k.val]'k.isLt := by decide
  exact this ⟨k, h⟩

set_option maxRecDepth 100000 in
set_option maxHeartbeats 4000000 in
theorem hex_ (dp : Option Addr) (dn dc : Nat) (dat : List UInt8) (w : World) (hd : dat.length ≤ 65536) (R : RdD w dp dn dat) : Calls Tryz.prog 117 #[.slice dp dn dc] w (Texted (Txt.hexT dat) w) := by
  obtain rfl := R.len
  by_cases h0 : dat = []
  · subst h0
    clear R
    go_enter Tryz.func117, Tryz.ntmps117
    go_wp2_with fail
    go_ret
    exact ⟨rfl, Touch.refl _ _⟩
  · have hpos : 0 < dat.length := List.length_pos_iff.2 h0
    obtain ⟨g, off, rfl, hc⟩ := R.data h0
    have hglt : g < w.heap.size := by
      obtain ⟨x, hx⟩ : ∃ x, dat[0]? = some x := ⟨_, List.getElem?_eq_getElem hpos⟩
      exact World.block_lt_of_cell? w _ (hc 0 x hx)
    have HC := Lib.hid hc
    have e1 : ((dat.length : Int) == 0) = false := by rw [beq_eq_false_iff_ne]; omega
    have e2 : (dat.length == 0) = false := by rw [beq_eq_false_iff_ne]; omega
    have HB0 := Lib.hid (show IsB w.heap.size w.heap.size [] (w.alloc (.cells #[.pointer none, .slice none 0 0] 134)) from Lib.fresh_isBuilder 134 5 w)
    have HT := Lib.hid (show Txt.hexT dat = Txt.hexB dat by unfold Txt.hexT; rw [if_neg h0])
    have hsz : (w.alloc (.cells #[.pointer none, .slice none 0 0] 134)).heap.size = w.heap.size + 1 := by simp
    have HZ := Lib.hid hsz
    clear h0 hc hsz R
    go_enter Tryz.func117, Tryz.ntmps117
    go_wp2_with fail
    go_loopw [11] (fun a wr => ∃ k : Nat, k ≤ dat.length ∧ a = .int .i64 k ∧ IsB w.heap.size w.heap.size (Txt.hexB (dat.take k)) wr ∧ Below w.heap.size w wr) (fun a _ => dat.length - (intOf a).toNat)
    case atStart => exact ⟨0, by omega, rfl, HB0.out, (Below.refl _ w).alloc (Nat.le_refl _) _⟩
    case round =>
      obtain ⟨k, hk, rfl, hI, hBl⟩ := hrel
      have HI := Lib.hid hI
      have HBl := Lib.hid hBl
      have hsz := hBl.size
      have hlen : (Txt.hexB (dat.take k)).length = 2 * k := by rw [Txt.hexB_length, List.length_take, Nat.min_eq_left hk]
      clear hI hBl
      by_cases hlt : k < dat.length
      · obtain ⟨x, hx⟩ : ∃ x, dat[k]? = some x := ⟨_, List.getElem?_eq_getElem hlt⟩
        have hcell : wr.cell? ⟨g, off + k, none⟩ = some (.int .u8 x.toNat) := (HBl.out.cell (p := ⟨g, off + k, none⟩) hglt).trans (HC.out k x hx)
        have hx8 := x.toNat_lt
        have HX := Lib.hid hx
        clear hx
        go_wp2_with fail
        refine (writeByte_ w.heap.size w.heap.size _ _ wr HI.out (by omega) hsz).mono ?_
        rintro e w1 ⟨rfl, hI1, hB1⟩
        have HI1 := Lib.hid hI1
        have HB1 := Lib.hid hB1
        have hsz1 := hB1.size
        clear hI1 hB1
        go_wp2_with fail
        refine (writeByte_ w.heap.size w.heap.size _ _ w1 HI1.out (by simp; omega) (by omega)).mono ?_
        rintro e w2 ⟨rfl, hI2, hB2⟩
        have HI2 := Lib.hid hI2
        have HB2 := Lib.hid hB2
        clear hI2 hB2
        go_wp2_with fail
        refine ⟨⟨k + 1, by omega, by go_num, ?_, (HBl.out.trans HB1.out).trans HB2.out⟩, by simp [intOf]; omega⟩
        have e : Txt.hexB (dat.take (k + 1)) = Txt.hexB (dat.take k) ++ [Txt.hexD (x.toNat / 16)] ++ [Txt.hexD (x.toNat % 16)] := by
          rw [List.take_add_one, HX.out]
          exact hexB_snoc _ _
        rw [e, hexD_lit (x.toNat / 16) (by omega) (by show _ < 16; omega), hexD_lit (x.toNat % 16) (by omega) (by show _ < 16; omega)]
        exact HI2.out
      · obtain rfl : k = dat.length := by omega
        have HS := Lib.hid (Tryz.Builder_String_any w.heap.size w.heap.size (Txt.hexB dat) wr (by have := HI.out; rwa [List.take_length] at this) hsz)
        go_wp2_with fail
        refine HS.out.mono ?_
        rintro e w1 ⟨rfl, hB1⟩
        have HB1 := Lib.hid hB1
        clear hB1
        go_wp2_with fail
        go_ret
        exact ⟨by rw [HT.out]; rfl, Touch.of_below (HBl.out.trans HB1.out)⟩

theorem dec_len (n : Nat) (h : n < 18446744073709551616) : (Txt.dec n).length ≤ 20 := by
  unfold Txt.dec
  rw [Lib.decDigits_length]
  by_cases h0 : n = 0
  · subst h0
    rw [Lib.nDigits_small (by omega)]
    omega
  · have := Lib.numDigits_eq n (by omega) h
    split at this <;> omega

theorem app_list (a b : List UInt8) : ((⟨a.toArray⟩ : ByteArray) ++ (⟨b.toArray⟩ : ByteArray)) = ⟨(a ++ b).toArray⟩ := by
  apply ByteArray.ext
  simp [ByteArray.data_append]

set_option maxRecDepth 100000 in
set_option maxHeartbeats 4000000 in
theorem address2_ (c : CallV) (ref : Nat) (hr : c.ref = ref) (hr2 : ref ≤ 4096) (hp : c.p ≤ Txt.M64) (w : World) (G : Glob w) : Calls Tryz.prog 115 #[c.val] w (Texted (Txt.adrT ref c.p) w) := by
  have hp2 : c.p < 18446744073709551616 := by unfold Txt.M64 at hp; omega
  obtain ⟨op, ref', p, a, b, deny, dp, dn, dc⟩ := c
  simp only at hr hp hp2
  subst hr
  unfold CallV.val
  have HF := Lib.hid (fun W (T : Touch Nothing w W) => formatUint_ p hp2 W (G.touch0 T))
  have HI := Lib.hid (fun W (T : Touch Nothing w W) => itoa_ ref (by omega) W (G.touch0 T))
  have HT0 := Lib.hid (show Touch Nothing w (w.alloc (.cells #[.int .i64 op, .int .i64 ref, .int .u64 p, .int .u64 a, .int .u64 b, .bool deny, .slice dp dn dc] 43)) from (Touch.refl _ w).alloc _)
  have hl1 := dec_len ref (by omega)
  have hl2 := dec_len p hp2
  clear G hp
  by_cases h0 : ref = 0
  · subst h0
    have HA := Lib.hid (show Txt.adrT 0 p = Txt.dec p from rfl)
    go_enter Tryz.func115, Tryz.ntmps115
    go_wp2_with fail
    refine (HF.out _ HT0.out).mono ?_
    rintro e w1 ⟨rfl, T1⟩
    have HT1 := Lib.hid T1
    clear T1
    go_wp2_with fail
    go_ret
    exact ⟨by rw [HA.out]; rfl, HT0.out.trans HT1.out⟩
  · have e1 : ((ref : Int) == 0) = false := by rw [beq_eq_false_iff_ne]; omega
    have e2 : (ref == 0) = false := by rw [beq_eq_false_iff_ne]; omega
    by_cases hp0 : 0 < p
    · have hp1 : (0 : Int) < (p : Int) := by omega
      have HA := Lib.hid (show Txt.adrT ref p = (36 :: Txt.dec ref) ++ (43 :: Txt.dec p) by unfold Txt.adrT; rw [if_neg h0, if_pos hp0]; rfl)
      go_enter Tryz.func115, Tryz.ntmps115
      go_wp2_with fail
      refine (HI.out _ HT0.out).mono ?_
      rintro e w1 ⟨rfl, T1⟩
      have B1 := (Blk.new w #[.int .i64 op, .int .i64 ref, .int .u64 p, .int .u64 a, .int .u64 b, .bool deny, .slice dp dn dc] 43).touch T1 (fun h => h)
      have q2 : w1.cell? ⟨w.heap.size, 2, none⟩ = some (.int .u64 p) := B1.cell 2
      have hlt := B1.lt
      have HT1 := Lib.hid (HT0.out.trans T1)
      clear T1 B1
      go_wp2_with fail
      refine (HF.out _ HT1.out).mono ?_
      rintro e w2 ⟨rfl, T2⟩
      have HT2 := Lib.hid (HT1.out.trans T2)
      clear T2
      go_wp2_with fail
      go_ret
      refine ⟨?_, HT2.out⟩
      rw [HA.out]
      show Ending.returned (.string (((⟨[36].toArray⟩ : ByteArray) ++ ⟨(Txt.dec ref).toArray⟩) ++ ((⟨[43].toArray⟩ : ByteArray) ++ ⟨(Txt.dec p).toArray⟩))) = _
      rw [app_list, app_list, app_list]
      rfl
    · obtain rfl : p = 0 := by omega
      have HA := Lib.hid (show Txt.adrT ref 0 = 36 :: Txt.dec ref by unfold Txt.adrT; rw [if_neg h0, if_neg hp0]; simp)
      go_enter Tryz.func115, Tryz.ntmps115
      go_wp2_with fail
      refine (HI.out _ HT0.out).mono ?_
      rintro e w1 ⟨rfl, T1⟩
      have B1 := (Blk.new w #[.int .i64 op, .int .i64 ref, .int .u64 (0 : Nat), .int .u64 a, .int .u64 b, .bool deny, .slice dp dn dc] 43).touch T1 (fun h => h)
      have q2 : w1.cell? ⟨w.heap.size, 2, none⟩ = some (.int .u64 (0 : Nat)) := B1.cell 2
      have hlt := B1.lt
      have HT1 := Lib.hid (HT0.out.trans T1)
      clear T1 B1
      go_wp2_with fail
      go_ret
      refine ⟨?_, HT1.out⟩
      rw [HA.out]
      show Ending.returned (.string ((⟨[36].toArray⟩ : ByteArray) ++ ⟨(Txt.dec ref).toArray⟩)) = _
      rw [app_list]
      rfl

end Go.Proofs.YtnjcmcnjgdjbiaaGreatDoor
