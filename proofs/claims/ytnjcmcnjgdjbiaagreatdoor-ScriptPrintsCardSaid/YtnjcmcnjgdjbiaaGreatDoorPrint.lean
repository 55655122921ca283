/- The walk of script.Print: its text, of calls that can be read. Conditions: numbers in their kinds' ranges. -/
import Derived.Test.YtnjcmcnjgdjbiaaGreatDoorToldAll
namespace Go.Proofs.YtnjcmcnjgdjbiaaGreatDoor
open Go.RowKit

theorem IsB.touch {B b : Nat} {l : List UInt8} {w w' : World} {S : Nat → Prop} (h : IsB B b l w) (T : Touch S w w') (hS : ∀ g, B ≤ g → ¬ S g) : IsB B b l w' := by
  have one : ∀ p, Lib.BuilderAt 134 5 B b p (Lib.byteCells l) w → Lib.BuilderAt 134 5 B b p (Lib.byteCells l) w' := by
    rintro p ⟨hB, v, hb, ho, hn⟩
    refine ⟨hB, v, ?_, owns_touch ho T (fun g hg _ => hS g hg), hn⟩
    have hlt : b < w.heap.size := (Array.getElem?_eq_some_iff.1 hb).1
    rw [T.block b hlt (hS b hB)]
    exact hb
  rcases h with h | h
  · exact .inl (one _ h)
  · exact .inr (one _ h)

theorem text_len (x : Txt.Cx) (h : Txt.tellable x = true) (hp : x.p ≤ Txt.M64) (ha : x.a ≤ Txt.M64) (hb : x.b ≤ Txt.M64) : (Txt.textOf x.cd).length ≤ 200000 := by
  unfold Txt.tellable at h
  rw [Bool.and_eq_true, decide_eq_true_eq, Txt.okCd_iff] at h
  obtain ⟨_, ⟨h1, h2⟩, h3, h4, _⟩ := h
  have e1 : (Txt.opOf x.cd).length ≤ 16 := by
    unfold Txt.opOf
    obtain ⟨k, hk⟩ : ∃ k, x.cd.op - 1 = k := ⟨_, rfl⟩
    rw [hk]
    have hk14 : k < 14 := by omega
    exact (show ∀ k : Fin 14, (Txt.opWords.getD k.val []).length ≤ 16 by decide) ⟨k, hk14⟩
  unfold Txt.M64 at hp ha hb
  have d1 := dec_len x.cd.p (by show x.p < _; omega)
  have d2 := dec_len x.cd.a (by show x.a < _; omega)
  have d3 := dec_len x.cd.b (by show x.b < _; omega)
  have d4 := dec_len x.cd.ref (by omega)
  have d5 : (Txt.hexT x.cd.data).length ≤ 131073 := hex_len _ h4
  have d6 : (Txt.adrT x.cd.ref x.cd.p).length ≤ 42 := by
    unfold Txt.adrT
    split
    · omega
    · split <;> simp <;> omega
  have e2 : (Txt.R (Txt.adrWs (Txt.formOf x.cd.op) x.cd)).length ≤ 43 := by
    unfold Txt.adrWs; split <;> simp [Txt.R] <;> omega
  have e3 : (Txt.R (Txt.numWs (Txt.formOf x.cd.op) x.cd)).length ≤ 42 := by
    unfold Txt.numWs
    split
    · simp [Txt.R]
    · split <;> simp [Txt.R] <;> omega
  have e4 : (Txt.R (Txt.datWs (Txt.formOf x.cd.op) x.cd)).length ≤ 131074 := by
    unfold Txt.datWs; split <;> simp [Txt.R] <;> omega
  have e5 : (Txt.R (Txt.denyWs x.cd)).length ≤ 2 := by
    unfold Txt.denyWs; split <;> simp [Txt.R]
  have hR : ∀ a b : List (List UInt8), (Txt.R (a ++ b)).length = (Txt.R a).length + (Txt.R b).length := by intro a b; simp [Txt.R]
  unfold Txt.textOf Txt.restWs Txt.fieldWs
  rw [List.length_append, hR, hR, hR]
  omega

/-- the call of a row -/
def cxOf (c : CallV) (d : List UInt8) : Txt.Cx := ⟨c.op, c.ref, c.p, c.a, c.b, c.deny, d⟩
def cxs : List CallV → List (List UInt8) → List Txt.Cx
  | c :: cs, d :: ds => cxOf c d :: cxs cs ds
  | _, _ => []

theorem cxs_at : ∀ (cs : List CallV) (ds : List (List UInt8)) (k : Nat) c d, cs[k]? = some c → ds[k]? = some d → (cxs cs ds).drop k = cxOf c d :: (cxs cs ds).drop (k + 1)
  | c' :: cs, d' :: ds, 0, c, d, hc, hd => by cases hc; cases hd; rfl
  | _ :: cs, _ :: ds, k + 1, c, d, hc, hd => cxs_at cs ds k c d hc hd
  | [], _, k, c, d, hc, hd => by simp at hc
  | _ :: _, [], k, c, d, hc, hd => by simp at hd

theorem cxs_length : ∀ (cs : List CallV) (ds : List (List UInt8)), cs.length = ds.length → (cxs cs ds).length = cs.length
  | [], _, _ => by cases ‹List (List UInt8)› <;> rfl
  | _ :: cs, [], h => by simp at h
  | _ :: cs, _ :: ds, h => by simp only [cxs, List.length_cons]; rw [cxs_length cs ds (by simpa using h)]

/-- calls that can be read, their bytes in plain rows -/
structure RdP (w : World) (p : Option Addr) (n : Nat) (cs : List CallV) (ds : List (List UInt8)) : Prop where
  len : n = cs.length
  len2 : n = ds.length
  each : 0 < n → ∃ g off, p = some ⟨g, off, none⟩ ∧ ∀ (i : Nat) c d, cs[i]? = some c → ds[i]? = some d → (∀ (j : Nat) v, c.cells[j]? = some v → w.cell? ⟨g, off + i * 7 + j, none⟩ = some v) ∧ RdD w c.dp c.dn d

theorem RdP.rdAll {w : World} {p : Option Addr} {n : Nat} {cs : List CallV} {ds : List (List UInt8)} (h : RdP w p n cs ds) : RdAll w p n cs ds :=
  ⟨h.len, h.len2, fun hn => by
    obtain ⟨g, off, hp, he⟩ := h.each hn
    exact ⟨g, off, hp, fun i c d hc hd => ⟨(he i c d hc hd).1, (he i c d hc hd).2.rdB⟩⟩⟩

theorem RdP.below {w w' : World} {p : Option Addr} {n : Nat} {cs : List CallV} {ds : List (List UInt8)} (h : RdP w p n cs ds) (T : Below w.heap.size w w') : RdP w' p n cs ds :=
  ⟨h.len, h.len2, fun hn => by
    obtain ⟨g, off, hp, he⟩ := h.each hn
    refine ⟨g, off, hp, fun i c d hc hd => ⟨fun j v hj => ?_, (he i c d hc hd).2.below T⟩⟩
    have h1 := (he i c d hc hd).1 j v hj
    exact (T.cell (p := ⟨g, off + i * 7 + j, none⟩) (World.block_lt_of_cell? w _ h1)).trans h1⟩

theorem RdP.touch {w w' : World} {p : Option Addr} {n : Nat} {cs : List CallV} {ds : List (List UInt8)} (h : RdP w p n cs ds) (T : Touch Nothing w w') : RdP w' p n cs ds := h.below T.below

/-- a call's numbers are of their kinds -/
structure OkV (c : CallV) : Prop where
  op : -9223372036854775808 ≤ c.op ∧ c.op < 9223372036854775808
  p : c.p ≤ Txt.M64
  a : c.a ≤ Txt.M64
  b : c.b ≤ Txt.M64

def Printed (xs : List Txt.Cx) (w : World) (e : Ending) (w' : World) : Prop := e = .returned (.tuple #[.string ⟨(Txt.printT xs).1.toArray⟩, .int .i64 (Txt.printT xs).2]) ∧ Touch Nothing w w'

theorem app_nl (acc ts : List UInt8) : acc ++ (ts ++ [10]) = acc ++ ((⟨ts.toArray⟩ : ByteArray) ++ (⟨#[10]⟩ : ByteArray)).data.toList := by
  rw [show (⟨#[10]⟩ : ByteArray) = ⟨[(10 : UInt8)].toArray⟩ from rfl, app_list]

set_option maxRecDepth 100000 in
set_option maxHeartbeats 4000000 in
theorem print_ (pa : Option Addr) (n ca : Nat) (cs : List CallV) (ds : List (List UInt8)) (w : World) (G : Glob w) (R : RdP w pa n cs ds) (hv : ∀ c ∈ cs, OkV c) (hn : n ≤ 281474976710656) :
    Calls Tryz.prog 29 #[.slice pa n ca] w (Printed (cxs cs ds) w) := by
  have HG := Lib.hid G
  have HR := Lib.hid R
  have HV := Lib.hid hv
  have hlen : (cxs cs ds).length = n := by rw [cxs_length _ _ (by have := R.len; have := R.len2; omega)]; exact R.len.symm
  have HL := Lib.hid hlen
  clear G R hv hlen
  by_cases hl : 4096 < n
  · have HP := Lib.hid (show Txt.printT (cxs cs ds) = ([], 6) by unfold Txt.printT; rw [HL.out, if_pos hl])
    have e1 : decide ((4096 : Int) < (n : Int)) = true := by simp; omega
    have e2 : decide (4096 < n) = true := by simp; omega
    go_enter Tryz.func29, Tryz.ntmps29
    go_wp2_with fail
    go_ret2
    exact ⟨by rw [HP.out]; rfl, Touch.refl _ _⟩
  · have HP := Lib.hid (show Txt.printT (cxs cs ds) = Txt.printGo (cxs cs ds) [] by unfold Txt.printT; rw [HL.out, if_neg hl])
    have e1 : decide ((4096 : Int) < (n : Int)) = false := by simp; omega
    have e2 : decide (4096 < n) = false := by simp; omega
    have HB0 := Lib.hid (show IsB w.heap.size w.heap.size [] (w.alloc (.cells #[.pointer none, .slice none 0 0] 134)) from Lib.fresh_isBuilder 134 5 w)
    go_enter Tryz.func29, Tryz.ntmps29
    go_wp2_with fail
    go_loopw [14] (fun a wr => ∃ (k : Nat) (acc : List UInt8), k ≤ n ∧ a = .int .i64 k ∧ IsB w.heap.size w.heap.size acc wr ∧ Below w.heap.size w wr ∧ acc.length ≤ 1048576 ∧ Txt.printGo (cxs cs ds) [] = Txt.printGo ((cxs cs ds).drop k) acc) (fun a _ => n - (intOf a).toNat)
    case atStart => exact ⟨0, [], by omega, rfl, HB0.out, (Below.refl _ w).alloc (Nat.le_refl _) _, by simp, rfl⟩
    case round =>
      obtain ⟨k, acc, hk, rfl, hI, hBl, hz, hgo⟩ := hrel
      have HI := Lib.hid hI
      have HBl := Lib.hid hBl
      have HGO := Lib.hid hgo
      have hsz := hBl.size
      clear hI hBl hgo
      by_cases hlt : k < n
      · obtain ⟨ga, oa, hpa, ea⟩ := (HR.out.below HBl.out).each (by omega)
        subst hpa
        obtain ⟨c, hc⟩ : ∃ c, cs[k]? = some c := ⟨_, List.getElem?_eq_getElem (by have := HR.out.len; omega)⟩
        obtain ⟨dat, hdat⟩ : ∃ x, ds[k]? = some x := ⟨_, List.getElem?_eq_getElem (by have := HR.out.len2; omega)⟩
        have HA := Lib.hid (ea k c dat hc hdat)
        have HX := Lib.hid (cxs_at cs ds k c dat hc hdat)
        have HO := Lib.hid (HV.out c (List.mem_of_getElem? hc))
        obtain ⟨op, ref, p, a, b, deny, dp, dn, dc⟩ := c
        clear ea hc hdat
        have a0 : wr.cell? ⟨ga, oa + k * 7, none⟩ = some (.int .i64 op) := HA.out.1 0 _ rfl
        have a1 : wr.cell? ⟨ga, oa + k * 7 + 1, none⟩ = some (.int .i64 ref) := HA.out.1 1 _ rfl
        have a2 : wr.cell? ⟨ga, oa + k * 7 + 2, none⟩ = some (.int .u64 p) := HA.out.1 2 _ rfl
        have a3 : wr.cell? ⟨ga, oa + k * 7 + 3, none⟩ = some (.int .u64 a) := HA.out.1 3 _ rfl
        have a4 : wr.cell? ⟨ga, oa + k * 7 + 4, none⟩ = some (.int .u64 b) := HA.out.1 4 _ rfl
        have a5 : wr.cell? ⟨ga, oa + k * 7 + 5, none⟩ = some (.bool deny) := HA.out.1 5 _ rfl
        have a6 : wr.cell? ⟨ga, oa + k * 7 + 6, none⟩ = some (.slice dp dn dc) := HA.out.1 6 _ rfl
        have HTw := Lib.hid (show Touch Nothing w wr from Touch.of_below HBl.out)
        have HI1 := Lib.hid (HI.out.touch ((Touch.refl Nothing wr).alloc (.cells #[.int .i64 op, .int .i64 ref, .int .u64 p, .int .u64 a, .int .u64 b, .bool deny, .slice dp dn dc] 43)) (fun _ _ h => h))
        have HT1 := Lib.hid (HTw.out.alloc (.cells #[.int .i64 op, .int .i64 ref, .int .u64 p, .int .u64 a, .int .u64 b, .bool deny, .slice dp dn dc] 43))
        have HBl1 := Lib.hid (HBl.out.alloc hsz (.cells #[.int .i64 op, .int .i64 ref, .int .u64 p, .int .u64 a, .int .u64 b, .bool deny, .slice dp dn dc] 43))
        have HTo := Lib.hid (told_ op ref p a b deny dat dp dn dc (wr.alloc (.cells #[.int .i64 op, .int .i64 ref, .int .u64 p, .int .u64 a, .int .u64 b, .bool deny, .slice dp dn dc] 43)) (HG.out.touch0 HT1.out) HO.out.op HO.out.p HO.out.a HO.out.b (HA.out.2.touch ((Touch.refl Nothing wr).alloc _)))
        have HX2 := Lib.hid (show (cxs cs ds).drop k = ⟨op, ref, p, a, b, deny, dat⟩ :: (cxs cs ds).drop (k + 1) from HX.out)
        obtain ⟨x, hx⟩ : ∃ x : Txt.Cx, (⟨op, ref, p, a, b, deny, dat⟩ : Txt.Cx) = x := ⟨_, rfl⟩
        have HTL := Lib.hid (fun h => text_len x h (by rw [← hx]; exact HO.out.p) (by rw [← hx]; exact HO.out.a) (by rw [← hx]; exact HO.out.b))
        rw [hx] at HX2 HTo
        unfold ToldTo at HTo
        clear HX HO HA hx
        go_wp2_with fail
        refine HTo.out.mono ?_
        rintro e w3 ⟨rfl, T3⟩
        have HI3 := Lib.hid (HI1.out.touch T3 (fun _ _ h => h))
        have HT3 := Lib.hid (HT1.out.trans T3)
        have HBl3 := Lib.hid (show Below w.heap.size w w3 from HT3.out.below)
        have hsz3 := HBl3.out.size
        clear HI1 HT1 HBl1 HTw T3 HTo a0 a1 a2 a3 a4 a5 a6
        by_cases ht : Txt.tellable x = true
        · have hts := HTL.out ht
          obtain ⟨ts, hts2⟩ : ∃ ts, Txt.textOf x.cd = ts := ⟨_, rfl⟩
          rw [if_pos ht, ht, hts2]
          rw [hts2] at hts
          have hz2 : (⟨ts.toArray⟩ : ByteArray).size = ts.length := by simp [ByteArray.size]
          have HTT := Lib.hid ht
          clear ht
          go_wp2_with fail
          refine (Tryz.Builder_Len w.heap.size w.heap.size (Lib.byteCells acc) w3 HI3.out).mono ?_
          rintro e w4 ⟨rfl, rfl⟩
          rw [show (Lib.byteCells acc).length = acc.length by simp [Lib.byteCells]]
          by_cases hfit : acc.length + ts.length + 1 ≤ 1048576
          · have HG2 := Lib.hid (HGO.out.trans (by rw [HX2.out, Txt.printGo, if_pos ⟨HTT.out, by rw [hts2]; exact hfit⟩]))
            have g1 : decide ((acc.length : Int) + ts.length + 1 ≤ 1048576) = true := by simp; omega
            have g2 : decide (acc.length + ts.length + 1 ≤ 1048576) = true := by simp; omega
            go_wp2_with fail
            have hz3 : ((⟨ts.toArray⟩ : ByteArray) ++ (⟨#[10]⟩ : ByteArray)).size = ts.length + 1 := by rw [ByteArray.size_append, hz2]; rfl
            refine (writeString_ w.heap.size w.heap.size acc _ _ HI3.out (by rw [hz3]; omega) hsz3).mono ?_
            rintro e w5 ⟨rfl, hI5, hB5⟩
            have HI5 := Lib.hid hI5
            have HB5 := Lib.hid hB5
            clear hI5 hB5
            go_wp2_with fail
            refine ⟨⟨k + 1, _, by omega, by go_num, HI5.out, HBl3.out.trans HB5.out, ?_, ?_⟩, by simp [intOf]; omega⟩
            · simp; omega
            · rw [HG2.out, hts2]
              exact congrArg (Txt.printGo _) (app_nl acc ts)
          · have HG2 := Lib.hid (HGO.out.trans (by rw [HX2.out, Txt.printGo, if_neg (fun h => hfit (by have := h.2; rw [hts2] at this; exact this))]))
            have g1 : decide ((acc.length : Int) + ts.length + 1 ≤ 1048576) = false := by simp; omega
            have g2 : decide (acc.length + ts.length + 1 ≤ 1048576) = false := by simp; omega
            go_wp2_with fail
            go_ret2
            exact ⟨by rw [HP.out, HG2.out]; rfl, HT3.out⟩
        · have HG2 := Lib.hid (HGO.out.trans (by rw [HX2.out, Txt.printGo, if_neg (fun h => ht h.1)]))
          rw [Bool.not_eq_true] at ht
          rw [ht]
          go_wp2_with fail
          go_ret2
          exact ⟨by rw [HP.out, HG2.out]; rfl, HT3.out⟩
      · obtain rfl : k = n := by omega
        have HG2 := Lib.hid (HGO.out.trans (show _ = (acc, 0) by rw [List.drop_of_length_le (by have := HL.out; omega)]; rfl))
        have HS := Lib.hid (Tryz.Builder_String_any w.heap.size w.heap.size acc wr HI.out hsz)
        go_wp2_with fail
        refine HS.out.mono ?_
        rintro e w1 ⟨rfl, hB1⟩
        have HB1 := Lib.hid hB1
        clear hB1
        go_wp2_with fail
        go_ret2
        exact ⟨by rw [HP.out, HG2.out]; rfl, Touch.of_below (HBl.out.trans HB1.out)⟩

end Go.Proofs.YtnjcmcnjgdjbiaaGreatDoor
