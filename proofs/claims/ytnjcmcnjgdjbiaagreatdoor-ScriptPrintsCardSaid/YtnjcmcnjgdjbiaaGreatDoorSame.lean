/- The walk of the document's Same, on calls that are the same. Conditions: both slices' cells and bytes can be read. -/
import Derived.Test.YtnjcmcnjgdjbiaaGreatDoorFlds
import Derived.Laws.IdiomStrings
import Derived.Laws.BytesArg
namespace Go.Proofs.YtnjcmcnjgdjbiaaGreatDoor
open Go.RowKit

/-- bytes that can be read -/
structure RdB (w : World) (dp : Option Addr) (dn : Nat) (dat : List UInt8) : Prop where
  len : dn = dat.length
  none_ : dp = none → dat = []
  data : ∀ a, dp = some a → ∀ (j : Nat) x, dat[j]? = some x → w.cell? (a.add j) = some (.int .u8 x.toNat)

/-- call i of a slice that can be read -/
structure RdC (w : World) (g off i : Nat) (c : CallV) (dat : List UInt8) : Prop where
  cell : ∀ (j : Nat) v, c.cells[j]? = some v → w.cell? ⟨g, off + i * 7 + j, none⟩ = some v
  bytes : RdB w c.dp c.dn dat

/-- a slice of calls that can be read -/
structure RdAll (w : World) (p : Option Addr) (n : Nat) (cs : List CallV) (ds : List (List UInt8)) : Prop where
  len : n = cs.length
  len2 : n = ds.length
  each : 0 < n → ∃ g off, p = some ⟨g, off, none⟩ ∧ ∀ (i : Nat) c d, cs[i]? = some c → ds[i]? = some d → RdC w g off i c d

theorem RdB.touch {w w' : World} {dp : Option Addr} {dn : Nat} {dat : List UInt8} (h : RdB w dp dn dat) (T : Touch Nothing w w') : RdB w' dp dn dat :=
  ⟨h.len, h.none_, fun a ha j x hx => by
    have h1 := h.data a ha j x hx
    have hlt := World.block_lt_of_cell? w _ h1
    exact (T.cell (p := a.add j) hlt (fun h => h)).trans h1⟩

theorem RdC.touch {w w' : World} {g off i : Nat} {c : CallV} {dat : List UInt8} (h : RdC w g off i c dat) (T : Touch Nothing w w') : RdC w' g off i c dat :=
  ⟨fun j v hj => by
    have h1 := h.cell j v hj
    have hlt := World.block_lt_of_cell? w _ h1
    exact (T.cell (p := ⟨g, off + i * 7 + j, none⟩) hlt (fun h => h)).trans h1, h.bytes.touch T⟩

theorem RdAll.touch {w w' : World} {p : Option Addr} {n : Nat} {cs : List CallV} {ds : List (List UInt8)} (h : RdAll w p n cs ds) (T : Touch Nothing w w') : RdAll w' p n cs ds :=
  ⟨h.len, h.len2, fun hn => by
    obtain ⟨g, off, hp, he⟩ := h.each hn
    exact ⟨g, off, hp, fun i c d hc hd => (he i c d hc hd).touch T⟩⟩

theorem RdB.conv {w : World} {dp : Option Addr} {dn : Nat} {dat : List UInt8} (h : RdB w dp dn dat) (dc : Nat) : (convert 34 9 (.slice dp dn dc)).run Tryz.prog w = .ok (.string ⟨dat.toArray⟩) w := by
  cases dp with
  | none =>
    have := h.none_ rfl
    subst this
    exact run_convert_bytes_nil w 34 5 Tryz.underlying34 Tryz.underlying5 dn dc 9 Tryz.underlying9
  | some a =>
    rw [h.len]
    exact run_convert_bytes_back w 34 9 5 a dc dat Tryz.underlying34 Tryz.underlying5 Tryz.underlying9 (fun j hj => h.data a rfl j _ (List.getElem?_eq_getElem hj))

/-- two calls as the program holds them are the same but for where their bytes lie -/
def LikeC (c d : CallV) : Prop := c.op = d.op ∧ c.ref = d.ref ∧ c.p = d.p ∧ c.a = d.a ∧ c.b = d.b ∧ c.deny = d.deny

set_option maxRecDepth 100000 in
set_option maxHeartbeats 8000000 in
theorem same_ (w : World) (pa pb : Option Addr) (n ca cb : Nat) (cs ds : List CallV) (dats : List (List UInt8)) (hn : n ≤ 281474976710656) (h1 : RdAll w pa n cs dats) (h2 : RdAll w pb n ds dats) (hl : ∀ (i : Nat) c d, cs[i]? = some c → ds[i]? = some d → LikeC c d) :
    Calls Tryz.prog 17 #[.slice pa n ca, .slice pb n cb] w fun e w' => e = .returned (.bool true) ∧ Touch Nothing w w' := by
  have H1 := Lib.hid h1
  have H2 := Lib.hid h2
  have HLk := Lib.hid hl
  clear h1 h2 hl
  go_enter Tryz.func17, Tryz.ntmps17
  go_wp2_with fail
  go_loopw [5] (fun a wr => ∃ k : Nat, k ≤ n ∧ a = .int .i64 k ∧ Touch Nothing w wr) (fun a _ => n - (intOf a).toNat)
  case atStart => exact ⟨0, by omega, rfl, Touch.refl _ _⟩
  case round =>
    obtain ⟨k, hk, rfl, T⟩ := hrel
    have HT := Lib.hid T
    clear T
    by_cases hlt : k < n
    · obtain ⟨ga, oa, hpa, ea⟩ := H1.out.each (by omega)
      obtain ⟨gb, ob, hpb, eb⟩ := H2.out.each (by omega)
      subst hpa hpb
      obtain ⟨c, hc⟩ : ∃ c, cs[k]? = some c := ⟨_, List.getElem?_eq_getElem (by have := H1.out.len; omega)⟩
      obtain ⟨d, hd⟩ : ∃ d, ds[k]? = some d := ⟨_, List.getElem?_eq_getElem (by have := H2.out.len; omega)⟩
      obtain ⟨dat, hdat⟩ : ∃ x, dats[k]? = some x := ⟨_, List.getElem?_eq_getElem (by have := H1.out.len2; omega)⟩
      have HA := Lib.hid ((ea k c dat hc hdat).touch HT.out)
      have HB := Lib.hid ((eb k d dat hd hdat).touch HT.out)
      obtain ⟨l1, l2, l3, l4, l5, l6⟩ := HLk.out k c d hc hd
      obtain ⟨op, ref, p, a, b, deny, dp, dn, dc⟩ := c
      obtain ⟨op', ref', p', a', b', deny', dp', dn', dc'⟩ := d
      simp only at l1 l2 l3 l4 l5 l6
      subst l1 l2 l3 l4 l5 l6
      clear ea eb hc hd hdat
      have a0 : wr.cell? ⟨ga, oa + k * 7, none⟩ = some (.int .i64 op) := HA.out.cell 0 _ rfl
      have a1 : wr.cell? ⟨ga, oa + k * 7 + 1, none⟩ = some (.int .i64 ref) := HA.out.cell 1 _ rfl
      have a2 : wr.cell? ⟨ga, oa + k * 7 + 2, none⟩ = some (.int .u64 p) := HA.out.cell 2 _ rfl
      have a3 : wr.cell? ⟨ga, oa + k * 7 + 3, none⟩ = some (.int .u64 a) := HA.out.cell 3 _ rfl
      have a4 : wr.cell? ⟨ga, oa + k * 7 + 4, none⟩ = some (.int .u64 b) := HA.out.cell 4 _ rfl
      have a5 : wr.cell? ⟨ga, oa + k * 7 + 5, none⟩ = some (.bool deny) := HA.out.cell 5 _ rfl
      have a6 : wr.cell? ⟨ga, oa + k * 7 + 6, none⟩ = some (.slice dp dn dc) := HA.out.cell 6 _ rfl
      have b0 : wr.cell? ⟨gb, ob + k * 7, none⟩ = some (.int .i64 op) := HB.out.cell 0 _ rfl
      have b1 : wr.cell? ⟨gb, ob + k * 7 + 1, none⟩ = some (.int .i64 ref) := HB.out.cell 1 _ rfl
      have b2 : wr.cell? ⟨gb, ob + k * 7 + 2, none⟩ = some (.int .u64 p) := HB.out.cell 2 _ rfl
      have b3 : wr.cell? ⟨gb, ob + k * 7 + 3, none⟩ = some (.int .u64 a) := HB.out.cell 3 _ rfl
      have b4 : wr.cell? ⟨gb, ob + k * 7 + 4, none⟩ = some (.int .u64 b) := HB.out.cell 4 _ rfl
      have b5 : wr.cell? ⟨gb, ob + k * 7 + 5, none⟩ = some (.bool deny) := HB.out.cell 5 _ rfl
      have b6 : wr.cell? ⟨gb, ob + k * 7 + 6, none⟩ = some (.slice dp' dn' dc') := HB.out.cell 6 _ rfl
      have hga : ga < wr.heap.size := World.block_lt_of_cell? wr _ a0
      have hgb : gb < wr.heap.size := World.block_lt_of_cell? wr _ b0
      go_upto_region 8 with fail
      have HT2 := Lib.hid (show Touch Nothing wr ((wr.alloc (.cells #[.int .i64 op, .int .i64 ref, .int .u64 p, .int .u64 a, .int .u64 b, .bool deny, .slice dp dn dc] 43)).alloc (.cells #[.int .i64 op, .int .i64 ref, .int .u64 p, .int .u64 a, .int .u64 b, .bool deny, .slice dp' dn' dc'] 43)) from ((Touch.refl _ wr).alloc _).alloc _)
      have v1 := (HA.out.bytes.touch HT2.out).conv dc
      have v2 := (HB.out.bytes.touch HT2.out).conv dc'
      go_wp2_with fail
      exact ⟨⟨k + 1, by omega, by go_num, HT.out.trans HT2.out⟩, by simp [intOf]; omega⟩
    · obtain rfl : k = n := by omega
      go_wp2_with fail
      go_ret
      exact ⟨rfl, HT.out⟩

end Go.Proofs.YtnjcmcnjgdjbiaaGreatDoor
