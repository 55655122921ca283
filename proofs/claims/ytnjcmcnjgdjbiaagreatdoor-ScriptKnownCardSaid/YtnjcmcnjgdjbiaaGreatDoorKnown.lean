/- The steps of ScriptKnown's two plays. Conditions: none. Printed by wip/tools/gkn.py. The walk of ScriptKnown. Conditions: none. Printed by wip/tools/gkw.py. -/
import Derived.Test.YtnjcmcnjgdjbiaaGreatDoorSteps
namespace Go.Proofs.YtnjcmcnjgdjbiaaGreatDoor
open Go.RowKit

def knownX : List Txt.Cd := [⟨2, 0, 0, 2, 8, false, []⟩, ⟨12, 1, 0, 0, 0, false, [10, 11]⟩, ⟨11, 1, 1, 3, 0, false, []⟩]
def knownA : List An := [⟨0, 65536, [], 0, 0, 0, 0⟩, ⟨0, 0, [], 0, 0, 0, 0⟩, ⟨0, 0, [11, 0, 0], 0, 0, 0, 0⟩]
def β4 : Bu := { β2 with σ := β2.σ.put 65536 (List.replicate 16 0) }
def β5 : Bu := { β4 with σ := β4.σ.put 65536 [10, 11] }
def knownS : Nat → Bu × List Int
  | 0 => (β0, noParts)
  | 1 => (β4, parts2)
  | _ + 2 => (β5, parts2)

theorem like4 : Like2 β4 := like2.put _ _
theorem like5 : Like2 β5 := like4.put _ _

theorem parse_known : Txt.parseW [99, 97, 108, 108, 111, 99, 32, 50, 32, 56, 10, 119, 114, 105, 116, 101, 32, 36, 49, 32, 48, 97, 48, 98, 10, 114, 101, 97, 100, 32, 36, 49, 43, 49, 32, 51] = (knownX, 0, 0) := by kernel_rfl

theorem bytes5 : β5.σ.bytes 65537 3 = bytesV [11, 0, 0] := by
  have h : (List.range 3).map (fun o => β5.σ.mem (65537 + o)) = [11, 0, 0] := by decide +kernel
  unfold Sp.bytes
  rw [show (fun o => Value.int .u8 ((β5.σ.mem (65537 + o) : Nat) : Int)) = (fun n : Nat => Value.int .u8 (n : Int)) ∘ (fun o => β5.σ.mem (65537 + o)) from rfl, ← List.map_map, h]
  rfl

theorem mul28 (W : World) : Calls Tryz.prog 132 #[.int .u64 (2 : Nat), .int .u64 (8 : Nat)] W fun e w' => e = .returned (.tuple #[.int .u64 0, .int .u64 (2 * 8 : Nat)]) ∧ w' = W :=
  (Tryz.bits_Mul64 2 8 (by omega) (by omega) W).mono fun _ _ h => ⟨h.1, h.2⟩

theorem owned_bytes {w : World} {B : Nat} {dp : Option Addr} {dn dc : Nat} {bs : List UInt8} (h : w.ownsRow B 5 1 (.slice dp dn dc) bs.length (bytesV bs)) (h0 : 0 < bs.length) :
    ∃ g, dp = some ⟨g, 0, none⟩ ∧ dn = bs.length ∧ dn ≤ dc ∧ g < w.heap.size ∧ ∀ j v, (bytesV bs)[j]? = some v → w.cell? ⟨g, j, none⟩ = some v := by
  rcases h.2 with ⟨_, h1⟩ | ⟨g, cap, cur, hv, hb, hg, hc, hm, hsz, ht⟩
  · omega
  · cases hv
    have hlt := (World.ownsRow.lt h g rfl).2
    refine ⟨g, rfl, rfl, hc, hlt, fun j v hj => ?_⟩
    have hjl := (List.getElem?_eq_some_iff.1 hj).1
    rw [World.ownsRow.cellAt h j (by simpa [bytesV] using hjl)]
    exact hj

theorem known_steps (hb s pb B gc cap : Nat) (cs : List CallV) : StepAt hb s pb B cs knownX knownA knownS gc cap := by
  intro k c a w K v aa hc ha R C A hl
  have hk : k < 3 := (List.getElem?_eq_some_iff.1 ha).1
  obtain rfl | rfl | rfl : k = 0 ∨ k = 1 ∨ k = 2 := by omega
  · have hi := C.calls.each 0 c _ hc rfl
    cases ha
    obtain ⟨op, ref, p, aN, b, deny, dp, dn, dc⟩ := c
    obtain ⟨h1, h2, h3, h4, h5, h6, h7⟩ := hi
    simp only at h1 h2 h3 h4 h5 h6
    subst h1 h2 h3 h4 h5 h6
    exact step_calloc R _ v _ rfl 65536 0 (addr_no _ v w rfl) (fun W RW => RW.calloc2 mul28)
  · have hi := C.calls.each 1 c _ hc rfl
    cases ha
    obtain ⟨op, ref, p, aN, b, deny, dp, dn, dc⟩ := c
    obtain ⟨h1, h2, h3, h4, h5, h6, h7⟩ := hi
    simp only at h1 h2 h3 h4 h5 h6
    subst h1 h2 h3 h4 h5 h6
    obtain ⟨g, rfl, rfl, hdc, hgl, hcell⟩ := owned_bytes (bs := [10, 11]) h7 (by decide)
    have hgh : g ≠ hb := fun e => (C.data _ (List.mem_of_getElem? hc) g rfl) (by simp [e])
    exact step_write R _ v 65536 rfl 0 (by simp) (addr_of A _ 0 _ rfl rfl rfl (by simp only []; omega)) (fun W T RW => RW.write2 like4 [10, 11] 2 dc ⟨g, 0, none⟩ (by omega) rfl hdc (by omega) (by decide) (Nat.lt_of_lt_of_le hgl T.size) hgh
      (fun j v hj => by
        have h := hcell j v hj
        have e : (⟨g, 0, none⟩ : Addr).add j = ⟨g, j, none⟩ := by unfold Addr.add; split <;> simp_all
        rw [e]
        exact (T.cell (p := ⟨g, j, none⟩) hgl (fun h => h)).trans h))
  · have hi := C.calls.each 2 c _ hc rfl
    cases ha
    obtain ⟨op, ref, p, aN, b, deny, dp, dn, dc⟩ := c
    obtain ⟨h1, h2, h3, h4, h5, h6, h7⟩ := hi
    simp only at h1 h2 h3 h4 h5 h6
    subst h1 h2 h3 h4 h5 h6
    refine step_read R _ v 65537 rfl [11, 0, 0] rfl (by simp only []; omega) (addr_of A _ 0 _ rfl rfl rfl (by simp only []; omega)) (fun W RW => ?_)
    rw [← bytes5]
    exact RW.read2 like5 65537 3 (by omega) (by omega) (by omega)

def deniedX : List Txt.Cd := [⟨1, 0, 0, 9000, 0, false, []⟩, ⟨5, 1, 0, 0, 0, false, []⟩, ⟨6, 1, 0, 0, 0, false, []⟩, ⟨1, 0, 0, 5000, 0, true, []⟩]
def deniedA : List An := [⟨3, 0, [], 0, 0, 0, 0⟩, ⟨0, 0, [], 0, 0, 0, 0⟩, ⟨1, 0, [], 0, 0, 0, 0⟩, ⟨2, 0, [], 0, 0, 0, 0⟩]
def deniedS : Nat → Bu × List Int := fun _ => (β0, noParts)

theorem parse_denied : Txt.parseW [109, 97, 108, 108, 111, 99, 32, 57, 48, 48, 48, 10, 102, 114, 101, 101, 32, 36, 49, 10, 117, 115, 97, 98, 108, 101, 32, 36, 49, 10, 109, 97, 108, 108, 111, 99, 32, 53, 48, 48, 48, 32, 33] = (deniedX, 0, 0) := by kernel_rfl

theorem denied_steps (hb s pb B gc cap : Nat) (cs : List CallV) : StepAt hb s pb B cs deniedX deniedA deniedS gc cap := by
  intro k c a w K v aa hc ha R C A hl
  have hk : k < 4 := (List.getElem?_eq_some_iff.1 ha).1
  obtain rfl | rfl | rfl | rfl : k = 0 ∨ k = 1 ∨ k = 2 ∨ k = 3 := by omega
  · have hi := C.calls.each 0 c _ hc rfl
    cases ha
    obtain ⟨op, ref, p, aN, b, deny, dp, dn, dc⟩ := c
    obtain ⟨h1, h2, h3, h4, h5, h6, h7⟩ := hi
    simp only at h1 h2 h3 h4 h5 h6
    subst h1 h2 h3 h4 h5 h6
    exact step_malloc R _ v _ rfl 0 3 (addr_no _ v w rfl) (fun W RW => RW.malloc_too)
  · have hi := C.calls.each 1 c _ hc rfl
    cases ha
    obtain ⟨op, ref, p, aN, b, deny, dp, dn, dc⟩ := c
    obtain ⟨h1, h2, h3, h4, h5, h6, h7⟩ := hi
    simp only at h1 h2 h3 h4 h5 h6
    subst h1 h2 h3 h4 h5 h6
    exact step_free R _ v 0 rfl 0 (addr_bad A _ 0 _ rfl rfl (by decide)) (fun W RW => (RW.free_none).mono fun _ _ H => H.heaped)
  · have hi := C.calls.each 2 c _ hc rfl
    cases ha
    obtain ⟨op, ref, p, aN, b, deny, dp, dn, dc⟩ := c
    obtain ⟨h1, h2, h3, h4, h5, h6, h7⟩ := hi
    simp only at h1 h2 h3 h4 h5 h6
    subst h1 h2 h3 h4 h5 h6
    exact step_usable R _ v 0 rfl 0 1 (addr_bad A _ 0 _ rfl rfl (by decide)) (fun W RW => (RW.usable_no 0 0 0 (fun V RV => RV.block_lo 0 (by show 0 < β0.σ.base; decide +kernel))).mono fun _ _ H => H.heaped)
  · have hi := C.calls.each 3 c _ hc rfl
    cases ha
    obtain ⟨op, ref, p, aN, b, deny, dp, dn, dc⟩ := c
    obtain ⟨h1, h2, h3, h4, h5, h6, h7⟩ := hi
    simp only at h1 h2 h3 h4 h5 h6
    subst h1 h2 h3 h4 h5 h6
    exact step_malloc R _ v _ rfl 0 2 (addr_no _ v w rfl) (fun W RW => RW.malloc_deny)

end Go.Proofs.YtnjcmcnjgdjbiaaGreatDoor

namespace Go.Proofs.YtnjcmcnjgdjbiaaGreatDoor
open Go.RowKit

/-- a heap made, and a script played on it -/
structure PlayDone (w w' : World) (K : BuL) (hb s pb g cap n : Nat) (aa : List AnsV) (ax : List An) : Prop where
  answers : Answers w' w.heap.size hb s pb K (.slice (some ⟨g, 0, none⟩) n cap) aa ax
  touch : Touch Nothing w w'

theorem Played.done {w w1 w2 w3 : World} {hb s pb : Nat} {K0 : BuL} {cs : List CallV} {cx : List Txt.Cd} {ax : List An} {st : Nat → Bu × List Int} {gc cap : Nat} {e : Ending} (H : Played w2 hb s pb K0 cs cx ax st gc cap e w3) (T1 : Touch Nothing w w1) (T2 : Touch Nothing w1 w2)
    (F : ∀ k ∈ hb :: s :: pb :: K0.fp, w1.heap.size ≤ k) (ha : ax.length = cs.length) (h0 : 0 < cs.length) :
    ∃ g cap K aa B, e = .returned (.tuple #[.slice (some ⟨g, 0, none⟩) cs.length cap, .int .i64 0]) ∧ Answers w3 B hb s pb K (.slice (some ⟨g, 0, none⟩) cs.length cap) aa ax ∧ Touch Nothing w w3 := by
  obtain ⟨K', aa, ap, an, ac, rfl, hR⟩ := H
  have hA := hR.answers
  obtain ⟨g, cap', hv, -, -⟩ := World.ownsRow.form hA.own (by rw [hR.len]; exact h0)
  cases hv
  rw [hR.len] at hA ⊢
  rw [← ha, List.take_length, ha] at hA
  refine ⟨g, _, K', aa, _, rfl, hA, (T1.trans T2).trans' hR.touch (fun i hi h => ?_)⟩
  have h1 := T1.size
  have := F i (by simp only [List.mem_cons] at h ⊢; rcases h with h | h | h <;> simp [h])
  omega

set_option maxRecDepth 100000 in
set_option maxHeartbeats 8000000 in
theorem known_ (w : World) (G : Glob w) : Calls Tryz.prog 3 #[] w fun e w' => e = .returned (.bool true) ∧ Touch Nothing w w' := by
  have HG := Lib.hid G
  have HF0 := Lib.hid (fun W (T : Touch Nothing w W) => fails_ ⟨#[109, 97, 108, 108, 111, 99, 32, 49, 10, 109, 97, 108, 108, 111, 99, 32, 48, 49]⟩ 1 7 W (G.touch0 T) (by kernel_rfl))
  have HF1 := Lib.hid (fun W (T : Touch Nothing w W) => fails_ ⟨#[109, 97, 108, 108, 111, 99, 32, 32, 49]⟩ 0 7 W (G.touch0 T) (by kernel_rfl))
  have HF2 := Lib.hid (fun W (T : Touch Nothing w W) => fails_ ⟨#[102, 114, 101, 101, 32, 36, 48]⟩ 0 7 W (G.touch0 T) (by kernel_rfl))
  have HF3 := Lib.hid (fun W (T : Touch Nothing w W) => fails_ ⟨#[102, 114, 101, 101, 32, 36, 49, 43, 48]⟩ 0 7 W (G.touch0 T) (by kernel_rfl))
  have HF4 := Lib.hid (fun W (T : Touch Nothing w W) => fails_ ⟨#[116, 114, 105, 109, 32, 33]⟩ 0 7 W (G.touch0 T) (by kernel_rfl))
  have HF5 := Lib.hid (fun W (T : Touch Nothing w W) => fails_ ⟨#[109, 97, 108, 108, 111, 99, 32, 49, 56, 52, 52, 54, 55, 52, 52, 48, 55, 51, 55, 48, 57, 53, 53, 49, 54, 49, 54]⟩ 0 7 W (G.touch0 T) (by kernel_rfl))
  have HF6 := Lib.hid (fun W (T : Touch Nothing w W) => fails_ ⟨#[10]⟩ 0 7 W (G.touch0 T) (by kernel_rfl))
  clear G
  go_enter Tryz.func3, Tryz.ntmps3
  go_wp2_with fail
  refine (awake_ w HG.out).mono ?_
  rintro e w1 ⟨rfl, T1⟩
  have HT1 := Lib.hid T1
  clear T1
  go_wp2_with fail
  refine (HF0.out _ HT1.out).mono ?_
  rintro e w2 ⟨rfl, T⟩
  have HT2 := Lib.hid (HT1.out.trans T)
  clear T
  go_wp2_with fail
  refine (HF1.out _ HT2.out).mono ?_
  rintro e w3 ⟨rfl, T⟩
  have HT3 := Lib.hid (HT2.out.trans T)
  clear T
  go_wp2_with fail
  refine (HF2.out _ HT3.out).mono ?_
  rintro e w4 ⟨rfl, T⟩
  have HT4 := Lib.hid (HT3.out.trans T)
  clear T
  go_wp2_with fail
  refine (HF3.out _ HT4.out).mono ?_
  rintro e w5 ⟨rfl, T⟩
  have HT5 := Lib.hid (HT4.out.trans T)
  clear T
  go_wp2_with fail
  refine (HF4.out _ HT5.out).mono ?_
  rintro e w6 ⟨rfl, T⟩
  have HT6 := Lib.hid (HT5.out.trans T)
  clear T
  go_wp2_with fail
  refine (HF5.out _ HT6.out).mono ?_
  rintro e w7 ⟨rfl, T⟩
  have HT7 := Lib.hid (HT6.out.trans T)
  clear T
  go_wp2_with fail
  refine (HF6.out _ HT7.out).mono ?_
  rintro e w8 ⟨rfl, T⟩
  have HT8 := Lib.hid (HT7.out.trans T)
  clear T
  go_wp2_with fail
  refine (parse_ ⟨#[]⟩ w8 (HG.out.touch0 HT8.out)).mono ?_
  rintro e w9 ⟨dp, dn, dc, cs, rfl, hc, T⟩
  have HT9 := Lib.hid (HT8.out.trans T)
  rw [show Txt.parseW (⟨#[]⟩ : ByteArray).data.toList = ([], 0, 0) from rfl] at hc ⊢
  obtain rfl : cs = [] := List.eq_nil_of_length_eq_zero hc.len
  obtain ⟨dp', dc', hv⟩ := owns_zero hc.own
  cases hv
  clear hc T
  go_wp2_with fail
  refine (parse_ ⟨#[99, 97, 108, 108, 111, 99, 32, 50, 32, 56, 10, 119, 114, 105, 116, 101, 32, 36, 49, 32, 48, 97, 48, 98, 10, 114, 101, 97, 100, 32, 36, 49, 43, 49, 32, 51]⟩ w9 (HG.out.touch0 HT9.out)).mono ?_
  rintro e w10 ⟨dpb, dnb, dcb, csb, rfl, hc, T⟩
  have HT10 := Lib.hid (HT9.out.trans T)
  rw [show Txt.parseW (⟨#[99, 97, 108, 108, 111, 99, 32, 50, 32, 56, 10, 119, 114, 105, 116, 101, 32, 36, 49, 32, 48, 97, 48, 98, 10, 114, 101, 97, 100, 32, 36, 49, 43, 49, 32, 51]⟩ : ByteArray).data.toList = (knownX, 0, 0) from parse_known] at hc ⊢
  have hnb : csb.length = 3 := hc.len
  have hdnb : dnb = 3 := by
    rcases hc.own.2 with ⟨h, h0⟩ | ⟨g, cap, cur, h, _⟩
    · omega
    · cases h; exact hnb
  subst hdnb
  have HCb := Lib.hid hc
  clear hc T
  go_wp2_with fail
  refine (heap_ w10 (HG.out.touch0 HT10.out)).mono ?_
  rintro e w11 ⟨hbb, sb, pbb, Kb, rfl, R, T, F⟩
  obtain ⟨gcb, rfl, -, C⟩ := callers_of HCb.out (by decide) T F
  have HPb := Lib.hid (play_ (cx := knownX) (ax := knownA) (st := knownS) R C (by omega) (by rw [hnb]; rfl) (known_steps hbb sb pbb w11.heap.size gcb dcb csb))
  rw [hnb] at HPb
  have HDb := Lib.hid (fun e w3 (H : Played w11 hbb sb pbb Kb csb knownX knownA knownS gcb dcb e w3) => H.done HT10.out T F (by rw [hnb]; rfl) (by omega))
  rw [hnb] at HDb
  clear R C T F
  go_wp2_with fail
  refine HPb.out.mono ?_
  rintro e w12 H
  obtain ⟨gb, capb, K2b, aab, Bb, rfl, hA, T⟩ := HDb.out _ _ H
  have HT12 := Lib.hid T
  clear H T HPb HDb
  obtain ⟨a2, ha2⟩ : ∃ a, aab[2]? = some a := ⟨_, List.getElem?_eq_getElem (by rw [hA.len]; decide)⟩
  have hi2 := hA.each 2 a2 _ ha2 rfl
  obtain ⟨gd, hdp, hdn, hdc, hgd, hcd⟩ := owned_bytes hi2.own (by decide)
  have a2d : w12.cell? ⟨gb, 16, none⟩ = some (.slice a2.dp a2.dn a2.dc) := ans_cell hA 2 a2 ha2 2 _ rfl
  rw [hdp, hdn] at a2d
  have d0 : w12.cell? ⟨gd, 0, none⟩ = some (.int .u8 11) := hcd 0 _ rfl
  have d1 : w12.cell? ⟨gd, 1, none⟩ = some (.int .u8 0) := hcd 1 _ rfl
  have d2 : w12.cell? ⟨gd, 2, none⟩ = some (.int .u8 0) := hcd 2 _ rfl
  have a2d' : w12.cell? ⟨gb, 16, none⟩ = some (.slice (some ⟨gd, 0, none⟩) 3 a2.dc) := a2d
  obtain ⟨ac, hac⟩ : ∃ ac, a2.dc = ac := ⟨_, rfl⟩
  rw [hac] at a2d'
  have hconv : (convert 34 9 (.slice (some ⟨gd, 0, none⟩) 3 ac)).run Tryz.prog w12 = .ok (.string ⟨#[11, 0, 0]⟩) w12 :=
    run_convert_bytes_back w12 34 9 5 ⟨gd, 0, none⟩ ac [11, 0, 0] Tryz.underlying34 Tryz.underlying5 Tryz.underlying9 (fun j hj => by
      match j, hj with
      | 0, _ => exact d0
      | 1, _ => exact d1
      | 2, _ => exact d2)
  clear a2d hcd hi2 hA hdp hdn hdc hac d0 d1 d2
  go_wp2_with fail
  refine (parse_ ⟨#[109, 97, 108, 108, 111, 99, 32, 57, 48, 48, 48, 10, 102, 114, 101, 101, 32, 36, 49, 10, 117, 115, 97, 98, 108, 101, 32, 36, 49, 10, 109, 97, 108, 108, 111, 99, 32, 53, 48, 48, 48, 32, 33]⟩ w12 (HG.out.touch0 HT12.out)).mono ?_
  rintro e w13 ⟨dpc, dnc, dcc, csc, rfl, hc, T⟩
  have HT13 := Lib.hid (HT12.out.trans T)
  rw [show Txt.parseW (⟨#[109, 97, 108, 108, 111, 99, 32, 57, 48, 48, 48, 10, 102, 114, 101, 101, 32, 36, 49, 10, 117, 115, 97, 98, 108, 101, 32, 36, 49, 10, 109, 97, 108, 108, 111, 99, 32, 53, 48, 48, 48, 32, 33]⟩ : ByteArray).data.toList = (deniedX, 0, 0) from parse_denied] at hc ⊢
  have hnc : csc.length = 4 := hc.len
  have hdnc : dnc = 4 := by
    rcases hc.own.2 with ⟨h, h0⟩ | ⟨g, cap, cur, h, _⟩
    · omega
    · cases h; exact hnc
  subst hdnc
  have HCc := Lib.hid hc
  clear hc T
  go_wp2_with fail
  refine (heap_ w13 (HG.out.touch0 HT13.out)).mono ?_
  rintro e w14 ⟨hbc, sc, pbc, Kc, rfl, R, T, F⟩
  obtain ⟨gcc, rfl, -, C⟩ := callers_of HCc.out (by decide) T F
  have HPc := Lib.hid (play_ (cx := deniedX) (ax := deniedA) (st := deniedS) R C (by omega) (by rw [hnc]; rfl) (denied_steps hbc sc pbc w14.heap.size gcc dcc csc))
  rw [hnc] at HPc
  have HDc := Lib.hid (fun e w3 (H : Played w14 hbc sc pbc Kc csc deniedX deniedA deniedS gcc dcc e w3) => H.done HT13.out T F (by rw [hnc]; rfl) (by omega))
  rw [hnc] at HDc
  clear R C T F
  go_wp2_with fail
  refine HPc.out.mono ?_
  rintro e w15 H
  obtain ⟨gc, capc, K2c, aac, Bc, rfl, hA, T⟩ := HDc.out _ _ H
  have HT15 := Lib.hid T
  clear H T HPc HDc
  have e0 : w15.cell? ⟨gc, 0, none⟩ = some (.int .i64 3) := (ans_e hA 0 _ rfl).1
  have e1 : w15.cell? ⟨gc, 7, none⟩ = some (.int .i64 0) := (ans_e hA 1 _ rfl).1
  have e2 : w15.cell? ⟨gc, 14, none⟩ = some (.int .i64 1) := (ans_e hA 2 _ rfl).1
  have e3 : w15.cell? ⟨gc, 21, none⟩ = some (.int .i64 2) := (ans_e hA 3 _ rfl).1
  clear hA
  go_wp2_with fail
  go_ret
  exact ⟨rfl, HT15.out⟩

end Go.Proofs.YtnjcmcnjgdjbiaaGreatDoor

