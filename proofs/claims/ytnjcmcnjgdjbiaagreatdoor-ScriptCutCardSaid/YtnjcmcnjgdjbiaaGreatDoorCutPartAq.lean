/- What a call of a script does to a heap: script.One at the heap's own methods. Conditions: as each theorem states. -/
import Derived.Test.YtnjcmcnjgdjbiaaGreatDoorCutPartAp
import Derived.Test.YtnjcmcnjgdjbiaaGreatDoorCutPartAm
import Derived.Test.YtnjcmcnjgdjbiaaGreatDoorCutPartAk
import Derived.Test.YtnjcmcnjgdjbiaaGreatDoorCutPartAl
set_option maxRecDepth 100000
set_option maxHeartbeats 4000000
namespace Go.Proofs.YtnjcmcnjgdjbiaaGreatDoor
open Go.RowKit
def numAn (v : Nat) (e : Int) : An := if e = 0 then ⟨0, v, [], 0, 0, 0, 0⟩ else ⟨e, 0, [], 0, 0, 0, 0⟩
def errAn (e : Int) : An := ⟨e, 0, [], 0, 0, 0, 0⟩
theorem numAns_is (w : World) (v : Nat) (e : Int) : AnsIs w (numAns v e) (numAn v e) ∧ (numAns v e).block = none := by
 unfold numAns numAn
 split
 ·exact ⟨⟨rfl, rfl, rfl, rfl, rfl, rfl, World.ownsRow_nil _ _ _ _⟩, rfl⟩
 ·exact ⟨⟨rfl, rfl, rfl, rfl, rfl, rfl, World.ownsRow_nil _ _ _ _⟩, rfl⟩
theorem errAns_is (w : World) (e : Int) : AnsIs w (errAns e) (errAn e) ∧ (errAns e).block = none :=
 ⟨⟨rfl, rfl, rfl, rfl, rfl, rfl, World.ownsRow_nil _ _ _ _⟩, rfl⟩
theorem Done.stepped {w w' : World} {hb s pb : Nat} {K : BuL} {β β' : Bu} {ps ps' : List Int} {a0 : AnsV} {x : An} {e : Ending} (R : HpRep 0 w hb s pb K β ps) (H : Done w (QHp hb s pb K β' ps' a0) e w') (hx : ∀ W, AnsIs W a0 x) (hb0 : a0.block = none) :
  Stepped w hb s pb K β' ps' x e w' := by
 obtain ⟨an, he, W, W1, b, T0, ⟨rfl, K', R1, N1, T1⟩, h1, h2, T2⟩ := H
 obtain ⟨K2, R2, N2, T3⟩ := Heaped.out (v := .int .i64 0) (e := .returned (.int .i64 0)) R T0 ⟨rfl, K', R1, N1, T1⟩ h1 h2 T2
 exact ⟨an, he, K2, R2, N2, T3, hx w', fun g hg => by rw [hb0] at hg; cases hg⟩
theorem bytes_owns {w : World} {g : Nat} {bs : List UInt8} (h : Blk w g 5 (bytesV bs)) (hm : bs.length ≤ maxLen) : w.ownsRow 0 5 1 (.slice (some ⟨g, 0, none⟩) bs.length bs.length) bs.length (bytesV bs) :=
 ⟨by simp [bytesV], .inr ⟨g, bs.length, (bytesV bs).toArray, rfl, Nat.zero_le _, h, Nat.le_refl _, hm, by simp [bytesV], List.take_of_length_le (by simp [bytesV])⟩⟩
theorem Done.stepped_read {w w' : World} {hb s pb : Nat} {K : BuL} {β : Bu} {ps : List Int} {bs : List UInt8} {n : Nat} {e : Ending} (R : HpRep 0 w hb s pb K β ps) (hn : bs.length = n) (hm : n ≤ 65536) (H : Done w (QRead hb s pb K β ps n (bytesV bs)) e w') :
  Stepped w hb s pb K β ps ⟨0, 0, bs, 0, 0, 0, 0⟩ e w' := by
 subst hn
 obtain ⟨an, he, W, W1, b, T0, ⟨g, rfl, hg, B, R1, T1⟩, h1, h2, T2⟩ := H
 have hl := R.lt
 have hgs := R.glob.size
 have hlk : ∀ k ∈ hb :: s :: pb :: K.fp, ¬ k = b := fun k hk e => by have := hl k hk; omega
 have R2 : HpRep 0 w' hb s pb K β ps := R1.touch T2 hlk (fun k hk e => by omega)
 have hs0 := T0.size
 have T3 : Touch (· = hb) w w' := (T0.none_.trans T1).trans' T2 (fun i hi e => by omega)
 refine ⟨_, he, K, R2, BuL.Next.refl _ _, T3.mono (fun k _ h => by simp [h]), ⟨rfl, rfl, rfl, rfl, rfl, rfl, bytes_owns (B.touch T2 (fun e => by omega)) (by unfold maxLen; omega)⟩, fun i hi => ?_⟩
 obtain rfl : g = i := by cases hi; rfl
 refine ⟨by omega, fun hm => ?_⟩
 have := hl g hm
 omega
theorem Anss.of {w : World} {B hb s pb : Nat} {K : BuL} {v : Value} {aa : List AnsV} {ax : List An} (A : Answers w B hb s pb K v aa ax) : Anss w v aa := owns_lower A.own (Nat.zero_le _)
theorem HpRep.turn_lt {w : World} {hb s pb : Nat} {K : BuL} {β : Bu} {ps : List Int} (R : HpRep 0 w hb s pb K β ps) : ∀ k, k ∈ hb :: s :: K.fp → k < w.heap.size := fun k hk => by
 refine R.lt k ?_
 simp only [List.mem_cons] at hk ⊢
 rcases hk with h | h | h
 ·exact .inl h
 ·exact .inr (.inl h)
 ·exact .inr (.inr (.inr h))
theorem step_malloc {w : World} {hb s pb : Nat} {K : BuL} {β β' : Bu} {ps ps' : List Int} (R : HpRep 0 w hb s pb K β ps) (c : CallV) (v : Value) (q : Nat) (hop : c.op = 1) (p : Nat) (er : Int)
  (HAd : ∀ W, Touch Nothing w W → Calls Tryz.prog 38 #[c.val, v] W (Addressed W q))
  (HM : ∀ W, HpRep 0 W hb s pb K β ps → Calls Tryz.prog 88 #[.pointer (some ⟨hb, 0, none⟩), .int .u64 c.a, .bool c.deny] W (Heaped W hb s pb K β' ps' (.tuple #[.int .u64 p, .int .i64 er]))) :
  Calls Tryz.prog 22 #[.pointer (some ⟨hb, 0, none⟩), c.val, v] w (Stepped w hb s pb K β' ps' (numAn p er)) :=
 (one_1 hb q c v (· ∈ hb :: s :: K.fp) R.turn_lt (QHp hb s pb K β' ps' (numAns p er)) (fun _ _ _ h => h.2.choose_spec.2.2) hop (Hd HAd) (Hd fun _W T => meth_malloc (R.touch0 T) c q p er HM)).mono fun _ _ h => h.stepped R (fun _ => (numAns_is _ _ _).1) (numAns_is w _ _).2
theorem step_load {w : World} {hb s pb : Nat} {K : BuL} {β β' : Bu} {ps ps' : List Int} (R : HpRep 0 w hb s pb K β ps) (c : CallV) (v : Value) (q : Nat) (hop : c.op = 7) (p : Nat) (er : Int) (hp : p < 256)
  (HAd : ∀ W, Touch Nothing w W → Calls Tryz.prog 38 #[c.val, v] W (Addressed W q))
  (HM : ∀ W, HpRep 0 W hb s pb K β ps → Calls Tryz.prog 93 #[.pointer (some ⟨hb, 0, none⟩), .int .u64 q] W (Heaped W hb s pb K β' ps' (.tuple #[.int .u8 p, .int .i64 er]))) :
  Calls Tryz.prog 22 #[.pointer (some ⟨hb, 0, none⟩), c.val, v] w (Stepped w hb s pb K β' ps' (numAn p er)) :=
 (one_7 hb q c v (· ∈ hb :: s :: K.fp) R.turn_lt (QHp hb s pb K β' ps' (numAns p er)) (fun _ _ _ h => h.2.choose_spec.2.2) hop (Hd HAd) (Hd fun _W T => meth_load (R.touch0 T) c q p er hp HM)).mono fun _ _ h => h.stepped R (fun _ => (numAns_is _ _ _).1) (numAns_is w _ _).2
theorem step_store {w : World} {hb s pb : Nat} {K : BuL} {β β' : Bu} {ps ps' : List Int} (R : HpRep 0 w hb s pb K β ps) (c : CallV) (v : Value) (q : Nat) (hop : c.op = 8) (er : Int) (ha : c.a < 256)
  (HAd : ∀ W, Touch Nothing w W → Calls Tryz.prog 38 #[c.val, v] W (Addressed W q))
  (HM : ∀ W, HpRep 0 W hb s pb K β ps → Calls Tryz.prog 94 #[.pointer (some ⟨hb, 0, none⟩), .int .u64 q, .int .u8 c.a] W (Heaped W hb s pb K β' ps' (.int .i64 er))) :
  Calls Tryz.prog 22 #[.pointer (some ⟨hb, 0, none⟩), c.val, v] w (Stepped w hb s pb K β' ps' (errAn er)) :=
 (one_8 hb q c v (· ∈ hb :: s :: K.fp) R.turn_lt (QHp hb s pb K β' ps' (errAns er)) (fun _ _ _ h => h.2.choose_spec.2.2) hop (Hd HAd) (Hd fun _W T => meth_store (R.touch0 T) c q er ha HM)).mono fun _ _ h => h.stepped R (fun _ => (errAns_is _ _).1) (errAns_is w _).2
theorem pages2 : β2.μ.pages[0]?.isSome = true ∧ β2.μ.pages[0]?.map (·.kind) = some 4 ∧ β2.μ.pages[0]?.map (·.cls) = some 0 ∧ β2.μ.pages[0]?.map (·.bit 0) = some true ∧ β2.μ.pages[0]?.map (·.bit 1) = some false := by
 refine ⟨by decide +kernel, by decide +kernel, by decide +kernel, by decide +kernel, by decide +kernel⟩
theorem space2 : β2.σ.base = 65536 ∧ β2.σ.size = 8192 ∧ β2.σ.n = 1 := by
 refine ⟨by decide +kernel, by decide +kernel, by decide +kernel⟩
structure Like2 (β : Bu) : Prop where
 map : β.μ = β2.μ
 base : β.σ.base = 65536
 size : β.σ.size = 8192
 n : β.σ.n = 1
theorem like2 : Like2 β2 := ⟨rfl, space2.1, space2.2.1, space2.2.2⟩
theorem Like2.put {β : Bu} (h : Like2 β) (p : Nat) (bs : List Nat) : Like2 { β with σ := β.σ.put p bs } := ⟨h.map, h.base, h.size, h.n⟩
theorem Like2.has {β : Bu} (h : Like2 β) (p n : Nat) (h0 : 0 < n) (h1 : 65536 ≤ p) (h2 : p + n ≤ 65536 + 8192) : β.σ.has p n := by
 refine ⟨h0, by rw [h.base]; exact h1, ?_, ?_⟩
 ·rw [h.base, h.size, h.n, Nat.div_eq_of_lt (by omega)]
  omega
 ·rw [h.base, h.size, Nat.mod_eq_of_lt (by omega)]
  omega
theorem Like2.slab {β : Bu} (h : Like2 β) (p : Nat) (h1 : 65536 ≤ p) (h2 : p < 65536 + 4096) : ∃ pg, InSlab β p 0 0 pg ∧ pg.bit 0 = true ∧ pg.bit 1 = false := by
 obtain ⟨q1, q2, q3, q4, q5⟩ := pages2
 cases hp : β2.μ.pages[0]? with
 | none => rw [hp] at q1; cases q1
 | some pg =>
  rw [hp] at q2 q3 q4 q5
  simp at q2 q3 q4 q5
  exact ⟨pg, ⟨by rw [h.map]; exact hp, q2, q3, by rw [h.base]; exact h1, by rw [h.base]; omega⟩, q4, q5⟩
theorem HpRep.within2 {m : Int} {w : World} {hb s pb : Nat} {K : BuL} {β : Bu} {ps : List Int} (R : HpRep m w hb s pb K β ps) (h : Like2 β) (p n : Nat) (h1 : 65536 ≤ p) (h2 : p < 65552) (h3 : p + n ≤ 65552) :
  Calls Tryz.prog 66 #[.pointer (some ⟨hb, 0, none⟩), .int .u64 p, .int .u64 n] w fun e w' => e = .returned (.bool true) ∧ Touch Nothing w w' := by
 obtain ⟨pg, hS, hb0, -⟩ := h.slab p h1 (by omega)
 have hq : p / wdOf 0 = 4096 := by show p / 16 = 4096; omega
 have h0 : cellAt p 0 = 0 := by unfold cellAt; rw [hq]; decide
 refine (R.within_slab p n 0 0 hS).mono ?_
 rintro e w' ⟨rfl, T⟩
 refine ⟨?_, T⟩
 rw [h0, hb0, hq]
 have : n ≤ 4096 * wdOf 0 + wdOf 0 - p := by show n ≤ 4096 * 16 + 16 - p; omega
 simp [this]
theorem HpRep.within2_no {m : Int} {w : World} {hb s pb : Nat} {K : BuL} {β : Bu} {ps : List Int} (R : HpRep m w hb s pb K β ps) (h : Like2 β) (n : Nat) :
  Calls Tryz.prog 66 #[.pointer (some ⟨hb, 0, none⟩), .int .u64 (65552 : Nat), .int .u64 n] w fun e w' => e = .returned (.bool false) ∧ Touch Nothing w w' := by
 obtain ⟨pg, hS, -, hb1⟩ := h.slab 65552 (by omega) (by omega)
 have h0 : cellAt 65552 0 = 1 := by decide
 refine (R.within_slab 65552 n 0 0 hS).mono ?_
 rintro e w' ⟨rfl, T⟩
 refine ⟨?_, T⟩
 rw [h0, hb1]
 rfl
theorem HpRep.store2 {w : World} {hb s pb : Nat} {K : BuL} {β : Bu} {ps : List Int} (R : HpRep 0 w hb s pb K β ps) (h : Like2 β) (v : Nat) (hv : v < 256) :
  Calls Tryz.prog 94 #[.pointer (some ⟨hb, 0, none⟩), .int .u64 (65536 : Nat), .int .u8 v] w (Heaped w hb s pb K { β with σ := β.σ.put 65536 [v] } ps (.int .i64 0)) :=
 R.store_ok 65536 v hv (h.has _ _ (by omega) (by omega) (by omega)) (fun W RW => RW.within2 h 65536 1 (by omega) (by omega) (by omega))
theorem HpRep.load2 {w : World} {hb s pb : Nat} {K : BuL} {β : Bu} {ps : List Int} (R : HpRep 0 w hb s pb K β ps) (h : Like2 β) (p : Nat) (h1 : 65536 ≤ p) (h2 : p < 65552) :
  Calls Tryz.prog 93 #[.pointer (some ⟨hb, 0, none⟩), .int .u64 p] w (Heaped w hb s pb K β ps (.tuple #[.int .u8 (β.σ.mem p : Nat), .int .i64 0])) :=
 (R.load_ok p (h.has _ _ (by omega) (by omega) (by omega)) (fun W RW => RW.within2 h p 1 (by omega) (by omega) (by omega))).mono fun _ _ H => H.heaped
theorem HpRep.load2_no {w : World} {hb s pb : Nat} {K : BuL} {β : Bu} {ps : List Int} (R : HpRep 0 w hb s pb K β ps) (h : Like2 β) :
  Calls Tryz.prog 93 #[.pointer (some ⟨hb, 0, none⟩), .int .u64 (65552 : Nat)] w (Heaped w hb s pb K β ps (.tuple #[.int .u8 (0 : Nat), .int .i64 4])) :=
 (R.load_fault 65552 (fun _W RW => RW.within2_no h 1)).mono fun _ _ H => H.heaped
theorem malloc_round_did {w : World} (hb size align : Nat) (er : Int) (deny : Bool) (her : er ≠ 0)
  (HR : Hid (∀ W, Touch Nothing w W → Calls Tryz.prog 135 #[.pointer (some ⟨hb, 0, none⟩), .int .u64 size, .int .u64 align] W (Rounded W (0, er)))) (Q : World → World → Prop) (hQ : ∀ W, Touch Nothing w W → Q W W) :
  Calls Tryz.prog 133 #[.pointer (some ⟨hb, 0, none⟩), .int .u64 size, .int .u64 align, .bool deny] w (Did w (.tuple #[.agg #[.int .u64 (0 : Nat), .int .u64 (0 : Nat)], .int .i64 er]) Q) := by
 have T0 := Hd (show Touch Nothing w (w.alloc (.cells #[.int .u64 0, .int .u64 0] 71)) from (Touch.refl _ _).alloc _)
 have hne : (er != 0) = true := by rw [bne_iff_ne]; exact her
 have HQ := Hd (hQ _ T0.out)
 clear her hQ
 go_enter Tryz.func133, Tryz.ntmps133
 go_wp2_with fail
 refine (HR.out _ T0.out).mono ?_
 rintro e w1 ⟨rfl, rfl⟩
 go_wp2_with fail
 exact bodyPost_ret (v := .tuple #[.agg #[.int .u64 0, .int .u64 0], .int .i64 er]) (by simp [results, Tryz.results133, go_sem]) rfl ⟨rfl, _, _, w.heap.size, T0.out, HQ.out, Nat.le_refl _, by simp, Touch.refl _ _⟩
def HeapMade (w : World) (e : Ending) (w' : World) : Prop :=
 ∃ hb s pb K, e = .returned (.pointer (some ⟨hb, 0, none⟩)) ∧ HpRep 0 w' hb s pb K β0 noParts ∧ Touch Nothing w w' ∧ ∀ k ∈ hb :: s :: pb :: K.fp, w.heap.size ≤ k
theorem heap_ (w : World) (G : Glob w) : Calls Tryz.prog 14 #[] w (HeapMade w) := by
 have HN := Hd (newHeap_yes 65536 2 1 w (by omega) may0 (by omega) G)
 unfold cfgV at HN
 go_enter Tryz.func14, Tryz.ntmps14
 go_wp2_with fail
 refine HN.out.mono ?_
 rintro e w1 ⟨hb, s, pb, K, rfl, R, T, F⟩
 have HR := Hd R
 have HT := Hd T
 have HF := Hd F
 clear R T F
 go_wp2_with fail
 go_ret
 exact ⟨hb, s, pb, K, rfl, HR.out, HT.out, HF.out⟩
def awakeX : List Txt.Cd := [⟨1, 0, 0, 1, 0, false, []⟩, ⟨8, 1, 0, 7, 0, false, []⟩, ⟨7, 1, 0, 0, 0, false, []⟩, ⟨7, 1, 16, 0, 0, false, []⟩]
def awakeA : List An := [⟨0, 65536, [], 0, 0, 0, 0⟩, ⟨0, 0, [], 0, 0, 0, 0⟩, ⟨0, 7, [], 0, 0, 0, 0⟩, ⟨4, 0, [], 0, 0, 0, 0⟩]
def β3 : Bu := { β2 with σ := β2.σ.put 65536 [7] }
def awakeS : Nat → Bu × List Int
 | 0 => (β0, noParts)
 | 1 => (β2, parts2)
 | _ + 2 => (β3, parts2)
theorem parse_awake : Txt.parseW [109, 97, 108, 108, 111, 99, 32, 49, 10, 115, 116, 111, 114, 101, 32, 36, 49, 32, 55, 10, 108, 111, 97, 100, 32, 36, 49, 10, 108, 111, 97, 100, 32, 36, 49, 43, 49, 54, 10] = (awakeX, 0, 0) := by kernel_rfl
theorem like3 : Like2 β3 := like2.put _ _
theorem addr_of {w : World} {B hb s pb : Nat} {K : BuL} {v : Value} {aa : List AnsV} {ax : List An} (A : Answers w B hb s pb K v aa ax) (c : CallV) (j : Nat) (x : An) (hr : c.ref = (j : Int) + 1) (hx : ax[j]? = some x) (he : x.e = 0) (hs : x.v + c.p ≤ 18446744073709551615) :
  ∀ W, Touch Nothing w W → Calls Tryz.prog 38 #[c.val, v] W (Addressed W (x.v + c.p)) := by
 intro W T
 have hj := (List.getElem?_eq_some_iff.1 hx).1
 obtain ⟨a, ha⟩ : ∃ a, aa[j]? = some a := ⟨_, List.getElem?_eq_getElem (by rw [A.len]; exact hj)⟩
 have hi := A.each j a x ha hx
 rw [← hi.v] at hs ⊢
 exact address_ok c v aa (Anss.of (A.still T)) j a hr ha (by rw [hi.e]; exact he) hs
theorem addr_no (c : CallV) (v : Value) (w : World) (hr : c.ref = 0) : ∀ W, Touch Nothing w W → Calls Tryz.prog 38 #[c.val, v] W (Addressed W c.p) := fun _ _ => address_zero c v hr
theorem awake_steps (hb s pb B gc cap : Nat) (cs : List CallV) : StepAt hb s pb B cs awakeX awakeA awakeS gc cap := by
 intro k c a w K v aa hc ha R C A hl
 have hk : k < 4 := (List.getElem?_eq_some_iff.1 ha).1
 obtain rfl | rfl | rfl | rfl : k = 0 ∨ k = 1 ∨ k = 2 ∨ k = 3 := by omega
 ·have hi := C.calls.each 0 c _ hc rfl
  cases ha
  obtain ⟨op, ref, p, aN, b, deny, dp, dn, dc⟩ := c
  obtain ⟨h1, h2, h3, h4, h5, h6, h7⟩ := hi
  simp only at h1 h2 h3 h4 h5 h6
  subst h1 h2 h3 h4 h5 h6
  exact step_malloc R _ v _ rfl 65536 0 (addr_no _ v w rfl) (fun W RW => RW.first_malloc 1 (by omega))
 ·have hi := C.calls.each 1 c _ hc rfl
  cases ha
  obtain ⟨op, ref, p, aN, b, deny, dp, dn, dc⟩ := c
  obtain ⟨h1, h2, h3, h4, h5, h6, h7⟩ := hi
  simp only at h1 h2 h3 h4 h5 h6
  subst h1 h2 h3 h4 h5 h6
  exact step_store R _ v 65536 rfl 0 (by simp only []; omega) (addr_of A _ 0 _ rfl rfl rfl (by simp only []; omega)) (fun W RW => RW.store2 like2 7 (by omega))
 ·have hi := C.calls.each 2 c _ hc rfl
  cases ha
  obtain ⟨op, ref, p, aN, b, deny, dp, dn, dc⟩ := c
  obtain ⟨h1, h2, h3, h4, h5, h6, h7⟩ := hi
  simp only at h1 h2 h3 h4 h5 h6
  subst h1 h2 h3 h4 h5 h6
  exact step_load R _ v 65536 rfl 7 0 (by decide) (addr_of A _ 0 _ rfl rfl rfl (by simp only []; omega)) (fun W RW => RW.load2 like3 65536 (by omega) (by omega))
 ·have hi := C.calls.each 3 c _ hc rfl
  cases ha
  obtain ⟨op, ref, p, aN, b, deny, dp, dn, dc⟩ := c
  obtain ⟨h1, h2, h3, h4, h5, h6, h7⟩ := hi
  simp only at h1 h2 h3 h4 h5 h6
  subst h1 h2 h3 h4 h5 h6
  exact step_load R _ v 65552 rfl 0 4 (by decide) (addr_of A _ 0 _ rfl rfl rfl (by simp only []; omega)) (fun W RW => RW.load2_no like3)
theorem callers_of {w1 w2 : World} {B hb s pb : Nat} {K : BuL} {dp : Option Addr} {dn dc : Nat} {cs : List CallV} {cx : List Txt.Cd} (h : CallsAt w1 B (.slice dp dn dc) cs cx) (hn : 0 < cx.length) (T : Touch Nothing w1 w2) (F : ∀ k ∈ hb :: s :: pb :: K.fp, w1.heap.size ≤ k) :
  ∃ gc, dp = some ⟨gc, 0, none⟩ ∧ dn = cs.length ∧ Callers w2 hb s pb K gc dc cs cx := by
 obtain ⟨gc, cap, hv, hb1, hg⟩ := World.ownsRow.form h.own (by rw [h.len]; exact hn)
 cases hv
 refine ⟨gc, rfl, rfl, (h.still T).lower (Nat.zero_le _), fun hm => by have := F gc hm; omega, fun c hc g hg' hm => ?_⟩
 obtain ⟨i, hi⟩ := List.getElem?_of_mem hc
 have hil := (List.getElem?_eq_some_iff.1 hi).1
 have := (World.ownsRow.lt (h.each i c _ hi (List.getElem?_eq_getElem (by rw [← h.len]; exact hil))).own g hg').2
 have := F g hm
 omega
theorem ans_cell {w : World} {B hb s pb : Nat} {K : BuL} {g cap n : Nat} {aa : List AnsV} {ax : List An} (A : Answers w B hb s pb K (.slice (some ⟨g, 0, none⟩) n cap) aa ax) (i : Nat) (a : AnsV) (hi : aa[i]? = some a) (j : Nat) (u : Value) (hu : a.cells[j]? = some u) :
  w.cell? ⟨g, i * 7 + j, none⟩ = some u := by
 have hj : j < 7 := by have := (List.getElem?_eq_some_iff.1 hu).1; simpa [AnsV.cells] using this
 have hil := (List.getElem?_eq_some_iff.1 hi).1
 have hn : aa.length = n := by
  rcases A.own.2 with ⟨h, _⟩ | ⟨g1, c1, cur, h, _⟩
  ·cases h
  ·cases h; rfl
 subst hn
 rw [World.ownsRow.cellAt A.own (i * 7 + j) (by omega)]
 exact flat7_get aa i a hi j u hu
theorem ans_e {w : World} {B hb s pb : Nat} {K : BuL} {g cap n : Nat} {aa : List AnsV} {ax : List An} (A : Answers w B hb s pb K (.slice (some ⟨g, 0, none⟩) n cap) aa ax) (i : Nat) (x : An) (hx : ax[i]? = some x) : w.cell? ⟨g, i * 7, none⟩ = some (.int .i64 x.e) ∧ w.cell? ⟨g, i * 7 + 1, none⟩ = some (.int .u64 x.v) := by
 have hil := (List.getElem?_eq_some_iff.1 hx).1
 obtain ⟨a, ha⟩ : ∃ a, aa[i]? = some a := ⟨_, List.getElem?_eq_getElem (by rw [A.len]; exact hil)⟩
 have h := A.each i a x ha hx
 have h0 := ans_cell A i a ha 0 _ rfl
 have h1 := ans_cell A i a ha 1 _ rfl
 rw [h.e] at h0
 rw [h.v] at h1
 exact ⟨h0, h1⟩
theorem awake_ (w : World) (G : Glob w) : Calls Tryz.prog 11 #[] w fun e w' => e = .returned (.bool true) ∧ Touch Nothing w w' := by
 have HP := Hd (parse_ ⟨#[109, 97, 108, 108, 111, 99, 32, 49, 10, 115, 116, 111, 114, 101, 32, 36, 49, 32, 55, 10, 108, 111, 97, 100, 32, 36, 49, 10, 108, 111, 97, 100, 32, 36, 49, 43, 49, 54, 10]⟩ w G)
 have HG := Hd G
 have HE := Hd parse_awake
 clear G
 go_enter Tryz.func11, Tryz.ntmps11
 go_wp2_with fail
 refine HP.out.mono ?_
 rintro e w1 ⟨dp, dn, dc, cs, rfl, hc, T1⟩
 rw [show Txt.parseW (⟨#[109, 97, 108, 108, 111, 99, 32, 49, 10, 115, 116, 111, 114, 101, 32, 36, 49, 32, 55, 10, 108, 111, 97, 100, 32, 36, 49, 10, 108, 111, 97, 100, 32, 36, 49, 43, 49, 54, 10]⟩ : ByteArray).data.toList = (awakeX, 0, 0) from HE.out] at hc ⊢
 have HC := Hd hc
 have HT1 := Hd T1
 have hn : cs.length = 4 := hc.len
 have hdn : dn = 4 := by
  rcases hc.own.2 with ⟨h, h0⟩ | ⟨g, cap, cur, h, _⟩
  ·omega
  ·cases h; exact hn
 subst hdn
 clear hc T1
 go_wp2_with fail
 refine (heap_ w1 (HG.out.touch0 HT1.out)).mono ?_
 rintro e w2 ⟨hb, s, pb, K, rfl, R, T2, F⟩
 obtain ⟨gc, rfl, -, C⟩ := callers_of HC.out (by decide) T2 F
 have HPl := Hd (play_ (cx := awakeX) (ax := awakeA) (st := awakeS) R C (by omega) (by rw [hn]; rfl) (awake_steps hb s pb w2.heap.size gc dc cs))
 rw [hn] at HPl
 have HT2 := Hd T2
 have HF := Hd F
 clear R C T2 F
 go_wp2_with fail
 refine HPl.out.mono ?_
 rintro e w3 ⟨K', aa, ap, an, ac, rfl, hR⟩
 have hA := hR.answers
 have hal : aa.length = 4 := by rw [hR.len, hn]
 obtain ⟨g, cap, hv, -, -⟩ := World.ownsRow.form hA.own (by omega)
 cases hv
 rw [hal] at hA ⊢
 rw [hn] at hA
 have a0 : w3.cell? ⟨g, 1, none⟩ = some (.int .u64 65536) := (ans_e hA 0 _ rfl).2
 have a1 : w3.cell? ⟨g, 7, none⟩ = some (.int .i64 0) := (ans_e hA 1 _ rfl).1
 have a2 : w3.cell? ⟨g, 15, none⟩ = some (.int .u64 7) := (ans_e hA 2 _ rfl).2
 have a3 : w3.cell? ⟨g, 21, none⟩ = some (.int .i64 4) := (ans_e hA 3 _ rfl).1
 have HT3 := Hd (show Touch Nothing w w3 from (HT1.out.trans HT2.out).trans' hR.touch (fun i hi h => by
  have h1 := HT1.out.size
  have := HF.out i (by simp only [List.mem_cons] at h ⊢; rcases h with h | h | h <;> simp [h])
  omega))
 clear hA hR hal HPl
 go_wp2_with fail
 go_ret
 exact ⟨rfl, HT3.out⟩
def SizeOk (o r : Nat) : Prop := (∃ c, c < 8 ∧ r = wdOf c) ∨ ∃ k, k ≤ o ∧ r = 4096 * 2 ^ k
def NoRoom (o : Nat) (F L : Nat → List Nat) (r : Nat) : Prop := (∀ k, k ≤ o → r ≤ 4096 * 2 ^ k → F k = []) ∧ ∀ c, c < 8 → r = wdOf c → L c = []
structure Took (β : Bu) (F L : Nat → List Nat) (r : Nat) (deny : Bool) (β' : Bu) (p : Nat) : Prop where
 more : More β β' p r
 grew : (β'.σ.n = β.σ.n ∧ ¬ NoRoom β.μ.order F L r) ∨ (β'.σ.n = β.σ.n + 1 ∧ β.σ.n < β.σ.limit ∧ deny = false ∧ NoRoom β.μ.order F L r)
theorem bitLen_pow (c : Nat) (h : c < 64) : Lib.bitLen (2 ^ c) = c + 1 := by
 have h64 : 2 ^ c < 18446744073709551616 := Nat.lt_of_lt_of_le (Nat.pow_lt_pow_right (by omega) h) (by decide)
 obtain ⟨s1, s2, s3⟩ := bitLen_spec64 (2 ^ c) h64
 have p0 := pow0 c
 have h1 := (Nat.pow_lt_pow_iff_right (by omega : 1 < 2)).1 s1
 have h2 := (Nat.pow_le_pow_iff_right (by omega : 1 < 2)).1 (s2 (by omega))
 omega
theorem pow_mono_le {a b : Nat} (h : 4096 * 2 ^ a ≤ 4096 * 2 ^ b) : a ≤ b := (Nat.pow_le_pow_iff_right (by omega : 1 < 2)).1 (Nat.le_of_mul_le_mul_left h (by omega))
theorem HS.take {β : Bu} {ps : List Int} {F C L : Nat → List Nat} (I : HS β ps F C L) (r : Nat) (deny : Bool) (hr : SizeOk β.μ.order r) :
  (∃ β' ps' F' C' L' p, HS β' ps' F' C' L' ∧ Took β F L r deny β' p ∧
   ∀ (m : Int) (w : World) (hb s pb : Nat) (K : BuL), HpRep m w hb s pb K β ps → Calls Tryz.prog 139 #[.pointer (some ⟨hb, 0, none⟩), .int .u64 r, .bool deny] w (TookAs w p 0 (QSl s pb K β' ps'))) ∨
  (NoRoom β.μ.order F L r ∧ (deny = true ∨ β.σ.n = β.σ.limit) ∧
   ∀ (m : Int) (w : World) (hb s pb : Nat) (K : BuL), HpRep m w hb s pb K β ps → Calls Tryz.prog 139 #[.pointer (some ⟨hb, 0, none⟩), .int .u64 r, .bool deny] w (TookAs w 0 2 (QSl s pb K β ps))) := by
 have hord := I.inv.ord
 rcases hr with ⟨c, hc, rfl⟩ | ⟨o, ho, rfl⟩
 ·obtain ⟨w1, w2⟩ := wdOf_pos hc
  have hbl : (Lib.bitLen (wdOf c / 16) : Int) - 1 = c := by
   have : wdOf c / 16 = 2 ^ c := by unfold wdOf; exact Nat.mul_div_cancel_left _ (by omega)
   rw [this, bitLen_pow c (by omega)]
   omega
  have hsm : ∀ k, wdOf c ≤ 4096 * 2 ^ k := fun k => by have := pow0 k; omega
  have hcc : ∀ d, d < 8 → wdOf c = wdOf d → L d = L c := fun d _ e => by rw [wdOf_inj e]
  rcases I.takeCell c deny hc with ⟨β', ps', F', C', L', p, g, H, T, hdn, HC⟩ | ⟨h1, h2, h3, HC⟩
  ·left
   refine ⟨β', ps', F', C', L', p, H, ⟨T.more, ?_⟩, fun m w hb s pb K R => ?_⟩
   ·rcases T.grew with ⟨e, h⟩ | ⟨e, e2, h1, h2⟩
    ·refine .inl ⟨e, fun hn => ?_⟩
     rcases h with h | ⟨k, hk, h⟩
     ·exact h (hn.2 c hc rfl)
     ·exact h (hn.1 k hk (hsm k))
    ·refine .inr ⟨e, e2, ?_, fun k hk _ => h2 k hk, fun d hd e => by rw [hcc d hd e]; exact h1⟩
     cases deny
     ·rfl
     ·have := hdn rfl
      omega
   ·refine take_small hb s _ c p g deny 0 (QSl s pb K β' ps') R.cells.2.2.2.2.1 (by omega) hbl (fun W T => ?_)
    have RW := R.touch0 T
    refine (HC W s pb K RW.sl RW.glob (fun k hk => RW.far k (List.mem_cons_of_mem _ hk))).mono ?_
    rintro e w' ⟨rfl, K', S, N, T'⟩
    exact ⟨rfl, K', S, N, T'⟩
  ·right
   refine ⟨⟨fun k hk _ => h2 k hk, fun d hd e => by rw [hcc d hd e]; exact h1⟩, h3, fun m w hb s pb K R => ?_⟩
   refine take_small hb s _ c 0 false deny 2 (QSl s pb K β ps) R.cells.2.2.2.2.1 (by omega) hbl (fun W T => ?_)
   have RW := R.touch0 T
   refine (HC W s pb K RW.sl).mono ?_
   rintro e w' ⟨rfl, K', S, N, T'⟩
   exact ⟨rfl, K', S, N, T'⟩
 ·have hbl : (Lib.bitLen (4096 * 2 ^ o / 4096) : Int) - 1 = o := by
   rw [Nat.mul_div_cancel_left _ (by omega), bitLen_pow o (by omega)]
   omega
  have hp8 := pow_le8' (o := o) (by omega)
  rcases I.need o deny ho with ⟨i, β1, F1, g, N, hdn, HC⟩ | ⟨hno, hd, HC⟩
  ·left
   have S1 : SInv β1 ps C L := I.slab.kept N.kept (fun j p hp h4 => I.inv.notOpen hp (.inr (.inr h4)))
   refine ⟨β1, ps, F1, C, L, β1.addr i, ⟨N.inv, S1, N.nums⟩, ⟨?_, ?_⟩, fun m w hb s pb K R => ?_⟩
   ·have := N.more I.inv ho
    rwa [show β.addr i = β1.addr i by unfold Bu.addr; rw [N.kept.base]] at this
   ·rcases N.grew with ⟨e, k, h1, h2, h3⟩ | ⟨e, e2, h⟩
    ·exact .inl ⟨e, fun hn => h3 (hn.1 k h2 (Nat.mul_le_mul_left _ (Nat.pow_le_pow_right (by omega) h1)))⟩
    ·refine .inr ⟨e, e2, ?_, fun k hk hk2 => h k (pow_mono_le hk2) hk, fun d hd e => ?_⟩
     ·cases deny
      ·rfl
      ·have := hdn rfl
       omega
     ·have := wdOf_pos hd
      omega
   ·refine take_big hb pb _ o _ g deny 0 (QSl s pb K β1 ps) R.cells.2.2.2.1 (by omega) (by omega) hbl (fun W T => ?_)
    have RW := R.touch0 T
    refine (HC W pb K RW.sl.po).mono ?_
    rintro e w' ⟨rfl, K', P', N', T'⟩
    exact ⟨rfl, K', RW.sl.next T' N' P'.bu, N', T'.mono (fun b _ hb => List.mem_cons_of_mem _ hb)⟩
  ·right
   refine ⟨⟨fun k hk hk2 => hno k (pow_mono_le hk2) hk, fun d hd e => by have := wdOf_pos hd; omega⟩, hd, fun m w hb s pb K R => ?_⟩
   refine take_big hb pb _ o 0 false deny 2 (QSl s pb K β ps) R.cells.2.2.2.1 (by omega) (by omega) hbl (fun W T => ?_)
   have RW := R.touch0 T
   refine (HC W pb K RW.sl.po).mono ?_
   rintro e w' ⟨rfl, T'⟩
   exact ⟨rfl, K, RW.sl.touch0 T', BuL.Next.refl _ _, T'.none_⟩
theorem wdOf_pow (c : Nat) : wdOf c = 2 ^ (c + 4) := by unfold wdOf; rw [Nat.pow_add]; omega
theorem pg_pow (k : Nat) : 4096 * 2 ^ k = 2 ^ (k + 12) := by rw [Nat.pow_add]; omega
theorem round_ok {o size align r : Nat} (_ho : o ≤ 8) (h1 : size < 18446744073709551616) (h2 : align < 18446744073709551616) (h : roundN (4096 * 2 ^ o) size align = (r, 0)) :
  SizeOk o r ∧ size ≤ r ∧ align ≤ r ∧ isPow align = true := by
 unfold roundN at h
 split at h
 ·simp at h
 ·next hp =>
  split at h
  ·simp at h
  ·next hM =>
   have hr : ceilN (max (max size align) 16) = r := by simpa using congrArg Prod.fst h
   rw [hr] at hM
   obtain ⟨x, hx⟩ : ∃ x, x = max (max size align) 16 := ⟨_, rfl⟩
   rw [← hx] at hr
   have hx16 : 16 ≤ x := by omega
   have hx64 : x < 18446744073709551616 := by omega
   unfold ceilN at hr
   rw [if_neg (by omega)] at hr
   split at hr
   ·omega
   ·obtain ⟨s1, s2, s3⟩ := bitLen_spec64 (x - 1) (by omega)
    generalize Lib.bitLen (x - 1) = e at *
    subst hr
    have he4 : 4 ≤ e := by
     refine Classical.byContradiction (fun hn => ?_)
     have : 2 ^ e ≤ 2 ^ 3 := Nat.pow_le_pow_right (by omega) (by omega)
     omega
    have hle : 2 ^ e ≤ 4096 * 2 ^ o := by omega
    rw [pg_pow] at hle
    have he12 := (Nat.pow_le_pow_iff_right (by omega : 1 < 2)).1 hle
    refine ⟨?_, by omega, by omega, by simpa using hp⟩
    by_cases hc : e < 12
    ·exact .inl ⟨e - 4, by omega, by rw [wdOf_pow, show e - 4 + 4 = e by omega]⟩
    ·exact .inr ⟨e - 12, by omega, by rw [pg_pow, show e - 12 + 12 = e by omega]⟩
theorem More.same {β β' : Bu} {p r : Nat} (M : More β β' p r) : β'.σ.base = β.σ.base ∧ β'.σ.limit = β.σ.limit ∧ β'.μ.order = β.μ.order := ⟨M.base, M.limit, M.order⟩
theorem HS.malloc {β : Bu} {ps : List Int} {F C L : Nat → List Nat} (I : HS β ps F C L) (size align : Nat) (deny : Bool) (h1 : size < 18446744073709551616) (h2 : align < 18446744073709551616) :
  ((roundN β.σ.size size align).2 ≠ 0 ∧ ∀ (m : Int) (w : World) (hb s pb : Nat) (K : BuL), HpRep m w hb s pb K β ps → Calls Tryz.prog 133 #[.pointer (some ⟨hb, 0, none⟩), .int .u64 size, .int .u64 align, .bool deny] w (Did w (.tuple #[.agg #[.int .u64 (0 : Nat), .int .u64 (0 : Nat)], .int .i64 (roundN β.σ.size size align).2]) (QSl s pb K β ps))) ∨
  (∃ r β' ps' F' C' L' p, roundN β.σ.size size align = (r, 0) ∧ SizeOk β.μ.order r ∧ HS β' ps' F' C' L' ∧ Took β F L r deny β' p ∧
   ∀ (m : Int) (w : World) (hb s pb : Nat) (K : BuL), HpRep m w hb s pb K β ps → Calls Tryz.prog 133 #[.pointer (some ⟨hb, 0, none⟩), .int .u64 size, .int .u64 align, .bool deny] w (Did w (.tuple #[.agg #[.int .u64 p, .int .u64 r], .int .i64 0]) (QSl s pb K β' ps'))) ∨
  (∃ r, roundN β.σ.size size align = (r, 0) ∧ SizeOk β.μ.order r ∧ NoRoom β.μ.order F L r ∧ (deny = true ∨ β.σ.n = β.σ.limit) ∧
   ∀ (m : Int) (w : World) (hb s pb : Nat) (K : BuL), HpRep m w hb s pb K β ps → Calls Tryz.prog 133 #[.pointer (some ⟨hb, 0, none⟩), .int .u64 size, .int .u64 align, .bool deny] w (Did w (.tuple #[.agg #[.int .u64 (0 : Nat), .int .u64 (0 : Nat)], .int .i64 2]) (QSl s pb K β ps))) := by
 have hlt : ∀ {m : Int} {w : World} {hb s pb : Nat} {K : BuL}, HpRep m w hb s pb K β ps → ∀ k, k ∈ s :: K.fp → k < w.heap.size := by
  intro m w hb s pb K R k hk
  refine R.lt k ?_
  rcases List.mem_cons.1 hk with h | h
  ·simp [h]
  ·simp [h]
 by_cases he : (roundN β.σ.size size align).2 = 0
 ·right
  obtain ⟨r, hr⟩ : ∃ r, roundN β.σ.size size align = (r, 0) := ⟨_, Prod.ext rfl he⟩
  have hok : SizeOk β.μ.order r := (round_ok I.inv.ord h1 h2 (by rw [← I.nums.size]; exact hr)).1
  rcases I.take r deny hok with ⟨β', ps', F', C', L', p, H, T, HC⟩ | ⟨h3, h4, HC⟩
  ·left
   refine ⟨r, β', ps', F', C', L', p, hr, hok, H, T, fun m w hb s pb K R => ?_⟩
   refine malloc_ok hb size align r p deny _ (· ∈ s :: K.fp) (hlt R) QSl.touch (Hd fun W T => ?_) (Hd fun W T => HC m W hb s pb K (R.touch0 T))
   have := (R.touch0 T).round_ size align h1 h2
   rwa [hr] at this
  ·right
   refine ⟨r, hr, hok, h3, h4, fun m w hb s pb K R => ?_⟩
   refine malloc_take hb size align r 2 deny (by decide) (QSl s pb K β ps) (· ∈ s :: K.fp) (hlt R) QSl.touch (Hd fun W T => ?_) (Hd fun W T => HC m W hb s pb K (R.touch0 T))
   have := (R.touch0 T).round_ size align h1 h2
   rwa [hr] at this
 ·left
  refine ⟨he, fun m w hb s pb K R => ?_⟩
  refine malloc_round_did hb size align _ deny he (Hd fun W T => ?_) _ (fun W T => ⟨K, (R.touch0 T).sl, BuL.Next.refl _ _, Touch.refl _ _⟩)
  have := (R.touch0 T).round_ size align h1 h2
  have hz : (roundN β.σ.size size align).1 = 0 := by
   unfold roundN at he ⊢
   split
   ·rfl
   ·split
    ·rfl
    ·next h3 h4 =>
     rw [if_neg h3, if_neg h4] at he
     exact (he rfl).elim
  rwa [show roundN β.σ.size size align = (0, (roundN β.σ.size size align).2) from Prod.ext hz rfl] at this
end Go.Proofs.YtnjcmcnjgdjbiaaGreatDoor
namespace Go.Proofs.YtnjcmcnjgdjbiaaGreatDoor
open Go.RowKit Go.MuLone
theorem Gone.same {β β' : Bu} {p : Nat} (G : Gone β β' p) : β'.σ.base = β.σ.base ∧ β'.σ.limit = β.σ.limit ∧ β'.μ.order = β.μ.order := ⟨G.base, G.limit, G.order⟩
def Turns (m : Int) (w : World) (hb s pb : Nat) (K : BuL) (β' : Bu) (ps' : List Int) (v : Value) (e : Ending) (w' : World) : Prop :=
 e = .returned v ∧ ∃ K', HpRep m w' hb s pb K' β' ps' ∧ K.Next w K' ∧ Touch (· ∈ s :: K.fp) w w'
theorem GaveAs.turns {m : Int} {w w' : World} {hb s pb : Nat} {K : BuL} {β β' : Bu} {ps ps' : List Int} {e : Ending} (R : HpRep m w hb s pb K β ps) (D : GaveAs w (QSl s pb K β' ps') e w') (hσ : β'.σ.base = β.σ.base ∧ β'.σ.limit = β.σ.limit ∧ β'.μ.order = β.μ.order) :
  Turns m w hb s pb K β' ps' (.tuple #[]) e w' := by
 obtain ⟨rfl, W, T0, K', S1, N1, T1⟩ := D
 exact ⟨rfl, K', (R.touch0 T0).next T1 N1 S1 hσ, (BuL.Next.refl w K).trans N1 T0.size, T0.none_.trans T1⟩
theorem HS.give {β : Bu} {ps : List Int} {F C L : Nat → List Nat} (I : HS β ps F C L) {P S : Nat} (hL : Live β P S) :
  ∃ β' ps' F' C' L', HS β' ps' F' C' L' ∧ Gone β β' P ∧
   ∀ (m : Int) (w : World) (hb s pb : Nat) (K : BuL), HpRep m w hb s pb K β ps → Calls Tryz.prog 141 #[.pointer (some ⟨hb, 0, none⟩), .agg #[.int .u64 P, .int .u64 S]] w (Turns m w hb s pb K β' ps' (.tuple #[])) := by
 have hord := I.inv.ord
 rcases hL with ⟨a, k, hk, hb, rfl, rfl⟩ | ⟨i, c, x, hc, hx, rfl, rfl⟩
 ·have hbl : (Lib.bitLen (4096 * 2 ^ k / 4096) : Int) - 1 = k := by
   rw [Nat.mul_div_cancel_left _ (by omega), bitLen_pow k (by omega)]
   omega
  have hp8 := pow_le8' (o := k) (by omega)
  obtain ⟨H, G⟩ := I.giveBig hk hb
  refine ⟨_, _, _, _, _, H, G, fun m w hb' s pb K R => ?_⟩
  refine (give_big hb' pb _ _ k (QSl s pb K _ ps) R.cells.2.2.2.1 R.blk.lt (by omega) (by omega) hbl (fun W T => ?_)).mono (fun e w' D => D.turns R G.same)
  have RW := R.touch0 T
  refine (RW.sl.po.give_ I.inv hk hb).mono ?_
  rintro e w' ⟨rfl, K', P', N', T'⟩
  exact ⟨rfl, K', RW.sl.next T' N' P'.bu, N', T'.mono (fun b _ h => List.mem_cons_of_mem _ h)⟩
 ·obtain ⟨β', ps', F', C', L', H, G, HC⟩ := I.giveCell hc hx
  have hw := wdOf_pos hc
  refine ⟨β', ps', F', C', L', H, G, fun m w hb' s pb K R => ?_⟩
  refine (give_small hb' s _ _ (QSl s pb K β' ps') R.cells.2.2.2.2.1 R.blk.lt (by omega) (fun W T => ?_)).mono (fun e w' D => D.turns R G.same)
  have RW := R.touch0 T
  refine (HC W s pb K RW.sl RW.glob (fun k hk => RW.far k (List.mem_cons_of_mem _ hk))).mono ?_
  rintro e w' ⟨rfl, K', S', N', T'⟩
  exact ⟨rfl, K', S', N', T'⟩
theorem HpRep.free_no {w : World} {hb s pb : Nat} {K : BuL} {β : Bu} {ps : List Int} (R : HpRep 0 w hb s pb K β ps) (p : Nat) (hp : ((p : Int) == 0) = false)
  (HS : ∀ W, HpRep 1 W hb s pb K β ps → Calls Tryz.prog 99 #[.pointer (some ⟨hb, 0, none⟩), .int .u64 p] W (Started W 0 0 1)) :
  Calls Tryz.prog 92 #[.pointer (some ⟨hb, 0, none⟩), .int .u64 p] w (Looked w hb s pb K β ps (.int .i64 1)) := by
 obtain ⟨c0, -, -, -, -, f0⟩ := R.cells
 have R1 := R.locked 1
 have HM1 := Hd (HS _ R1)
 have HR1 := Hd R1
 clear R HS R1
 go_enter_defers Tryz.func92, Tryz.ntmps92
 go_wp2_with (go_at_call 58; refine (lock_free Tryz.muLib ⟨hb, 0, none⟩ _ c0 f0).mono ?_; rintro e w' ⟨rfl, rfl⟩)
 generalize hw1 : w.setCell ⟨hb, 0, none⟩ (.int .i32 1) = w1 at *
 refine HM1.out.mono ?_
 rintro e w2 ⟨rfl, T2⟩
 have HW1 := Hd hw1
 have HT2 := Hd (T2.alloc (.cells #[.int .u64 0, .int .u64 0] 71))
 have R2 := HR1.out.touch0 HT2.out
 have hm := R2.cells.1
 have fm := R2.cells.2.2.2.2.2
 clear hw1 R2 T2 c0 f0
 go_wp2
 refine leaves_cons (f := 59) (args := #[.pointer (some ⟨hb, 0, none⟩)]) (by simp) (by simp [go_sem]) ?_
 refine (unlock_deferred Tryz.muLib ⟨hb, 0, none⟩ .returning _ hm fm).mono ?_
 rintro e u' w'' ⟨rfl, rfl, rfl⟩
 exact ⟨_, results_tmp rfl _ _ _, HpRep.relock HW1.out.symm HR1.out HT2.out⟩
theorem HpRep.free_yes {w : World} {hb s pb : Nat} {K : BuL} {β β' : Bu} {ps ps' : List Int} (R : HpRep 0 w hb s pb K β ps) (p S : Nat) (hp : ((p : Int) == 0) = false)
  (HS : ∀ W, HpRep 1 W hb s pb K β ps → Calls Tryz.prog 99 #[.pointer (some ⟨hb, 0, none⟩), .int .u64 p] W (Started W p S 0))
  (HG : ∀ W, HpRep 1 W hb s pb K β ps → Calls Tryz.prog 141 #[.pointer (some ⟨hb, 0, none⟩), .agg #[.int .u64 p, .int .u64 S]] W (Turns 1 W hb s pb K β' ps' (.tuple #[]))) :
  Calls Tryz.prog 92 #[.pointer (some ⟨hb, 0, none⟩), .int .u64 p] w (Heaped w hb s pb K β' ps' (.int .i64 0)) := by
 obtain ⟨c0, -, -, -, -, f0⟩ := R.cells
 have R1 := R.locked 1
 have HM1 := Hd (HS _ R1)
 have HR1 := Hd R1
 have HGv := Hd HG
 clear R HS R1 HG
 go_enter_defers Tryz.func92, Tryz.ntmps92
 go_wp2_with (go_at_call 58; refine (lock_free Tryz.muLib ⟨hb, 0, none⟩ _ c0 f0).mono ?_; rintro e w' ⟨rfl, rfl⟩)
 generalize hw1 : w.setCell ⟨hb, 0, none⟩ (.int .i32 1) = w1 at *
 refine HM1.out.mono ?_
 rintro e w2 ⟨rfl, T2⟩
 have HW1 := Hd hw1
 have HT2 := Hd (T2.alloc (.cells #[.int .u64 p, .int .u64 S] 71))
 have R2 := HR1.out.touch0 HT2.out
 have HR2 := Hd R2
 clear hw1 R2 T2 c0 f0
 go_wp2_with fail
 refine (HGv.out _ HR2.out).mono ?_
 rintro e w3 ⟨rfl, K3, R3, N3, T3⟩
 have hm := R3.cells.1
 have fm := R3.cells.2.2.2.2.2
 have HR3 := Hd R3
 have HN3 := Hd ((BuL.Next.refl w1 K).trans N3 HT2.out.size)
 have HT3 := Hd (HT2.out.none_.trans T3)
 clear R3 N3 T3
 go_wp2
 refine leaves_cons (f := 59) (args := #[.pointer (some ⟨hb, 0, none⟩)]) (by simp) (by simp [go_sem]) ?_
 refine (unlock_deferred Tryz.muLib ⟨hb, 0, none⟩ .returning _ hm fm).mono ?_
 rintro e u' w'' ⟨rfl, rfl, rfl⟩
 exact ⟨_, results_tmp rfl _ _ _, HpRep.unlocked HW1.out.symm HR3.out HN3.out HT3.out⟩
theorem HpRep.usable_ {w : World} {hb s pb : Nat} {K : BuL} {β : Bu} {ps : List Int} (R : HpRep 0 w hb s pb K β ps) (p P S : Nat) (er : Int)
  (HS : ∀ W, HpRep 1 W hb s pb K β ps → Calls Tryz.prog 99 #[.pointer (some ⟨hb, 0, none⟩), .int .u64 p] W (Started W P S er)) :
  Calls Tryz.prog 56 #[.pointer (some ⟨hb, 0, none⟩), .int .u64 p] w (Looked w hb s pb K β ps (.tuple #[.int .u64 S, .int .i64 er])) := by
 obtain ⟨c0, -, -, -, -, f0⟩ := R.cells
 have R1 := R.locked 1
 have HM1 := Hd (HS _ R1)
 have HR1 := Hd R1
 clear R HS R1
 go_enter_defers Tryz.func56, Tryz.ntmps56
 go_wp2_with (go_at_call 58; refine (lock_free Tryz.muLib ⟨hb, 0, none⟩ _ c0 f0).mono ?_; rintro e w' ⟨rfl, rfl⟩)
 generalize hw1 : w.setCell ⟨hb, 0, none⟩ (.int .i32 1) = w1 at *
 refine HM1.out.mono ?_
 rintro e w2 ⟨rfl, T2⟩
 have HW1 := Hd hw1
 have HT2 := Hd (T2.alloc (.cells #[.int .u64 P, .int .u64 S] 71))
 have R2 := HR1.out.touch0 HT2.out
 have hm := R2.cells.1
 have fm := R2.cells.2.2.2.2.2
 clear hw1 R2 T2 c0 f0
 go_wp2
 refine leaves_cons (f := 59) (args := #[.pointer (some ⟨hb, 0, none⟩)]) (by simp) (by simp [go_sem]) ?_
 refine (unlock_deferred Tryz.muLib ⟨hb, 0, none⟩ .returning _ hm fm).mono ?_
 rintro e u' w'' ⟨rfl, rfl, rfl⟩
 exact ⟨_, results_tmp2 rfl _ _ _, HpRep.relock HW1.out.symm HR1.out HT2.out⟩
theorem HS.usable {β : Bu} {ps : List Int} {F C L : Nat → List Nat} (I : HS β ps F C L) (p : Nat) (hp : p < 18446744073709551616) :
  (∃ S, Live β p S ∧ ∀ (w : World) (hb s pb : Nat) (K : BuL), HpRep 0 w hb s pb K β ps → Calls Tryz.prog 56 #[.pointer (some ⟨hb, 0, none⟩), .int .u64 p] w (Looked w hb s pb K β ps (.tuple #[.int .u64 S, .int .i64 0]))) ∨
  ((∀ S, ¬ Live β p S) ∧ ∀ (w : World) (hb s pb : Nat) (K : BuL), HpRep 0 w hb s pb K β ps → Calls Tryz.prog 56 #[.pointer (some ⟨hb, 0, none⟩), .int .u64 p] w (Looked w hb s pb K β ps (.tuple #[.int .u64 0, .int .i64 1]))) := by
 rcases I.start p hp with ⟨S, hL, H⟩ | ⟨hno, H⟩
 ·exact .inl ⟨S, hL, fun w hb s pb K R => R.usable_ p p S 0 (fun W RW => H 1 W hb s pb K RW)⟩
 ·exact .inr ⟨hno, fun w hb s pb K R => R.usable_ p 0 0 1 (fun W RW => H 1 W hb s pb K RW)⟩
theorem Live.pos {β : Bu} {P S : Nat} (h : Live β P S) : 0 < S ∧ β.σ.base ≤ P := by
 rcases h with ⟨a, k, _, _, rfl, rfl⟩ | ⟨i, c, x, hc, _, rfl, rfl⟩
 ·have := pow0 k
  unfold Bu.addr
  omega
 ·have := wdOf_pos hc
  unfold Bu.addr
  omega
theorem HS.free {β : Bu} {ps : List Int} {F C L : Nat → List Nat} (I : HS β ps F C L) (p : Nat) (hp : p < 18446744073709551616) :
  (p = 0 ∧ ∀ (w : World) (hb s pb : Nat) (K : BuL), HpRep 0 w hb s pb K β ps → Calls Tryz.prog 92 #[.pointer (some ⟨hb, 0, none⟩), .int .u64 p] w (Looked w hb s pb K β ps (.int .i64 0))) ∨
  (p ≠ 0 ∧ ∃ S β' ps' F' C' L', Live β p S ∧ HS β' ps' F' C' L' ∧ Gone β β' p ∧ ∀ (w : World) (hb s pb : Nat) (K : BuL), HpRep 0 w hb s pb K β ps → Calls Tryz.prog 92 #[.pointer (some ⟨hb, 0, none⟩), .int .u64 p] w (Heaped w hb s pb K β' ps' (.int .i64 0))) ∨
  (p ≠ 0 ∧ (∀ S, ¬ Live β p S) ∧ ∀ (w : World) (hb s pb : Nat) (K : BuL), HpRep 0 w hb s pb K β ps → Calls Tryz.prog 92 #[.pointer (some ⟨hb, 0, none⟩), .int .u64 p] w (Looked w hb s pb K β ps (.int .i64 1))) := by
 by_cases h0 : p = 0
 ·subst h0
  exact .inl ⟨rfl, fun w hb s pb K R => R.free_none⟩
 have hne : ((p : Int) == 0) = false := by rw [beq_eq_false_iff_ne]; omega
 rcases I.start p hp with ⟨S, hL, H⟩ | ⟨hno, H⟩
 ·obtain ⟨β', ps', F', C', L', H', G, HG⟩ := I.give hL
  exact .inr (.inl ⟨h0, S, β', ps', F', C', L', hL, H', G, fun w hb s pb K R => R.free_yes p S hne (fun W RW => H 1 W hb s pb K RW) (fun W RW => HG 1 W hb s pb K RW)⟩)
 ·exact .inr (.inr ⟨h0, hno, fun w hb s pb K R => R.free_no p hne (fun W RW => H 1 W hb s pb K RW)⟩)
def InLive (β : Bu) (p n : Nat) : Prop := ∃ P S, Live β P S ∧ P ≤ p ∧ p + n ≤ P + S
theorem Live.top {β : Bu} {ps : List Int} {F C L : Nat → List Nat} (_I : HS β ps F C L) {P S : Nat} (h : Live β P S) : P + S ≤ β.σ.base + 4096 * β.μ.pages.length := by
 obtain ⟨h1, h2⟩ := h.pos
 obtain ⟨x, off, q, e, ho, hq, _⟩ := h.pages (q := P + S - 1) (by omega) (by omega)
 have := (List.getElem?_eq_some_iff.1 hq).1
 omega
theorem HS.within {β : Bu} {ps : List Int} {F C L : Nat → List Nat} (I : HS β ps F C L) (p n : Nat) (hp : p < 18446744073709551616) (hn : 0 < n) :
  (InLive β p n ∧ ∀ (m : Int) (w : World) (hb s pb : Nat) (K : BuL), HpRep m w hb s pb K β ps → Calls Tryz.prog 66 #[.pointer (some ⟨hb, 0, none⟩), .int .u64 p, .int .u64 n] w fun e w' => e = .returned (.bool true) ∧ Touch Nothing w w') ∨
  (¬ InLive β p n ∧ ∀ (m : Int) (w : World) (hb s pb : Nat) (K : BuL), HpRep m w hb s pb K β ps → Calls Tryz.prog 66 #[.pointer (some ⟨hb, 0, none⟩), .int .u64 p, .int .u64 n] w fun e w' => e = .returned (.bool false) ∧ Touch Nothing w w') := by
 rcases I.block p hp with ⟨P, S, hL, h1, h2, H⟩ | ⟨hno, P, S, H⟩
 ·have ht := hL.top I
  have hT := I.inv.top
  have hW := fun (m : Int) (w : World) (hb s pb : Nat) (K : BuL) (R : HpRep m w hb s pb K β ps) => within_yes hb p n P S h1 h2 (by omega) (H m w hb s pb K R)
  by_cases hle : n ≤ P + S - p
  ·rw [decide_eq_true hle] at hW
   exact .inl ⟨⟨P, S, hL, h1, by omega⟩, hW⟩
  ·rw [decide_eq_false hle] at hW
   refine .inr ⟨?_, hW⟩
   rintro ⟨P', S', hL', h3, h4⟩
   obtain ⟨rfl, rfl⟩ := hL.meet hL' h1 h2 h3 (by omega)
   omega
 ·refine .inr ⟨?_, fun m w hb s pb K R => within_no hb p n P S (H m w hb s pb K R)⟩
  rintro ⟨P', S', hL', h3, h4⟩
  have := hno P' S' hL'
  omega
theorem HpRep.loadWord_fault {w : World} {hb s pb : Nat} {K : BuL} {β : Bu} {ps : List Int} (R : HpRep 0 w hb s pb K β ps) (p : Nat) (HW : ∀ W, HpRep 1 W hb s pb K β ps → Calls Tryz.prog 66 #[.pointer (some ⟨hb, 0, none⟩), .int .u64 p, .int .u64 (8 : Nat)] W fun e w' => e = .returned (.bool false) ∧ Touch Nothing W w') :
  Calls Tryz.prog 95 #[.pointer (some ⟨hb, 0, none⟩), .int .u64 p] w (Looked w hb s pb K β ps (.tuple #[.int .u64 (0 : Nat), .int .i64 4])) := by
 obtain ⟨c0, -, -, -, -, f0⟩ := R.cells
 have R1 := R.locked 1
 have HM1 := Hd (HW _ R1)
 have HR1 := Hd R1
 clear R HW R1
 go_enter_defers Tryz.func95, Tryz.ntmps95
 go_wp2_with (go_at_call 58; refine (lock_free Tryz.muLib ⟨hb, 0, none⟩ _ c0 f0).mono ?_; rintro e w' ⟨rfl, rfl⟩)
 generalize hw1 : w.setCell ⟨hb, 0, none⟩ (.int .i32 1) = w1 at *
 refine HM1.out.mono ?_
 rintro e w2 ⟨rfl, T2⟩
 have HW1 := Hd hw1
 have HT2 := Hd T2
 have R2 := HR1.out.touch0 T2
 have hm := R2.cells.1
 have fm := R2.cells.2.2.2.2.2
 clear hw1 R2 T2 c0 f0
 go_wp2
 refine leaves_cons (f := 59) (args := #[.pointer (some ⟨hb, 0, none⟩)]) (by simp) (by simp [go_sem]) ?_
 refine (unlock_deferred Tryz.muLib ⟨hb, 0, none⟩ .returning _ hm fm).mono ?_
 rintro e u' w'' ⟨rfl, rfl, rfl⟩
 exact ⟨_, results_tmp2 rfl _ _ _, HpRep.relock HW1.out.symm HR1.out HT2.out⟩
theorem HpRep.storeWord_fault {w : World} {hb s pb : Nat} {K : BuL} {β : Bu} {ps : List Int} (R : HpRep 0 w hb s pb K β ps) (p v : Nat) (HW : ∀ W, HpRep 1 W hb s pb K β ps → Calls Tryz.prog 66 #[.pointer (some ⟨hb, 0, none⟩), .int .u64 p, .int .u64 (8 : Nat)] W fun e w' => e = .returned (.bool false) ∧ Touch Nothing W w') :
  Calls Tryz.prog 96 #[.pointer (some ⟨hb, 0, none⟩), .int .u64 p, .int .u64 v] w (Looked w hb s pb K β ps (.int .i64 4)) := by
 obtain ⟨c0, -, -, -, -, f0⟩ := R.cells
 have R1 := R.locked 1
 have HM1 := Hd (HW _ R1)
 have HR1 := Hd R1
 clear R HW R1
 go_enter_defers Tryz.func96, Tryz.ntmps96
 go_wp2_with (go_at_call 58; refine (lock_free Tryz.muLib ⟨hb, 0, none⟩ _ c0 f0).mono ?_; rintro e w' ⟨rfl, rfl⟩)
 generalize hw1 : w.setCell ⟨hb, 0, none⟩ (.int .i32 1) = w1 at *
 refine HM1.out.mono ?_
 rintro e w2 ⟨rfl, T2⟩
 have HW1 := Hd hw1
 have HT2 := Hd T2
 have R2 := HR1.out.touch0 T2
 have hm := R2.cells.1
 have fm := R2.cells.2.2.2.2.2
 clear hw1 R2 T2 c0 f0
 go_wp2
 refine leaves_cons (f := 59) (args := #[.pointer (some ⟨hb, 0, none⟩)]) (by simp) (by simp [go_sem]) ?_
 refine (unlock_deferred Tryz.muLib ⟨hb, 0, none⟩ .returning _ hm fm).mono ?_
 rintro e u' w'' ⟨rfl, rfl, rfl⟩
 exact ⟨_, results_tmp rfl _ _ _, HpRep.relock HW1.out.symm HR1.out HT2.out⟩
theorem HpRep.write_fault {w : World} {hb s pb : Nat} {K : BuL} {β : Bu} {ps : List Int} (R : HpRep 0 w hb s pb K β ps) (p n c : Nat) (ad : Option Addr) (hn : n ≠ 0) (hn2 : n ≤ 65536) (HW : ∀ W, HpRep 1 W hb s pb K β ps → Calls Tryz.prog 66 #[.pointer (some ⟨hb, 0, none⟩), .int .u64 p, .int .u64 n] W fun e w' => e = .returned (.bool false) ∧ Touch Nothing W w') :
  Calls Tryz.prog 97 #[.pointer (some ⟨hb, 0, none⟩), .int .u64 p, .slice ad n c] w (Looked w hb s pb K β ps (.int .i64 4)) := by
 obtain ⟨c0, -, -, -, -, f0⟩ := R.cells
 have R1 := R.locked 1
 have HM1 := Hd (HW _ R1)
 have HR1 := Hd R1
 have hne0 := int_ne0 hn
 clear R HW R1 hn
 go_enter_defers Tryz.func97, Tryz.ntmps97
 go_wp2_with (go_at_call 58; refine (lock_free Tryz.muLib ⟨hb, 0, none⟩ _ c0 f0).mono ?_; rintro e w' ⟨rfl, rfl⟩)
 generalize hw1 : w.setCell ⟨hb, 0, none⟩ (.int .i32 1) = w1 at *
 refine HM1.out.mono ?_
 rintro e w2 ⟨rfl, T2⟩
 have HW1 := Hd hw1
 have HT2 := Hd T2
 have R2 := HR1.out.touch0 T2
 have hm := R2.cells.1
 have fm := R2.cells.2.2.2.2.2
 clear hw1 R2 T2 c0 f0
 go_wp2
 refine leaves_cons (f := 59) (args := #[.pointer (some ⟨hb, 0, none⟩)]) (by simp) (by simp [go_sem]) ?_
 refine (unlock_deferred Tryz.muLib ⟨hb, 0, none⟩ .returning _ hm fm).mono ?_
 rintro e u' w'' ⟨rfl, rfl, rfl⟩
 exact ⟨_, results_tmp rfl _ _ _, HpRep.relock HW1.out.symm HR1.out HT2.out⟩
theorem HpRep.loadWord_ok {w : World} {hb s pb : Nat} {K : BuL} {β : Bu} {ps : List Int} (R : HpRep 0 w hb s pb K β ps) (p : Nat) (H : β.σ.has p 8) (HW : ∀ W, HpRep 1 W hb s pb K β ps → Calls Tryz.prog 66 #[.pointer (some ⟨hb, 0, none⟩), .int .u64 p, .int .u64 (8 : Nat)] W fun e w' => e = .returned (.bool true) ∧ Touch Nothing W w') :
  Calls Tryz.prog 95 #[.pointer (some ⟨hb, 0, none⟩), .int .u64 p] w (Looked w hb s pb K β ps (.tuple #[.int .u64 (β.σ.word p : Nat), .int .i64 0])) := by
 obtain ⟨c0, -, -, -, -, f0⟩ := R.cells
 have R1 := R.locked 1
 have HM1 := Hd (HW _ R1)
 have HR1 := Hd R1
 have HH := Hd H
 clear R HW R1 H
 go_enter_defers Tryz.func95, Tryz.ntmps95
 go_wp2_with (go_at_call 58; refine (lock_free Tryz.muLib ⟨hb, 0, none⟩ _ c0 f0).mono ?_; rintro e w' ⟨rfl, rfl⟩)
 generalize hw1 : w.setCell ⟨hb, 0, none⟩ (.int .i32 1) = w1 at *
 refine HM1.out.mono ?_
 rintro e w2 ⟨rfl, T2⟩
 have HW1 := Hd hw1
 have R2 := HR1.out.touch0 T2
 have c5 := R2.cells.2.2.2.1
 have HT2 := Hd T2
 have HSp := Hd R2.sl.po.space_
 have HWd := Hd (R2.sl.po.bu.sp.word_ p HH.out)
 clear hw1 R2 T2 c0 f0
 go_wp2_with fail
 refine HSp.out.mono ?_
 rintro e w3 ⟨rfl, rfl⟩
 go_wp2_with fail
 refine HWd.out.mono ?_
 rintro e w3 ⟨rfl, T3⟩
 have HT3 := Hd (HT2.out.trans T3)
 have R3 := HR1.out.touch0 HT3.out
 have hm := R3.cells.1
 have fm := R3.cells.2.2.2.2.2
 clear R3 T3 c5
 go_wp2
 refine leaves_cons (f := 59) (args := #[.pointer (some ⟨hb, 0, none⟩)]) (by simp) (by simp [go_sem]) ?_
 refine (unlock_deferred Tryz.muLib ⟨hb, 0, none⟩ .returning _ hm fm).mono ?_
 rintro e u' w'' ⟨rfl, rfl, rfl⟩
 exact ⟨_, results_tmp2 rfl _ _ _, HpRep.relock HW1.out.symm HR1.out HT3.out⟩
theorem HpRep.storeWord_ok {w : World} {hb s pb : Nat} {K : BuL} {β : Bu} {ps : List Int} (R : HpRep 0 w hb s pb K β ps) (p v : Nat) (hv : v < 18446744073709551616) (H : β.σ.has p 8) (HW : ∀ W, HpRep 1 W hb s pb K β ps → Calls Tryz.prog 66 #[.pointer (some ⟨hb, 0, none⟩), .int .u64 p, .int .u64 (8 : Nat)] W fun e w' => e = .returned (.bool true) ∧ Touch Nothing W w') :
  Calls Tryz.prog 96 #[.pointer (some ⟨hb, 0, none⟩), .int .u64 p, .int .u64 v] w (Heaped w hb s pb K { β with σ := β.σ.put p (wordBytes v) } ps (.int .i64 0)) := by
 obtain ⟨c0, -, -, -, -, f0⟩ := R.cells
 have R1 := R.locked 1
 have HM1 := Hd (HW _ R1)
 have HR1 := Hd R1
 have HH := Hd H
 clear R HW R1 H
 go_enter_defers Tryz.func96, Tryz.ntmps96
 go_wp2_with (go_at_call 58; refine (lock_free Tryz.muLib ⟨hb, 0, none⟩ _ c0 f0).mono ?_; rintro e w' ⟨rfl, rfl⟩)
 generalize hw1 : w.setCell ⟨hb, 0, none⟩ (.int .i32 1) = w1 at *
 refine HM1.out.mono ?_
 rintro e w2 ⟨rfl, T2⟩
 have HW1 := Hd hw1
 have R2 := HR1.out.touch0 T2
 have c5 := R2.cells.2.2.2.1
 have HT2 := Hd T2
 have HSp := Hd R2.sl.po.space_
 have HWd := Hd (R2.sl.po.bu.sp.setWord_ p v HH.out hv)
 have HR2 := Hd R2
 clear hw1 R2 T2 c0 f0
 go_wp2_with fail
 refine HSp.out.mono ?_
 rintro e w3 ⟨rfl, rfl⟩
 go_wp2_with fail
 refine HWd.out.mono ?_
 rintro e w3 ⟨rfl, r3, t3⟩
 obtain ⟨b3, T3⟩ := HR2.out.sl.po.bu.bytes r3 t3 (Sp.put_same _ _ _)
 have S3 := HR2.out.sl.next T3 (BuL.Next.refl _ _) b3
 have R3 := HR2.out.next (T3.mono (fun b _ hb => List.mem_cons_of_mem _ hb)) (BuL.Next.refl _ _) S3 ⟨rfl, rfl, rfl⟩
 have HR3 := Hd R3
 have HT3 := Hd T3
 have hm := R3.cells.1
 have fm := R3.cells.2.2.2.2.2
 clear r3 t3 b3 T3 S3 R3 c5
 go_wp2
 refine leaves_cons (f := 59) (args := #[.pointer (some ⟨hb, 0, none⟩)]) (by simp) (by simp [go_sem]) ?_
 refine (unlock_deferred Tryz.muLib ⟨hb, 0, none⟩ .returning _ hm fm).mono ?_
 rintro e u' w'' ⟨rfl, rfl, rfl⟩
 exact ⟨_, results_tmp rfl _ _ _, HpRep.unlocked HW1.out.symm HR3.out (BuL.Next.refl _ _) (HT2.out.none_.trans (HT3.out.mono (fun b _ hb => List.mem_cons_of_mem _ hb)))⟩
theorem HpRep.write_none {w : World} {hb s pb : Nat} {K : BuL} {β : Bu} {ps : List Int} (R : HpRep 0 w hb s pb K β ps) (p c : Nat) (ad : Option Addr) :
  Calls Tryz.prog 97 #[.pointer (some ⟨hb, 0, none⟩), .int .u64 p, .slice ad (0 : Nat) c] w (Looked w hb s pb K β ps (.int .i64 0)) := by
 obtain ⟨c0, -, -, -, -, f0⟩ := R.cells
 have R1 := R.locked 1
 have HR1 := Hd R1
 have hm := R1.cells.1
 have fm := R1.cells.2.2.2.2.2
 clear R R1
 go_enter_defers Tryz.func97, Tryz.ntmps97
 go_wp2_with (go_at_call 58; refine (lock_free Tryz.muLib ⟨hb, 0, none⟩ _ c0 f0).mono ?_; rintro e w' ⟨rfl, rfl⟩)
 refine leaves_cons (f := 59) (args := #[.pointer (some ⟨hb, 0, none⟩)]) (by simp) (by simp [go_sem]) ?_
 refine (unlock_deferred Tryz.muLib ⟨hb, 0, none⟩ .returning _ hm fm).mono ?_
 rintro e u' w'' ⟨rfl, rfl, rfl⟩
 exact ⟨_, results_tmp rfl _ _ _, HpRep.relock rfl HR1.out (Touch.refl _ _)⟩
end Go.Proofs.YtnjcmcnjgdjbiaaGreatDoor
namespace Go.Proofs.YtnjcmcnjgdjbiaaGreatDoor
open Go.RowKit
theorem BuRep.shrink_ {w : World} {K : BuL} {β : Bu} {F : Nat → List Nat} (R : BuRep w K β) (I : BInv β F NoHole) {a k o : Nat} (lo : o ≤ k) (hk : k ≤ β.μ.order) (hB : BlkAt β.μ.pages a k 2) :
  Calls Tryz.prog 137 #[.pointer (some ⟨K.bb, 0, none⟩), .int .u64 (β.addr a : Nat), .int .i64 k, .int .i64 o] w (Turned w K (β.cut a k o) (.int .i64 0)) := by
 have p0 := pow0 k
 have hp := hB.at_ 0 p0
 rw [Nat.add_zero] at hp
 have HL := Hd (R.live_ a k hp (by simp [runPg, plainPg]) rfl)
 have I1 := I.openLive hB
 have hH : (fun y => NoHole y ∨ Inb a k y) = Inb a k := funext fun y => propext ⟨fun h => h.resolve_left id, .inr⟩
 rw [hH] at I1
 obtain ⟨I2, K2, U2, C2⟩ := I1.cutN hk hB.al R.ok.has' (k - o) (by omega)
 have hle := hB.le
 have hpw : 2 ^ o ≤ 2 ^ k := Nat.pow_le_pow_right (by omega) lo
 have hdv : 2 ^ o ∣ a := Nat.dvd_trans (Nat.pow_dvd_pow 2 lo) hB.al
 have hC := fun (W : World) (T : Touch Nothing w W) => (R.touch0 T).cut_ a k o lo hk C2 (by rw [K2.order]; omega) (by
  rw [← Int.ofNat_tmod, Nat.mod_eq_zero_of_dvd hdv]
  rfl) (by rw [K2.len]; omega)
 have HC := Hd hC
 have hlo : ¬ ((k : Int) < (o : Int)) := by omega
 have hlo0 : ¬ ((o : Int) < 0) := by omega
 clear R I hk hB hH I1 I2 K2 U2 C2 hC p0 hp hle hpw hdv
 go_enter Tryz.func137, Tryz.ntmps137
 go_wp2_with fail
 refine HL.out.mono ?_
 rintro e w1 ⟨rfl, T1⟩
 have HT1 := Hd T1
 clear T1
 go_wp2_with fail
 refine (HC.out _ HT1.out).mono ?_
 rintro e w2 ⟨rfl, R2, T2⟩
 have HR2 := Hd R2
 have HT2 := Hd (HT1.out.none_.trans T2)
 clear R2 T2
 go_wp2_with fail
 go_ret
 exact ⟨rfl, HR2.out, HT2.out⟩
theorem BInv.cut1_byte {β : Bu} {F : Nat → List Nat} {i k : Nat} (I : BInv β F (Inb i (k + 1))) (hk : k < β.μ.order) {x off : Nat} (hx : Inb i k x) (ho : off < 4096) :
  (β.cut1 (i + 2 ^ k) k).σ.mem (β.σ.base + 4096 * x + off) = β.σ.mem (β.σ.base + 4096 * x + off) := by
 have e : (β.cut1 (i + 2 ^ k) k).σ = pushed β.σ (β.heads.getD k 0) (β.addr (i + 2 ^ k)) := (show (β.cut1 (i + 2 ^ k) k).σ = (β.enter (i + 2 ^ k) k).σ by unfold Bu.cut1; rfl).trans (enter_σ β _ _)
 rw [e]
 have hp : 2 ^ (k + 1) = 2 ^ k + 2 ^ k := by rw [Nat.pow_succ]; omega
 have h1 := hx.1
 have h2 := hx.2
 refine pushed_mem _ _ _ _ _ _ ho (by omega) ?_
 rcases I.head (k := k) (by omega) with ⟨h, _⟩ | ⟨y, t, e1, e2, _⟩
 ·exact .inl h
 ·refine .inr ⟨y, ?_, e2⟩
  rintro rfl
  exact I.apart k (by omega) y (by rw [e1]; simp) y ⟨h1, by omega⟩ (inb_self _ _)
theorem BInv.cutN_byte {β : Bu} {F : Nat → List Nat} {i j : Nat} (I : BInv β F (Inb i j)) (hj : j ≤ β.μ.order) (al : 2 ^ j ∣ i) (hs : β.Has) {x off : Nat} (ho : off < 4096) : ∀ m, m ≤ j → Inb i (j - m) x →
  (β.cutN i j m).σ.mem (β.σ.base + 4096 * x + off) = β.σ.mem (β.σ.base + 4096 * x + off)
 | 0, _, _ => rfl
 | m + 1, hm, hx => by
  obtain ⟨I1, K1, U1, C1⟩ := BInv.cutN I hj al hs m (by omega)
  obtain ⟨k, hk⟩ : ∃ k, k = j - 1 - m := ⟨_, rfl⟩
  have e1 : j - m = k + 1 := by omega
  have e2 : j - (m + 1) = k := by omega
  rw [e1] at I1
  rw [e2] at hx
  have h1 := hx.1
  have h2 := hx.2
  have hp : 2 ^ (k + 1) = 2 ^ k + 2 ^ k := by rw [Nat.pow_succ]; omega
  have ih := BInv.cutN_byte I hj al hs ho m (by omega) (by rw [e1]; exact ⟨h1, by omega⟩)
  have hc := I1.cut1_byte (by rw [K1.order]; omega) hx ho
  rw [K1.base] at hc
  show ((β.cutN i j m).cut1 (i + 2 ^ (j - 1 - m)) (j - 1 - m)).σ.mem _ = _
  rw [← hk, hc, ih]
structure Cutd (β β' : Bu) (p r : Nat) : Prop where
 base : β'.σ.base = β.σ.base
 order : β'.μ.order = β.μ.order
 limit : β'.σ.limit = β.σ.limit
 n : β'.σ.n = β.σ.n
 live : ∀ P S, Live β' P S ↔ (Live β P S ∧ P ≠ p) ∨ (P = p ∧ S = r)
 byte : ∀ P S, Live β P S → P ≠ p → ∀ q, P ≤ q → q < P + S → β'.σ.mem q = β.σ.mem q
 kept : ∀ q, p ≤ q → q < p + r → β'.σ.mem q = β.σ.mem q
theorem HS.shrinkBig {β : Bu} {ps : List Int} {F C L : Nat → List Nat} (I : HS β ps F C L) (hs : β.Has) {a k o : Nat} (lo : o ≤ k) (hk : k ≤ β.μ.order) (hB : BlkAt β.μ.pages a k 2) :
  HS (β.cut a k o) ps (cutF F a k (k - o)) C L ∧ Cutd β (β.cut a k o) (β.addr a) (4096 * 2 ^ o) := by
 obtain ⟨_, I', K, B3, U', _⟩ := I.inv.shrink hs lo hk hB
 have I1 := I.inv.openLive hB
 have hH : (fun y => NoHole y ∨ Inb a k y) = Inb a k := funext fun y => propext ⟨fun h => h.resolve_left id, .inr⟩
 rw [hH] at I1
 have hcb : ∀ x off, Inb a o x → off < 4096 → (β.cut a k o).σ.mem (β.σ.base + 4096 * x + off) = β.σ.mem (β.σ.base + 4096 * x + off) := fun x off hx ho =>
  I1.cutN_byte hk hB.al hs ho (k - o) (by omega) (by rw [show k - (k - o) = o by omega]; exact hx)
 generalize β.cut a k o = β' at *
 have hpow : 2 ^ o ≤ 2 ^ k := Nat.pow_le_pow_right (by omega) lo
 have ha : ∀ j, β'.addr j = β.addr j := fun j => by unfold Bu.addr; rw [K.base]
 have hup : ∀ {x : Nat} {p : Pg}, β.μ.pages[x]? = some p → p.kind = 2 ∨ p.kind = 3 ∨ p.kind = 4 → ¬ Inb a k x → ¬ Upen β.μ.order F (Inb a k) x := by
  rintro x p hp hkd hx (h | h)
  ·exact hx h
  ·exact I.inv.notOpen hp hkd (.inr h)
 have hup' : ∀ {x : Nat} {p : Pg}, β'.μ.pages[x]? = some p → p.kind = 2 ∨ p.kind = 3 ∨ p.kind = 4 → ¬ Inb a o x → β'.μ.pages[x]? = β.μ.pages[x]? := by
  intro x p hp hkd hx
  have h1 := I'.notOpen hp hkd
  rw [K.order] at h1
  exact K.page x (fun h => h1 ((U' x).2 ⟨h, hx⟩))
 have hbig : ∀ b m, BlkAt β'.μ.pages b m 2 ↔ (BlkAt β.μ.pages b m 2 ∧ b ≠ a) ∨ (b = a ∧ m = o) := by
  intro b m
  constructor
  ·intro h
   by_cases hc : ∃ x, Inb b m x ∧ Inb a o x
   ·obtain ⟨x, h1, h2⟩ := hc
    have := h.same B3 h1 h2
    exact .inr ⟨this.1, this.2.1⟩
   ·left
    refine ⟨h.far (fun x hx => (hup' (h.page hx) (by have := runPg_kind m (x - b); omega) (fun h' => hc ⟨x, hx, h'⟩)).symm), ?_⟩
    rintro rfl
    exact hc ⟨b, inb_self _ _, inb_self _ _⟩
  ·rintro (⟨h, hne⟩ | ⟨rfl, rfl⟩)
   ·refine h.far (fun x hx => K.page x (hup (h.page hx) (by have := runPg_kind m (x - b); omega) ?_))
    intro hx'
    exact hne (h.same hB hx hx').1
   ·exact B3
 have hkd : ∀ {i : Nat} {p : Pg}, β.μ.pages[i]? = some p → p.kind = 4 → ¬ Inb a k i := by
  intro i p hp h4 hi
  have e := Option.some.inj (hp.symm.trans (hB.page hi))
  have := runPg_kind k (i - a)
  rw [← e] at this
  omega
 have hcell : ∀ i c x, Cell β' i c x ↔ Cell β i c x := by
  intro i c x
  constructor
  ·rintro ⟨p, hp, h4, h⟩
   exact ⟨p, K.slab i p hp h4, h4, h⟩
  ·rintro ⟨p, hp, h4, h⟩
   exact ⟨p, (K.page i (hup hp (.inr (.inr h4)) (hkd hp h4))).trans hp, h4, h⟩
 have hL : Live β (β.addr a) (4096 * 2 ^ k) := .inl ⟨a, k, hk, hB, rfl, rfl⟩
 refine ⟨⟨I', I.slab.keeps K (fun i p hp h4 => hup hp (.inr (.inr h4)) (hkd hp h4)), K.nums I.nums⟩, ⟨K.base, K.order, K.limit, K.n, fun P S => ?_, fun P S h hne q h1 h2 => ?_, fun q h1 h2 => ?_⟩⟩
 ·constructor
  ·rintro (⟨b, m, hm, hb, rfl, rfl⟩ | ⟨i, c, x, hc, hx, rfl, rfl⟩)
   ·rw [ha]
    rcases (hbig b m).1 hb with ⟨h1, h2⟩ | ⟨rfl, rfl⟩
    ·refine .inl ⟨.inl ⟨b, m, by rw [← K.order]; exact hm, h1, rfl, rfl⟩, ?_⟩
     unfold Bu.addr
     omega
    ·exact .inr ⟨rfl, rfl⟩
   ·rw [ha]
    have hx' := (hcell i c x).1 hx
    refine .inl ⟨.inr ⟨i, c, x, hc, hx', rfl, rfl⟩, ?_⟩
    obtain ⟨p, hp, h4, hcl, hxl, _⟩ := hx'
    intro e
    have := cell_lt hc hxl
    have := (wdOf_pos hc).1
    unfold Bu.addr at e
    have : i = a := by omega
    subst this
    exact hkd hp h4 (inb_self i k)
  ·rintro (⟨⟨b, m, hm, hb, rfl, rfl⟩ | ⟨i, c, x, hc, hx, rfl, rfl⟩, hne⟩ | ⟨rfl, rfl⟩)
   ·exact .inl ⟨b, m, by rw [K.order]; exact hm, (hbig b m).2 (.inl ⟨hb, by rintro rfl; exact hne rfl⟩), (ha b).symm, rfl⟩
   ·exact .inr ⟨i, c, x, hc, (hcell i c x).2 hx, by rw [ha], rfl⟩
   ·exact .inl ⟨a, o, by rw [K.order]; omega, B3, (ha a).symm, rfl⟩
 ·obtain ⟨x, off, p, rfl, ho, hp, hkd'⟩ := h.pages h1 h2
  refine K.byte x off (hup hp hkd' (fun hx => ?_)) ho
  have := hx.1
  have := hx.2
  exact hne (h.meet hL h1 h2 (by unfold Bu.addr; omega) (by unfold Bu.addr; omega)).1
 ·unfold Bu.addr at h1 h2
  have := hcb ((q - β.σ.base) / 4096) ((q - β.σ.base) % 4096) ⟨by omega, by omega⟩ (Nat.mod_lt _ (by omega))
  rwa [show β.σ.base + 4096 * ((q - β.σ.base) / 4096) + (q - β.σ.base) % 4096 = q by omega] at this
end Go.Proofs.YtnjcmcnjgdjbiaaGreatDoor
namespace Go.Proofs.YtnjcmcnjgdjbiaaGreatDoor
theorem Nums.has {β : Bu} (N : Nums β) : β.Has := by
 intro x off n hx hn hf
 have hs := N.size
 have hfu := N.full
 have p0 := pow0 β.μ.order
 have e : β.σ.base + 4096 * x + off - β.σ.base = 4096 * x + off := by omega
 have hq : (4096 * x + off) / β.σ.size = x / 2 ^ β.μ.order := by
  rw [hs, ← Nat.div_div_eq_div_mul, show (4096 * x + off) / 4096 = x by omega]
 have hr : (4096 * x + off) % β.σ.size = 4096 * (x % 2 ^ β.μ.order) + off := by
  have h1 := Nat.div_add_mod (4096 * x + off) β.σ.size
  rw [hq, hs] at h1
  have h2 := Nat.div_add_mod x (2 ^ β.μ.order)
  rw [hs]
  have h3 : 4096 * 2 ^ β.μ.order * (x / 2 ^ β.μ.order) = 4096 * (2 ^ β.μ.order * (x / 2 ^ β.μ.order)) := Nat.mul_assoc _ _ _
  omega
 refine ⟨hn, by omega, ?_, ?_⟩
 ·rw [e, hq, Nat.div_lt_iff_lt_mul p0, ← hfu]
  exact hx
 ·rw [e, hr, hs]
  have := Nat.mod_lt x p0
  omega
theorem Live.notFree {β : Bu} {ps : List Int} {F C L : Nat → List Nat} (I : HS β ps F C L) {P S i f q : Nat} {p : Pg} (h : Live β P S) (hp : β.μ.pages[i]? = some p) (h4 : p.kind = 4) (hf : f ∈ C i) (h1 : P ≤ q) (h2 : q < P + S)
  (h3 : β.addr i + f * wdOf p.cls.toNat ≤ q) (h5 : q < β.addr i + f * wdOf p.cls.toNat + wdOf p.cls.toNat) : False := by
 have D := I.slab.pages i p hp h4
 have hfm := (D.mem f).1 hf
 have l1 := cell_in p.cls D.cls hfm.1
 unfold Bu.addr at h3 h5
 rcases h with ⟨a, k, hk, hb, rfl, rfl⟩ | ⟨j, d, y, hd, ⟨q', hq, hq4, hql, hyl, hyb⟩, rfl, rfl⟩
 ·unfold Bu.addr at h1 h2
  have hin : Inb a k i := ⟨by omega, by omega⟩
  have e := Option.some.inj (hp.symm.trans (hb.page hin))
  have := runPg_kind k (i - a)
  rw [← e] at this
  omega
 ·have l2 := cell_lt hd hyl
  unfold Bu.addr at h1 h2
  have : j = i := by omega
  subst this
  obtain rfl : p = q' := Option.some.inj (hp.symm.trans hq)
  have hdn : p.cls.toNat = d := by omega
  rw [hdn] at h3 h5 l1
  have h6 : f * wdOf d < y * wdOf d + wdOf d := by omega
  have h7 : y * wdOf d < f * wdOf d + wdOf d := by omega
  rw [← Nat.succ_mul] at h6 h7
  have h8 := Nat.lt_of_mul_lt_mul_right h6
  have h9 := Nat.lt_of_mul_lt_mul_right h7
  have : y = f := by omega
  rw [this, hfm.2] at hyb
  simp at hyb
theorem HS.write {β : Bu} {ps : List Int} {F C L : Nat → List Nat} (I : HS β ps F C L) {p : Nat} {bs : List Nat} (hin : InLive β p bs.length) : HS { β with σ := β.σ.put p bs } ps F C L := by
 obtain ⟨P, S, hL, h1, h2⟩ := hin
 refine ⟨I.inv.write' rfl (fun k hk j hj off ho => ?_), ⟨I.slab.len, fun i pg hpg h4 => ?_, I.slab.lists, I.slab.nodup, I.slab.mem⟩, ⟨I.nums.full, I.nums.size, I.nums.le, I.nums.pages, I.nums.top, I.nums.so, I.nums.al⟩⟩
 ·refine put_mem _ _ _ _ (Classical.byContradiction (fun hc => ?_))
  obtain ⟨x, off', q, e, ho', hq, hkd⟩ := hL.pages (q := β.σ.base + 4096 * j + off) (by omega) (by omega)
  have : x = j := by omega
  subst this
  exact I.inv.notOpen hq hkd (.inr ⟨k, hk, x, hj, inb_self _ _⟩)
 ·refine (I.slab.pages i pg hpg h4).bytes (fun f hf => ?_)
  have hw := (wdOf_cells pg.cls (I.slab.pages i pg hpg h4).cls).2.1
  refine leBytes_congr (fun a h3 h4' => put_mem _ _ _ _ (Classical.byContradiction (fun hc => ?_)))
  exact hL.notFree I hpg h4 hf (q := a) (by omega) (by omega) h3 (by omega)
theorem HS.hasIn {β : Bu} {ps : List Int} {F C L : Nat → List Nat} (I : HS β ps F C L) {p n : Nat} (hn : 0 < n) (hin : InLive β p n) : β.σ.has p n := by
 obtain ⟨P, S, hL, h1, h2⟩ := hin
 rcases hL with ⟨a, k, hk, hb, rfl, rfl⟩ | ⟨i, c, x, hc, ⟨q, hq, hq4, hql, hxl, _⟩, rfl, rfl⟩
 ·obtain ⟨a', rfl⟩ := hb.al
  have hs := I.nums.size
  have hfu := I.nums.full
  have hle := hb.le
  obtain ⟨t, ht⟩ : ∃ t, t = 2 ^ (β.μ.order - k) := ⟨_, rfl⟩
  have hot : 2 ^ β.μ.order = 2 ^ k * t := by rw [ht, ← Nat.pow_add, show k + (β.μ.order - k) = β.μ.order by omega]
  have t0 : 0 < t := by rw [ht]; exact pow0 _
  have p0 := pow0 k
  obtain ⟨s, hs'⟩ : ∃ s, s = 4096 * 2 ^ k := ⟨_, rfl⟩
  have hsz : β.σ.size = s * t := by rw [hs, hot, hs', Nat.mul_assoc]
  unfold Bu.addr at h1 h2
  obtain ⟨r, hr⟩ : ∃ r, p = β.σ.base + 4096 * (2 ^ k * a') + r := ⟨p - (β.σ.base + 4096 * (2 ^ k * a')), by omega⟩
  have e4 : 4096 * (2 ^ k * a') = s * a' := by rw [hs', Nat.mul_assoc]
  have hD : p - β.σ.base = s * a' + r := by omega
  have hrs : r < s := by omega
  have hq : (s * a' + r) / s = a' := by rw [Nat.mul_add_div (by omega), Nat.div_eq_of_lt hrs]; rfl
  have hm : (s * a' + r) % s = r := by rw [Nat.mul_add_mod, Nat.mod_eq_of_lt hrs]
  rw [hot, Nat.mul_comm (2 ^ k) t, ← Nat.mul_assoc] at hfu
  have hlt : a' < β.σ.n * t := by
   have h5 : (a' + 1) * 2 ^ k ≤ β.σ.n * t * 2 ^ k := by rw [← hfu, Nat.succ_mul, Nat.mul_comm a']; exact hle
   exact Nat.le_of_mul_le_mul_right h5 p0
  refine ⟨hn, by omega, ?_, ?_⟩
  ·rw [hD, hsz, ← Nat.div_div_eq_div_mul, hq]
   exact (Nat.div_lt_iff_lt_mul t0).2 hlt
  ·rw [hD, hsz, Nat.mod_mul, hm, hq]
   have h6 : a' % t + 1 ≤ t := Nat.mod_lt _ t0
   have h7 : s * (a' % t + 1) ≤ s * t := Nat.mul_le_mul_left _ h6
   rw [Nat.mul_succ] at h7
   omega
 ·have l := cell_lt hc hxl
  have hlt := (List.getElem?_eq_some_iff.1 hq).1
  unfold Bu.addr at h1 h2
  have := I.nums.has i (p - (β.σ.base + 4096 * i)) n hlt hn (by omega)
  rwa [show β.σ.base + 4096 * i + (p - (β.σ.base + 4096 * i)) = p by omega] at this
end Go.Proofs.YtnjcmcnjgdjbiaaGreatDoor
namespace Go.Proofs.YtnjcmcnjgdjbiaaGreatDoor
open Go.RowKit
theorem HS.loadWord {β : Bu} {ps : List Int} {F C L : Nat → List Nat} (I : HS β ps F C L) (p : Nat) (hp : p < 18446744073709551616) :
  (InLive β p 8 ∧ ∀ (w : World) (hb s pb : Nat) (K : BuL), HpRep 0 w hb s pb K β ps → Calls Tryz.prog 95 #[.pointer (some ⟨hb, 0, none⟩), .int .u64 p] w (Looked w hb s pb K β ps (.tuple #[.int .u64 (β.σ.word p : Nat), .int .i64 0]))) ∨
  (¬ InLive β p 8 ∧ ∀ (w : World) (hb s pb : Nat) (K : BuL), HpRep 0 w hb s pb K β ps → Calls Tryz.prog 95 #[.pointer (some ⟨hb, 0, none⟩), .int .u64 p] w (Looked w hb s pb K β ps (.tuple #[.int .u64 (0 : Nat), .int .i64 4]))) := by
 rcases I.within p 8 hp (by omega) with ⟨h, H⟩ | ⟨h, H⟩
 ·exact .inl ⟨h, fun w hb s pb K R => R.loadWord_ok p (I.hasIn (by omega) h) (fun W RW => H 1 W hb s pb K RW)⟩
 ·exact .inr ⟨h, fun w hb s pb K R => R.loadWord_fault p (fun W RW => H 1 W hb s pb K RW)⟩
theorem HS.storeWord {β : Bu} {ps : List Int} {F C L : Nat → List Nat} (I : HS β ps F C L) (p v : Nat) (hp : p < 18446744073709551616) (hv : v < 18446744073709551616) :
  (InLive β p 8 ∧ HS { β with σ := β.σ.put p (wordBytes v) } ps F C L ∧ ∀ (w : World) (hb s pb : Nat) (K : BuL), HpRep 0 w hb s pb K β ps → Calls Tryz.prog 96 #[.pointer (some ⟨hb, 0, none⟩), .int .u64 p, .int .u64 v] w (Heaped w hb s pb K { β with σ := β.σ.put p (wordBytes v) } ps (.int .i64 0))) ∨
  (¬ InLive β p 8 ∧ ∀ (w : World) (hb s pb : Nat) (K : BuL), HpRep 0 w hb s pb K β ps → Calls Tryz.prog 96 #[.pointer (some ⟨hb, 0, none⟩), .int .u64 p, .int .u64 v] w (Looked w hb s pb K β ps (.int .i64 4))) := by
 rcases I.within p 8 hp (by omega) with ⟨h, H⟩ | ⟨h, H⟩
 ·exact .inl ⟨h, I.write (bs := wordBytes v) (by simpa [wordBytes] using h), fun w hb s pb K R => R.storeWord_ok p v hv (I.hasIn (by omega) h) (fun W RW => H 1 W hb s pb K RW)⟩
 ·exact .inr ⟨h, fun w hb s pb K R => R.storeWord_fault p v (fun W RW => H 1 W hb s pb K RW)⟩
theorem HpRep.store_fault {w : World} {hb s pb : Nat} {K : BuL} {β : Bu} {ps : List Int} (R : HpRep 0 w hb s pb K β ps) (p v : Nat)
  (HW : ∀ W, HpRep 1 W hb s pb K β ps → Calls Tryz.prog 66 #[.pointer (some ⟨hb, 0, none⟩), .int .u64 p, .int .u64 1] W fun e w' => e = .returned (.bool false) ∧ Touch Nothing W w') :
  Calls Tryz.prog 94 #[.pointer (some ⟨hb, 0, none⟩), .int .u64 p, .int .u8 v] w (Looked w hb s pb K β ps (.int .i64 4)) := by
 have T0 : Touch Nothing w (w.alloc (.cells #[.int .u8 v] 5)) := (Touch.refl _ _).alloc _
 have HWr := Hd ((R.touch0 T0).write_fault p 1 1 (some ⟨w.heap.size, 0, none⟩) (by omega) (by omega) HW)
 have HT0 := Hd T0
 clear R HW T0
 go_enter Tryz.func94, Tryz.ntmps94
 go_wp2_with fail
 refine HWr.out.mono ?_
 rintro e w1 ⟨rfl, hR, hT⟩
 have H1 := Hd hR
 have H2 := Hd hT
 clear hR hT
 go_wp2_with fail
 go_ret
 exact ⟨rfl, H1.out, HT0.out.none_.trans H2.out⟩
theorem HS.load {β : Bu} {ps : List Int} {F C L : Nat → List Nat} (I : HS β ps F C L) (p : Nat) (hp : p < 18446744073709551616) :
  (InLive β p 1 ∧ ∀ (w : World) (hb s pb : Nat) (K : BuL), HpRep 0 w hb s pb K β ps → Calls Tryz.prog 93 #[.pointer (some ⟨hb, 0, none⟩), .int .u64 p] w (Looked w hb s pb K β ps (.tuple #[.int .u8 (β.σ.mem p : Nat), .int .i64 0]))) ∨
  (¬ InLive β p 1 ∧ ∀ (w : World) (hb s pb : Nat) (K : BuL), HpRep 0 w hb s pb K β ps → Calls Tryz.prog 93 #[.pointer (some ⟨hb, 0, none⟩), .int .u64 p] w (Looked w hb s pb K β ps (.tuple #[.int .u8 0, .int .i64 4]))) := by
 rcases I.within p 1 hp (by omega) with ⟨h, H⟩ | ⟨h, H⟩
 ·exact .inl ⟨h, fun w hb s pb K R => R.load_ok p (I.hasIn (by omega) h) (fun W RW => H 1 W hb s pb K RW)⟩
 ·exact .inr ⟨h, fun w hb s pb K R => R.load_fault p (fun W RW => H 1 W hb s pb K RW)⟩
theorem HS.store {β : Bu} {ps : List Int} {F C L : Nat → List Nat} (I : HS β ps F C L) (p v : Nat) (hp : p < 18446744073709551616) (hv : v < 256) :
  (InLive β p 1 ∧ HS { β with σ := β.σ.put p [v] } ps F C L ∧ ∀ (w : World) (hb s pb : Nat) (K : BuL), HpRep 0 w hb s pb K β ps → Calls Tryz.prog 94 #[.pointer (some ⟨hb, 0, none⟩), .int .u64 p, .int .u8 v] w (Heaped w hb s pb K { β with σ := β.σ.put p [v] } ps (.int .i64 0))) ∨
  (¬ InLive β p 1 ∧ ∀ (w : World) (hb s pb : Nat) (K : BuL), HpRep 0 w hb s pb K β ps → Calls Tryz.prog 94 #[.pointer (some ⟨hb, 0, none⟩), .int .u64 p, .int .u8 v] w (Looked w hb s pb K β ps (.int .i64 4))) := by
 rcases I.within p 1 hp (by omega) with ⟨h, H⟩ | ⟨h, H⟩
 ·exact .inl ⟨h, I.write (bs := [v]) h, fun w hb s pb K R => R.store_ok p v hv (I.hasIn (by omega) h) (fun W RW => H 1 W hb s pb K RW)⟩
 ·exact .inr ⟨h, fun w hb s pb K R => R.store_fault p v (fun W RW => H 1 W hb s pb K RW)⟩
theorem HS.read {β : Bu} {ps : List Int} {F C L : Nat → List Nat} (I : HS β ps F C L) (p n : Nat) (hp : p < 18446744073709551616) (hn : 0 < n) :
  (InLive β p n ∧ ∀ (w : World) (hb s pb : Nat) (K : BuL), HpRep 0 w hb s pb K β ps → Calls Tryz.prog 28 #[.pointer (some ⟨hb, 0, none⟩), .int .u64 p, .int .u64 n] w (ReadAs w hb s pb K β ps n (β.σ.bytes p n))) ∨
  (¬ InLive β p n ∧ ∀ (w : World) (hb s pb : Nat) (K : BuL), HpRep 0 w hb s pb K β ps → Calls Tryz.prog 28 #[.pointer (some ⟨hb, 0, none⟩), .int .u64 p, .int .u64 n] w (Looked w hb s pb K β ps (.tuple #[.slice none 0 0, .int .i64 4]))) := by
 rcases I.within p n hp hn with ⟨h, H⟩ | ⟨h, H⟩
 ·exact .inl ⟨h, fun w hb s pb K R => R.read_ok p n (I.hasIn hn h) (fun W RW => H 1 W hb s pb K RW)⟩
 ·exact .inr ⟨h, fun w hb s pb K R => R.read_fault p n (by omega) (fun W RW => H 1 W hb s pb K RW)⟩
theorem HS.writes {β : Bu} {ps : List Int} {F C L : Nat → List Nat} (I : HS β ps F C L) (p : Nat) (bs : List Nat) (hp : p < 18446744073709551616) (hn : 0 < bs.length) (hn2 : bs.length ≤ 65536) (hbs : ∀ x ∈ bs, x < 256) :
  (InLive β p bs.length ∧ HS { β with σ := β.σ.put p bs } ps F C L ∧ ∀ (w : World) (hb s pb : Nat) (K : BuL) (c : Nat) (ad : Addr), HpRep 0 w hb s pb K β ps → bs.length ≤ c → ad.block < w.heap.size → ad.block ≠ hb → (∀ j v, (u8s bs)[j]? = some v → w.cell? (ad.add j) = some v) →
   Calls Tryz.prog 97 #[.pointer (some ⟨hb, 0, none⟩), .int .u64 p, .slice (some ad) bs.length c] w (Heaped w hb s pb K { β with σ := β.σ.put p bs } ps (.int .i64 0))) ∨
  (¬ InLive β p bs.length ∧ ∀ (w : World) (hb s pb : Nat) (K : BuL) (c : Nat) (ad : Option Addr), HpRep 0 w hb s pb K β ps → Calls Tryz.prog 97 #[.pointer (some ⟨hb, 0, none⟩), .int .u64 p, .slice ad bs.length c] w (Looked w hb s pb K β ps (.int .i64 4))) := by
 rcases I.within p bs.length hp hn with ⟨h, H⟩ | ⟨h, H⟩
 ·exact .inl ⟨h, I.write h, fun w hb s pb K c ad R hc had hne hsrc => R.write_ok p bs.length c bs ad (I.hasIn hn h) rfl hc hbs had hne hsrc (fun W RW => H 1 W hb s pb K RW)⟩
 ·exact .inr ⟨h, fun w hb s pb K c ad R => R.write_fault p bs.length c ad (by omega) hn2 (fun W RW => H 1 W hb s pb K RW)⟩
theorem HS.aligned {β : Bu} {ps : List Int} {F C L : Nat → List Nat} (I : HS β ps F C L) (align size : Nat) (deny : Bool) (h1 : size < 18446744073709551616) (h2 : align < 18446744073709551616) :
  ((roundN β.σ.size size align).2 ≠ 0 ∧ ∀ (w : World) (hb s pb : Nat) (K : BuL), HpRep 0 w hb s pb K β ps → Calls Tryz.prog 90 #[.pointer (some ⟨hb, 0, none⟩), .int .u64 align, .int .u64 size, .bool deny] w (Heaped w hb s pb K β ps (.tuple #[.int .u64 (0 : Nat), .int .i64 (roundN β.σ.size size align).2]))) ∨
  (∃ r β' ps' F' C' L' p, roundN β.σ.size size align = (r, 0) ∧ SizeOk β.μ.order r ∧ HS β' ps' F' C' L' ∧ Took β F L r deny β' p ∧
   ∀ (w : World) (hb s pb : Nat) (K : BuL), HpRep 0 w hb s pb K β ps → Calls Tryz.prog 90 #[.pointer (some ⟨hb, 0, none⟩), .int .u64 align, .int .u64 size, .bool deny] w (Heaped w hb s pb K β' ps' (.tuple #[.int .u64 p, .int .i64 0]))) ∨
  (∃ r, roundN β.σ.size size align = (r, 0) ∧ SizeOk β.μ.order r ∧ NoRoom β.μ.order F L r ∧ (deny = true ∨ β.σ.n = β.σ.limit) ∧
   ∀ (w : World) (hb s pb : Nat) (K : BuL), HpRep 0 w hb s pb K β ps → Calls Tryz.prog 90 #[.pointer (some ⟨hb, 0, none⟩), .int .u64 align, .int .u64 size, .bool deny] w (Heaped w hb s pb K β ps (.tuple #[.int .u64 (0 : Nat), .int .i64 2]))) := by
 rcases I.malloc size align deny h1 h2 with ⟨h, H⟩ | ⟨r, β', ps', F', C', L', p, hr, hs, HI, T, H⟩ | ⟨r, hr, hs, hn, hd, H⟩
 ·exact .inl ⟨h, fun w hb s pb K R => R.aligned_ size align 0 0 _ deny ⟨rfl, rfl, rfl⟩ (fun W RW => H 1 W hb s pb K RW)⟩
 ·exact .inr (.inl ⟨r, β', ps', F', C', L', p, hr, hs, HI, T, fun w hb s pb K R => R.aligned_ size align p r 0 deny T.more.same (fun W RW => H 1 W hb s pb K RW)⟩)
 ·exact .inr (.inr ⟨r, hr, hs, hn, hd, fun w hb s pb K R => R.aligned_ size align 0 0 2 deny ⟨rfl, rfl, rfl⟩ (fun W RW => H 1 W hb s pb K RW)⟩)
theorem HS.mallocs {β : Bu} {ps : List Int} {F C L : Nat → List Nat} (I : HS β ps F C L) (size : Nat) (deny : Bool) (h1 : size < 18446744073709551616) :
  ((roundN β.σ.size size 1).2 ≠ 0 ∧ ∀ (w : World) (hb s pb : Nat) (K : BuL), HpRep 0 w hb s pb K β ps → Calls Tryz.prog 88 #[.pointer (some ⟨hb, 0, none⟩), .int .u64 size, .bool deny] w (Heaped w hb s pb K β ps (.tuple #[.int .u64 (0 : Nat), .int .i64 (roundN β.σ.size size 1).2]))) ∨
  (∃ r β' ps' F' C' L' p, roundN β.σ.size size 1 = (r, 0) ∧ SizeOk β.μ.order r ∧ HS β' ps' F' C' L' ∧ Took β F L r deny β' p ∧
   ∀ (w : World) (hb s pb : Nat) (K : BuL), HpRep 0 w hb s pb K β ps → Calls Tryz.prog 88 #[.pointer (some ⟨hb, 0, none⟩), .int .u64 size, .bool deny] w (Heaped w hb s pb K β' ps' (.tuple #[.int .u64 p, .int .i64 0]))) ∨
  (∃ r, roundN β.σ.size size 1 = (r, 0) ∧ SizeOk β.μ.order r ∧ NoRoom β.μ.order F L r ∧ (deny = true ∨ β.σ.n = β.σ.limit) ∧
   ∀ (w : World) (hb s pb : Nat) (K : BuL), HpRep 0 w hb s pb K β ps → Calls Tryz.prog 88 #[.pointer (some ⟨hb, 0, none⟩), .int .u64 size, .bool deny] w (Heaped w hb s pb K β ps (.tuple #[.int .u64 (0 : Nat), .int .i64 2]))) := by
 rcases I.malloc size 1 deny h1 (by omega) with ⟨h, H⟩ | ⟨r, β', ps', F', C', L', p, hr, hs, HI, T, H⟩ | ⟨r, hr, hs, hn, hd, H⟩
 ·exact .inl ⟨h, fun w hb s pb K R => R.malloc_ size 0 0 _ deny ⟨rfl, rfl, rfl⟩ (fun W RW => H 1 W hb s pb K RW)⟩
 ·exact .inr (.inl ⟨r, β', ps', F', C', L', p, hr, hs, HI, T, fun w hb s pb K R => R.malloc_ size p r 0 deny T.more.same (fun W RW => H 1 W hb s pb K RW)⟩)
 ·exact .inr (.inr ⟨r, hr, hs, hn, hd, fun w hb s pb K R => R.malloc_ size 0 0 2 deny ⟨rfl, rfl, rfl⟩ (fun W RW => H 1 W hb s pb K RW)⟩)
end Go.Proofs.YtnjcmcnjgdjbiaaGreatDoor
