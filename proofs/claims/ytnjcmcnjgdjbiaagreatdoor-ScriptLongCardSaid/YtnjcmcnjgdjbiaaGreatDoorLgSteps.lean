/- What a call of a script does to a heap: script.One at the heap's own methods. Conditions: the address, the method have their contracts. Printed by wip/tools/gsteps.py. The examples' later steps: closed facts on the first heap. Conditions: none. The walks of the laws' own helpers: heap, fails, awake. Conditions: none. The walk of the laws' helper awake: a small script parsed and played. Conditions: none. Printed by wip/tools/gaw.py. -/
import Derived.Test.YtnjcmcnjgdjbiaaGreatDoorLgPlay
import Derived.Test.YtnjcmcnjgdjbiaaGreatDoorLgOneA
import Derived.Test.YtnjcmcnjgdjbiaaGreatDoorLgOneB
import Derived.Test.YtnjcmcnjgdjbiaaGreatDoorLgOneC
import Derived.Test.YtnjcmcnjgdjbiaaGreatDoorLgOnes
namespace Go.Proofs.YtnjcmcnjgdjbiaaGreatDoor
open Go.RowKit

def numAn (v : Nat) (e : Int) : An := if e = 0 then ⟨0, v, [], 0, 0, 0, 0⟩ else ⟨e, 0, [], 0, 0, 0, 0⟩
def errAn (e : Int) : An := ⟨e, 0, [], 0, 0, 0, 0⟩

theorem numAns_is (w : World) (v : Nat) (e : Int) : AnsIs w (numAns v e) (numAn v e) ∧ (numAns v e).block = none := by
  unfold numAns numAn
  split
  · exact ⟨⟨rfl, rfl, rfl, rfl, rfl, rfl, World.ownsRow_nil _ _ _ _⟩, rfl⟩
  · exact ⟨⟨rfl, rfl, rfl, rfl, rfl, rfl, World.ownsRow_nil _ _ _ _⟩, rfl⟩

theorem errAns_is (w : World) (e : Int) : AnsIs w (errAns e) (errAn e) ∧ (errAns e).block = none :=
  ⟨⟨rfl, rfl, rfl, rfl, rfl, rfl, World.ownsRow_nil _ _ _ _⟩, rfl⟩

theorem Done.stepped {w w' : World} {hb s pb : Nat} {K : BuL} {β β' : Bu} {ps ps' : List Int} {a0 : AnsV} {x : An} {e : Ending} (R : HpRep 0 w hb s pb K β ps) (H : Done w (QHp hb s pb K β' ps' a0) e w') (hx : ∀ W, AnsIs W a0 x) (hb0 : a0.block = none) :
    Stepped w hb s pb K β' ps' x e w' := by
  obtain ⟨an, he, W, W1, b, T0, ⟨rfl, K', R1, N1, T1⟩, h1, h2, T2⟩ := H
  obtain ⟨K2, R2, N2, T3⟩ := Heaped.out (v := .int .i64 0) (e := .returned (.int .i64 0)) R T0 ⟨rfl, K', R1, N1, T1⟩ h1 h2 T2
  exact ⟨an, he, K2, R2, N2, T3, hx w', fun g hg => by rw [hb0] at hg; cases hg⟩

theorem bytes_owns {w : World} {g : Nat} {bs : List UInt8} (h : Blk w g 5 (bytesV bs)) (hm : bs.length ≤ maxLen) : w.ownsRow 0 5 1 (.slice (some ⟨g, 0, none⟩) bs.length bs.length) bs.length (bytesV bs) :=
  ⟨by simp [bytesV], .inr ⟨g, bs.length, (bytesV bs).toArray, rfl, Nat.zero_le _, h, Nat.le_refl _, hm, by simp [bytesV], List.take_of_length_le (by simp [bytesV])⟩⟩

theorem Done.stepped_read {w w' : World} {hb s pb : Nat} {K : BuL} {β : Bu} {ps : List Int} {bs : List UInt8} {n : Nat} {e : Ending} (R : HpRep 0 w hb s pb K β ps) (hn : bs.length = n) (hm : n ≤ 65536) (H : Done w (QRead hb s pb K β ps n (bytesV bs)) e w') :
    Stepped w hb s pb K β ps ⟨0, 0, bs, 0, 0, 0, 0⟩ e w' := by
  subst hn
  obtain ⟨an, he, W, W1, b, T0, ⟨g, rfl, hg, B, R1, T1⟩, h1, h2, T2⟩ := H
  have hl := R.lt
  have hgs := R.glob.size
  have hlk : ∀ k ∈ hb :: s :: pb :: K.fp, ¬ k = b := fun k hk e => by have := hl k hk; omega
  have R2 : HpRep 0 w' hb s pb K β ps := R1.touch T2 hlk (fun k hk e => by omega)
  have hs0 := T0.size
  have T3 : Touch (· = hb) w w' := (T0.none_.trans T1).trans' T2 (fun i hi e => by omega)
  refine ⟨_, he, K, R2, BuL.Next.refl _ _, T3.mono (fun k _ h => by simp [h]), ⟨rfl, rfl, rfl, rfl, rfl, rfl, bytes_owns (B.touch T2 (fun e => by omega)) (by unfold maxLen; omega)⟩, fun i hi => ?_⟩
  obtain rfl : g = i := by cases hi; rfl
  refine ⟨by omega, fun hm => ?_⟩
  have := hl g hm
  omega

theorem Anss.of {w : World} {B hb s pb : Nat} {K : BuL} {v : Value} {aa : List AnsV} {ax : List An} (A : Answers w B hb s pb K v aa ax) : Anss w v aa := owns_lower A.own (Nat.zero_le _)

theorem HpRep.turn_lt {w : World} {hb s pb : Nat} {K : BuL} {β : Bu} {ps : List Int} (R : HpRep 0 w hb s pb K β ps) : ∀ k, k ∈ hb :: s :: K.fp → k < w.heap.size := fun k hk => by
  refine R.lt k ?_
  simp only [List.mem_cons] at hk ⊢
  rcases hk with h | h | h
  · exact .inl h
  · exact .inr (.inl h)
  · exact .inr (.inr (.inr h))

theorem step_malloc {w : World} {hb s pb : Nat} {K : BuL} {β β' : Bu} {ps ps' : List Int} (R : HpRep 0 w hb s pb K β ps) (c : CallV) (v : Value) (q : Nat) (hop : c.op = 1) (p : Nat) (er : Int) 
    (HAd : ∀ W, Touch Nothing w W → Calls Tryz.prog 38 #[c.val, v] W (Addressed W q))
    (HM : ∀ W, HpRep 0 W hb s pb K β ps → Calls Tryz.prog 88 #[.pointer (some ⟨hb, 0, none⟩), .int .u64 c.a, .bool c.deny] W (Heaped W hb s pb K β' ps' (.tuple #[.int .u64 p, .int .i64 er]))) :
    Calls Tryz.prog 22 #[.pointer (some ⟨hb, 0, none⟩), c.val, v] w (Stepped w hb s pb K β' ps' (numAn p er)) :=
  (one_1 hb q c v (· ∈ hb :: s :: K.fp) R.turn_lt (QHp hb s pb K β' ps' (numAns p er)) (fun _ _ _ h => h.2.choose_spec.2.2) hop (Lib.hid HAd) (Lib.hid fun _W T => meth_malloc (R.touch0 T) c q p er HM)).mono fun _ _ h => h.stepped R (fun _ => (numAns_is _ _ _).1) (numAns_is w _ _).2

theorem step_calloc {w : World} {hb s pb : Nat} {K : BuL} {β β' : Bu} {ps ps' : List Int} (R : HpRep 0 w hb s pb K β ps) (c : CallV) (v : Value) (q : Nat) (hop : c.op = 2) (p : Nat) (er : Int) 
    (HAd : ∀ W, Touch Nothing w W → Calls Tryz.prog 38 #[c.val, v] W (Addressed W q))
    (HM : ∀ W, HpRep 0 W hb s pb K β ps → Calls Tryz.prog 89 #[.pointer (some ⟨hb, 0, none⟩), .int .u64 c.a, .int .u64 c.b, .bool c.deny] W (Heaped W hb s pb K β' ps' (.tuple #[.int .u64 p, .int .i64 er]))) :
    Calls Tryz.prog 22 #[.pointer (some ⟨hb, 0, none⟩), c.val, v] w (Stepped w hb s pb K β' ps' (numAn p er)) :=
  (one_2 hb q c v (· ∈ hb :: s :: K.fp) R.turn_lt (QHp hb s pb K β' ps' (numAns p er)) (fun _ _ _ h => h.2.choose_spec.2.2) hop (Lib.hid HAd) (Lib.hid fun _W T => meth_calloc (R.touch0 T) c q p er HM)).mono fun _ _ h => h.stepped R (fun _ => (numAns_is _ _ _).1) (numAns_is w _ _).2

theorem step_free {w : World} {hb s pb : Nat} {K : BuL} {β β' : Bu} {ps ps' : List Int} (R : HpRep 0 w hb s pb K β ps) (c : CallV) (v : Value) (q : Nat) (hop : c.op = 5) (er : Int) 
    (HAd : ∀ W, Touch Nothing w W → Calls Tryz.prog 38 #[c.val, v] W (Addressed W q))
    (HM : ∀ W, HpRep 0 W hb s pb K β ps → Calls Tryz.prog 92 #[.pointer (some ⟨hb, 0, none⟩), .int .u64 q] W (Heaped W hb s pb K β' ps' (.int .i64 er))) :
    Calls Tryz.prog 22 #[.pointer (some ⟨hb, 0, none⟩), c.val, v] w (Stepped w hb s pb K β' ps' (errAn er)) :=
  (one_5 hb q c v (· ∈ hb :: s :: K.fp) R.turn_lt (QHp hb s pb K β' ps' (errAns er)) (fun _ _ _ h => h.2.choose_spec.2.2) hop (Lib.hid HAd) (Lib.hid fun _W T => meth_free (R.touch0 T) c q er HM)).mono fun _ _ h => h.stepped R (fun _ => (errAns_is _ _).1) (errAns_is w _).2

theorem step_usable {w : World} {hb s pb : Nat} {K : BuL} {β β' : Bu} {ps ps' : List Int} (R : HpRep 0 w hb s pb K β ps) (c : CallV) (v : Value) (q : Nat) (hop : c.op = 6) (p : Nat) (er : Int) 
    (HAd : ∀ W, Touch Nothing w W → Calls Tryz.prog 38 #[c.val, v] W (Addressed W q))
    (HM : ∀ W, HpRep 0 W hb s pb K β ps → Calls Tryz.prog 56 #[.pointer (some ⟨hb, 0, none⟩), .int .u64 q] W (Heaped W hb s pb K β' ps' (.tuple #[.int .u64 p, .int .i64 er]))) :
    Calls Tryz.prog 22 #[.pointer (some ⟨hb, 0, none⟩), c.val, v] w (Stepped w hb s pb K β' ps' (numAn p er)) :=
  (one_6 hb q c v (· ∈ hb :: s :: K.fp) R.turn_lt (QHp hb s pb K β' ps' (numAns p er)) (fun _ _ _ h => h.2.choose_spec.2.2) hop (Lib.hid HAd) (Lib.hid fun _W T => meth_usable (R.touch0 T) c q p er HM)).mono fun _ _ h => h.stepped R (fun _ => (numAns_is _ _ _).1) (numAns_is w _ _).2

theorem step_load {w : World} {hb s pb : Nat} {K : BuL} {β β' : Bu} {ps ps' : List Int} (R : HpRep 0 w hb s pb K β ps) (c : CallV) (v : Value) (q : Nat) (hop : c.op = 7) (p : Nat) (er : Int) (hp : p < 256)
    (HAd : ∀ W, Touch Nothing w W → Calls Tryz.prog 38 #[c.val, v] W (Addressed W q))
    (HM : ∀ W, HpRep 0 W hb s pb K β ps → Calls Tryz.prog 93 #[.pointer (some ⟨hb, 0, none⟩), .int .u64 q] W (Heaped W hb s pb K β' ps' (.tuple #[.int .u8 p, .int .i64 er]))) :
    Calls Tryz.prog 22 #[.pointer (some ⟨hb, 0, none⟩), c.val, v] w (Stepped w hb s pb K β' ps' (numAn p er)) :=
  (one_7 hb q c v (· ∈ hb :: s :: K.fp) R.turn_lt (QHp hb s pb K β' ps' (numAns p er)) (fun _ _ _ h => h.2.choose_spec.2.2) hop (Lib.hid HAd) (Lib.hid fun _W T => meth_load (R.touch0 T) c q p er hp HM)).mono fun _ _ h => h.stepped R (fun _ => (numAns_is _ _ _).1) (numAns_is w _ _).2

theorem step_store {w : World} {hb s pb : Nat} {K : BuL} {β β' : Bu} {ps ps' : List Int} (R : HpRep 0 w hb s pb K β ps) (c : CallV) (v : Value) (q : Nat) (hop : c.op = 8) (er : Int) (ha : c.a < 256)
    (HAd : ∀ W, Touch Nothing w W → Calls Tryz.prog 38 #[c.val, v] W (Addressed W q))
    (HM : ∀ W, HpRep 0 W hb s pb K β ps → Calls Tryz.prog 94 #[.pointer (some ⟨hb, 0, none⟩), .int .u64 q, .int .u8 c.a] W (Heaped W hb s pb K β' ps' (.int .i64 er))) :
    Calls Tryz.prog 22 #[.pointer (some ⟨hb, 0, none⟩), c.val, v] w (Stepped w hb s pb K β' ps' (errAn er)) :=
  (one_8 hb q c v (· ∈ hb :: s :: K.fp) R.turn_lt (QHp hb s pb K β' ps' (errAns er)) (fun _ _ _ h => h.2.choose_spec.2.2) hop (Lib.hid HAd) (Lib.hid fun _W T => meth_store (R.touch0 T) c q er ha HM)).mono fun _ _ h => h.stepped R (fun _ => (errAns_is _ _).1) (errAns_is w _).2

theorem step_write {w : World} {hb s pb : Nat} {K : BuL} {β β' : Bu} {ps ps' : List Int} (R : HpRep 0 w hb s pb K β ps) (c : CallV) (v : Value) (q : Nat) (hop : c.op = 12) (er : Int) (ha : c.dn ≤ 65536)
    (HAd : ∀ W, Touch Nothing w W → Calls Tryz.prog 38 #[c.val, v] W (Addressed W q))
    (HM : ∀ W, Touch Nothing w W → HpRep 0 W hb s pb K β ps → Calls Tryz.prog 97 #[.pointer (some ⟨hb, 0, none⟩), .int .u64 q, .slice c.dp c.dn c.dc] W (Heaped W hb s pb K β' ps' (.int .i64 er))) :
    Calls Tryz.prog 22 #[.pointer (some ⟨hb, 0, none⟩), c.val, v] w (Stepped w hb s pb K β' ps' (errAn er)) :=
  (one_12 hb q c v (· ∈ hb :: s :: K.fp) R.turn_lt (QHp hb s pb K β' ps' (errAns er)) (fun _ _ _ h => h.2.choose_spec.2.2) hop (Lib.hid HAd) (Lib.hid fun _W T => meth_write (R.touch0 T) c q er ha (fun W2 T2 R2 => HM W2 (T.trans T2) R2))).mono fun _ _ h => h.stepped R (fun _ => (errAns_is _ _).1) (errAns_is w _).2

theorem step_read {w : World} {hb s pb : Nat} {K : BuL} {β : Bu} {ps : List Int} (R : HpRep 0 w hb s pb K β ps) (c : CallV) (v : Value) (q : Nat) (hop : c.op = 11) (bs : List UInt8) (hn : bs.length = c.a) (ha : c.a ≤ 65536)
    (HAd : ∀ W, Touch Nothing w W → Calls Tryz.prog 38 #[c.val, v] W (Addressed W q))
    (HM : ∀ W, HpRep 0 W hb s pb K β ps → Calls Tryz.prog 28 #[.pointer (some ⟨hb, 0, none⟩), .int .u64 q, .int .u64 c.a] W (ReadAs W hb s pb K β ps c.a (bytesV bs))) :
    Calls Tryz.prog 22 #[.pointer (some ⟨hb, 0, none⟩), c.val, v] w (Stepped w hb s pb K β ps ⟨0, 0, bs, 0, 0, 0, 0⟩) :=
  (one_11 hb q c v (· ∈ hb :: s :: K.fp) R.turn_lt (QRead hb s pb K β ps c.a (bytesV bs)) (fun _ _ _ h => h.choose_spec.2.2.2.2.mono (fun k _ h => by simp [h])) hop (Lib.hid HAd) (Lib.hid fun W T => meth_read (R.touch0 T) c q (bytesV bs) ha HM)).mono fun _ _ h => h.stepped_read R hn ha

end Go.Proofs.YtnjcmcnjgdjbiaaGreatDoor

namespace Go.Proofs.YtnjcmcnjgdjbiaaGreatDoor
open Go.RowKit

theorem pages2 : β2.μ.pages[0]?.isSome = true ∧ β2.μ.pages[0]?.map (·.kind) = some 4 ∧ β2.μ.pages[0]?.map (·.cls) = some 0 ∧ β2.μ.pages[0]?.map (·.bit 0) = some true ∧ β2.μ.pages[0]?.map (·.bit 1) = some false := by
  refine ⟨by decide +kernel, by decide +kernel, by decide +kernel, by decide +kernel, by decide +kernel⟩

theorem space2 : β2.σ.base = 65536 ∧ β2.σ.size = 8192 ∧ β2.σ.n = 1 := by
  refine ⟨by decide +kernel, by decide +kernel, by decide +kernel⟩

/-- a heap that looks like the one behind the first small block -/
structure Like2 (β : Bu) : Prop where
  map : β.μ = β2.μ
  base : β.σ.base = 65536
  size : β.σ.size = 8192
  n : β.σ.n = 1

theorem like2 : Like2 β2 := ⟨rfl, space2.1, space2.2.1, space2.2.2⟩
theorem Like2.put {β : Bu} (h : Like2 β) (p : Nat) (bs : List Nat) : Like2 { β with σ := β.σ.put p bs } := ⟨h.map, h.base, h.size, h.n⟩

theorem Like2.has {β : Bu} (h : Like2 β) (p n : Nat) (h0 : 0 < n) (h1 : 65536 ≤ p) (h2 : p + n ≤ 65536 + 8192) : β.σ.has p n := by
  refine ⟨h0, by rw [h.base]; exact h1, ?_, ?_⟩
  · rw [h.base, h.size, h.n, Nat.div_eq_of_lt (by omega)]
    omega
  · rw [h.base, h.size, Nat.mod_eq_of_lt (by omega)]
    omega

theorem Like2.slab {β : Bu} (h : Like2 β) (p : Nat) (h1 : 65536 ≤ p) (h2 : p < 65536 + 4096) : ∃ pg, InSlab β p 0 0 pg ∧ pg.bit 0 = true ∧ pg.bit 1 = false := by
  obtain ⟨q1, q2, q3, q4, q5⟩ := pages2
  cases hp : β2.μ.pages[0]? with
  | none => rw [hp] at q1; cases q1
  | some pg =>
    rw [hp] at q2 q3 q4 q5
    simp at q2 q3 q4 q5
    exact ⟨pg, ⟨by rw [h.map]; exact hp, q2, q3, by rw [h.base]; exact h1, by rw [h.base]; omega⟩, q4, q5⟩

/-- within the first cell -/
theorem HpRep.within2 {m : Int} {w : World} {hb s pb : Nat} {K : BuL} {β : Bu} {ps : List Int} (R : HpRep m w hb s pb K β ps) (h : Like2 β) (p n : Nat) (h1 : 65536 ≤ p) (h2 : p < 65552) (h3 : p + n ≤ 65552) :
    Calls Tryz.prog 66 #[.pointer (some ⟨hb, 0, none⟩), .int .u64 p, .int .u64 n] w fun e w' => e = .returned (.bool true) ∧ Touch Nothing w w' := by
  obtain ⟨pg, hS, hb0, -⟩ := h.slab p h1 (by omega)
  have hq : p / wdOf 0 = 4096 := by show p / 16 = 4096; omega
  have h0 : cellAt p 0 = 0 := by unfold cellAt; rw [hq]; decide
  refine (R.within_slab p n 0 0 hS).mono ?_
  rintro e w' ⟨rfl, T⟩
  refine ⟨?_, T⟩
  rw [h0, hb0, hq]
  have : n ≤ 4096 * wdOf 0 + wdOf 0 - p := by show n ≤ 4096 * 16 + 16 - p; omega
  simp [this]

/-- the cell behind the first is free -/
theorem HpRep.within2_no {m : Int} {w : World} {hb s pb : Nat} {K : BuL} {β : Bu} {ps : List Int} (R : HpRep m w hb s pb K β ps) (h : Like2 β) (n : Nat) :
    Calls Tryz.prog 66 #[.pointer (some ⟨hb, 0, none⟩), .int .u64 (65552 : Nat), .int .u64 n] w fun e w' => e = .returned (.bool false) ∧ Touch Nothing w w' := by
  obtain ⟨pg, hS, -, hb1⟩ := h.slab 65552 (by omega) (by omega)
  have h0 : cellAt 65552 0 = 1 := by decide
  refine (R.within_slab 65552 n 0 0 hS).mono ?_
  rintro e w' ⟨rfl, T⟩
  refine ⟨?_, T⟩
  rw [h0, hb1]
  rfl

theorem HpRep.store2 {w : World} {hb s pb : Nat} {K : BuL} {β : Bu} {ps : List Int} (R : HpRep 0 w hb s pb K β ps) (h : Like2 β) (v : Nat) (hv : v < 256) :
    Calls Tryz.prog 94 #[.pointer (some ⟨hb, 0, none⟩), .int .u64 (65536 : Nat), .int .u8 v] w (Heaped w hb s pb K { β with σ := β.σ.put 65536 [v] } ps (.int .i64 0)) :=
  R.store_ok 65536 v hv (h.has _ _ (by omega) (by omega) (by omega)) (fun W RW => RW.within2 h 65536 1 (by omega) (by omega) (by omega))

theorem HpRep.load2 {w : World} {hb s pb : Nat} {K : BuL} {β : Bu} {ps : List Int} (R : HpRep 0 w hb s pb K β ps) (h : Like2 β) (p : Nat) (h1 : 65536 ≤ p) (h2 : p < 65552) :
    Calls Tryz.prog 93 #[.pointer (some ⟨hb, 0, none⟩), .int .u64 p] w (Heaped w hb s pb K β ps (.tuple #[.int .u8 (β.σ.mem p : Nat), .int .i64 0])) :=
  (R.load_ok p (h.has _ _ (by omega) (by omega) (by omega)) (fun W RW => RW.within2 h p 1 (by omega) (by omega) (by omega))).mono fun _ _ H => H.heaped

theorem HpRep.load2_no {w : World} {hb s pb : Nat} {K : BuL} {β : Bu} {ps : List Int} (R : HpRep 0 w hb s pb K β ps) (h : Like2 β) :
    Calls Tryz.prog 93 #[.pointer (some ⟨hb, 0, none⟩), .int .u64 (65552 : Nat)] w (Heaped w hb s pb K β ps (.tuple #[.int .u8 (0 : Nat), .int .i64 4])) :=
  (R.load_fault 65552 (fun _W RW => RW.within2_no h 1)).mono fun _ _ H => H.heaped

theorem HpRep.calloc2 {w : World} {hb s pb : Nat} {K : BuL} (R : HpRep 0 w hb s pb K β0 noParts)
    (hMul : ∀ W, Calls Tryz.prog 132 #[.int .u64 (2 : Nat), .int .u64 (8 : Nat)] W fun e w' => e = .returned (.tuple #[.int .u64 0, .int .u64 (2 * 8 : Nat)]) ∧ w' = W) :
    Calls Tryz.prog 89 #[.pointer (some ⟨hb, 0, none⟩), .int .u64 (2 : Nat), .int .u64 (8 : Nat), .bool false] w (Heaped w hb s pb K { β2 with σ := β2.σ.put 65536 (List.replicate 16 0) } parts2 (.tuple #[.int .u64 (65536 : Nat), .int .i64 0])) :=
  R.calloc_ok 2 8 65536 16 false same2 (by decide) hMul (like2.has _ _ (by omega) (by omega) (by omega)) (fun _ RW => RW.malloc16 16 (by omega))

theorem HpRep.write2 {w : World} {hb s pb : Nat} {K : BuL} {β : Bu} {ps : List Int} (R : HpRep 0 w hb s pb K β ps) (h : Like2 β) (bs : List Nat) (n c : Nat) (ad : Addr) (h0 : 0 < n) (hn : bs.length = n) (hnc : n ≤ c) (hl : n ≤ 16) (hbs : ∀ x ∈ bs, x < 256)
    (had : ad.block < w.heap.size) (hne : ad.block ≠ hb) (hsrc : ∀ j v, (u8s bs)[j]? = some v → w.cell? (ad.add j) = some v) :
    Calls Tryz.prog 97 #[.pointer (some ⟨hb, 0, none⟩), .int .u64 (65536 : Nat), .slice (some ad) n c] w (Heaped w hb s pb K { β with σ := β.σ.put 65536 bs } ps (.int .i64 0)) :=
  R.write_ok 65536 n c bs ad (h.has _ _ h0 (by omega) (by omega)) hn hnc hbs had hne hsrc (fun W RW => RW.within2 h _ _ (by omega) (by omega) (by omega))

theorem HpRep.read2 {w : World} {hb s pb : Nat} {K : BuL} {β : Bu} {ps : List Int} (R : HpRep 0 w hb s pb K β ps) (h : Like2 β) (p n : Nat) (h0 : 0 < n) (h1 : 65536 ≤ p) (h2 : p + n ≤ 65552) :
    Calls Tryz.prog 28 #[.pointer (some ⟨hb, 0, none⟩), .int .u64 p, .int .u64 n] w (ReadAs w hb s pb K β ps n (β.σ.bytes p n)) :=
  R.read_ok p n (h.has _ _ h0 h1 (by omega)) (fun W RW => RW.within2 h _ _ h1 (by omega) (by omega))

set_option maxRecDepth 100000 in
theorem malloc_round_did {w : World} (hb size align : Nat) (er : Int) (deny : Bool) (her : er ≠ 0)
    (HR : Hid (∀ W, Touch Nothing w W → Calls Tryz.prog 135 #[.pointer (some ⟨hb, 0, none⟩), .int .u64 size, .int .u64 align] W (Rounded W (0, er)))) (Q : World → World → Prop) (hQ : ∀ W, Touch Nothing w W → Q W W) :
    Calls Tryz.prog 133 #[.pointer (some ⟨hb, 0, none⟩), .int .u64 size, .int .u64 align, .bool deny] w (Did w (.tuple #[.agg #[.int .u64 (0 : Nat), .int .u64 (0 : Nat)], .int .i64 er]) Q) := by
  have T0 := Lib.hid (show Touch Nothing w (w.alloc (.cells #[.int .u64 0, .int .u64 0] 71)) from (Touch.refl _ _).alloc _)
  have hne : (er != 0) = true := by rw [bne_iff_ne]; exact her
  have HQ := Lib.hid (hQ _ T0.out)
  clear her hQ
  go_enter Tryz.func133, Tryz.ntmps133
  go_wp2_with fail
  refine (HR.out _ T0.out).mono ?_
  rintro e w1 ⟨rfl, rfl⟩
  go_wp2_with fail
  exact bodyPost_ret (v := .tuple #[.agg #[.int .u64 0, .int .u64 0], .int .i64 er]) (by simp [results, Tryz.results133, go_sem]) rfl ⟨rfl, _, _, w.heap.size, T0.out, HQ.out, Nat.le_refl _, by simp, Touch.refl _ _⟩

theorem HpRep.malloc_too {w : World} {hb s pb : Nat} {K : BuL} (R : HpRep 0 w hb s pb K β0 noParts) :
    Calls Tryz.prog 88 #[.pointer (some ⟨hb, 0, none⟩), .int .u64 (9000 : Nat), .bool false] w (Heaped w hb s pb K β0 noParts (.tuple #[.int .u64 (0 : Nat), .int .i64 3])) :=
  R.malloc_ 9000 0 0 3 false ⟨rfl, rfl, rfl⟩ (fun _ RW => malloc_round_did hb 9000 1 3 false (by decide)
    (Lib.hid fun W T => by
      have := (RW.touch0 T).round_ 9000 1 (by omega) (by omega)
      rw [show roundN β0.σ.size 9000 1 = (0, 3) by decide +kernel] at this
      exact this) _ (fun W T => ⟨K, (RW.touch0 T).sl, BuL.Next.refl _ _, Touch.refl _ _⟩))

theorem HpRep.malloc_deny {w : World} {hb s pb : Nat} {K : BuL} (R : HpRep 0 w hb s pb K β0 noParts) :
    Calls Tryz.prog 88 #[.pointer (some ⟨hb, 0, none⟩), .int .u64 (5000 : Nat), .bool true] w (Heaped w hb s pb K β0 noParts (.tuple #[.int .u64 (0 : Nat), .int .i64 2])) := by
  refine R.malloc_ 5000 0 0 2 true ⟨rfl, rfl, rfl⟩ (fun _ RW => malloc_take hb 5000 1 8192 2 true (by decide) (QSl s pb K β0 noParts) (· ∈ s :: K.fp) (fun k hk => ?_) QSl.touch (Lib.hid fun W T => ?_) (Lib.hid fun W T => ?_))
  · refine RW.lt k ?_
    rcases List.mem_cons.1 hk with h | h
    · simp [h]
    · simp [h]
  · have := (RW.touch0 T).round_ 5000 1 (by omega) (by omega)
    rw [show roundN β0.σ.size 5000 1 = (8192, 0) by decide +kernel] at this
    exact this
  · have R2 := RW.touch0 T
    refine take_big hb pb 8192 1 0 false true 2 (QSl s pb K β0 noParts) R2.cells.2.2.2.1 (by omega) (by omega) (by decide +kernel) (fun V TV => ?_)
    have R3 := R2.touch0 TV
    refine (R3.sl.po.need_no 1 true (by decide +kernel) (fun k h1 h2 => zero_heads k h2) (.inl rfl)).mono ?_
    rintro e w' ⟨rfl, T4⟩
    exact ⟨rfl, K, (R3.touch0 T4).sl, BuL.Next.refl _ _, T4.none_⟩

end Go.Proofs.YtnjcmcnjgdjbiaaGreatDoor

namespace Go.Proofs.YtnjcmcnjgdjbiaaGreatDoor
open Go.RowKit

/-- a new heap -/
def HeapMade (w : World) (e : Ending) (w' : World) : Prop :=
  ∃ hb s pb K, e = .returned (.pointer (some ⟨hb, 0, none⟩)) ∧ HpRep 0 w' hb s pb K β0 noParts ∧ Touch Nothing w w' ∧ ∀ k ∈ hb :: s :: pb :: K.fp, w.heap.size ≤ k

theorem heap_ (w : World) (G : Glob w) : Calls Tryz.prog 14 #[] w (HeapMade w) := by
  have HN := Lib.hid (newHeap_yes 65536 2 1 w (by omega) may0 (by omega) G)
  unfold cfgV at HN
  go_enter Tryz.func14, Tryz.ntmps14
  go_wp2_with fail
  refine HN.out.mono ?_
  rintro e w1 ⟨hb, s, pb, K, rfl, R, T, F⟩
  have HR := Lib.hid R
  have HT := Lib.hid T
  have HF := Lib.hid F
  clear R T F
  go_wp2_with fail
  go_ret
  exact ⟨hb, s, pb, K, rfl, HR.out, HT.out, HF.out⟩

theorem owns_zero {w : World} {B e size : Nat} {v : Value} {xs : List Value} (h : w.ownsRow B e size v 0 xs) : ∃ dp dc, v = .slice dp 0 dc := by
  rcases h.2 with ⟨h, _⟩ | ⟨g, cap, cur, h, _⟩
  · exact ⟨none, 0, h⟩
  · exact ⟨_, _, h⟩

theorem fails_ (s : ByteArray) (n : Nat) (er : Nat) (w : World) (G : Glob w) (h : Txt.parseW s.data.toList = ([], n, er)) : Calls Tryz.prog 12 #[.string s, .int .i64 n, .int .i64 er] w fun e w' => e = .returned (.bool true) ∧ Touch Nothing w w' := by
  have HP := Lib.hid (parse_ s w G)
  have HE := Lib.hid h
  clear h
  go_enter Tryz.func12, Tryz.ntmps12
  go_wp2_with fail
  refine HP.out.mono ?_
  rintro e w1 ⟨dp, dn, dc, cs, rfl, hc, T⟩
  rw [HE.out] at hc
  rw [HE.out]
  obtain rfl : cs = [] := List.eq_nil_of_length_eq_zero hc.len
  obtain ⟨dp', dc', hv⟩ := owns_zero hc.own
  cases hv
  have HT := Lib.hid T
  clear hc T
  go_wp2_with fail
  go_ret
  exact ⟨by simp, HT.out⟩

end Go.Proofs.YtnjcmcnjgdjbiaaGreatDoor

namespace Go.Proofs.YtnjcmcnjgdjbiaaGreatDoor
open Go.RowKit

def awakeX : List Txt.Cd := [⟨1, 0, 0, 1, 0, false, []⟩, ⟨8, 1, 0, 7, 0, false, []⟩, ⟨7, 1, 0, 0, 0, false, []⟩, ⟨7, 1, 16, 0, 0, false, []⟩]
def awakeA : List An := [⟨0, 65536, [], 0, 0, 0, 0⟩, ⟨0, 0, [], 0, 0, 0, 0⟩, ⟨0, 7, [], 0, 0, 0, 0⟩, ⟨4, 0, [], 0, 0, 0, 0⟩]
def β3 : Bu := { β2 with σ := β2.σ.put 65536 [7] }
def awakeS : Nat → Bu × List Int
  | 0 => (β0, noParts)
  | 1 => (β2, parts2)
  | _ + 2 => (β3, parts2)

theorem parse_awake : Txt.parseW [109, 97, 108, 108, 111, 99, 32, 49, 10, 115, 116, 111, 114, 101, 32, 36, 49, 32, 55, 10, 108, 111, 97, 100, 32, 36, 49, 10, 108, 111, 97, 100, 32, 36, 49, 43, 49, 54, 10] = (awakeX, 0, 0) := by kernel_rfl

theorem like3 : Like2 β3 := like2.put _ _

theorem addr_of {w : World} {B hb s pb : Nat} {K : BuL} {v : Value} {aa : List AnsV} {ax : List An} (A : Answers w B hb s pb K v aa ax) (c : CallV) (j : Nat) (x : An) (hr : c.ref = (j : Int) + 1) (hx : ax[j]? = some x) (he : x.e = 0) (hs : x.v + c.p ≤ 18446744073709551615) :
    ∀ W, Touch Nothing w W → Calls Tryz.prog 38 #[c.val, v] W (Addressed W (x.v + c.p)) := by
  intro W T
  have hj := (List.getElem?_eq_some_iff.1 hx).1
  obtain ⟨a, ha⟩ : ∃ a, aa[j]? = some a := ⟨_, List.getElem?_eq_getElem (by rw [A.len]; exact hj)⟩
  have hi := A.each j a x ha hx
  rw [← hi.v] at hs ⊢
  exact address_ok c v aa (Anss.of (A.still T)) j a hr ha (by rw [hi.e]; exact he) hs

theorem addr_bad {w : World} {B hb s pb : Nat} {K : BuL} {v : Value} {aa : List AnsV} {ax : List An} (A : Answers w B hb s pb K v aa ax) (c : CallV) (j : Nat) (x : An) (hr : c.ref = (j : Int) + 1) (hx : ax[j]? = some x) (he : x.e ≠ 0) :
    ∀ W, Touch Nothing w W → Calls Tryz.prog 38 #[c.val, v] W (Addressed W c.p) := by
  intro W T
  have hj := (List.getElem?_eq_some_iff.1 hx).1
  obtain ⟨a, ha⟩ : ∃ a, aa[j]? = some a := ⟨_, List.getElem?_eq_getElem (by rw [A.len]; exact hj)⟩
  have hi := A.each j a x ha hx
  exact address_err c v aa (Anss.of (A.still T)) j a hr ha (by rw [hi.e]; exact he)

theorem addr_no (c : CallV) (v : Value) (w : World) (hr : c.ref = 0) : ∀ W, Touch Nothing w W → Calls Tryz.prog 38 #[c.val, v] W (Addressed W c.p) := fun _ _ => address_zero c v hr

theorem awake_steps (hb s pb B gc cap : Nat) (cs : List CallV) : StepAt hb s pb B cs awakeX awakeA awakeS gc cap := by
  intro k c a w K v aa hc ha R C A hl
  have hk : k < 4 := (List.getElem?_eq_some_iff.1 ha).1
  obtain rfl | rfl | rfl | rfl : k = 0 ∨ k = 1 ∨ k = 2 ∨ k = 3 := by omega
  · have hi := C.calls.each 0 c _ hc rfl
    cases ha
    obtain ⟨op, ref, p, aN, b, deny, dp, dn, dc⟩ := c
    obtain ⟨h1, h2, h3, h4, h5, h6, h7⟩ := hi
    simp only at h1 h2 h3 h4 h5 h6
    subst h1 h2 h3 h4 h5 h6
    exact step_malloc R _ v _ rfl 65536 0 (addr_no _ v w rfl) (fun W RW => RW.first_malloc 1 (by omega))
  · have hi := C.calls.each 1 c _ hc rfl
    cases ha
    obtain ⟨op, ref, p, aN, b, deny, dp, dn, dc⟩ := c
    obtain ⟨h1, h2, h3, h4, h5, h6, h7⟩ := hi
    simp only at h1 h2 h3 h4 h5 h6
    subst h1 h2 h3 h4 h5 h6
    exact step_store R _ v 65536 rfl 0 (by simp only []; omega) (addr_of A _ 0 _ rfl rfl rfl (by simp only []; omega)) (fun W RW => RW.store2 like2 7 (by omega))
  · have hi := C.calls.each 2 c _ hc rfl
    cases ha
    obtain ⟨op, ref, p, aN, b, deny, dp, dn, dc⟩ := c
    obtain ⟨h1, h2, h3, h4, h5, h6, h7⟩ := hi
    simp only at h1 h2 h3 h4 h5 h6
    subst h1 h2 h3 h4 h5 h6
    exact step_load R _ v 65536 rfl 7 0 (by decide) (addr_of A _ 0 _ rfl rfl rfl (by simp only []; omega)) (fun W RW => RW.load2 like3 65536 (by omega) (by omega))
  · have hi := C.calls.each 3 c _ hc rfl
    cases ha
    obtain ⟨op, ref, p, aN, b, deny, dp, dn, dc⟩ := c
    obtain ⟨h1, h2, h3, h4, h5, h6, h7⟩ := hi
    simp only at h1 h2 h3 h4 h5 h6
    subst h1 h2 h3 h4 h5 h6
    exact step_load R _ v 65552 rfl 0 4 (by decide) (addr_of A _ 0 _ rfl rfl rfl (by simp only []; omega)) (fun W RW => RW.load2_no like3)

/-- parse's calls beside a heap made later -/
theorem callers_of {w1 w2 : World} {B hb s pb : Nat} {K : BuL} {dp : Option Addr} {dn dc : Nat} {cs : List CallV} {cx : List Txt.Cd} (h : CallsAt w1 B (.slice dp dn dc) cs cx) (hn : 0 < cx.length) (T : Touch Nothing w1 w2) (F : ∀ k ∈ hb :: s :: pb :: K.fp, w1.heap.size ≤ k) :
    ∃ gc, dp = some ⟨gc, 0, none⟩ ∧ dn = cs.length ∧ Callers w2 hb s pb K gc dc cs cx := by
  obtain ⟨gc, cap, hv, hb1, hg⟩ := World.ownsRow.form h.own (by rw [h.len]; exact hn)
  cases hv
  refine ⟨gc, rfl, rfl, (h.still T).lower (Nat.zero_le _), fun hm => by have := F gc hm; omega, fun c hc g hg' hm => ?_⟩
  obtain ⟨i, hi⟩ := List.getElem?_of_mem hc
  have hil := (List.getElem?_eq_some_iff.1 hi).1
  have := (World.ownsRow.lt (h.each i c _ hi (List.getElem?_eq_getElem (by rw [← h.len]; exact hil))).own g hg').2
  have := F g hm
  omega

theorem ans_cell {w : World} {B hb s pb : Nat} {K : BuL} {g cap n : Nat} {aa : List AnsV} {ax : List An} (A : Answers w B hb s pb K (.slice (some ⟨g, 0, none⟩) n cap) aa ax) (i : Nat) (a : AnsV) (hi : aa[i]? = some a) (j : Nat) (u : Value) (hu : a.cells[j]? = some u) :
    w.cell? ⟨g, i * 7 + j, none⟩ = some u := by
  have hj : j < 7 := by have := (List.getElem?_eq_some_iff.1 hu).1; simpa [AnsV.cells] using this
  have hil := (List.getElem?_eq_some_iff.1 hi).1
  have hn : aa.length = n := by
    rcases A.own.2 with ⟨h, _⟩ | ⟨g1, c1, cur, h, _⟩
    · cases h
    · cases h; rfl
  subst hn
  rw [World.ownsRow.cellAt A.own (i * 7 + j) (by omega)]
  exact flat7_get aa i a hi j u hu

theorem ans_e {w : World} {B hb s pb : Nat} {K : BuL} {g cap n : Nat} {aa : List AnsV} {ax : List An} (A : Answers w B hb s pb K (.slice (some ⟨g, 0, none⟩) n cap) aa ax) (i : Nat) (x : An) (hx : ax[i]? = some x) : w.cell? ⟨g, i * 7, none⟩ = some (.int .i64 x.e) ∧ w.cell? ⟨g, i * 7 + 1, none⟩ = some (.int .u64 x.v) := by
  have hil := (List.getElem?_eq_some_iff.1 hx).1
  obtain ⟨a, ha⟩ : ∃ a, aa[i]? = some a := ⟨_, List.getElem?_eq_getElem (by rw [A.len]; exact hil)⟩
  have h := A.each i a x ha hx
  have h0 := ans_cell A i a ha 0 _ rfl
  have h1 := ans_cell A i a ha 1 _ rfl
  rw [h.e] at h0
  rw [h.v] at h1
  exact ⟨h0, h1⟩

set_option maxRecDepth 100000 in
set_option maxHeartbeats 4000000 in
theorem awake_ (w : World) (G : Glob w) : Calls Tryz.prog 11 #[] w fun e w' => e = .returned (.bool true) ∧ Touch Nothing w w' := by
  have HP := Lib.hid (parse_ ⟨#[109, 97, 108, 108, 111, 99, 32, 49, 10, 115, 116, 111, 114, 101, 32, 36, 49, 32, 55, 10, 108, 111, 97, 100, 32, 36, 49, 10, 108, 111, 97, 100, 32, 36, 49, 43, 49, 54, 10]⟩ w G)
  have HG := Lib.hid G
  have HE := Lib.hid parse_awake
  clear G
  go_enter Tryz.func11, Tryz.ntmps11
  go_wp2_with fail
  refine HP.out.mono ?_
  rintro e w1 ⟨dp, dn, dc, cs, rfl, hc, T1⟩
  rw [show Txt.parseW (⟨#[109, 97, 108, 108, 111, 99, 32, 49, 10, 115, 116, 111, 114, 101, 32, 36, 49, 32, 55, 10, 108, 111, 97, 100, 32, 36, 49, 10, 108, 111, 97, 100, 32, 36, 49, 43, 49, 54, 10]⟩ : ByteArray).data.toList = (awakeX, 0, 0) from HE.out] at hc ⊢
  have HC := Lib.hid hc
  have HT1 := Lib.hid T1
  have hn : cs.length = 4 := hc.len
  have hdn : dn = 4 := by
    rcases hc.own.2 with ⟨h, h0⟩ | ⟨g, cap, cur, h, _⟩
    · omega
    · cases h; exact hn
  subst hdn
  clear hc T1
  go_wp2_with fail
  refine (heap_ w1 (HG.out.touch0 HT1.out)).mono ?_
  rintro e w2 ⟨hb, s, pb, K, rfl, R, T2, F⟩
  obtain ⟨gc, rfl, -, C⟩ := callers_of HC.out (by decide) T2 F
  have HPl := Lib.hid (play_ (cx := awakeX) (ax := awakeA) (st := awakeS) R C (by omega) (by rw [hn]; rfl) (awake_steps hb s pb w2.heap.size gc dc cs))
  rw [hn] at HPl
  have HT2 := Lib.hid T2
  have HF := Lib.hid F
  clear R C T2 F
  go_wp2_with fail
  refine HPl.out.mono ?_
  rintro e w3 ⟨K', aa, ap, an, ac, rfl, hR⟩
  have hA := hR.answers
  have hal : aa.length = 4 := by rw [hR.len, hn]
  obtain ⟨g, cap, hv, -, -⟩ := World.ownsRow.form hA.own (by omega)
  cases hv
  rw [hal] at hA ⊢
  rw [hn] at hA
  have a0 : w3.cell? ⟨g, 1, none⟩ = some (.int .u64 65536) := (ans_e hA 0 _ rfl).2
  have a1 : w3.cell? ⟨g, 7, none⟩ = some (.int .i64 0) := (ans_e hA 1 _ rfl).1
  have a2 : w3.cell? ⟨g, 15, none⟩ = some (.int .u64 7) := (ans_e hA 2 _ rfl).2
  have a3 : w3.cell? ⟨g, 21, none⟩ = some (.int .i64 4) := (ans_e hA 3 _ rfl).1
  have HT3 := Lib.hid (show Touch Nothing w w3 from (HT1.out.trans HT2.out).trans' hR.touch (fun i hi h => by
    have h1 := HT1.out.size
    have := HF.out i (by simp only [List.mem_cons] at h ⊢; rcases h with h | h | h <;> simp [h])
    omega))
  clear hA hR hal HPl
  go_wp2_with fail
  go_ret
  exact ⟨rfl, HT3.out⟩

end Go.Proofs.YtnjcmcnjgdjbiaaGreatDoor

