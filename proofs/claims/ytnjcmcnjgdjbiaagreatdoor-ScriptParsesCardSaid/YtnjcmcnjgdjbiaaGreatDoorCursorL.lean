/- The walk of the document's own reading of a line. Conditions: a line is at most 1048576 bytes. -/
import Derived.Test.YtnjcmcnjgdjbiaaGreatDoorCursorD
import Derived.Test.YtnjcmcnjgdjbiaaGreatDoorLine
import Derived.Test.YtnjcmcnjgdjbiaaGreatDoorTxt3
import Derived.Deep.DeepCutAuto
import Derived.Deep.CutBlock
namespace Go.Proofs.YtnjcmcnjgdjbiaaGreatDoor
open Go.RowKit

def wordCells : Array Value := #[.string ⟨#[109, 97, 108, 108, 111, 99]⟩, .string ⟨#[99, 97, 108, 108, 111, 99]⟩, .string ⟨#[97, 108, 105, 103, 110, 101, 100]⟩, .string ⟨#[114, 101, 97, 108, 108, 111, 99]⟩, .string ⟨#[102, 114, 101, 101]⟩, .string ⟨#[117, 115, 97, 98, 108, 101]⟩, .string ⟨#[108, 111, 97, 100]⟩, .string ⟨#[115, 116, 111, 114, 101]⟩, .string ⟨#[108, 111, 97, 100, 119, 111, 114, 100]⟩, .string ⟨#[115, 116, 111, 114, 101, 119, 111, 114, 100]⟩, .string ⟨#[114, 101, 97, 100]⟩, .string ⟨#[119, 114, 105, 116, 101]⟩, .string ⟨#[116, 114, 105, 109]⟩, .string ⟨#[115, 116, 97, 116, 115]⟩]
def behindCells : Array Value := #[.string ⟨#[110, 33]⟩, .string ⟨#[110, 110, 33]⟩, .string ⟨#[110, 110, 33]⟩, .string ⟨#[97, 110, 33]⟩, .string ⟨#[97]⟩, .string ⟨#[97]⟩, .string ⟨#[97]⟩, .string ⟨#[97, 110]⟩, .string ⟨#[97]⟩, .string ⟨#[97, 110]⟩, .string ⟨#[97, 110]⟩, .string ⟨#[97, 100]⟩, .string ⟨#[]⟩, .string ⟨#[]⟩]

def behindAt (k : Nat) : List UInt8 := Txt.behinds.getD k []

theorem word_cell (k : Nat) (hk : k < 14) : wordCells.toList[k]? = some (.string ⟨(opWord k).toArray⟩) := by
  match k, hk with
  | 0, _ => rfl
  | 1, _ => rfl
  | 2, _ => rfl
  | 3, _ => rfl
  | 4, _ => rfl
  | 5, _ => rfl
  | 6, _ => rfl
  | 7, _ => rfl
  | 8, _ => rfl
  | 9, _ => rfl
  | 10, _ => rfl
  | 11, _ => rfl
  | 12, _ => rfl
  | 13, _ => rfl
theorem behind_cell (k : Nat) (hk : k < 14) : behindCells.toList[k]? = some (.string ⟨(behindAt k).toArray⟩) := by
  match k, hk with
  | 0, _ => rfl
  | 1, _ => rfl
  | 2, _ => rfl
  | 3, _ => rfl
  | 4, _ => rfl
  | 5, _ => rfl
  | 6, _ => rfl
  | 7, _ => rfl
  | 8, _ => rfl
  | 9, _ => rfl
  | 10, _ => rfl
  | 11, _ => rfl
  | 12, _ => rfl
  | 13, _ => rfl

def Listed (cs : Array Value) (w : World) (e : Ending) (w' : World) : Prop :=
  ∃ g, g = w.heap.size ∧ e = .returned (.slice (some ⟨g, 0, none⟩) 14 14) ∧ Blk w' g 9 cs.toList ∧ g < w'.heap.size ∧ Touch Nothing w w'

set_option maxRecDepth 100000 in
theorem words_ (w : World) : Calls Tryz.prog 78 #[] w (Listed wordCells w) := by
  have H := Lib.hid (Blk.new w wordCells 9)
  have HS := Lib.hid (show w.heap.size < (w.alloc (.cells wordCells 9)).heap.size by simp)
  unfold wordCells at H HS
  go_enter Tryz.func78, Tryz.ntmps78
  go_wp2_with fail
  go_ret
  exact ⟨w.heap.size, rfl, rfl, H.out, HS.out, (Touch.refl _ _).alloc _⟩

set_option maxRecDepth 100000 in
theorem behind_ (w : World) : Calls Tryz.prog 79 #[] w (Listed behindCells w) := by
  have H := Lib.hid (Blk.new w behindCells 9)
  have HS := Lib.hid (show w.heap.size < (w.alloc (.cells behindCells 9)).heap.size by simp)
  unfold behindCells at H HS
  go_enter Tryz.func79, Tryz.ntmps79
  go_wp2_with fail
  go_ret
  exact ⟨w.heap.size, rfl, rfl, H.out, HS.out, (Touch.refl _ _).alloc _⟩

/-- how far the first word was read -/
def HeadRel (s : ByteArray) (k : Nat) : Prop := k ≤ s.size ∧ (Txt.cutC 32 s.data.toList).1 = s.data.toList.take k ++ (Txt.cutC 32 (s.data.toList.drop k)).1

theorem HeadRel.more {s : ByteArray} {k : Nat} (H : HeadRel s k) (h : k < s.size) (hx : s[k]'h ≠ 32) : HeadRel s (k + 1) := by
  refine ⟨h, ?_⟩
  have hz : s.data.toList.length = s.size := by rw [Array.length_toList]; rfl
  rw [H.2, drop_lt s k h, List.take_add_one]
  have : s.data.toList[k]? = some (s[k]'h) := Lib.data_getElem? s k h
  rw [this]
  conv => lhs; unfold Txt.cutC
  rw [if_neg hx]
  simp

theorem HeadRel.stop {s : ByteArray} {k : Nat} (H : HeadRel s k) (h : ∀ h : k < s.size, s[k]'h = 32) : (Txt.cutC 32 s.data.toList).1 = s.data.toList.take k := by
  rw [H.2]
  by_cases hk : k < s.size
  · rw [drop_lt s k hk]
    unfold Txt.cutC
    rw [if_pos (h hk)]
    simp
  · rw [drop_ge s k (by omega)]
    simp [Txt.cutC]

/-- which word was met among the first k -/
def opSeen (head : List UInt8) (k : Nat) : Int := match Txt.idx head (Txt.opWords.take k) with | none => -1 | some i => i

/-- the two empty calls that Line makes first -/
structure L0 (w wr : World) : Prop where
  z2 : Blk wr w.heap.size 43 CallV.zero.cells
  z4 : Blk wr (w.heap.size + 1) 43 CallV.zero.cells
  touch : Touch Nothing w wr

theorem L0.start (w : World) : L0 w ((w.alloc (.cells #[.int .i64 0, .int .i64 0, .int .u64 0, .int .u64 0, .int .u64 0, .bool false, .slice none 0 0] 43)).alloc (.cells #[.int .i64 0, .int .i64 0, .int .u64 0, .int .u64 0, .int .u64 0, .bool false, .slice none 0 0] 43)) := by
  have B1 := Blk.new w #[.int .i64 0, .int .i64 0, .int .u64 0, .int .u64 0, .int .u64 0, .bool false, .slice none 0 0] 43
  have hz1 : (w.alloc (.cells #[.int .i64 0, .int .i64 0, .int .u64 0, .int .u64 0, .int .u64 0, .bool false, .slice none 0 0] 43)).heap.size = w.heap.size + 1 := by simp
  have B2 := Blk.new (w.alloc (.cells #[.int .i64 0, .int .i64 0, .int .u64 0, .int .u64 0, .int .u64 0, .bool false, .slice none 0 0] 43)) #[.int .i64 0, .int .i64 0, .int .u64 0, .int .u64 0, .int .u64 0, .bool false, .slice none 0 0] 43
  rw [hz1] at B2
  exact ⟨B1.alloc _, B2, ((Touch.refl _ w).alloc _).alloc _⟩

theorem L0.still {w wr w' : World} (L : L0 w wr) (T : Touch Nothing wr w') : L0 w w' := ⟨L.z2.touch T (fun h => h), L.z4.touch T (fun h => h), L.touch.trans T⟩

theorem extract_take (s : ByteArray) (n : Nat) : (s.extract 0 n).toList = s.data.toList.take n := by
  rw [ByteArray.toList_eq]
  simp [ByteArray.data_extract]

theorem idx_snoc (w v : List UInt8) (l : List (List UInt8)) : Txt.idx w (l ++ [v]) = match Txt.idx w l with | some i => some i | none => if v = w then some l.length else none := by
  induction l with
  | nil => simp [Txt.idx]
  | cons u l ih =>
    rw [List.cons_append]
    simp only [Txt.idx]
    by_cases hu : u = w
    · simp [hu]
    · simp only [if_neg hu, ih]
      cases Txt.idx w l with
      | some i => rfl
      | none => by_cases hv : v = w <;> simp [hv]

theorem opSeen_hit (head : List UInt8) (k : Nat) (hk : k < 14) (h : opWord k = head) : opSeen head (k + 1) = k := by
  subst h
  have : ∀ k : Fin 14, opSeen (opWord k.val) (k.val + 1) = (k.val : Int) := by decide +kernel
  exact this ⟨k, hk⟩
theorem opSeen_miss (head : List UInt8) (k : Nat) (hk : k < 14) (h : opWord k ≠ head) : opSeen head (k + 1) = opSeen head k := by
  unfold opSeen
  have hl : Txt.opWords.length = 14 := rfl
  have e : Txt.opWords.take (k + 1) = Txt.opWords.take k ++ [opWord k] := by
    rw [List.take_add_one]
    have : Txt.opWords[k]? = some (opWord k) := by
      unfold opWord
      rw [List.getD_eq_getElem?_getD, List.getElem?_eq_getElem (by omega)]
      rfl
    rw [this]
    rfl
  rw [e, idx_snoc]
  cases Txt.idx head (Txt.opWords.take k) with
  | some i => rfl
  | none => simp [h]
theorem opSeen_all (head : List UInt8) : opSeen head 14 = match Txt.idx head Txt.opWords with | none => -1 | some i => i := rfl

theorem behind_kinds (k : Nat) : ∀ x ∈ behindAt k, x = 33 ∨ x = 97 ∨ x = 100 ∨ x = 110 := by
  by_cases h : k < 14
  · have : ∀ k : Fin 14, ∀ x ∈ behindAt k.val, x = 33 ∨ x = 97 ∨ x = 100 ∨ x = 110 := by decide +kernel
    exact this ⟨k, h⟩
  · have hl : Txt.behinds.length = 14 := rfl
    unfold behindAt
    rw [List.getD_eq_getElem?_getD, List.getElem?_eq_none (by omega)]
    intro x hx
    cases hx

theorem behind_short (k : Nat) : (behindAt k).length ≤ 3 := by
  by_cases h : k < 14
  · have : ∀ k : Fin 14, (behindAt k.val).length ≤ 3 := by decide +kernel
    exact this ⟨k, h⟩
  · have hl : Txt.behinds.length = 14 := rfl
    unfold behindAt
    rw [List.getD_eq_getElem?_getD, List.getElem?_eq_none (by omega)]
    simp

/-- the memory of Line's loop -/
structure LM (s : ByteArray) (w : World) (xb cb B i : Nat) (bad : Bool) (c : CallV) (x : Txt.Cd) (wr : World) : Prop where
  l0 : L0 w wr
  hi : i ≤ s.size
  at_ : CurAt wr cb s i bad
  blk : Blk wr xb 43 c.cells
  is : CallIs wr B c x
  lt : w.heap.size + 1 < xb ∧ xb < cb ∧ cb < B ∧ B ≤ wr.heap.size

theorem LM.cur {s : ByteArray} {w wr w' : World} {xb cb B i : Nat} {bad : Bool} {c : CallV} {x : Txt.Cd} {q : Txt.Cu} (M : LM s w xb cb B i bad c x wr) (C : CurTo s cb wr q w') : ∃ i' bad', q = Proofs.YtnjcmcnjgdjbiaaGreatDoor.cur s i' bad' ∧ LM s w xb cb B i' bad' c x w' := by
  obtain ⟨i', bad', hi', hC, hq, T⟩ := C
  have h := M.lt
  exact ⟨i', bad', hq, ⟨⟨M.l0.z2.touch T (by omega), M.l0.z4.touch T (by omega), M.l0.touch.trans' T (fun j hj e => by omega)⟩, hi', hC, M.blk.touch T (by omega), M.is.touch T (fun j h1 _ e => by omega), ⟨h.1, h.2.1, h.2.2.1, Nat.le_trans h.2.2.2 T.size⟩⟩⟩

theorem LM.mark {s : ByteArray} {w wr : World} {xb cb B i : Nat} {bad : Bool} {c : CallV} {x : Txt.Cd} (M : LM s w xb cb B i bad c x wr) (b : Bool) : LM s w xb cb B i b c x (wr.setCell ⟨cb, 2, none⟩ (.bool b)) := by
  have h := M.lt
  have T := Touch.cellAt wr cb 2 (.bool b)
  exact ⟨⟨M.l0.z2.touch T (by omega), M.l0.z4.touch T (by omega), M.l0.touch.trans' T (fun j hj e => by omega)⟩, M.hi, M.at_.set 2 _, M.blk.touch T (by omega), M.is.touch T (fun j h1 _ e => by omega), ⟨h.1, h.2.1, h.2.2.1, Nat.le_trans h.2.2.2 T.size⟩⟩

theorem LM.put {s : ByteArray} {w wr : World} {xb cb B i : Nat} {bad : Bool} {c : CallV} {x : Txt.Cd} (M : LM s w xb cb B i bad c x wr) (j : Nat) (v : Value) (c' : CallV) (x' : Txt.Cd) (hc : c.cells.set j v = c'.cells) (hx : CallIs wr B c x → CallIs wr B c' x') :
    LM s w xb cb B i bad c' x' (wr.setCell ⟨xb, j, none⟩ v) := by
  have h := M.lt
  have T := Touch.cellAt wr xb j v
  refine ⟨⟨M.l0.z2.touch T (by omega), M.l0.z4.touch T (by omega), M.l0.touch.trans' T (fun j hj e => by omega)⟩, M.hi, M.at_.touch T (by omega), ?_, (hx M.is).touch T (fun j h1 _ e => by omega), ⟨h.1, h.2.1, h.2.2.1, Nat.le_trans h.2.2.2 T.size⟩⟩
  have := M.blk.set j v
  rwa [hc] at this

theorem LM.drewN {s : ByteArray} {w wr : World} {xb cb B i : Nat} {bad : Bool} {c : CallV} {x : Txt.Cd} (M : LM s w xb cb B i bad c x wr) (n : Nat) : LM s w xb cb B i bad c x (wr.drewN n) :=
  ⟨⟨M.l0.z2.drewN n, M.l0.z4.drewN n, M.l0.touch.drewN n⟩, M.hi, M.at_.drewN n, M.blk.drewN n, ⟨M.is.op, M.is.ref, M.is.p, M.is.a, M.is.b, M.is.deny, owns_drewN M.is.own n⟩, M.lt⟩

def putDeny (c : CallV) (b : Bool) : CallV := { c with deny := b }
def putRef (c : CallV) (v : Nat) : CallV := { c with ref := v }
def putP (c : CallV) (v : Nat) : CallV := { c with p := v }
def putA (c : CallV) (v : Nat) : CallV := { c with a := v }
def putB (c : CallV) (v : Nat) : CallV := { c with b := v }
def putData (c : CallV) (dp : Option Addr) (dn dc : Nat) : CallV := { c with dp := dp, dn := dn, dc := dc }

theorem fold_bad (ks : List UInt8) (st : Txt.St) (h : st.c.bad = true) : Txt.foldR ks st = some st := by
  cases ks with
  | nil => rfl
  | cons k ks => unfold Txt.foldR; rw [if_pos h]
theorem fold_step (k : UInt8) (ks : List UInt8) (st : Txt.St) (h : st.c.bad = false) : Txt.foldR (k :: ks) st = match Txt.stepR k st with | none => none | some s' => Txt.foldR ks s' := by
  conv => lhs; unfold Txt.foldR
  rw [if_neg (by rw [h]; simp)]
  cases Txt.stepR k st <;> rfl

theorem cur_rest (s : ByteArray) (i : Nat) (b : Bool) : (cur s i b).rest = s.data.toList.drop i := rfl
theorem cur_bad (s : ByteArray) (i : Nat) (b : Bool) : (cur s i b).bad = b := rfl
theorem cur_mk (s : ByteArray) (i : Nat) (b b' : Bool) : (⟨(cur s i b).rest, b'⟩ : Txt.Cu) = cur s i b' := rfl

section
variable {s : ByteArray} {i : Nat} {x : Txt.Cd} {fst : Bool}

theorem step33_end (h : s.size ≤ i) : Txt.stepR 33 ⟨cur s i false, x, fst⟩ = some ⟨cur s i false, x, fst⟩ := by
  unfold Txt.stepR
  rw [if_pos rfl, if_pos (by rw [cur_rest]; exact drop_ge s i h)]
theorem step33 (h : i < s.size) {i1 i2 : Nat} {b1 b2 dn : Bool} (h1 : Txt.blank (cur s i false) = cur s i1 b1) (h2 : Txt.sign 33 (cur s i1 b1) = (dn, cur s i2 b2)) :
    Txt.stepR 33 ⟨cur s i false, x, fst⟩ = some ⟨cur s i2 (b2 || !dn), { x with deny := dn }, fst⟩ := by
  unfold Txt.stepR
  rw [if_pos rfl, if_neg (by rw [cur_rest, drop_lt s i h]; simp), h1, h2]
  rfl
theorem step_blank (k : UInt8) (hk : k ≠ 33) {i1 : Nat} (h1 : Txt.blank (cur s i false) = cur s i1 true) : Txt.stepR k ⟨cur s i false, x, fst⟩ = none := by
  unfold Txt.stepR
  rw [if_neg hk, h1]
  simp only [cur_bad, if_true]
theorem step100 {i1 i2 : Nat} {b2 : Bool} {d : List UInt8} (h1 : Txt.blank (cur s i false) = cur s i1 false) (h2 : Txt.dataR (cur s i1 false) = (d, cur s i2 b2)) :
    Txt.stepR 100 ⟨cur s i false, x, fst⟩ = some ⟨cur s i2 b2, { x with data := d }, fst⟩ := by
  unfold Txt.stepR
  rw [if_neg (by decide), h1]
  simp only [cur_bad, Bool.false_eq_true, if_false]
  rw [if_neg (by decide), if_pos trivial, h2]
theorem step110 {i1 i2 v : Nat} {b2 : Bool} (h1 : Txt.blank (cur s i false) = cur s i1 false) (h2 : Txt.number (cur s i1 false) = (v, cur s i2 b2)) :
    Txt.stepR 110 ⟨cur s i false, x, fst⟩ = some ⟨cur s i2 b2, if fst then { x with a := v } else { x with b := v }, false⟩ := by
  unfold Txt.stepR
  rw [if_neg (by decide), h1]
  simp only [cur_bad, Bool.false_eq_true, if_false]
  rw [if_neg (by decide), if_neg (by decide), h2]
theorem step97 {i1 : Nat} (h1 : Txt.blank (cur s i false) = cur s i1 false) : Txt.stepR 97 ⟨cur s i false, x, fst⟩ = Txt.addrR (cur s i1 false) x fst := by
  unfold Txt.stepR
  rw [if_neg (by decide), h1]
  simp only [cur_bad, Bool.false_eq_true, if_false]
  rw [if_pos trivial]
theorem addr_plain {i1 i2 v : Nat} {b1 b2 : Bool} (h1 : Txt.sign 36 (cur s i false) = (false, cur s i1 b1)) (h2 : Txt.number (cur s i1 b1) = (v, cur s i2 b2)) :
    Txt.addrR (cur s i false) x fst = some ⟨cur s i2 b2, { x with p := v }, fst⟩ := by
  unfold Txt.addrR
  rw [h1]
  simp only [Bool.false_eq_true, if_false, h2]
theorem addr_out {i1 i2 v : Nat} {b1 b2 : Bool} (h1 : Txt.sign 36 (cur s i false) = (true, cur s i1 b1)) (h2 : Txt.number (cur s i1 b1) = (v, cur s i2 b2)) (hv : v < 1 ∨ 4096 < v) :
    Txt.addrR (cur s i false) x fst = none := by
  unfold Txt.addrR
  rw [h1]
  simp only [if_true, h2]
  rw [if_pos hv]
theorem addr_ref {i1 i2 i3 v : Nat} {b1 b2 b3 : Bool} (h1 : Txt.sign 36 (cur s i false) = (true, cur s i1 b1)) (h2 : Txt.number (cur s i1 b1) = (v, cur s i2 b2)) (hv : ¬ (v < 1 ∨ 4096 < v)) (h3 : Txt.sign 43 (cur s i2 b2) = (false, cur s i3 b3)) :
    Txt.addrR (cur s i false) x fst = some ⟨cur s i3 b3, { x with ref := v }, fst⟩ := by
  unfold Txt.addrR
  rw [h1]
  simp only [if_true, h2]
  rw [if_neg hv, h3]
  simp only [Bool.false_eq_true, if_false]
theorem addr_more {i1 i2 i3 i4 v p : Nat} {b1 b2 b3 b4 : Bool} (h1 : Txt.sign 36 (cur s i false) = (true, cur s i1 b1)) (h2 : Txt.number (cur s i1 b1) = (v, cur s i2 b2)) (hv : ¬ (v < 1 ∨ 4096 < v)) (h3 : Txt.sign 43 (cur s i2 b2) = (true, cur s i3 b3))
    (h4 : Txt.number (cur s i3 b3) = (p, cur s i4 b4)) : Txt.addrR (cur s i false) x fst = some ⟨cur s i4 (b4 || decide (p = 0)), { x with ref := v, p := p }, fst⟩ := by
  unfold Txt.addrR
  rw [h1]
  simp only [if_true, h2]
  rw [if_neg hv, h3]
  simp only [if_true, h4]
  rfl
end

/-- what stands of a line at the loop's head -/
def LLaw (s : ByteArray) (ks : List UInt8) (st : Txt.St) : Prop := Txt.lineR s.data.toList = Txt.endR (Txt.foldR ks st)

theorem LLaw.step {s : ByteArray} {k : UInt8} {ks : List UInt8} {st st' : Txt.St} (L : LLaw s (k :: ks) st) (hb : st.c.bad = false) (h : Txt.stepR k st = some st') : LLaw s ks st' := by
  unfold LLaw at *
  rw [L, fold_step k ks st hb, h]
theorem LLaw.none_ {s : ByteArray} {k : UInt8} {ks : List UInt8} {st : Txt.St} (L : LLaw s (k :: ks) st) (hb : st.c.bad = false) (h : Txt.stepR k st = none) : Txt.lineR s.data.toList = none := by
  unfold LLaw at *
  rw [L, fold_step k ks st hb, h]
  rfl

theorem LM.start {s : ByteArray} {w wc w4 : World} {n op : Nat} (L : L0 w wc) (hn : n ≤ s.size)
    (T : Touch Nothing ((wc.alloc (.cells #[.int .i64 ((op : Int) + 1), .int .i64 0, .int .u64 0, .int .u64 0, .int .u64 0, .bool false, .slice none 0 0] 43)).alloc (.cells #[.string s, .int .i64 n, .bool false] 154)) w4) :
    LM s w wc.heap.size (wc.heap.size + 1) w4.heap.size n false ⟨(op : Int) + 1, 0, 0, 0, 0, false, none, 0, 0⟩ (Txt.Cd.none (op + 1)) w4 := by
  have B1 := Blk.new wc #[.int .i64 ((op : Int) + 1), .int .i64 0, .int .u64 0, .int .u64 0, .int .u64 0, .bool false, .slice none 0 0] 43
  have hz1 : (wc.alloc (.cells #[.int .i64 ((op : Int) + 1), .int .i64 0, .int .u64 0, .int .u64 0, .int .u64 0, .bool false, .slice none 0 0] 43)).heap.size = wc.heap.size + 1 := by simp
  have T1 : Touch Nothing wc (wc.alloc (.cells #[.int .i64 ((op : Int) + 1), .int .i64 0, .int .u64 0, .int .u64 0, .int .u64 0, .bool false, .slice none 0 0] 43)) := (Touch.refl _ wc).alloc _
  generalize wc.alloc (.cells #[.int .i64 ((op : Int) + 1), .int .i64 0, .int .u64 0, .int .u64 0, .int .u64 0, .bool false, .slice none 0 0] 43) = wa at *
  have B2 := Blk.new wa #[.string s, .int .i64 n, .bool false] 154
  rw [hz1] at B2
  have hsz := T.size
  have hsa : (wa.alloc (.cells #[.string s, .int .i64 n, .bool false] 154)).heap.size = wc.heap.size + 2 := by simp [hz1]
  have h4 := L.z4.lt
  exact ⟨(L.still T1).still (((Touch.refl _ wa).alloc _).trans T), hn, B2.touch T (fun h => h), (B1.alloc _).touch T (fun h => h), ⟨rfl, rfl, rfl, rfl, rfl, rfl, World.ownsRow_nil _ _ _ _⟩, by omega⟩

theorem putDeny_is {w : World} {B : Nat} {c : CallV} {x : Txt.Cd} (b : Bool) (h : CallIs w B c x) : CallIs w B (putDeny c b) { x with deny := b } := ⟨h.op, h.ref, h.p, h.a, h.b, rfl, h.own⟩
theorem putRef_is {w : World} {B : Nat} {c : CallV} {x : Txt.Cd} (v : Nat) (h : CallIs w B c x) : CallIs w B (putRef c v) { x with ref := v } := ⟨h.op, rfl, h.p, h.a, h.b, h.deny, h.own⟩
theorem putP_is {w : World} {B : Nat} {c : CallV} {x : Txt.Cd} (v : Nat) (h : CallIs w B c x) : CallIs w B (putP c v) { x with p := v } := ⟨h.op, h.ref, rfl, h.a, h.b, h.deny, h.own⟩
theorem putA_is {w : World} {B : Nat} {c : CallV} {x : Txt.Cd} (v : Nat) (h : CallIs w B c x) : CallIs w B (putA c v) { x with a := v } := ⟨h.op, h.ref, h.p, rfl, h.b, h.deny, h.own⟩
theorem putB_is {w : World} {B : Nat} {c : CallV} {x : Txt.Cd} (v : Nat) (h : CallIs w B c x) : CallIs w B (putB c v) { x with b := v } := ⟨h.op, h.ref, h.p, h.a, rfl, h.deny, h.own⟩
theorem putData_is {w : World} {B B' : Nat} {c : CallV} {x : Txt.Cd} {dp : Option Addr} {dn dc : Nat} {d : List UInt8} (hd : w.ownsRow B' 5 1 (.slice dp dn dc) d.length (byteCells d)) (hB : B ≤ B') (h : CallIs w B c x) : CallIs w B (putData c dp dn dc) { x with data := d } :=
  ⟨h.op, h.ref, h.p, h.a, h.b, h.deny, owns_lower hd hB⟩

theorem end_bad {s : ByteArray} {i : Nat} {x : Txt.Cd} {fst : Bool} : Txt.endR (some ⟨cur s i true, x, fst⟩) = none := by
  show (if (cur s i true).bad = true ∨ (cur s i true).rest ≠ [] then none else some x) = none
  rw [if_pos (.inl rfl)]
theorem end_ok {s : ByteArray} {i : Nat} {x : Txt.Cd} {fst : Bool} (h : i = s.size) : Txt.endR (some ⟨cur s i false, x, fst⟩) = some x := by
  show (if (cur s i false).bad = true ∨ (cur s i false).rest ≠ [] then none else some x) = some x
  rw [if_neg]
  rw [cur_rest, drop_ge s i (by omega), cur_bad]
  simp
theorem end_more {s : ByteArray} {i : Nat} {x : Txt.Cd} {fst : Bool} (h : i < s.size) : Txt.endR (some ⟨cur s i false, x, fst⟩) = none := by
  show (if (cur s i false).bad = true ∨ (cur s i false).rest ≠ [] then none else some x) = none
  rw [if_pos]
  rw [cur_rest, drop_lt s i h]
  simp

theorem pair_eta {α β : Type} {p : α × β} {a : α} {b : β} (h1 : p.1 = a) (h2 : p.2 = b) : p = (a, b) := by rw [← h1, ← h2]


theorem lined_none {s : ByteArray} {w w' : World} (h : Txt.lineR s.data.toList = none) (T : Touch Nothing w w') : Lined s w (.returned (.tuple #[CallV.zero.val, .bool false])) w' := by
  rw [Txt.line_eq] at h
  exact ⟨CallV.zero, by rw [h]; rfl, fun x hx => (by rw [h] at hx; cases hx), T⟩
theorem lined_some {s : ByteArray} {w w' : World} {c : CallV} {x : Txt.Cd} (h : Txt.lineR s.data.toList = some x) (hc : CallIs w' w.heap.size c x) (T : Touch Nothing w w') : Lined s w (.returned (.tuple #[c.val, .bool true])) w' := by
  rw [Txt.line_eq] at h
  exact ⟨c, by rw [h]; rfl, fun y hy => (by rw [h] at hy; cases hy; exact hc), T⟩

theorem CallIs.lower {w : World} {B B' : Nat} {c : CallV} {x : Txt.Cd} (h : CallIs w B c x) (hB : B' ≤ B) : CallIs w B' c x := ⟨h.op, h.ref, h.p, h.a, h.b, h.deny, owns_lower h.own hB⟩

theorem line_head (s : ByteArray) (n : Nat) (hd : (Txt.cutC 32 s.data.toList).1 = s.data.toList.take n) (hn : n ≤ s.size) : Txt.lineR s.data.toList = match Txt.idx (s.data.toList.take n) Txt.opWords with
    | none => none
    | some i => Txt.endR (Txt.foldR (behindAt i) ⟨cur s n false, Txt.Cd.none (i + 1), true⟩) := by
  have hz : s.data.toList.length = s.size := by rw [Array.length_toList]; rfl
  unfold Txt.lineR
  rw [hd, List.length_take, Nat.min_eq_left (by omega)]
  rfl

set_option maxRecDepth 100000 in
set_option maxHeartbeats 16000000 in
theorem lineR_ (s : ByteArray) (w : World) (hs : s.size ≤ 1048576) : Calls Tryz.prog 34 #[.string s] w (Lined s w) := by
  have HL0 := Lib.hid (L0.start w)
  have HW := Lib.hid (fun w1 => words_ w1)
  have HBW := Lib.hid (fun w1 => behind_ w1)
  go_enter Tryz.func34, Tryz.ntmps34
  go_upto_block 0 with fail
  generalize (w.alloc (.cells #[.int .i64 0, .int .i64 0, .int .u64 0, .int .u64 0, .int .u64 0, .bool false, .slice none 0 0] 43)).alloc (.cells #[.int .i64 0, .int .i64 0, .int .u64 0, .int .u64 0, .int .u64 0, .bool false, .slice none 0 0] 43) = w1 at *
  go_cut [5] (fun a wc => ∃ k : Nat, k ≤ s.size ∧ a = .int .i64 k ∧ (Txt.cutC 32 s.data.toList).1 = s.data.toList.take k ∧ L0 w wc)
  case first =>
    go_wp2_with fail
    go_loop [5] (fun a => ∃ k : Nat, a = .int .i64 k ∧ HeadRel s k) (fun a => s.size - (intOf a).toNat)
    case atStart => exact ⟨0, rfl, Nat.zero_le _, by simp⟩
    case round =>
      obtain ⟨n, rfl, H⟩ := hrel
      have HH := Lib.hid H
      have hn := H.1
      clear H
      by_cases hlt : n < s.size
      · have hd0 : decide (n < s.size) = true := by simp; omega
        by_cases h32 : s[n]'hlt = 32
        · have hx1 : ((((s[n]'hlt).toNat : Nat) : Int) != 32) = false := by rw [h32]; rfl
          have HS := Lib.hid (HH.out.stop (fun _ => h32))
          clear h32
          go_wp2_with fail
          go_meet
          exact ⟨n, hn, rfl, HS.out, HL0.out⟩
        · have hx1 : ((((s[n]'hlt).toNat : Nat) : Int) != 32) = true := by have h : ((((s[n]'hlt).toNat : Nat) : Int) == 32) = false := u8_ne h32; rw [bne, h]; rfl
          have HM := Lib.hid (HH.out.more hlt h32)
          clear h32
          go_wp2_with fail
          go_round
          case rel => exact ⟨n + 1, by go_num, HM.out⟩
          case measure => simp [intOf]; omega
      · have hd0 : decide (n < s.size) = false := by simp; omega
        have HS := Lib.hid (HH.out.stop (fun h => absurd h hlt))
        go_wp2_with fail
        go_meet
        exact ⟨n, hn, rfl, HS.out, HL0.out⟩
  case rest =>
    obtain ⟨n, hn, rfl, hhead, hL⟩ := hcut
    have HL := Lib.hid hL
    have HD := Lib.hid (line_head s n hhead hn)
    clear hL hhead HL0
    go_wp2_with fail
    refine (HW.out _).mono ?_
    rintro e w2 ⟨gw, hgw, rfl, hB, hlt, T⟩
    have HL2 := Lib.hid (HL.out.still T)
    have HB := Lib.hid hB
    clear hB T HL hgw
    go_upto_block 2 with fail
    go_cut [6] (fun a wx => a = .int .i64 (opSeen (s.data.toList.take n) 14) ∧ L0 w wx)
    case first =>
      go_wp2_with fail
      go_loopw [6, 8] (fun a b wr => ∃ k : Nat, k ≤ 14 ∧ b = .int .i64 k ∧ a = .int .i64 (opSeen (s.data.toList.take n) k) ∧ L0 w wr ∧ Blk wr gw 9 wordCells.toList) (fun _ b _ => 14 - (intOf b).toNat)
      case atStart => exact ⟨0, by omega, rfl, rfl, HL2.out, HB.out⟩
      case round =>
        obtain ⟨k, hk, rfl, rfl, hLk, hBk⟩ := hrel
        have HLk := Lib.hid hLk
        have HBk := Lib.hid hBk
        have hg := hBk.lt
        clear hLk hBk
        by_cases hlk : k < 14
        · have hc : wr.cell? ⟨gw, k, none⟩ = some (.string ⟨(opWord k).toArray⟩) := by rw [HBk.out.cell]; exact word_cell k hlk
          by_cases he : opWord k = s.data.toList.take n
          · have hq : (opWord k == (s.extract 0 n).toList) = true := by rw [extract_take, he]; simp
            have HS := Lib.hid (opSeen_hit _ k hlk he)
            clear he
            go_wp2_with fail
            go_quiet (fail)
            go_wp2_with fail
            exact ⟨⟨k + 1, by omega, by go_num, by rw [HS.out], HLk.out.still ((Touch.refl _ _).drewN _), HBk.out.drewN _⟩, by simp [intOf]; omega⟩
          · have hq : (opWord k == (s.extract 0 n).toList) = false := by rw [extract_take, beq_eq_false_iff_ne]; exact he
            have HS := Lib.hid (opSeen_miss _ k hlk he)
            clear he
            go_wp2_with fail
            go_quiet (fail)
            go_wp2_with fail
            exact ⟨⟨k + 1, by omega, by go_num, by rw [HS.out], HLk.out.still ((Touch.refl _ _).drewN _), HBk.out.drewN _⟩, by simp [intOf]; omega⟩
        · obtain rfl : k = 14 := by omega
          go_wp2_with fail
          go_meet
          exact ⟨rfl, HLk.out⟩
    case rest =>
      obtain ⟨h1, hL3⟩ := hcut
      subst h1
      have HL3 := Lib.hid hL3
      have hsz3 : w.heap.size + 1 < wc.heap.size := hL3.z4.lt
      clear hL3 HL2
      cases hix : Txt.idx (s.data.toList.take n) Txt.opWords with
      | none =>
        rw [opSeen_all, hix]
        have HN := Lib.hid (show Txt.lineR s.data.toList = none by rw [HD.out, hix])
        clear hix
        have u0 : wc.cell? ⟨w.heap.size + 1, 0, none⟩ = some (.int .i64 0) := HL3.out.z4.cell 0
        have u1 : wc.cell? ⟨w.heap.size + 1, 1, none⟩ = some (.int .i64 0) := HL3.out.z4.cell 1
        have u2 : wc.cell? ⟨w.heap.size + 1, 2, none⟩ = some (.int .u64 0) := HL3.out.z4.cell 2
        have u3 : wc.cell? ⟨w.heap.size + 1, 3, none⟩ = some (.int .u64 0) := HL3.out.z4.cell 3
        have u4 : wc.cell? ⟨w.heap.size + 1, 4, none⟩ = some (.int .u64 0) := HL3.out.z4.cell 4
        have u5 : wc.cell? ⟨w.heap.size + 1, 5, none⟩ = some (.bool false) := HL3.out.z4.cell 5
        have u6 : wc.cell? ⟨w.heap.size + 1, 6, none⟩ = some (.slice none 0 0) := HL3.out.z4.cell 6
        have z0 : wc.cell? ⟨w.heap.size, 0, none⟩ = some (.int .i64 0) := HL3.out.z2.cell 0
        have z1 : wc.cell? ⟨w.heap.size, 1, none⟩ = some (.int .i64 0) := HL3.out.z2.cell 1
        have z2 : wc.cell? ⟨w.heap.size, 2, none⟩ = some (.int .u64 0) := HL3.out.z2.cell 2
        have z3 : wc.cell? ⟨w.heap.size, 3, none⟩ = some (.int .u64 0) := HL3.out.z2.cell 3
        have z4 : wc.cell? ⟨w.heap.size, 4, none⟩ = some (.int .u64 0) := HL3.out.z2.cell 4
        have z5 : wc.cell? ⟨w.heap.size, 5, none⟩ = some (.bool false) := HL3.out.z2.cell 5
        have z6 : wc.cell? ⟨w.heap.size, 6, none⟩ = some (.slice none 0 0) := HL3.out.z2.cell 6
        have y0 := HL3.out.z2.free 0
        have y1 := HL3.out.z2.free 1
        have y2 := HL3.out.z2.free 2
        have y3 := HL3.out.z2.free 3
        have y4 := HL3.out.z2.free 4
        have y5 := HL3.out.z2.free 5
        have y6 := HL3.out.z2.free 6
        have HB5 := Lib.hid (laidC_blk HL3.out.z2 CallV.zero)
        have HTL := Lib.hid (HL3.out.touch.trans' (laidC_touch wc w.heap.size CallV.zero) (fun i hi h => by omega))
        unfold laidC CallV.zero at HB5 HTL
        go_wp2_with fail
        have x0 := HB5.out.cell 0
        have x1 := HB5.out.cell 1
        have x2 := HB5.out.cell 2
        have x3 := HB5.out.cell 3
        have x4 := HB5.out.cell 4
        have x5 := HB5.out.cell 5
        have x6 := HB5.out.cell 6
        simp [CallV.cells] at x0 x1 x2 x3 x4 x5 x6
        exact bodyPost_ret (v := .tuple #[.agg #[.int .i64 0, .int .i64 0, .int .u64 0, .int .u64 0, .int .u64 0, .bool false, .slice none 0 0], .bool false]) (by simp [results, Tryz.results34, go_sem, x0, x1, x2, x3, x4, x5, x6]) rfl (lined_none HN.out HTL.out)
      | some op =>
        have hop : op < 14 := (Txt.idx_get _ _ _ hix).1
        rw [opSeen_all, hix]
        have HLaw := Lib.hid (show LLaw s (behindAt op) ⟨cur s n false, Txt.Cd.none (op + 1), true⟩ by unfold LLaw; rw [HD.out, hix])
        clear hix
        have hop0 : (0 : Int) ≤ (op : Int) := by omega
        obtain ⟨fb, hfb⟩ : ∃ fb : ByteArray, (⟨(behindAt op).toArray⟩ : ByteArray) = fb := ⟨_, rfl⟩
        have hfl : fb.data.toList = behindAt op := by rw [← hfb]
        have HK := Lib.hid (show ∀ k (h : k < fb.size), fb[k]'h = 33 ∨ fb[k]'h = 97 ∨ fb[k]'h = 100 ∨ fb[k]'h = 110 from fun k h => behind_kinds op _ (by rw [← hfl]; exact List.mem_of_getElem? (Lib.data_getElem? fb k h)))
        rw [← hfl] at HLaw
        have hfs : fb.size ≤ 3 := by
          have h1 : fb.data.toList.length = fb.size := by rw [Array.length_toList]; rfl
          rw [← h1, hfl]
          exact behind_short op
        go_wp2_with fail
        refine (HBW.out _).mono ?_
        rintro e w4 ⟨gb, hgb, rfl, hBb, hltb, Tb⟩
        have hgb2 : gb = wc.heap.size + 1 + 1 := by rw [hgb]; simp
        have hcf : w4.cell? ⟨wc.heap.size + 1 + 1, op, none⟩ = some (.string fb) := by rw [← hgb2, ← hfb, hBb.cell]; exact behind_cell op hop
        have HM4 := Lib.hid (LM.start (op := op) HL3.out hn Tb)
        obtain ⟨xb, hxb⟩ : ∃ xb, wc.heap.size = xb := ⟨_, rfl⟩
        obtain ⟨cb, hcb⟩ : ∃ cb, xb + 1 = cb := ⟨_, rfl⟩
        obtain ⟨B, hB⟩ : ∃ B, w4.heap.size = B := ⟨_, rfl⟩
        rw [hxb, hcb, hB] at HM4
        rw [hxb] at hsz3 hcf
        rw [hcb] at hcf
        have hxc : xb < cb := by omega
        have hcB : cb < B := HM4.out.lt.2.2.1
        subst hgb2
        clear hgb hBb hltb Tb HL3 hfl hfb
        go_upto_block 4 with fail
        clear hcb hB hxb
        go_cut [] (fun wx => ∃ fst i bad c x, LM s w xb cb B i bad c x wx ∧ Txt.lineR s.data.toList = Txt.endR (some ⟨cur s i bad, x, fst⟩))
        case first =>
          clear hcf
          go_wp2_with fail
          go_loopw [12, 13] (fun a b wr => ∃ k fst i bad c x, k ≤ fb.size ∧ b = .int .i64 (k : Nat) ∧ a = .bool fst ∧ LM s w xb cb B i bad c x wr ∧ LLaw s (fb.data.toList.drop k) ⟨cur s i bad, x, fst⟩) (fun _ b _ => fb.size - (intOf b).toNat)
          case atStart => exact ⟨0, true, n, false, _, _, by omega, rfl, rfl, HM4.out, HLaw.out⟩
          case round =>
            obtain ⟨k, fst, i, bad, c, x, hk, rfl, rfl, hM, hLw⟩ := hrel
            have HM := Lib.hid hM
            have HLw := Lib.hid hLw
            have c0 : wr.cell? ⟨cb, 0, none⟩ = some (.string s) := hM.at_.cell 0
            have c1 : wr.cell? ⟨cb, 1, none⟩ = some (.int .i64 i) := hM.at_.cell 1
            have c2 : wr.cell? ⟨cb, 2, none⟩ = some (.bool bad) := hM.at_.cell 2
            clear hM hLw HM4 HLaw
            by_cases hkl : k < fb.size
            · have hd0 : decide (k < fb.size) = true := by simp; omega
              cases bad with
              | true =>
                go_wp2_with fail
                go_meet
                exact ⟨fst, i, true, c, x, HM.out, by have := HLw.out; unfold LLaw at this; rw [this, fold_bad _ _ rfl]⟩
              | false =>
                have HLk := Lib.hid (show LLaw s (fb[k]'hkl :: fb.data.toList.drop (k + 1)) ⟨cur s i false, x, fst⟩ by rw [← drop_lt fb k hkl]; exact HLw.out)
                rcases HK.out k hkl with hq | hq | hq | hq
                · rw [hq] at HLk
                  have q33 : ((((fb[k]'hkl).toNat : Nat) : Int) == 33) = true := by rw [hq]; rfl
                  have q97 : ((((fb[k]'hkl).toNat : Nat) : Int) == 97) = false := by rw [hq]; rfl
                  have q100 : ((((fb[k]'hkl).toNat : Nat) : Int) == 100) = false := by rw [hq]; rfl
                  clear hq
                  by_cases hlt : i < s.size
                  · have HCw5 := Lib.hid (blank_ s cb i false wr hs HM.out.hi HM.out.at_)
                    go_wp2_with fail
                    refine HCw5.out.mono ?_
                    rintro e w5 ⟨rfl, Cw5⟩
                    obtain ⟨i1, b1, ew5, mw5⟩ := HM.out.cur Cw5
                    have HM5 := Lib.hid mw5
                    have HE1 := Lib.hid ew5
                    clear HCw5 Cw5 mw5 ew5
                    have HCw6 := Lib.hid (sign_ s cb i1 b1 33 w5 hs HM5.out.hi HM5.out.at_)
                    go_wp2_with fail
                    refine HCw6.out.mono ?_
                    rintro e w6 ⟨rfl, Cw6⟩
                    obtain ⟨i2, b2, ew6, mw6⟩ := HM5.out.cur Cw6
                    have HM6 := Lib.hid mw6
                    obtain ⟨dn, hdn⟩ : ∃ dn, (Txt.sign 33 (cur s i1 b1)).1 = dn := ⟨_, rfl⟩
                    rw [hdn]
                    have HE2 := Lib.hid (pair_eta hdn ew6)
                    clear hdn
                    clear HCw6 Cw6 mw6 ew6
                    have HST := Lib.hid (step33 (x := x) (fst := fst) hlt HE1.out HE2.out)
                    have x5 : w6.cell? ⟨xb, 5, none⟩ = some (.bool c.deny) := HM6.out.blk.cell 5
                    have x5f := HM6.out.blk.free 5
                    have k2 : w6.cell? ⟨cb, 2, none⟩ = some (.bool b2) := HM6.out.at_.cell 2
                    have k2f := HM6.out.at_.free 2
                    cases dn with
                    | true => cases b2 with
                      | true =>
                        go_wp2_with fail
                        exact ⟨⟨k + 1, fst, i2, true, putDeny c true, _, by omega, by go_num, rfl, ((HM6.out.put 5 _ (putDeny c true) _ rfl (putDeny_is true)).mark true), HLk.out.step rfl HST.out⟩, by simp [intOf]; omega⟩
                      | false =>
                        go_wp2_with fail
                        exact ⟨⟨k + 1, fst, i2, false, putDeny c true, _, by omega, by go_num, rfl, ((HM6.out.put 5 _ (putDeny c true) _ rfl (putDeny_is true)).mark false), HLk.out.step rfl HST.out⟩, by simp [intOf]; omega⟩
                    | false => cases b2 with
                      | true =>
                        go_wp2_with fail
                        exact ⟨⟨k + 1, fst, i2, true, putDeny c false, _, by omega, by go_num, rfl, ((HM6.out.put 5 _ (putDeny c false) _ rfl (putDeny_is false)).mark true), HLk.out.step rfl HST.out⟩, by simp [intOf]; omega⟩
                      | false =>
                        go_wp2_with fail
                        exact ⟨⟨k + 1, fst, i2, true, putDeny c false, _, by omega, by go_num, rfl, ((HM6.out.put 5 _ (putDeny c false) _ rfl (putDeny_is false)).mark true), HLk.out.step rfl HST.out⟩, by simp [intOf]; omega⟩
                  · have HST := Lib.hid (step33_end (x := x) (fst := fst) (show s.size ≤ i by omega))
                    go_wp2_with fail
                    exact ⟨⟨k + 1, fst, i, false, c, _, by omega, by go_num, rfl, HM.out, HLk.out.step rfl HST.out⟩, by simp [intOf]; omega⟩
                · rw [hq] at HLk
                  have q33 : ((((fb[k]'hkl).toNat : Nat) : Int) == 33) = false := by rw [hq]; rfl
                  have q97 : ((((fb[k]'hkl).toNat : Nat) : Int) == 97) = true := by rw [hq]; rfl
                  have q100 : ((((fb[k]'hkl).toNat : Nat) : Int) == 100) = false := by rw [hq]; rfl
                  clear hq
                  have HCw5 := Lib.hid (blank_ s cb i false wr hs HM.out.hi HM.out.at_)
                  go_wp2_with fail
                  refine HCw5.out.mono ?_
                  rintro e w5 ⟨rfl, Cw5⟩
                  obtain ⟨i1, b1, ew5, mw5⟩ := HM.out.cur Cw5
                  have HM5 := Lib.hid mw5
                  have HE1 := Lib.hid ew5
                  clear HCw5 Cw5 mw5 ew5
                  have k2 : w5.cell? ⟨cb, 2, none⟩ = some (.bool b1) := HM5.out.at_.cell 2
                  have k2f := HM5.out.at_.free 2
                  cases b1 with
                  | true =>
                    have HN := Lib.hid (HLk.out.none_ rfl (step_blank 97 (by decide) HE1.out))
                    have u0 : w5.cell? ⟨w.heap.size + 1, 0, none⟩ = some (.int .i64 0) := HM5.out.l0.z4.cell 0
                    have u1 : w5.cell? ⟨w.heap.size + 1, 1, none⟩ = some (.int .i64 0) := HM5.out.l0.z4.cell 1
                    have u2 : w5.cell? ⟨w.heap.size + 1, 2, none⟩ = some (.int .u64 0) := HM5.out.l0.z4.cell 2
                    have u3 : w5.cell? ⟨w.heap.size + 1, 3, none⟩ = some (.int .u64 0) := HM5.out.l0.z4.cell 3
                    have u4 : w5.cell? ⟨w.heap.size + 1, 4, none⟩ = some (.int .u64 0) := HM5.out.l0.z4.cell 4
                    have u5 : w5.cell? ⟨w.heap.size + 1, 5, none⟩ = some (.bool false) := HM5.out.l0.z4.cell 5
                    have u6 : w5.cell? ⟨w.heap.size + 1, 6, none⟩ = some (.slice none 0 0) := HM5.out.l0.z4.cell 6
                    have z0 : w5.cell? ⟨w.heap.size, 0, none⟩ = some (.int .i64 0) := HM5.out.l0.z2.cell 0
                    have z1 : w5.cell? ⟨w.heap.size, 1, none⟩ = some (.int .i64 0) := HM5.out.l0.z2.cell 1
                    have z2 : w5.cell? ⟨w.heap.size, 2, none⟩ = some (.int .u64 0) := HM5.out.l0.z2.cell 2
                    have z3 : w5.cell? ⟨w.heap.size, 3, none⟩ = some (.int .u64 0) := HM5.out.l0.z2.cell 3
                    have z4 : w5.cell? ⟨w.heap.size, 4, none⟩ = some (.int .u64 0) := HM5.out.l0.z2.cell 4
                    have z5 : w5.cell? ⟨w.heap.size, 5, none⟩ = some (.bool false) := HM5.out.l0.z2.cell 5
                    have z6 : w5.cell? ⟨w.heap.size, 6, none⟩ = some (.slice none 0 0) := HM5.out.l0.z2.cell 6
                    have y0 := HM5.out.l0.z2.free 0
                    have y1 := HM5.out.l0.z2.free 1
                    have y2 := HM5.out.l0.z2.free 2
                    have y3 := HM5.out.l0.z2.free 3
                    have y4 := HM5.out.l0.z2.free 4
                    have y5 := HM5.out.l0.z2.free 5
                    have y6 := HM5.out.l0.z2.free 6
                    have HB5 := Lib.hid (laidC_blk HM5.out.l0.z2 CallV.zero)
                    have HTL := Lib.hid (HM5.out.l0.touch.trans' (laidC_touch w5 w.heap.size CallV.zero) (fun i hi h => by omega))
                    unfold laidC CallV.zero at HB5 HTL
                    go_wp2_with fail
                    have x0 := HB5.out.cell 0
                    have x1 := HB5.out.cell 1
                    have x2 := HB5.out.cell 2
                    have x3 := HB5.out.cell 3
                    have x4 := HB5.out.cell 4
                    have x5 := HB5.out.cell 5
                    have x6 := HB5.out.cell 6
                    simp [CallV.cells] at x0 x1 x2 x3 x4 x5 x6
                    exact bodyPost_ret (v := .tuple #[.agg #[.int .i64 0, .int .i64 0, .int .u64 0, .int .u64 0, .int .u64 0, .bool false, .slice none 0 0], .bool false]) (by simp [results, Tryz.results34, go_sem, x0, x1, x2, x3, x4, x5, x6]) rfl (lined_none HN.out HTL.out)
                  | false =>
                    have HCw6 := Lib.hid (sign_ s cb i1 false 36 w5 hs HM5.out.hi HM5.out.at_)
                    go_wp2_with fail
                    refine HCw6.out.mono ?_
                    rintro e w6 ⟨rfl, Cw6⟩
                    obtain ⟨i2, b2, ew6, mw6⟩ := HM5.out.cur Cw6
                    have HM6 := Lib.hid mw6
                    obtain ⟨sg, hsg⟩ : ∃ sg, (Txt.sign 36 (cur s i1 false)).1 = sg := ⟨_, rfl⟩
                    rw [hsg]
                    have HE2 := Lib.hid (pair_eta hsg ew6)
                    clear hsg
                    clear HCw6 Cw6 mw6 ew6
                    cases sg with
                    | false =>
                      have HCw7 := Lib.hid (numberR_ s cb i2 b2 w6 hs HM6.out.hi HM6.out.at_)
                      go_wp2_with fail
                      refine HCw7.out.mono ?_
                      rintro e w7 ⟨rfl, Cw7⟩
                      obtain ⟨i3, b3, ew7, mw7⟩ := HM6.out.cur Cw7
                      have HM7 := Lib.hid mw7
                      obtain ⟨v, hv⟩ : ∃ v, (Txt.number (cur s i2 b2)).1 = v := ⟨_, rfl⟩
                      rw [hv]
                      have HE3 := Lib.hid (pair_eta hv ew7)
                      clear hv
                      clear HCw7 Cw7 mw7 ew7
                      have HST := Lib.hid ((step97 (x := x) (fst := fst) HE1.out).trans (addr_plain HE2.out HE3.out))
                      have x2 : w7.cell? ⟨xb, 2, none⟩ = some (.int .u64 c.p) := HM7.out.blk.cell 2
                      have x2f := HM7.out.blk.free 2
                      go_wp2_with fail
                      exact ⟨⟨k + 1, fst, i3, b3, putP c v, _, by omega, by go_num, rfl, (HM7.out.put 2 _ (putP c v) _ rfl (putP_is v)), HLk.out.step rfl HST.out⟩, by simp [intOf]; omega⟩
                    | true =>
                      have HCw7 := Lib.hid (numberR_ s cb i2 b2 w6 hs HM6.out.hi HM6.out.at_)
                      go_wp2_with fail
                      refine HCw7.out.mono ?_
                      rintro e w7 ⟨rfl, Cw7⟩
                      obtain ⟨i3, b3, ew7, mw7⟩ := HM6.out.cur Cw7
                      have HM7 := Lib.hid mw7
                      obtain ⟨v, hv⟩ : ∃ v, (Txt.number (cur s i2 b2)).1 = v := ⟨_, rfl⟩
                      rw [hv]
                      have HE3 := Lib.hid (pair_eta hv ew7)
                      clear hv
                      clear HCw7 Cw7 mw7 ew7
                      by_cases hv : v < 1 ∨ 4096 < v
                      · have HN := Lib.hid (HLk.out.none_ rfl ((step97 (x := x) (fst := fst) HE1.out).trans (addr_out HE2.out HE3.out hv)))
                        rcases hv with hv | hv
                        · have hv1 : (v : Int) < 1 := by omega
                          clear hv
                          have u0 : w7.cell? ⟨w.heap.size + 1, 0, none⟩ = some (.int .i64 0) := HM7.out.l0.z4.cell 0
                          have u1 : w7.cell? ⟨w.heap.size + 1, 1, none⟩ = some (.int .i64 0) := HM7.out.l0.z4.cell 1
                          have u2 : w7.cell? ⟨w.heap.size + 1, 2, none⟩ = some (.int .u64 0) := HM7.out.l0.z4.cell 2
                          have u3 : w7.cell? ⟨w.heap.size + 1, 3, none⟩ = some (.int .u64 0) := HM7.out.l0.z4.cell 3
                          have u4 : w7.cell? ⟨w.heap.size + 1, 4, none⟩ = some (.int .u64 0) := HM7.out.l0.z4.cell 4
                          have u5 : w7.cell? ⟨w.heap.size + 1, 5, none⟩ = some (.bool false) := HM7.out.l0.z4.cell 5
                          have u6 : w7.cell? ⟨w.heap.size + 1, 6, none⟩ = some (.slice none 0 0) := HM7.out.l0.z4.cell 6
                          have z0 : w7.cell? ⟨w.heap.size, 0, none⟩ = some (.int .i64 0) := HM7.out.l0.z2.cell 0
                          have z1 : w7.cell? ⟨w.heap.size, 1, none⟩ = some (.int .i64 0) := HM7.out.l0.z2.cell 1
                          have z2 : w7.cell? ⟨w.heap.size, 2, none⟩ = some (.int .u64 0) := HM7.out.l0.z2.cell 2
                          have z3 : w7.cell? ⟨w.heap.size, 3, none⟩ = some (.int .u64 0) := HM7.out.l0.z2.cell 3
                          have z4 : w7.cell? ⟨w.heap.size, 4, none⟩ = some (.int .u64 0) := HM7.out.l0.z2.cell 4
                          have z5 : w7.cell? ⟨w.heap.size, 5, none⟩ = some (.bool false) := HM7.out.l0.z2.cell 5
                          have z6 : w7.cell? ⟨w.heap.size, 6, none⟩ = some (.slice none 0 0) := HM7.out.l0.z2.cell 6
                          have y0 := HM7.out.l0.z2.free 0
                          have y1 := HM7.out.l0.z2.free 1
                          have y2 := HM7.out.l0.z2.free 2
                          have y3 := HM7.out.l0.z2.free 3
                          have y4 := HM7.out.l0.z2.free 4
                          have y5 := HM7.out.l0.z2.free 5
                          have y6 := HM7.out.l0.z2.free 6
                          have HB5 := Lib.hid (laidC_blk HM7.out.l0.z2 CallV.zero)
                          have HTL := Lib.hid (HM7.out.l0.touch.trans' (laidC_touch w7 w.heap.size CallV.zero) (fun i hi h => by omega))
                          unfold laidC CallV.zero at HB5 HTL
                          go_wp2_with fail
                          have x0 := HB5.out.cell 0
                          have x1 := HB5.out.cell 1
                          have x2 := HB5.out.cell 2
                          have x3 := HB5.out.cell 3
                          have x4 := HB5.out.cell 4
                          have x5 := HB5.out.cell 5
                          have x6 := HB5.out.cell 6
                          simp [CallV.cells] at x0 x1 x2 x3 x4 x5 x6
                          exact bodyPost_ret (v := .tuple #[.agg #[.int .i64 0, .int .i64 0, .int .u64 0, .int .u64 0, .int .u64 0, .bool false, .slice none 0 0], .bool false]) (by simp [results, Tryz.results34, go_sem, x0, x1, x2, x3, x4, x5, x6]) rfl (lined_none HN.out HTL.out)
                        · have hv1 : ¬ (v : Int) < 1 := by omega
                          have hv2 : (4096 : Int) < (v : Int) := by omega
                          clear hv
                          have u0 : w7.cell? ⟨w.heap.size + 1, 0, none⟩ = some (.int .i64 0) := HM7.out.l0.z4.cell 0
                          have u1 : w7.cell? ⟨w.heap.size + 1, 1, none⟩ = some (.int .i64 0) := HM7.out.l0.z4.cell 1
                          have u2 : w7.cell? ⟨w.heap.size + 1, 2, none⟩ = some (.int .u64 0) := HM7.out.l0.z4.cell 2
                          have u3 : w7.cell? ⟨w.heap.size + 1, 3, none⟩ = some (.int .u64 0) := HM7.out.l0.z4.cell 3
                          have u4 : w7.cell? ⟨w.heap.size + 1, 4, none⟩ = some (.int .u64 0) := HM7.out.l0.z4.cell 4
                          have u5 : w7.cell? ⟨w.heap.size + 1, 5, none⟩ = some (.bool false) := HM7.out.l0.z4.cell 5
                          have u6 : w7.cell? ⟨w.heap.size + 1, 6, none⟩ = some (.slice none 0 0) := HM7.out.l0.z4.cell 6
                          have z0 : w7.cell? ⟨w.heap.size, 0, none⟩ = some (.int .i64 0) := HM7.out.l0.z2.cell 0
                          have z1 : w7.cell? ⟨w.heap.size, 1, none⟩ = some (.int .i64 0) := HM7.out.l0.z2.cell 1
                          have z2 : w7.cell? ⟨w.heap.size, 2, none⟩ = some (.int .u64 0) := HM7.out.l0.z2.cell 2
                          have z3 : w7.cell? ⟨w.heap.size, 3, none⟩ = some (.int .u64 0) := HM7.out.l0.z2.cell 3
                          have z4 : w7.cell? ⟨w.heap.size, 4, none⟩ = some (.int .u64 0) := HM7.out.l0.z2.cell 4
                          have z5 : w7.cell? ⟨w.heap.size, 5, none⟩ = some (.bool false) := HM7.out.l0.z2.cell 5
                          have z6 : w7.cell? ⟨w.heap.size, 6, none⟩ = some (.slice none 0 0) := HM7.out.l0.z2.cell 6
                          have y0 := HM7.out.l0.z2.free 0
                          have y1 := HM7.out.l0.z2.free 1
                          have y2 := HM7.out.l0.z2.free 2
                          have y3 := HM7.out.l0.z2.free 3
                          have y4 := HM7.out.l0.z2.free 4
                          have y5 := HM7.out.l0.z2.free 5
                          have y6 := HM7.out.l0.z2.free 6
                          have HB5 := Lib.hid (laidC_blk HM7.out.l0.z2 CallV.zero)
                          have HTL := Lib.hid (HM7.out.l0.touch.trans' (laidC_touch w7 w.heap.size CallV.zero) (fun i hi h => by omega))
                          unfold laidC CallV.zero at HB5 HTL
                          go_wp2_with fail
                          have x0 := HB5.out.cell 0
                          have x1 := HB5.out.cell 1
                          have x2 := HB5.out.cell 2
                          have x3 := HB5.out.cell 3
                          have x4 := HB5.out.cell 4
                          have x5 := HB5.out.cell 5
                          have x6 := HB5.out.cell 6
                          simp [CallV.cells] at x0 x1 x2 x3 x4 x5 x6
                          exact bodyPost_ret (v := .tuple #[.agg #[.int .i64 0, .int .i64 0, .int .u64 0, .int .u64 0, .int .u64 0, .bool false, .slice none 0 0], .bool false]) (by simp [results, Tryz.results34, go_sem, x0, x1, x2, x3, x4, x5, x6]) rfl (lined_none HN.out HTL.out)
                      · have HV := Lib.hid hv
                        have hv1 : (1 : Int) ≤ (v : Int) := by omega
                        have hv2 : (v : Int) ≤ 4096 := by omega
                        have HM8 := Lib.hid (HM7.out.put 1 (.int .i64 v) (putRef c v) _ rfl (putRef_is v))
                        clear hv
                        have x1 : w7.cell? ⟨xb, 1, none⟩ = some (.int .i64 c.ref) := HM7.out.blk.cell 1
                        have x1f := HM7.out.blk.free 1
                        obtain ⟨w8, hw8⟩ : ∃ w8, w7.setCell ⟨xb, 1, none⟩ (.int .i64 v) = w8 := ⟨_, rfl⟩
                        rw [hw8] at HM8
                        go_wp2_with fail
                        clear hw8
                        have HCw9 := Lib.hid (sign_ s cb i3 b3 43 w8 hs HM8.out.hi HM8.out.at_)
                        refine HCw9.out.mono ?_
                        rintro e w9 ⟨rfl, Cw9⟩
                        obtain ⟨i4, b4, ew9, mw9⟩ := HM8.out.cur Cw9
                        have HM9 := Lib.hid mw9
                        obtain ⟨sh, hsh⟩ : ∃ sh, (Txt.sign 43 (cur s i3 b3)).1 = sh := ⟨_, rfl⟩
                        rw [hsh]
                        have HE4 := Lib.hid (pair_eta hsh ew9)
                        clear hsh
                        clear HCw9 Cw9 mw9 ew9
                        cases sh with
                        | false =>
                          have HST := Lib.hid ((step97 (x := x) (fst := fst) HE1.out).trans (addr_ref HE2.out HE3.out HV.out HE4.out))
                          go_wp2_with fail
                          exact ⟨⟨k + 1, fst, i4, b4, putRef c v, _, by omega, by go_num, rfl, HM9.out, HLk.out.step rfl HST.out⟩, by simp [intOf]; omega⟩
                        | true =>
                          have HCw10 := Lib.hid (numberR_ s cb i4 b4 w9 hs HM9.out.hi HM9.out.at_)
                          go_wp2_with fail
                          refine HCw10.out.mono ?_
                          rintro e w10 ⟨rfl, Cw10⟩
                          obtain ⟨i5, b5, ew10, mw10⟩ := HM9.out.cur Cw10
                          have HM10 := Lib.hid mw10
                          obtain ⟨p, hp⟩ : ∃ p, (Txt.number (cur s i4 b4)).1 = p := ⟨_, rfl⟩
                          rw [hp]
                          have HE5 := Lib.hid (pair_eta hp ew10)
                          clear hp
                          clear HCw10 Cw10 mw10 ew10
                          have HST := Lib.hid ((step97 (x := x) (fst := fst) HE1.out).trans (addr_more HE2.out HE3.out HV.out HE4.out HE5.out))
                          have x2 : w10.cell? ⟨xb, 2, none⟩ = some (.int .u64 c.p) := HM10.out.blk.cell 2
                          have x2f := HM10.out.blk.free 2
                          have k2b : w10.cell? ⟨cb, 2, none⟩ = some (.bool b5) := HM10.out.at_.cell 2
                          have k2bf := HM10.out.at_.free 2
                          by_cases hp : p = 0
                          · have p1 : ((p : Int) == 0) = true := by rw [hp]; rfl
                            have p2 : (p == 0) = true := by rw [hp]; rfl
                            have HST2 := Lib.hid (HST.out)
                            rw [hp] at HST2
                            have HM11 := Lib.hid ((HM10.out.put 2 (.int .u64 p) (putP (putRef c v) p) { x with ref := v, p := p } rfl (putP_is p)).mark true)
                            clear hp
                            cases b5
                            all_goals
                              go_wp2_with fail
                              exact ⟨⟨k + 1, fst, i5, true, putP (putRef c v) p, _, by omega, by go_num, rfl, HM11.out, HLk.out.step rfl (HST.out.trans (by rw [show decide (p = 0) = true by simpa using p2]; simp))⟩, by simp [intOf]; omega⟩
                          · have p1 : ((p : Int) == 0) = false := by rw [beq_eq_false_iff_ne]; omega
                            have p2 : (p == 0) = false := by rw [beq_eq_false_iff_ne]; omega
                            clear hp
                            cases b5
                            all_goals
                              go_wp2_with fail
                              exact ⟨⟨k + 1, fst, i5, _, putP (putRef c v) p, _, by omega, by go_num, rfl, ((HM10.out.put 2 (.int .u64 p) (putP (putRef c v) p) { x with ref := v, p := p } rfl (putP_is p)).mark _), HLk.out.step rfl (HST.out.trans (by rw [show decide (p = 0) = false by simpa using p2]; simp))⟩, by simp [intOf]; omega⟩
                · rw [hq] at HLk
                  have q33 : ((((fb[k]'hkl).toNat : Nat) : Int) == 33) = false := by rw [hq]; rfl
                  have q97 : ((((fb[k]'hkl).toNat : Nat) : Int) == 97) = false := by rw [hq]; rfl
                  have q100 : ((((fb[k]'hkl).toNat : Nat) : Int) == 100) = true := by rw [hq]; rfl
                  clear hq
                  have HCw5 := Lib.hid (blank_ s cb i false wr hs HM.out.hi HM.out.at_)
                  go_wp2_with fail
                  refine HCw5.out.mono ?_
                  rintro e w5 ⟨rfl, Cw5⟩
                  obtain ⟨i1, b1, ew5, mw5⟩ := HM.out.cur Cw5
                  have HM5 := Lib.hid mw5
                  have HE1 := Lib.hid ew5
                  clear HCw5 Cw5 mw5 ew5
                  have k2 : w5.cell? ⟨cb, 2, none⟩ = some (.bool b1) := HM5.out.at_.cell 2
                  have k2f := HM5.out.at_.free 2
                  cases b1 with
                  | true =>
                    have HN := Lib.hid (HLk.out.none_ rfl (step_blank 100 (by decide) HE1.out))
                    have u0 : w5.cell? ⟨w.heap.size + 1, 0, none⟩ = some (.int .i64 0) := HM5.out.l0.z4.cell 0
                    have u1 : w5.cell? ⟨w.heap.size + 1, 1, none⟩ = some (.int .i64 0) := HM5.out.l0.z4.cell 1
                    have u2 : w5.cell? ⟨w.heap.size + 1, 2, none⟩ = some (.int .u64 0) := HM5.out.l0.z4.cell 2
                    have u3 : w5.cell? ⟨w.heap.size + 1, 3, none⟩ = some (.int .u64 0) := HM5.out.l0.z4.cell 3
                    have u4 : w5.cell? ⟨w.heap.size + 1, 4, none⟩ = some (.int .u64 0) := HM5.out.l0.z4.cell 4
                    have u5 : w5.cell? ⟨w.heap.size + 1, 5, none⟩ = some (.bool false) := HM5.out.l0.z4.cell 5
                    have u6 : w5.cell? ⟨w.heap.size + 1, 6, none⟩ = some (.slice none 0 0) := HM5.out.l0.z4.cell 6
                    have z0 : w5.cell? ⟨w.heap.size, 0, none⟩ = some (.int .i64 0) := HM5.out.l0.z2.cell 0
                    have z1 : w5.cell? ⟨w.heap.size, 1, none⟩ = some (.int .i64 0) := HM5.out.l0.z2.cell 1
                    have z2 : w5.cell? ⟨w.heap.size, 2, none⟩ = some (.int .u64 0) := HM5.out.l0.z2.cell 2
                    have z3 : w5.cell? ⟨w.heap.size, 3, none⟩ = some (.int .u64 0) := HM5.out.l0.z2.cell 3
                    have z4 : w5.cell? ⟨w.heap.size, 4, none⟩ = some (.int .u64 0) := HM5.out.l0.z2.cell 4
                    have z5 : w5.cell? ⟨w.heap.size, 5, none⟩ = some (.bool false) := HM5.out.l0.z2.cell 5
                    have z6 : w5.cell? ⟨w.heap.size, 6, none⟩ = some (.slice none 0 0) := HM5.out.l0.z2.cell 6
                    have y0 := HM5.out.l0.z2.free 0
                    have y1 := HM5.out.l0.z2.free 1
                    have y2 := HM5.out.l0.z2.free 2
                    have y3 := HM5.out.l0.z2.free 3
                    have y4 := HM5.out.l0.z2.free 4
                    have y5 := HM5.out.l0.z2.free 5
                    have y6 := HM5.out.l0.z2.free 6
                    have HB5 := Lib.hid (laidC_blk HM5.out.l0.z2 CallV.zero)
                    have HTL := Lib.hid (HM5.out.l0.touch.trans' (laidC_touch w5 w.heap.size CallV.zero) (fun i hi h => by omega))
                    unfold laidC CallV.zero at HB5 HTL
                    go_wp2_with fail
                    have x0 := HB5.out.cell 0
                    have x1 := HB5.out.cell 1
                    have x2 := HB5.out.cell 2
                    have x3 := HB5.out.cell 3
                    have x4 := HB5.out.cell 4
                    have x5 := HB5.out.cell 5
                    have x6 := HB5.out.cell 6
                    simp [CallV.cells] at x0 x1 x2 x3 x4 x5 x6
                    exact bodyPost_ret (v := .tuple #[.agg #[.int .i64 0, .int .i64 0, .int .u64 0, .int .u64 0, .int .u64 0, .bool false, .slice none 0 0], .bool false]) (by simp [results, Tryz.results34, go_sem, x0, x1, x2, x3, x4, x5, x6]) rfl (lined_none HN.out HTL.out)
                  | false =>
                    have HCd := Lib.hid (dataR_ s cb i1 false w5 hs HM5.out.hi HM5.out.at_)
                    go_wp2_with fail
                    refine HCd.out.mono ?_
                    rintro e w6 ⟨dp, dn, dc, rfl, hO, C6⟩
                    obtain ⟨i2, b2, e6, m6⟩ := HM5.out.cur C6
                    have HM6 := Lib.hid m6
                    have HO := Lib.hid hO
                    have HST := Lib.hid (step100 (x := x) (fst := fst) HE1.out (pair_eta rfl e6))
                    clear HCd hO C6 m6 e6
                    have x6 : w6.cell? ⟨xb, 6, none⟩ = some (.slice c.dp c.dn c.dc) := HM6.out.blk.cell 6
                    have x6f := HM6.out.blk.free 6
                    go_wp2_with fail
                    exact ⟨⟨k + 1, fst, i2, b2, putData c dp dn dc, _, by omega, by go_num, rfl, (HM6.out.put 6 _ (putData c dp dn dc) _ rfl (putData_is HO.out HM5.out.lt.2.2.2)), HLk.out.step rfl HST.out⟩, by simp [intOf]; omega⟩
                · rw [hq] at HLk
                  have q33 : ((((fb[k]'hkl).toNat : Nat) : Int) == 33) = false := by rw [hq]; rfl
                  have q97 : ((((fb[k]'hkl).toNat : Nat) : Int) == 97) = false := by rw [hq]; rfl
                  have q100 : ((((fb[k]'hkl).toNat : Nat) : Int) == 100) = false := by rw [hq]; rfl
                  clear hq
                  have HCw5 := Lib.hid (blank_ s cb i false wr hs HM.out.hi HM.out.at_)
                  go_wp2_with fail
                  refine HCw5.out.mono ?_
                  rintro e w5 ⟨rfl, Cw5⟩
                  obtain ⟨i1, b1, ew5, mw5⟩ := HM.out.cur Cw5
                  have HM5 := Lib.hid mw5
                  have HE1 := Lib.hid ew5
                  clear HCw5 Cw5 mw5 ew5
                  have k2 : w5.cell? ⟨cb, 2, none⟩ = some (.bool b1) := HM5.out.at_.cell 2
                  have k2f := HM5.out.at_.free 2
                  cases b1 with
                  | true =>
                    have HN := Lib.hid (HLk.out.none_ rfl (step_blank 110 (by decide) HE1.out))
                    have u0 : w5.cell? ⟨w.heap.size + 1, 0, none⟩ = some (.int .i64 0) := HM5.out.l0.z4.cell 0
                    have u1 : w5.cell? ⟨w.heap.size + 1, 1, none⟩ = some (.int .i64 0) := HM5.out.l0.z4.cell 1
                    have u2 : w5.cell? ⟨w.heap.size + 1, 2, none⟩ = some (.int .u64 0) := HM5.out.l0.z4.cell 2
                    have u3 : w5.cell? ⟨w.heap.size + 1, 3, none⟩ = some (.int .u64 0) := HM5.out.l0.z4.cell 3
                    have u4 : w5.cell? ⟨w.heap.size + 1, 4, none⟩ = some (.int .u64 0) := HM5.out.l0.z4.cell 4
                    have u5 : w5.cell? ⟨w.heap.size + 1, 5, none⟩ = some (.bool false) := HM5.out.l0.z4.cell 5
                    have u6 : w5.cell? ⟨w.heap.size + 1, 6, none⟩ = some (.slice none 0 0) := HM5.out.l0.z4.cell 6
                    have z0 : w5.cell? ⟨w.heap.size, 0, none⟩ = some (.int .i64 0) := HM5.out.l0.z2.cell 0
                    have z1 : w5.cell? ⟨w.heap.size, 1, none⟩ = some (.int .i64 0) := HM5.out.l0.z2.cell 1
                    have z2 : w5.cell? ⟨w.heap.size, 2, none⟩ = some (.int .u64 0) := HM5.out.l0.z2.cell 2
                    have z3 : w5.cell? ⟨w.heap.size, 3, none⟩ = some (.int .u64 0) := HM5.out.l0.z2.cell 3
                    have z4 : w5.cell? ⟨w.heap.size, 4, none⟩ = some (.int .u64 0) := HM5.out.l0.z2.cell 4
                    have z5 : w5.cell? ⟨w.heap.size, 5, none⟩ = some (.bool false) := HM5.out.l0.z2.cell 5
                    have z6 : w5.cell? ⟨w.heap.size, 6, none⟩ = some (.slice none 0 0) := HM5.out.l0.z2.cell 6
                    have y0 := HM5.out.l0.z2.free 0
                    have y1 := HM5.out.l0.z2.free 1
                    have y2 := HM5.out.l0.z2.free 2
                    have y3 := HM5.out.l0.z2.free 3
                    have y4 := HM5.out.l0.z2.free 4
                    have y5 := HM5.out.l0.z2.free 5
                    have y6 := HM5.out.l0.z2.free 6
                    have HB5 := Lib.hid (laidC_blk HM5.out.l0.z2 CallV.zero)
                    have HTL := Lib.hid (HM5.out.l0.touch.trans' (laidC_touch w5 w.heap.size CallV.zero) (fun i hi h => by omega))
                    unfold laidC CallV.zero at HB5 HTL
                    go_wp2_with fail
                    have x0 := HB5.out.cell 0
                    have x1 := HB5.out.cell 1
                    have x2 := HB5.out.cell 2
                    have x3 := HB5.out.cell 3
                    have x4 := HB5.out.cell 4
                    have x5 := HB5.out.cell 5
                    have x6 := HB5.out.cell 6
                    simp [CallV.cells] at x0 x1 x2 x3 x4 x5 x6
                    exact bodyPost_ret (v := .tuple #[.agg #[.int .i64 0, .int .i64 0, .int .u64 0, .int .u64 0, .int .u64 0, .bool false, .slice none 0 0], .bool false]) (by simp [results, Tryz.results34, go_sem, x0, x1, x2, x3, x4, x5, x6]) rfl (lined_none HN.out HTL.out)
                  | false =>
                    have HCw6 := Lib.hid (numberR_ s cb i1 false w5 hs HM5.out.hi HM5.out.at_)
                    go_wp2_with fail
                    refine HCw6.out.mono ?_
                    rintro e w6 ⟨rfl, Cw6⟩
                    obtain ⟨i2, b2, ew6, mw6⟩ := HM5.out.cur Cw6
                    have HM6 := Lib.hid mw6
                    obtain ⟨v, hv⟩ : ∃ v, (Txt.number (cur s i1 false)).1 = v := ⟨_, rfl⟩
                    rw [hv]
                    have HE2 := Lib.hid (pair_eta hv ew6)
                    clear hv
                    clear HCw6 Cw6 mw6 ew6
                    have HST := Lib.hid (step110 (x := x) (fst := fst) HE1.out HE2.out)
                    have x3 : w6.cell? ⟨xb, 3, none⟩ = some (.int .u64 c.a) := HM6.out.blk.cell 3
                    have x3f := HM6.out.blk.free 3
                    have x4 : w6.cell? ⟨xb, 4, none⟩ = some (.int .u64 c.b) := HM6.out.blk.cell 4
                    have x4f := HM6.out.blk.free 4
                    cases fst with
                    | true =>
                      go_wp2_with fail
                      exact ⟨⟨k + 1, false, i2, b2, putA c v, _, by omega, by go_num, rfl, (HM6.out.put 3 _ (putA c v) _ rfl (putA_is v)), HLk.out.step rfl HST.out⟩, by simp [intOf]; omega⟩
                    | false =>
                      go_wp2_with fail
                      exact ⟨⟨k + 1, false, i2, b2, putB c v, _, by omega, by go_num, rfl, (HM6.out.put 4 _ (putB c v) _ rfl (putB_is v)), HLk.out.step rfl HST.out⟩, by simp [intOf]; omega⟩
            · have hd0 : decide (k < fb.size) = false := by simp; omega
              go_wp2_with fail
              go_meet
              exact ⟨fst, i, bad, c, x, HM.out, by have := HLw.out; unfold LLaw at this; rw [this, drop_ge fb k (by omega)]; rfl⟩
        case rest =>
          obtain ⟨fst, i, bad, c, x, hM, hLw⟩ := hcut
          have HM := Lib.hid hM
          have HLw := Lib.hid hLw
          have c0 : wc.cell? ⟨cb, 0, none⟩ = some (.string s) := hM.at_.cell 0
          have c1 : wc.cell? ⟨cb, 1, none⟩ = some (.int .i64 i) := hM.at_.cell 1
          have c2 : wc.cell? ⟨cb, 2, none⟩ = some (.bool bad) := hM.at_.cell 2
          clear hM hLw HM4 HLaw hcf
          cases bad with
          | true =>
            have HN := Lib.hid (show Txt.lineR s.data.toList = none by rw [HLw.out, end_bad])
            have u0 : wc.cell? ⟨w.heap.size + 1, 0, none⟩ = some (.int .i64 0) := HM.out.l0.z4.cell 0
            have u1 : wc.cell? ⟨w.heap.size + 1, 1, none⟩ = some (.int .i64 0) := HM.out.l0.z4.cell 1
            have u2 : wc.cell? ⟨w.heap.size + 1, 2, none⟩ = some (.int .u64 0) := HM.out.l0.z4.cell 2
            have u3 : wc.cell? ⟨w.heap.size + 1, 3, none⟩ = some (.int .u64 0) := HM.out.l0.z4.cell 3
            have u4 : wc.cell? ⟨w.heap.size + 1, 4, none⟩ = some (.int .u64 0) := HM.out.l0.z4.cell 4
            have u5 : wc.cell? ⟨w.heap.size + 1, 5, none⟩ = some (.bool false) := HM.out.l0.z4.cell 5
            have u6 : wc.cell? ⟨w.heap.size + 1, 6, none⟩ = some (.slice none 0 0) := HM.out.l0.z4.cell 6
            have z0 : wc.cell? ⟨w.heap.size, 0, none⟩ = some (.int .i64 0) := HM.out.l0.z2.cell 0
            have z1 : wc.cell? ⟨w.heap.size, 1, none⟩ = some (.int .i64 0) := HM.out.l0.z2.cell 1
            have z2 : wc.cell? ⟨w.heap.size, 2, none⟩ = some (.int .u64 0) := HM.out.l0.z2.cell 2
            have z3 : wc.cell? ⟨w.heap.size, 3, none⟩ = some (.int .u64 0) := HM.out.l0.z2.cell 3
            have z4 : wc.cell? ⟨w.heap.size, 4, none⟩ = some (.int .u64 0) := HM.out.l0.z2.cell 4
            have z5 : wc.cell? ⟨w.heap.size, 5, none⟩ = some (.bool false) := HM.out.l0.z2.cell 5
            have z6 : wc.cell? ⟨w.heap.size, 6, none⟩ = some (.slice none 0 0) := HM.out.l0.z2.cell 6
            have y0 := HM.out.l0.z2.free 0
            have y1 := HM.out.l0.z2.free 1
            have y2 := HM.out.l0.z2.free 2
            have y3 := HM.out.l0.z2.free 3
            have y4 := HM.out.l0.z2.free 4
            have y5 := HM.out.l0.z2.free 5
            have y6 := HM.out.l0.z2.free 6
            have HB5 := Lib.hid (laidC_blk HM.out.l0.z2 CallV.zero)
            have HTL := Lib.hid (HM.out.l0.touch.trans' (laidC_touch wc w.heap.size CallV.zero) (fun i hi h => by omega))
            unfold laidC CallV.zero at HB5 HTL
            go_wp2_with fail
            have x0 := HB5.out.cell 0
            have x1 := HB5.out.cell 1
            have x2 := HB5.out.cell 2
            have x3 := HB5.out.cell 3
            have x4 := HB5.out.cell 4
            have x5 := HB5.out.cell 5
            have x6 := HB5.out.cell 6
            simp [CallV.cells] at x0 x1 x2 x3 x4 x5 x6
            exact bodyPost_ret (v := .tuple #[.agg #[.int .i64 0, .int .i64 0, .int .u64 0, .int .u64 0, .int .u64 0, .bool false, .slice none 0 0], .bool false]) (by simp [results, Tryz.results34, go_sem, x0, x1, x2, x3, x4, x5, x6]) rfl (lined_none HN.out HTL.out)
          | false =>
            by_cases hend : i = s.size
            · have HN := Lib.hid (show Txt.lineR s.data.toList = some x by rw [HLw.out, end_ok hend])
              have e1 : (i != s.size) = false := by rw [hend]; simp
              have e2 : ((i : Int) != (s.size : Int)) = false := by rw [hend]; simp
              clear hend
              obtain ⟨cop, cref, cp, ca, cbb, cd, cdp, cdn, cdc⟩ := c
              have u0 : wc.cell? ⟨xb, 0, none⟩ = some (.int .i64 cop) := HM.out.blk.cell 0
              have u1 : wc.cell? ⟨xb, 1, none⟩ = some (.int .i64 cref) := HM.out.blk.cell 1
              have u2 : wc.cell? ⟨xb, 2, none⟩ = some (.int .u64 cp) := HM.out.blk.cell 2
              have u3 : wc.cell? ⟨xb, 3, none⟩ = some (.int .u64 ca) := HM.out.blk.cell 3
              have u4 : wc.cell? ⟨xb, 4, none⟩ = some (.int .u64 cbb) := HM.out.blk.cell 4
              have u5 : wc.cell? ⟨xb, 5, none⟩ = some (.bool cd) := HM.out.blk.cell 5
              have u6 : wc.cell? ⟨xb, 6, none⟩ = some (.slice cdp cdn cdc) := HM.out.blk.cell 6
              have z0 : wc.cell? ⟨w.heap.size, 0, none⟩ = some (.int .i64 0) := HM.out.l0.z2.cell 0
              have z1 : wc.cell? ⟨w.heap.size, 1, none⟩ = some (.int .i64 0) := HM.out.l0.z2.cell 1
              have z2 : wc.cell? ⟨w.heap.size, 2, none⟩ = some (.int .u64 0) := HM.out.l0.z2.cell 2
              have z3 : wc.cell? ⟨w.heap.size, 3, none⟩ = some (.int .u64 0) := HM.out.l0.z2.cell 3
              have z4 : wc.cell? ⟨w.heap.size, 4, none⟩ = some (.int .u64 0) := HM.out.l0.z2.cell 4
              have z5 : wc.cell? ⟨w.heap.size, 5, none⟩ = some (.bool false) := HM.out.l0.z2.cell 5
              have z6 : wc.cell? ⟨w.heap.size, 6, none⟩ = some (.slice none 0 0) := HM.out.l0.z2.cell 6
              have y0 := HM.out.l0.z2.free 0
              have y1 := HM.out.l0.z2.free 1
              have y2 := HM.out.l0.z2.free 2
              have y3 := HM.out.l0.z2.free 3
              have y4 := HM.out.l0.z2.free 4
              have y5 := HM.out.l0.z2.free 5
              have y6 := HM.out.l0.z2.free 6
              have HB5 := Lib.hid (laidC_blk HM.out.l0.z2 ⟨cop, cref, cp, ca, cbb, cd, cdp, cdn, cdc⟩)
              have HTL := Lib.hid (HM.out.l0.touch.trans' (laidC_touch wc w.heap.size ⟨cop, cref, cp, ca, cbb, cd, cdp, cdn, cdc⟩) (fun i hi h => by omega))
              have HCI := Lib.hid (CallIs.lower (B' := w.heap.size) (CallIs.touch HM.out.is (laidC_touch wc w.heap.size ⟨cop, cref, cp, ca, cbb, cd, cdp, cdn, cdc⟩) (fun i h1 _ h => by have := HM.out.lt; omega)) (by have := HM.out.lt; omega))
              unfold laidC at HB5 HTL HCI
              go_wp2_with fail
              have x0 := HB5.out.cell 0
              have x1 := HB5.out.cell 1
              have x2 := HB5.out.cell 2
              have x3 := HB5.out.cell 3
              have x4 := HB5.out.cell 4
              have x5 := HB5.out.cell 5
              have x6 := HB5.out.cell 6
              simp [CallV.cells] at x0 x1 x2 x3 x4 x5 x6
              exact bodyPost_ret (v := .tuple #[.agg #[.int .i64 cop, .int .i64 cref, .int .u64 cp, .int .u64 ca, .int .u64 cbb, .bool cd, .slice cdp cdn cdc], .bool true]) (by simp [results, Tryz.results34, go_sem, x0, x1, x2, x3, x4, x5, x6]) rfl (lined_some HN.out HCI.out HTL.out)
            · have HN := Lib.hid (show Txt.lineR s.data.toList = none by
                rw [HLw.out, end_more (by have := HM.out.hi; omega)])
              have e1 : (i != s.size) = true := by simp [hend]
              have e2 : ((i : Int) != (s.size : Int)) = true := by simp; omega
              clear hend
              have u0 : wc.cell? ⟨w.heap.size + 1, 0, none⟩ = some (.int .i64 0) := HM.out.l0.z4.cell 0
              have u1 : wc.cell? ⟨w.heap.size + 1, 1, none⟩ = some (.int .i64 0) := HM.out.l0.z4.cell 1
              have u2 : wc.cell? ⟨w.heap.size + 1, 2, none⟩ = some (.int .u64 0) := HM.out.l0.z4.cell 2
              have u3 : wc.cell? ⟨w.heap.size + 1, 3, none⟩ = some (.int .u64 0) := HM.out.l0.z4.cell 3
              have u4 : wc.cell? ⟨w.heap.size + 1, 4, none⟩ = some (.int .u64 0) := HM.out.l0.z4.cell 4
              have u5 : wc.cell? ⟨w.heap.size + 1, 5, none⟩ = some (.bool false) := HM.out.l0.z4.cell 5
              have u6 : wc.cell? ⟨w.heap.size + 1, 6, none⟩ = some (.slice none 0 0) := HM.out.l0.z4.cell 6
              have z0 : wc.cell? ⟨w.heap.size, 0, none⟩ = some (.int .i64 0) := HM.out.l0.z2.cell 0
              have z1 : wc.cell? ⟨w.heap.size, 1, none⟩ = some (.int .i64 0) := HM.out.l0.z2.cell 1
              have z2 : wc.cell? ⟨w.heap.size, 2, none⟩ = some (.int .u64 0) := HM.out.l0.z2.cell 2
              have z3 : wc.cell? ⟨w.heap.size, 3, none⟩ = some (.int .u64 0) := HM.out.l0.z2.cell 3
              have z4 : wc.cell? ⟨w.heap.size, 4, none⟩ = some (.int .u64 0) := HM.out.l0.z2.cell 4
              have z5 : wc.cell? ⟨w.heap.size, 5, none⟩ = some (.bool false) := HM.out.l0.z2.cell 5
              have z6 : wc.cell? ⟨w.heap.size, 6, none⟩ = some (.slice none 0 0) := HM.out.l0.z2.cell 6
              have y0 := HM.out.l0.z2.free 0
              have y1 := HM.out.l0.z2.free 1
              have y2 := HM.out.l0.z2.free 2
              have y3 := HM.out.l0.z2.free 3
              have y4 := HM.out.l0.z2.free 4
              have y5 := HM.out.l0.z2.free 5
              have y6 := HM.out.l0.z2.free 6
              have HB5 := Lib.hid (laidC_blk HM.out.l0.z2 CallV.zero)
              have HTL := Lib.hid (HM.out.l0.touch.trans' (laidC_touch wc w.heap.size CallV.zero) (fun i hi h => by omega))
              unfold laidC CallV.zero at HB5 HTL
              go_wp2_with fail
              have x0 := HB5.out.cell 0
              have x1 := HB5.out.cell 1
              have x2 := HB5.out.cell 2
              have x3 := HB5.out.cell 3
              have x4 := HB5.out.cell 4
              have x5 := HB5.out.cell 5
              have x6 := HB5.out.cell 6
              simp [CallV.cells] at x0 x1 x2 x3 x4 x5 x6
              exact bodyPost_ret (v := .tuple #[.agg #[.int .i64 0, .int .i64 0, .int .u64 0, .int .u64 0, .int .u64 0, .bool false, .slice none 0 0], .bool false]) (by simp [results, Tryz.results34, go_sem, x0, x1, x2, x3, x4, x5, x6]) rfl (lined_none HN.out HTL.out)

end Go.Proofs.YtnjcmcnjgdjbiaaGreatDoor
