/- The walk of script.fields: a call's fields by its words. Conditions: the words are at most 1048576 bytes each. -/
import Derived.Test.YtnjcmcnjgdjbiaaGreatDoorLgWord
import Derived.Test.YtnjcmcnjgdjbiaaGreatDoorLgOnes
import Derived.Deep.DeepCutAuto
namespace Go.Proofs.YtnjcmcnjgdjbiaaGreatDoor
open Go.RowKit

def CallV.cells (c : CallV) : List Value := [.int .i64 c.op, .int .i64 c.ref, .int .u64 c.p, .int .u64 c.a, .int .u64 c.b, .bool c.deny, .slice c.dp c.dn c.dc]

def bytesV (l : List UInt8) : List Value := l.map fun x => .int .u8 x.toNat

/-- a call as the program holds it is the call as data; its bytes lie in memory from block B on -/
structure CallIs (w : World) (B : Nat) (c : CallV) (x : Txt.Cd) : Prop where
  op : c.op = x.op
  ref : c.ref = x.ref
  p : c.p = x.p
  a : c.a = x.a
  b : c.b = x.b
  deny : c.deny = x.deny
  own : w.ownsRow B 5 1 (.slice c.dp c.dn c.dc) x.data.length (bytesV x.data)

theorem owns_touch {w w' : World} {B e size n : Nat} {v : Value} {xs : List Value} {S : Nat → Prop} (h : w.ownsRow B e size v n xs) (k : Touch S w w') (hs : ∀ g, B ≤ g → v.ownBlock = some g → ¬ S g) : w'.ownsRow B e size v n xs := by
  refine ⟨h.1, ?_⟩
  rcases h.2 with hn | ⟨g, cap, cur, rfl, hb, hgg, rest⟩
  · exact .inl hn
  · refine .inr ⟨g, cap, cur, rfl, hb, ?_, rest⟩
    rw [k.block g (Array.getElem?_eq_some_iff.1 hgg).1 (hs g hb rfl)]
    exact hgg

theorem CallIs.touch {w w' : World} {B : Nat} {c : CallV} {x : Txt.Cd} {S : Nat → Prop} (h : CallIs w B c x) (k : Touch S w w') (hs : ∀ i, B ≤ i → i < w.heap.size → ¬ S i) : CallIs w' B c x :=
  ⟨h.op, h.ref, h.p, h.a, h.b, h.deny, owns_touch h.own k (fun g hg he => hs g hg (World.ownsRow.lt h.own g he).2)⟩

/-- the state of fields: the form lies in block F, the words' slice in F + 1, the verdict in F + 2 -/
structure FS (w : World) (cb g F : Nat) (fw : Value) (f : Txt.Form) (r : Option (Txt.Cd × List (List UInt8))) (wr : World) (ok : Bool) (c : CallV) (ws : List (List UInt8)) (p : Option Addr) (nc : Nat) : Prop where
  blk : Blk wr cb 43 c.cells
  form : Blk wr F 148 [fw, .bool f.address, .int .i64 f.numbers, .bool f.data, .bool f.refused]
  words : Blk wr (F + 1) 79 [.slice p ws.length nc]
  okc : Blk wr (F + 1 + 1) 4 [.bool ok]
  strs : Strs wr g ws p nc
  law : r = none ∧ ok = false ∨ ∃ x, r = some (x, ws) ∧ ok = true ∧ CallIs wr (F + 1 + 1 + 1) c x
  small : ∀ x ∈ ws, x.length ≤ 1048576
  touch : Touch (· = cb) w wr
  lt : cb < w.heap.size ∧ g < w.heap.size ∧ cb ≠ g ∧ F = w.heap.size ∧ 9 ≤ cb

def FSx (w : World) (cb g F : Nat) (fw : Value) (f : Txt.Form) (r : Option (Txt.Cd × List (List UInt8))) (wr : World) : Prop :=
  ∃ ok c ws p nc, FS w cb g F fw f r wr ok c ws p nc

def formV (fw : ByteArray) (f : Txt.Form) : Value := .agg #[.string fw, .bool f.address, .int .i64 f.numbers, .bool f.data, .bool f.refused]

theorem FS.start {w : World} {cb g : Nat} {fw : ByteArray} {f : Txt.Form} {x : Txt.Cd} {c : CallV} {ws : List (List UInt8)} {p : Option Addr} {nc : Nat} (hcb : Blk w cb 43 c.cells) (hc : CallIs w (w.heap.size + 1 + 1 + 1) c x)
    (hs : Strs w g ws p nc) (hg : g < w.heap.size) (hne : cb ≠ g) (h9 : 9 ≤ cb) (hsm : ∀ x ∈ ws, x.length ≤ 1048576) :
    FS w cb g w.heap.size (.string fw) f (some (x, ws)) (((w.alloc (.cells #[.string fw, .bool f.address, .int .i64 f.numbers, .bool f.data, .bool f.refused] 148)).alloc (.cells #[.slice p ws.length nc] 79)).alloc (.cells #[.bool true] 4)) true c ws p nc := by
  have T1 : Touch Nothing w (w.alloc (.cells #[.string fw, .bool f.address, .int .i64 f.numbers, .bool f.data, .bool f.refused] 148)) := (Touch.refl _ _).alloc _
  have B1 := Blk.new w #[.string fw, .bool f.address, .int .i64 f.numbers, .bool f.data, .bool f.refused] 148
  have hz1 : (w.alloc (.cells #[.string fw, .bool f.address, .int .i64 f.numbers, .bool f.data, .bool f.refused] 148)).heap.size = w.heap.size + 1 := by simp
  generalize w.alloc (.cells #[.string fw, .bool f.address, .int .i64 f.numbers, .bool f.data, .bool f.refused] 148) = w1 at *
  have T2 : Touch Nothing w1 (w1.alloc (.cells #[.slice p ws.length nc] 79)) := (Touch.refl _ _).alloc _
  have B2 := Blk.new w1 #[.slice p ws.length nc] 79
  have hz2 : (w1.alloc (.cells #[.slice p ws.length nc] 79)).heap.size = w.heap.size + 2 := by simp [hz1]
  generalize w1.alloc (.cells #[.slice p ws.length nc] 79) = w2 at *
  have T3 : Touch Nothing w2 (w2.alloc (.cells #[.bool true] 4)) := (Touch.refl _ _).alloc _
  have B3 := Blk.new w2 #[.bool true] 4
  rw [hz1] at B2
  rw [hz2] at B3
  have T := (T1.trans T2).trans T3
  exact ⟨hcb.touch T (fun h => h), (B1.touch T2 (fun h => h)).touch T3 (fun h => h), B2.touch T3 (fun h => h), B3, hs.touch T (fun h => h),
    .inr ⟨x, rfl, rfl, ⟨hc.op, hc.ref, hc.p, hc.a, hc.b, hc.deny, owns_touch hc.own T (fun _ _ _ h => h)⟩⟩, hsm, T.none_, ⟨hcb.lt, hg, hne, rfl, h9⟩⟩

/-- the blocks that fields may turn -/
def FB (cb F : Nat) (k : Nat) : Prop := k = cb ∨ k = F + 1 ∨ k = F + 1 + 1

theorem FS.after {w w1 w' : World} {cb g F : Nat} {fw : Value} {f : Txt.Form} {r r' : Option (Txt.Cd × List (List UInt8))} {ok ok' : Bool} {c c' : CallV} {ws ws' : List (List UInt8)} {p p' : Option Addr} {nc nc' : Nat}
    (S : FS w cb g F fw f r w1 ok c ws p nc) (T : Touch (FB cb F) w1 w') (hb : Blk w' cb 43 c'.cells) (hw : Blk w' (F + 1) 79 [.slice p' ws'.length nc']) (ho : Blk w' (F + 1 + 1) 4 [.bool ok'])
    (hst : Strs w' g ws' p' nc') (hl : r' = none ∧ ok' = false ∨ ∃ x, r' = some (x, ws') ∧ ok' = true ∧ CallIs w' (F + 1 + 1 + 1) c' x) (hsm : ∀ x ∈ ws', x.length ≤ 1048576) : FS w cb g F fw f r' w' ok' c' ws' p' nc' := by
  have h := S.lt
  refine ⟨hb, S.form.touch T (fun h => ?_), hw, ho, hst, hl, hsm, S.touch.trans' T (fun i hi h => ?_), S.lt⟩
  · rcases h with h | h | h <;> omega
  · rcases h with h | h | h
    · exact h
    · omega
    · omega

/-- behind a pop, a reading that turns nothing, and the verdict -/
structure PopS (w1 w2 : World) (cb g F : Nat) (c : CallV) (ok : Bool) (ws : List (List UInt8)) (p : Option Addr) (nc : Nat) : Prop where
  touch : Touch (FB cb F) w1 w2
  blk : Blk w2 cb 43 c.cells
  words : Blk w2 (F + 1) 79 [.slice p ws.length nc]
  okc : Blk w2 (F + 1 + 1) 4 [.bool ok]
  strs : Strs w2 g ws p nc

theorem FS.pop {w w1 : World} {cb g F : Nat} {fw : Value} {f : Txt.Form} {r : Option (Txt.Cd × List (List UInt8))} {ok : Bool} {c : CallV} {s : List UInt8} {t : List (List UInt8)} {p p' : Option Addr} {nc nc' : Nat}
    (S : FS w cb g F fw f r w1 ok c (s :: t) p nc) (hst : Strs w1 g t p' nc') : PopS w1 (w1.setCell ⟨F + 1, 0, none⟩ (.slice p' t.length nc')) cb g F c ok t p' nc' := by
  have h := S.lt
  have T := Touch.cellAt w1 (F + 1) 0 (.slice p' t.length nc')
  exact ⟨T.mono (fun _ _ e => .inr (.inl e)), S.blk.touch T (by omega), S.words.set 0 _, S.okc.touch T (by omega), hst.touch T (by omega)⟩

theorem FS.pop0 {w w1 : World} {cb g F : Nat} {fw : Value} {f : Txt.Form} {r : Option (Txt.Cd × List (List UInt8))} {ok : Bool} {c : CallV} {p : Option Addr} {nc : Nat}
    (S : FS w cb g F fw f r w1 ok c [] p nc) : PopS w1 (w1.setCell ⟨F + 1 + 1, 0, none⟩ (.bool false)) cb g F c false [] p nc := by
  have h := S.lt
  have T := Touch.cellAt w1 (F + 1 + 1) 0 (.bool false)
  exact ⟨T.mono (fun _ _ e => .inr (.inr e)), S.blk.touch T (by omega), S.words.touch T (by omega), S.okc.set 0 _, .nil _ _ _ _⟩

theorem PopS.read {w1 w2 w3 : World} {cb g F : Nat} {c : CallV} {ok : Bool} {ws : List (List UInt8)} {p : Option Addr} {nc : Nat} (S : PopS w1 w2 cb g F c ok ws p nc) (T : Touch Nothing w2 w3) : PopS w1 w3 cb g F c ok ws p nc :=
  ⟨S.touch.trans T.none_, S.blk.touch T (fun h => h), S.words.touch T (fun h => h), S.okc.touch T (fun h => h), S.strs.touch T (fun h => h)⟩

theorem PopS.turn {w1 w2 : World} {cb g F : Nat} {c c' : CallV} {ok : Bool} {ws : List (List UInt8)} {p : Option Addr} {nc : Nat} (S : PopS w1 w2 cb g F c ok ws p nc) (h : cb ≠ F + 1 ∧ cb ≠ F + 1 + 1 ∧ cb ≠ g) (i : Nat) (v : Value)
    (hc : (c.cells).set i v = c'.cells) : PopS w1 (w2.setCell ⟨cb, i, none⟩ v) cb g F c' ok ws p nc := by
  have T := Touch.cellAt w2 cb i v
  refine ⟨S.touch.trans (T.mono (fun _ _ e => .inl e)), ?_, S.words.touch T (fun e => by omega), S.okc.touch T (fun e => by omega), S.strs.touch T (fun e => by omega)⟩
  have := S.blk.set i v
  rwa [hc] at this

theorem PopS.judge {w1 w2 : World} {cb g F : Nat} {c : CallV} {ok : Bool} {ws : List (List UInt8)} {p : Option Addr} {nc : Nat} (S : PopS w1 w2 cb g F c ok ws p nc) (h : cb ≠ F + 1 ∧ cb ≠ F + 1 + 1 ∧ g < F) (ok' : Bool) : PopS w1 (w2.setCell ⟨F + 1 + 1, 0, none⟩ (.bool ok')) cb g F c ok' ws p nc := by
  have T := Touch.cellAt w2 (F + 1 + 1) 0 (.bool ok')
  exact ⟨S.touch.trans (T.mono (fun _ _ e => .inr (.inr e))), S.blk.touch T (by omega), S.words.touch T (by omega), S.okc.set 0 _, S.strs.touch T (by omega)⟩

theorem FS.popped {w w1 w' : World} {cb g F : Nat} {fw : Value} {f : Txt.Form} {r r' : Option (Txt.Cd × List (List UInt8))} {ok ok' : Bool} {c c' : CallV} {ws ws' : List (List UInt8)} {p p' : Option Addr} {nc nc' : Nat}
    (S : FS w cb g F fw f r w1 ok c ws p nc) (P : PopS w1 w' cb g F c' ok' ws' p' nc') (hl : r' = none ∧ ok' = false ∨ ∃ x, r' = some (x, ws') ∧ ok' = true ∧ CallIs w' (F + 1 + 1 + 1) c' x) (hsm : ∀ x ∈ ws', x.length ≤ 1048576) : FS w cb g F fw f r' w' ok' c' ws' p' nc' :=
  S.after P.touch P.blk P.words P.okc P.strs hl hsm

def CallV.putN (c : CallV) (k v : Nat) : CallV := if k = 0 then { c with a := v } else { c with b := v }
def putC (x : Txt.Cd) (k v : Nat) : Txt.Cd := if k = 0 then { x with a := v } else { x with b := v }

theorem CallV.putN_cells (c : CallV) (k v : Nat) (hk : k < 2) : (c.cells).set (3 + k) (.int .u64 v) = (c.putN k v).cells := by
  match k, hk with
  | 0, _ => rfl
  | 1, _ => rfl

/-- the k-th number is taken from the words -/
def popN (k : Nat) (r : Option (Txt.Cd × List (List UInt8))) : Option (Txt.Cd × List (List UInt8)) :=
  match r with
  | none => none
  | some (_, []) => none
  | some (x, s :: t) => (Txt.numW s).map fun v => (putC x k v, t)

def rN (r : Option (Txt.Cd × List (List UInt8))) : Nat → Option (Txt.Cd × List (List UInt8))
  | 0 => r
  | k + 1 => popN k (rN r k)

theorem rN_nums (x : Txt.Cd) (ws : List (List UInt8)) (n : Nat) (hn : n ≤ 2) : rN (some (x, ws)) n = Txt.numsW x n ws := by
  match n, hn with
  | 0, _ => simp [rN, Txt.numsW]
  | 1, _ =>
    cases ws with
    | nil => simp [rN, popN, Txt.numsW]
    | cons s t => cases h : Txt.numW s <;> simp [rN, popN, Txt.numsW, h, putC]
  | 2, _ =>
    cases ws with
    | nil => simp [rN, popN, Txt.numsW]
    | cons s t =>
      cases h : Txt.numW s with
      | none => simp [rN, popN, Txt.numsW, h]
      | some v =>
        cases t with
        | nil => simp [rN, popN, Txt.numsW, h]
        | cons s' t => cases h' : Txt.numW s' <;> simp [rN, popN, Txt.numsW, h, h', putC]

theorem rN_none (n : Nat) : rN none n = none := by
  induction n with
  | zero => rfl
  | succ n ih => simp [rN, ih, popN]

theorem CallIs.putN {w : World} {B : Nat} {c : CallV} {x : Txt.Cd} (h : CallIs w B c x) (k v : Nat) : CallIs w B (c.putN k v) (putC x k v) := by
  unfold CallV.putN putC
  split
  · exact ⟨h.op, h.ref, h.p, rfl, h.b, h.deny, h.own⟩
  · exact ⟨h.op, h.ref, h.p, h.a, rfl, h.deny, h.own⟩

theorem FS.ptr {w w1 : World} {cb g F : Nat} {fw : Value} {f : Txt.Form} {r : Option (Txt.Cd × List (List UInt8))} {ok : Bool} {c : CallV} {ws : List (List UInt8)} {p : Option Addr} {nc : Nat}
    (S : FS w cb g F fw f r w1 ok c ws p nc) (k : Nat) (hk : k < 2) : ∃ z : Nat, w1.cell? ⟨cb, 3 + k, none⟩ = some (.int .u64 z) := by
  match k, hk with
  | 0, _ => exact ⟨c.a, S.blk.cell 3⟩
  | 1, _ => exact ⟨c.b, S.blk.cell 4⟩

theorem FS.read {w w1 w2 : World} {cb g F : Nat} {fw : Value} {f : Txt.Form} {r : Option (Txt.Cd × List (List UInt8))} {ok : Bool} {c : CallV} {ws : List (List UInt8)} {p : Option Addr} {nc : Nat}
    (S : FS w cb g F fw f r w1 ok c ws p nc) (T : Touch Nothing w1 w2) : FS w cb g F fw f r w2 ok c ws p nc := by
  refine S.after T.none_ (S.blk.touch T (fun h => h)) (S.words.touch T (fun h => h)) (S.okc.touch T (fun h => h)) (S.strs.touch T (fun h => h)) ?_ S.small
  rcases S.law with h | ⟨x, h1, h2, h3⟩
  · exact .inl h
  · exact .inr ⟨x, h1, h2, h3.touch T (fun _ _ _ h => h)⟩

theorem FS.glob {w w1 w2 : World} {cb g F : Nat} {fw : Value} {f : Txt.Form} {r : Option (Txt.Cd × List (List UInt8))} {ok : Bool} {c : CallV} {ws : List (List UInt8)} {p : Option Addr} {nc : Nat}
    (S : FS w cb g F fw f r w1 ok c ws p nc) (G : Glob w) (P : Touch (FB cb F) w1 w2) : Glob w2 := by
  have hlt := S.lt
  exact G.touch (S.touch.trans' (T := FB cb F) P (fun i hi h => by rcases h with h | h | h <;> omega)) (fun k hk e => by omega)

theorem popN_end {r : Option (Txt.Cd × List (List UInt8))} {ok : Bool} {P : Txt.Cd → Prop} {k : Nat} (h : r = none ∧ ok = false ∨ ∃ x, r = some (x, []) ∧ ok = true ∧ P x) : popN k r = none := by
  rcases h with ⟨rfl, _⟩ | ⟨x, rfl, _⟩ <;> rfl

theorem popN_more {w w' : World} {B : Nat} {c : CallV} {r : Option (Txt.Cd × List (List UInt8))} {k q : Nat} {s : List UInt8} {t : List (List UInt8)} {b : Bool} (h : r = none ∧ true = false ∨ ∃ x, r = some (x, s :: t) ∧ true = true ∧ CallIs w B c x)
    (hb : b = (Txt.numW s).isSome) (hv : ∀ u, Txt.numW s = some u → q = u) (ht : ∀ x, CallIs w B c x → CallIs w' B c x) : popN k r = none ∧ b = false ∨ ∃ x, popN k r = some (x, t) ∧ b = true ∧ CallIs w' B (c.putN k q) x := by
  rcases h with ⟨_, h⟩ | ⟨x, rfl, _, hc⟩
  · cases h
  · cases hn : Txt.numW s with
    | none => rw [hn] at hb; exact .inl ⟨by simp [popN, hn], hb⟩
    | some u =>
      rw [hn] at hb
      exact .inr ⟨putC x k u, by simp [popN, hn], hb, by rw [← hv u hn]; exact (ht x hc).putN k q⟩

theorem PopS.ptr {w1 w2 : World} {cb g F : Nat} {c : CallV} {ok : Bool} {ws : List (List UInt8)} {p : Option Addr} {nc : Nat} (S : PopS w1 w2 cb g F c ok ws p nc) (k : Nat) (hk : k < 2) : ∃ z : Nat, w2.cell? ⟨cb, 3 + k, none⟩ = some (.int .u64 z) := by
  match k, hk with
  | 0, _ => exact ⟨c.a, S.blk.cell 3⟩
  | 1, _ => exact ⟨c.b, S.blk.cell 4⟩

/-- the bytes are taken from the words -/
def popD (r : Option (Txt.Cd × List (List UInt8))) : Option (Txt.Cd × List (List UInt8)) :=
  match r with
  | none => none
  | some (_, []) => none
  | some (x, s :: t) => (Txt.dataW s).map fun d => ({ x with data := d }, t)

theorem popD_end {r : Option (Txt.Cd × List (List UInt8))} {ok : Bool} {P : Txt.Cd → Prop} (h : r = none ∧ ok = false ∨ ∃ x, r = some (x, []) ∧ ok = true ∧ P x) : popD r = none := by
  rcases h with ⟨rfl, _⟩ | ⟨x, rfl, _⟩ <;> rfl

theorem popD_more {w w' : World} {B : Nat} {c : CallV} {r : Option (Txt.Cd × List (List UInt8))} {s : List UInt8} {t : List (List UInt8)} {b : Bool} {dp : Option Addr} {dn dc : Nat} (h : r = none ∧ true = false ∨ ∃ x, r = some (x, s :: t) ∧ true = true ∧ CallIs w B c x)
    (hb : b = (Txt.dataW s).isSome) (hv : ∀ u, Txt.dataW s = some u → w'.ownsRow B 5 1 (.slice dp dn dc) u.length (bytesV u)) : popD r = none ∧ b = false ∨ ∃ x, popD r = some (x, t) ∧ b = true ∧ CallIs w' B { c with dp := dp, dn := dn, dc := dc } x := by
  rcases h with ⟨_, h⟩ | ⟨x, rfl, _, hc⟩
  · cases h
  · cases hn : Txt.dataW s with
    | none => rw [hn] at hb; exact .inl ⟨by simp [popD, hn], hb⟩
    | some u =>
      rw [hn] at hb
      exact .inr ⟨{ x with data := u }, by simp [popD, hn], hb, ⟨hc.op, hc.ref, hc.p, hc.a, hc.b, hc.deny, hv u hn⟩⟩

theorem owns_lower {w : World} {B B' e size n : Nat} {v : Value} {xs : List Value} (h : w.ownsRow B e size v n xs) (hb : B' ≤ B) : w.ownsRow B' e size v n xs := by
  refine ⟨h.1, ?_⟩
  rcases h.2 with hn | ⟨g, cap, cur, rfl, hb', hgg, rest⟩
  · exact .inl hn
  · exact .inr ⟨g, cap, cur, rfl, Nat.le_trans hb hb', hgg, rest⟩

def fin (r : Option (Txt.Cd × List (List UInt8))) : Option Txt.Cd := match r with | some (x, []) => some x | _ => none

theorem fieldsW_eq (x : Txt.Cd) (f : Txt.Form) (ws : List (List UInt8)) (hf : f.numbers ≤ 2) : fin (if f.data then popD (rN (Txt.addrW x f ws) f.numbers) else rN (Txt.addrW x f ws) f.numbers) = Txt.fieldsW x f ws := by
  unfold Txt.fieldsW
  cases ha : Txt.addrW x f ws with
  | none => simp [rN_none, popD, fin]
  | some u =>
    obtain ⟨x1, ws1⟩ := u
    rw [rN_nums _ _ _ hf]
    cases hn : Txt.numsW x1 f.numbers ws1 with
    | none => simp [popD, fin, hn]
    | some u =>
      obtain ⟨x2, ws2⟩ := u
      simp only [hn]
      unfold Txt.datW
      cases hd : f.data with
      | false => cases ws2 <;> simp [fin]
      | true =>
        cases ws2 with
        | nil => simp [popD, fin]
        | cons s t => cases hw : Txt.dataW s <;> cases t <;> simp [popD, fin, hw]

def Fielded (w : World) (cb : Nat) (x : Txt.Cd) (f : Txt.Form) (ws : List (List UInt8)) (e : Ending) (w' : World) : Prop :=
  e = .returned (.bool (Txt.fieldsW x f ws).isSome) ∧ (∃ c', Blk w' cb 43 c'.cells ∧ ∀ x', Txt.fieldsW x f ws = some x' → CallIs w' (w.heap.size + 1 + 1 + 1) c' x') ∧ Touch (· = cb) w w'

theorem FS.done {w w1 : World} {cb g F : Nat} {fw : Value} {fa : Bool} {fn : Nat} {fd fr : Bool} {r r0 : Option (Txt.Cd × List (List UInt8))} {ok : Bool} {c : CallV} {ws ws0 : List (List UInt8)} {p : Option Addr} {nc : Nat} {x : Txt.Cd}
    (S : FS w cb g F fw ⟨fa, fn, fd, fr⟩ r w1 ok c ws p nc) (h0 : Txt.addrW x ⟨fa, fn, fd, fr⟩ ws0 = r0) (hN : fin (if fd then popD (rN r0 fn) else rN r0 fn) = none) (hn : fn ≤ 2) (b : Bool) (hb : b = false) :
    Fielded w cb x ⟨fa, fn, fd, fr⟩ ws0 (.returned (.bool b)) (w1.setCell ⟨w.heap.size + 1 + 1, 0, none⟩ (.bool b)) := by
  have he := fieldsW_eq x ⟨fa, fn, fd, fr⟩ ws0 hn
  simp only [h0, hN] at he
  have hl := S.lt
  have T := Touch.cellAt w1 (w.heap.size + 1 + 1) 0 (.bool b)
  exact ⟨by rw [← he, hb]; rfl, ⟨c, S.blk.touch T (by omega), fun x' hx => by rw [← he] at hx; cases hx⟩, S.touch.trans' T (fun i hi h => by omega)⟩

theorem FS.done' {w w1 : World} {cb g F : Nat} {fw : Value} {fa : Bool} {fn : Nat} {fd fr : Bool} {r r0 : Option (Txt.Cd × List (List UInt8))} {ok : Bool} {c : CallV} {ws ws0 : List (List UInt8)} {p : Option Addr} {nc : Nat} {x x' : Txt.Cd}
    (S : FS w cb g F fw ⟨fa, fn, fd, fr⟩ r w1 ok c ws p nc) (h0 : Txt.addrW x ⟨fa, fn, fd, fr⟩ ws0 = r0) (hN : fin (if fd then popD (rN r0 fn) else rN r0 fn) = some x') (hn : fn ≤ 2) (hc : CallIs w1 (w.heap.size + 1 + 1 + 1) c x') (b : Bool) (hb : b = true) :
    Fielded w cb x ⟨fa, fn, fd, fr⟩ ws0 (.returned (.bool b)) (w1.setCell ⟨w.heap.size + 1 + 1, 0, none⟩ (.bool b)) := by
  have he := fieldsW_eq x ⟨fa, fn, fd, fr⟩ ws0 hn
  simp only [h0, hN] at he
  have hl := S.lt
  have T := Touch.cellAt w1 (w.heap.size + 1 + 1) 0 (.bool b)
  exact ⟨by rw [← he, hb]; rfl, ⟨c, S.blk.touch T (by omega), fun y hy => by rw [← he] at hy; cases hy; exact hc.touch T (fun i h1 _ h => by omega)⟩, S.touch.trans' T (fun i hi h => by omega)⟩

set_option maxRecDepth 100000 in
set_option maxHeartbeats 8000000 in
theorem fields_ (w : World) (cb g : Nat) (fw : ByteArray) (f : Txt.Form) (x : Txt.Cd) (c : CallV) (ws : List (List UInt8)) (p : Option Addr) (nc : Nat) (hf : f.numbers ≤ 2) (hcb : Blk w cb 43 c.cells) (hc : CallIs w (w.heap.size + 1 + 1 + 1) c x)
    (hs : Strs w g ws p nc) (hg : g < w.heap.size) (hne : cb ≠ g) (h9 : 9 ≤ cb) (hsm : ∀ x ∈ ws, x.length ≤ 1048576) (G : Glob w) :
    Calls Tryz.prog 77 #[.pointer (some ⟨cb, 0, none⟩), formV fw f, .slice p ws.length nc] w (Fielded w cb x f ws) := by
  have S0 := Lib.hid (FS.start (fw := fw) (f := f) hcb hc hs hg hne h9 hsm)
  clear hcb hc hs hg hne h9 hsm
  obtain ⟨fa, fn, fd, fr⟩ := f
  unfold formV at *
  go_enter Tryz.func77, Tryz.ntmps77
  go_upto_if 17 with fail
  generalize ((w.alloc (.cells #[.string fw, .bool fa, .int .i64 fn, .bool fd, .bool fr] 148)).alloc (.cells #[.slice p ws.length nc] 79)).alloc (.cells #[.bool true] 4) = w3 at *
  go_cut [] (fun wc => FSx w cb g w.heap.size (.string fw) ⟨fa, fn, fd, fr⟩ (Txt.addrW x ⟨fa, fn, fd, fr⟩ ws) wc)
  case first =>
    cases fa with
    | false =>
      go_wp2_with fail
      go_meet
      exact ⟨_, _, _, _, _, S0.out⟩
    | true =>
      cases ws with
      | nil =>
        have hw0 := S0.out.words.cell 0
        have ho0 := S0.out.okc.cell 0
        have hof := S0.out.okc.free 0
        have hlt := S0.out.lt
        have HP := Lib.hid S0.out.pop0
        have HG4 := Lib.hid (G.touch (S0.out.touch.trans' (T := FB cb w.heap.size) HP.out.touch (fun i hi h => by rcases h with h | h | h <;> omega)) (fun k hk e => by omega))
        have HL := Lib.hid hlt
        clear hlt
        go_wp2_with fail
        refine (pop_none _ _ _ _ _ _ hw0 ho0 hof).mono ?_
        rintro e w4 ⟨rfl, h4⟩
        rw [← h4] at HP HG4
        clear h4 hw0 ho0 hof
        go_wp2_with fail
        refine (place_ ⟨#[]⟩ w4 (by decide) HG4.out).mono ?_
        rintro e w5 ⟨rr, q, rfl, -, T5⟩
        have HP5 := Lib.hid (HP.out.read T5)
        clear T5
        have y1 : w5.cell? ⟨cb, 1, none⟩ = _ := HP5.out.blk.cell 1
        have g1 := HP5.out.blk.free 1
        have y2 : w5.cell? ⟨cb, 2, none⟩ = _ := HP5.out.blk.cell 2
        have g2 := HP5.out.blk.free 2
        have y3 : w5.cell? ⟨w.heap.size + 1 + 1, 0, none⟩ = _ := HP5.out.okc.cell 0
        have g3 := HP5.out.okc.free 0
        have hpl : (Txt.placeW (⟨#[]⟩ : ByteArray).data.toList).isSome = false := rfl
        rw [hpl]
        simp [CallV.cells] at y1 y2 y3
        have hn1 : cb ≠ w.heap.size + 1 + 1 := by have := HL.out; omega
        go_wp2_with fail
        go_meet
        exact ⟨false, { c with ref := rr, p := q }, [], p, nc, S0.out.popped (((HP5.out.turn (c' := { c with ref := rr }) (by have := HL.out; omega) 1 _ rfl).turn (c' := { c with ref := rr, p := q }) (by have := HL.out; omega) 2 _ rfl).judge (by have := HL.out; omega) false) (.inl ⟨rfl, rfl⟩) (by simp)⟩
      | cons s t =>
        have hlt := S0.out.lt
        have hw0 : w3.cell? ⟨w.heap.size + 1, 0, none⟩ = some (.slice p (t.length + 1) nc) := S0.out.words.cell 0
        have hw1 := S0.out.words.free 0
        have HPop := Lib.hid (pop_ (w.heap.size + 1) (w.heap.size + 1 + 1) g nc p s t w3 hw0 hw1 S0.out.strs)
        have HG0 := Lib.hid (fun (w4 : World) (P : Touch (FB cb w.heap.size) w3 w4) => G.touch (S0.out.touch.trans' (T := FB cb w.heap.size) P (fun i hi h => by rcases h with h | h | h <;> omega)) (fun k hk e => by omega))
        have HL := Lib.hid hlt
        have hss : s.length ≤ 1048576 := S0.out.small s (by simp)
        have hsm := S0.out.small
        have HSM := Lib.hid (show ∀ x ∈ t, x.length ≤ 1048576 from fun x hx => hsm x (by simp [hx]))
        clear hlt hw0 hw1 hsm
        go_wp2_with fail
        refine HPop.out.mono ?_
        rintro e w4 ⟨rfl, p', nc', hst, h4⟩
        have HP := Lib.hid (S0.out.pop hst)
        rw [← h4] at HP
        clear h4 hst
        go_wp2_with fail
        refine (place_ ⟨s.toArray⟩ w4 (by rw [of_list_size]; exact hss) (HG0.out _ HP.out.touch)).mono ?_
        rintro e w5 ⟨rr, q, rfl, hval, T5⟩
        have HV := Lib.hid hval
        have HP5 := Lib.hid (HP.out.read T5)
        have HT5 := Lib.hid T5
        clear T5 hval
        have y1 : w5.cell? ⟨cb, 1, none⟩ = _ := HP5.out.blk.cell 1
        have g1 := HP5.out.blk.free 1
        have y2 : w5.cell? ⟨cb, 2, none⟩ = _ := HP5.out.blk.cell 2
        have g2 := HP5.out.blk.free 2
        have y3 : w5.cell? ⟨w.heap.size + 1 + 1, 0, none⟩ = _ := HP5.out.okc.cell 0
        have g3 := HP5.out.okc.free 0
        simp [CallV.cells] at y1 y2 y3
        have hn1 : cb ≠ w.heap.size + 1 + 1 := by have := HL.out; omega
        obtain ⟨b, hb⟩ : ∃ b, b = (Txt.placeW s).isSome := ⟨_, rfl⟩
        rw [show (Txt.placeW (⟨s.toArray⟩ : ByteArray).data.toList).isSome = b from hb.symm]
        have HB := Lib.hid hb
        clear hb
        go_wp2_with fail
        go_meet
        refine ⟨b, { c with ref := rr, p := q }, t, p', nc', S0.out.popped (((HP5.out.turn (c' := { c with ref := rr }) (by have := HL.out; omega) 1 _ rfl).turn (c' := { c with ref := rr, p := q }) (by have := HL.out; omega) 2 _ rfl).judge (by have := HL.out; omega) b) ?_ HSM.out⟩
        have hb := HB.out
        cases hq : Txt.placeW s with
        | none =>
          rw [hq] at hb
          exact .inl ⟨by simp [Txt.addrW, hq], hb⟩
        | some u =>
          rw [hq] at hb
          obtain ⟨h1, h2⟩ := HV.out u hq
          refine .inr ⟨{ x with ref := u.1, p := u.2 }, by simp [Txt.addrW, hq], hb, ?_⟩
          rcases S0.out.law with ⟨h, _⟩ | ⟨x', hx, -, hci⟩
          · cases h
          · cases hx
            have hlt := HL.out
            have hci5 := hci.touch (((HP5.out.turn (c' := { c with ref := rr }) (by omega) 1 _ rfl).turn (c' := { c with ref := rr, p := q }) (by omega) 2 _ rfl).judge (by omega) b).touch (fun i hi1 hi2 h => (by rcases h with h | h | h <;> omega))
            exact ⟨hci5.op, by simp [h1], by simp [h2], hci5.a, hci5.b, hci5.deny, hci5.own⟩
  case rest =>
    have HC := Lib.hid hcut
    clear hcut S0
    have hn2 : wc.cell? ⟨w.heap.size, 2, none⟩ = some (.int .i64 fn) := by obtain ⟨ok, c, ws, p, nc, S⟩ := HC.out; exact S.form.cell 2
    have hlw : w.heap.size < wc.heap.size := by obtain ⟨ok, c, ws, p, nc, S⟩ := HC.out; exact S.form.lt
    have hlw3 : w.heap.size + 1 + 1 < wc.heap.size := by obtain ⟨ok, c, ws, p, nc, S⟩ := HC.out; exact S.okc.lt
    have hfn : fn ≤ 2 := hf
    have hfn' : (fn : Int) ≤ 2 := by omega
    have hfn0 : (0 : Int) ≤ (fn : Int) := by omega
    obtain ⟨PB, hPB⟩ : ∃ PB, wc.heap.size = PB := ⟨_, rfl⟩
    have HPB := Lib.hid hPB
    clear hPB
    rename World => w4
    go_upto_region 7 with fail
    go_cut [44, 45, 46] (fun a b k wx => a = .slice (some ⟨PB, 0, none⟩) fn 2 ∧ b = .int .i64 fn ∧ k = .int .i64 0 ∧ Blk wx PB 212 [.pointer (some ⟨cb, 3, none⟩), .pointer (some ⟨cb, 4, none⟩)] ∧ Touch Nothing w4 wx)
    case first =>
      go_region
      go_wp2_with fail
      go_meet
      have B := Blk.new w4 #[.pointer (some ⟨cb, 3, none⟩), .pointer (some ⟨cb, 4, none⟩)] 212
      rw [HPB.out] at B
      exact ⟨by rw [HPB.out], rfl, rfl, B, ((Touch.refl _ w4).alloc _).drew⟩
    case rest =>
      obtain ⟨h1, h2, h3, hB, hT⟩ := hcut
      subst h1 h2 h3
      have HB := Lib.hid hB
      have HF := Lib.hid (show FSx w cb g w.heap.size (.string fw) ⟨fa, fn, fd, fr⟩ (Txt.addrW x ⟨fa, fn, fd, fr⟩ ws) wc from by
        obtain ⟨ok, c, ws, p, nc, S⟩ := HC.out
        exact ⟨ok, c, ws, p, nc, S.read hT⟩)
      have hPl : w.heap.size + 1 + 1 < PB := by have := HPB.out; omega
      clear hB hT HC hn2 hlw hlw3 HPB
      generalize hr0e : Txt.addrW x ⟨fa, fn, fd, fr⟩ ws = r0 at *
      have HR0 := Lib.hid hr0e
      clear hr0e
      go_wp2_with fail
      go_loopw [46] (fun i wr => ∃ k : Nat, k ≤ fn ∧ i = .int .i64 k ∧ FSx w cb g w.heap.size (.string fw) ⟨fa, fn, fd, fr⟩ (rN r0 k) wr ∧ Blk wr PB 212 [.pointer (some ⟨cb, 3, none⟩), .pointer (some ⟨cb, 4, none⟩)]) (fun i _ => fn - (intOf i).toNat)
      case atStart => exact ⟨0, Nat.zero_le _, rfl, HF.out, HB.out⟩
      case round =>
        obtain ⟨k, hk, rfl, hF, hB⟩ := hrel
        clear HF HB
        have HB := Lib.hid hB
        have HF := Lib.hid hF
        clear hF hB
        by_cases hlt : k < fn
        · obtain ⟨ok, c', ws', p', nc', hS⟩ := HF.out
          have hk2 : k < 2 := by omega
          have hpt : wr.cell? ⟨PB, k, none⟩ = some (.pointer (some ⟨cb, 3 + k, none⟩)) := by
            match k, hk2 with
            | 0, _ => exact HB.out.cell 0
            | 1, _ => exact HB.out.cell 1
          have HS := Lib.hid hS
          have HL := Lib.hid hS.lt
          clear hS
          cases ws' with
          | nil =>
            have hw0 := HS.out.words.cell 0
            have ho0 := HS.out.okc.cell 0
            have hof := HS.out.okc.free 0
            have HP := Lib.hid HS.out.pop0
            have HG4 := Lib.hid (HS.out.glob G HP.out.touch)
            go_wp2_with fail
            refine (pop_none _ _ _ _ _ _ hw0 ho0 hof).mono ?_
            rintro e w4 ⟨rfl, h4⟩
            rw [← h4] at HP HG4
            clear h4 hw0 ho0 hof
            go_wp2_with fail
            refine (number_ ⟨#[]⟩ w4 (by decide) HG4.out).mono ?_
            rintro e w5 ⟨q, rfl, -, T5⟩
            have HP5 := Lib.hid (HP.out.read T5)
            clear T5
            obtain ⟨z, hz⟩ := HP5.out.ptr k hk2
            have g1 := HP5.out.blk.free (3 + k)
            have y3 : w5.cell? ⟨w.heap.size + 1 + 1, 0, none⟩ = some (.bool false) := HP5.out.okc.cell 0
            have g3 := HP5.out.okc.free 0
            have hn1 : cb ≠ w.heap.size + 1 + 1 := by have := HL.out; omega
            go_wp2_with fail
            go_roundw
            case rel => exact ⟨k + 1, by omega, by go_num, ⟨false, c'.putN k q, [], p', nc', HS.out.popped ((HP5.out.turn (by have := HL.out; omega) (3 + k) _ (CallV.putN_cells c' k q hk2)).judge (by have := HL.out; omega) false) (.inl ⟨popN_end HS.out.law, rfl⟩) (by simp)⟩, (HB.out.touch (((HP5.out.turn (by have := HL.out; omega) (3 + k) _ (CallV.putN_cells c' k q hk2)).judge (by have := HL.out; omega) false).touch) (fun h => by have := HL.out; rcases h with h | h | h <;> omega))⟩
            case measure => simp [intOf]; omega
          | cons s t =>
            have hw0 : wr.cell? ⟨w.heap.size + 1, 0, none⟩ = some (.slice p' (t.length + 1) nc') := HS.out.words.cell 0
            have hw1 := HS.out.words.free 0
            have HPop := Lib.hid (pop_ (w.heap.size + 1) (w.heap.size + 1 + 1) g nc' p' s t wr hw0 hw1 HS.out.strs)
            have HG0 := Lib.hid (fun (w4 : World) (P : Touch (FB cb w.heap.size) wr w4) => HS.out.glob G P)
            have hss : s.length ≤ 1048576 := HS.out.small s (by simp)
            have hsm := HS.out.small
            have HSM := Lib.hid (show ∀ x ∈ t, x.length ≤ 1048576 from fun x hx => hsm x (by simp [hx]))
            clear hw0 hw1 hsm
            go_wp2_with fail
            refine HPop.out.mono ?_
            rintro e w4 ⟨rfl, p2, nc2, hst, h4⟩
            have HP := Lib.hid (HS.out.pop hst)
            rw [← h4] at HP
            clear h4 hst
            go_wp2_with fail
            refine (number_ ⟨s.toArray⟩ w4 (by rw [of_list_size]; exact hss) (HG0.out _ HP.out.touch)).mono ?_
            rintro e w5 ⟨q, rfl, hval, T5⟩
            have HV := Lib.hid hval
            have HP5 := Lib.hid (HP.out.read T5)
            clear T5 hval
            obtain ⟨z, hz⟩ : ∃ z : Nat, w5.cell? ⟨cb, 3 + k, none⟩ = some (.int .u64 z) := HP5.out.ptr k hk2
            have g1 := HP5.out.blk.free (3 + k)
            have y3 : w5.cell? ⟨w.heap.size + 1 + 1, 0, none⟩ = some (.bool ok) := HP5.out.okc.cell 0
            have g3 := HP5.out.okc.free 0
            have hn1 : cb ≠ w.heap.size + 1 + 1 := by have := HL.out; omega
            obtain ⟨b, hb⟩ : ∃ b, b = (Txt.numW s).isSome := ⟨_, rfl⟩
            rw [show (Txt.numW (⟨s.toArray⟩ : ByteArray).data.toList).isSome = b from hb.symm]
            have HBb := Lib.hid hb
            clear hb
            have HTl := Lib.hid (fun (v : Bool) => (HP5.out.turn (by have := HL.out; omega) (3 + k) _ (CallV.putN_cells c' k q hk2)).judge (by have := HL.out; omega) v)
            have HBt := Lib.hid (fun (v : Bool) => HB.out.touch (HTl.out v).touch (fun h => by have := HL.out; rcases h with h | h | h <;> omega))
            cases ok with
            | false =>
              have hr0 : rN r0 k = none := by
                rcases HS.out.law with h | ⟨x', _, h, _⟩
                · exact h.1
                · cases h
              go_wp2_with fail
              go_roundw
              case rel => exact ⟨k + 1, by omega, by go_num, ⟨false, c'.putN k q, t, p2, nc2, HS.out.popped (HTl.out false) (.inl ⟨by rw [rN, hr0]; rfl, rfl⟩) HSM.out⟩, HBt.out false⟩
              case measure => simp [intOf]; omega
            | true =>
              go_wp2_with fail
              go_roundw
              case rel => exact ⟨k + 1, by omega, by go_num, ⟨b, c'.putN k q, t, p2, nc2, HS.out.popped (HTl.out b) (popN_more HS.out.law HBb.out (fun u hu => HV.out u hu) (fun x hx => hx.touch (HTl.out b).touch (fun i hi1 hi2 h => by have := HL.out; rcases h with h | h | h <;> omega))) HSM.out⟩, HBt.out b⟩
              case measure => simp [intOf]; omega
        · obtain rfl : k = fn := by omega
          obtain ⟨ok, c', ws', p', nc', hS⟩ := HF.out
          have hld : wr.cell? ⟨w.heap.size, 3, none⟩ = some (.bool fd) := hS.form.cell 3
          have HS := Lib.hid hS
          have HL := Lib.hid hS.lt
          clear hS
          go_upto_if 65 with fail
          go_cut [] (fun wx => FSx w cb g w.heap.size (.string fw) ⟨fa, k, fd, fr⟩ (if fd then popD (rN r0 k) else rN r0 k) wx)
          case first =>
            cases fd with
            | false =>
              go_wp2_with fail
              go_meet
              exact ⟨ok, c', ws', p', nc', HS.out⟩
            | true =>
              cases ws' with
              | nil =>
                have hw0 := HS.out.words.cell 0
                have ho0 := HS.out.okc.cell 0
                have hof := HS.out.okc.free 0
                have HP := Lib.hid HS.out.pop0
                go_wp2_with fail
                refine (pop_none _ _ _ _ _ _ hw0 ho0 hof).mono ?_
                rintro e w4 ⟨rfl, h4⟩
                rw [← h4] at HP
                clear h4 hw0 ho0 hof
                go_wp2_with fail
                refine (data_ ⟨#[]⟩ w4 (by decide)).mono ?_
                rintro e w5 ⟨dp, dn, dc, rfl, -, T5⟩
                have HP5 := Lib.hid (HP.out.read T5)
                clear T5
                have z6 : w5.cell? ⟨cb, 6, none⟩ = some (.slice c'.dp c'.dn c'.dc) := HP5.out.blk.cell 6
                have g1 := HP5.out.blk.free 6
                have y3 : w5.cell? ⟨w.heap.size + 1 + 1, 0, none⟩ = some (.bool false) := HP5.out.okc.cell 0
                have g3 := HP5.out.okc.free 0
                have hn1 : cb ≠ w.heap.size + 1 + 1 := by have := HL.out; omega
                go_wp2_with fail
                go_meet
                exact ⟨false, { c' with dp := dp, dn := dn, dc := dc }, [], p', nc', HS.out.popped ((HP5.out.turn (c' := { c' with dp := dp, dn := dn, dc := dc }) (by have := HL.out; omega) 6 _ rfl).judge (by have := HL.out; omega) false) (.inl ⟨popD_end HS.out.law, rfl⟩) (by simp)⟩
              | cons s t =>
                have hw0 : wr.cell? ⟨w.heap.size + 1, 0, none⟩ = some (.slice p' (t.length + 1) nc') := HS.out.words.cell 0
                have hw1 := HS.out.words.free 0
                have HPop := Lib.hid (pop_ (w.heap.size + 1) (w.heap.size + 1 + 1) g nc' p' s t wr hw0 hw1 HS.out.strs)
                have hss : s.length ≤ 1048576 := HS.out.small s (by simp)
                have hsm := HS.out.small
                have HSM := Lib.hid (show ∀ x ∈ t, x.length ≤ 1048576 from fun x hx => hsm x (by simp [hx]))
                clear hw0 hw1 hsm
                go_wp2_with fail
                refine HPop.out.mono ?_
                rintro e w4 ⟨rfl, p2, nc2, hst, h4⟩
                have HP := Lib.hid (HS.out.pop hst)
                rw [← h4] at HP
                clear h4 hst
                go_wp2_with fail
                refine (data_ ⟨s.toArray⟩ w4 (by rw [of_list_size]; exact hss)).mono ?_
                rintro e w5 ⟨dp, dn, dc, rfl, hval, T5⟩
                have HV := Lib.hid hval
                have HP5 := Lib.hid (HP.out.read T5)
                clear T5 hval
                have z6 : w5.cell? ⟨cb, 6, none⟩ = some (.slice c'.dp c'.dn c'.dc) := HP5.out.blk.cell 6
                have g1 := HP5.out.blk.free 6
                have y3 : w5.cell? ⟨w.heap.size + 1 + 1, 0, none⟩ = some (.bool ok) := HP5.out.okc.cell 0
                have g3 := HP5.out.okc.free 0
                have hn1 : cb ≠ w.heap.size + 1 + 1 := by have := HL.out; omega
                obtain ⟨b, hb⟩ : ∃ b, b = (Txt.dataW s).isSome := ⟨_, rfl⟩
                rw [show (Txt.dataW (⟨s.toArray⟩ : ByteArray).data.toList).isSome = b from hb.symm]
                have HBb := Lib.hid hb
                clear hb
                have HTl := Lib.hid (fun (v : Bool) => (HP5.out.turn (c' := { c' with dp := dp, dn := dn, dc := dc }) (by have := HL.out; omega) 6 _ rfl).judge (by have := HL.out; omega) v)
                have HTl0 := Lib.hid (fun (v : Bool) => (((Touch.cellAt w5 cb 6 (.slice dp dn dc)).mono (T := fun i => i = cb ∨ i = w.heap.size + 1 + 1) (fun _ _ h => .inl h)).trans ((Touch.cellAt (w5.setCell ⟨cb, 6, none⟩ (.slice dp dn dc)) (w.heap.size + 1 + 1) 0 (.bool v)).mono (T := fun i => i = cb ∨ i = w.heap.size + 1 + 1) (fun _ _ h => .inr h))))
                cases ok with
                | false =>
                  have hr0 : rN r0 k = none := by
                    rcases HS.out.law with h | ⟨x', _, h, _⟩
                    · exact h.1
                    · cases h
                  go_wp2_with fail
                  go_meet
                  exact ⟨false, { c' with dp := dp, dn := dn, dc := dc }, t, p2, nc2, HS.out.popped (HTl.out false) (.inl ⟨by rw [hr0]; rfl, rfl⟩) HSM.out⟩
                | true =>
                  go_wp2_with fail
                  go_meet
                  refine ⟨b, { c' with dp := dp, dn := dn, dc := dc }, t, p2, nc2, HS.out.popped (HTl.out b) (popD_more HS.out.law HBb.out (fun u hu => owns_touch (owns_lower (HV.out u hu) HP.out.okc.lt) (HTl0.out b) (fun i hi1 _ h => by have := HL.out; have := HP.out.okc.lt; rcases h with h | h <;> omega))) HSM.out⟩
          case rest =>
            obtain ⟨ok2, c2, ws2, p2, nc2, hS2⟩ := hcut
            have HS2 := Lib.hid hS2
            have y3 : wc.cell? ⟨w.heap.size + 1 + 1, 0, none⟩ = some (.bool ok2) := hS2.okc.cell 0
            have g3 := hS2.okc.free 0
            have y4 : wc.cell? ⟨w.heap.size + 1, 0, none⟩ = some (.slice p2 ws2.length nc2) := hS2.words.cell 0
            clear hS2
            cases ok2 with
            | false =>
              have HN := Lib.hid (show fin (if fd then popD (rN r0 k) else rN r0 k) = none by
                rcases HS2.out.law with ⟨h, _⟩ | ⟨_, _, h, _⟩
                · rw [h]; rfl
                · cases h)
              have HE := Lib.hid (HS2.out.okc.set 0 (.bool false))
              go_wp2_with fail
              have y5 := HE.out.cell 0
              simp at y5
              exact bodyPost_ret (v := .bool false) (by simp [results, Tryz.results77, go_sem, y5]) rfl (HS2.out.done HR0.out HN.out hfn false rfl)
            | true =>
              cases ws2 with
              | nil =>
                obtain ⟨x', hx', hci⟩ : ∃ x', (if fd then popD (rN r0 k) else rN r0 k) = some (x', []) ∧ CallIs wc (w.heap.size + 1 + 1 + 1) c2 x' := by
                  rcases HS2.out.law with ⟨_, h⟩ | ⟨x', h, _, hc⟩
                  · cases h
                  · exact ⟨x', h, hc⟩
                have HN := Lib.hid (show fin (if fd then popD (rN r0 k) else rN r0 k) = some x' by rw [hx']; rfl)
                have HCI := Lib.hid hci
                clear hx' hci
                have HE := Lib.hid (HS2.out.okc.set 0 (.bool true))
                go_wp2_with fail
                have y5 := HE.out.cell 0
                simp at y5
                exact bodyPost_ret (v := .bool true) (by simp [results, Tryz.results77, go_sem, y5]) rfl (HS2.out.done' HR0.out HN.out hfn HCI.out true rfl)
              | cons s2 t2 =>
                have HN := Lib.hid (show fin (if fd then popD (rN r0 k) else rN r0 k) = none by
                  rcases HS2.out.law with ⟨_, h⟩ | ⟨_, h, _, _⟩
                  · cases h
                  · rw [h]; rfl)
                have HE := Lib.hid (HS2.out.okc.set 0 (.bool false))
                have y4' : wc.cell? ⟨w.heap.size + 1, 0, none⟩ = some (.slice p2 (t2.length + 1) nc2) := y4
                have hzz : (((t2.length : Int) + 1) == 0) = false := by rw [beq_eq_false_iff_ne]; omega
                clear y4
                go_wp2_with fail
                have y5 := HE.out.cell 0
                simp at y5
                exact bodyPost_ret (v := .bool false) (by simp [results, Tryz.results77, go_sem, y5]) rfl (HS2.out.done HR0.out HN.out hfn false rfl)

end Go.Proofs.YtnjcmcnjgdjbiaaGreatDoor

