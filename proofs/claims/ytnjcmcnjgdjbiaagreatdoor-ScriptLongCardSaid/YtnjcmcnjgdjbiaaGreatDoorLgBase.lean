/- Small words on worlds, for all walks of this claim: a block known whole ('Blk'), a row that a slice value owns ('Row'), and what a call may have rewritten ('Touch'). Conditions: none; plain lemmas. -/
import Derived.WalkKit
import Derived.WalkSpells
import Derived.WalkLawsBesides
import Derived.OneCell
import Derived.Deep.Draws
import Derived.Laws.CopyOwn
import Derived.Laws.MakeOwn
import Derived.Laws.Entries
namespace Go.Proofs.YtnjcmcnjgdjbiaaGreatDoor
open Go.RowKit

/-- block b is a row of cells that holds just cs, none frozen -/
def Blk (w : World) (b : Nat) (t : TypeId) (cs : List Value) : Prop := w.heap[b]? = some (.cells cs.toArray t (0, 0))

/-- w' is w but for new blocks and for the blocks of S -/
structure Touch (S : Nat → Prop) (w w' : World) : Prop where
  os : w'.os = w.os
  tape : w'.tape = w.tape
  output : w'.output = w.output
  size : w.heap.size ≤ w'.heap.size
  block : ∀ k, k < w.heap.size → ¬ S k → w'.heap[k]? = w.heap[k]?

abbrev Nothing : Nat → Prop := fun _ => False

namespace Touch
variable {S T : Nat → Prop} {a b c w w' : World}

theorem refl (S : Nat → Prop) (w : World) : Touch S w w := ⟨rfl, rfl, rfl, Nat.le_refl _, fun _ _ _ => rfl⟩

theorem trans (h : Touch S a b) (k : Touch S b c) : Touch S a c :=
  ⟨k.os.trans h.os, k.tape.trans h.tape, k.output.trans h.output, Nat.le_trans h.size k.size,
    fun i hi hs => (k.block i (Nat.lt_of_lt_of_le hi h.size) hs).trans (h.block i hi hs)⟩

theorem mono (h : Touch S a b) (hst : ∀ k, k < a.heap.size → S k → T k) : Touch T a b :=
  ⟨h.os, h.tape, h.output, h.size, fun i hi ht => h.block i hi (fun hs => ht (hst i hi hs))⟩

theorem none_ (h : Touch Nothing a b) : Touch S a b := h.mono (fun _ _ f => f.elim)

/-- a second step that touches only what was new -/
theorem trans' (h : Touch S a b) (k : Touch T b c) (ht : ∀ i, i < a.heap.size → T i → S i) : Touch S a c :=
  ⟨k.os.trans h.os, k.tape.trans h.tape, k.output.trans h.output, Nat.le_trans h.size k.size,
    fun i hi hs => (k.block i (Nat.lt_of_lt_of_le hi h.size) (fun x => hs (ht i hi x))).trans (h.block i hi hs)⟩

theorem drew (h : Touch S a b) : Touch S a b.drew := ⟨h.os, h.tape, h.output, h.size, h.block⟩
theorem drewN (h : Touch S a b) (n : Nat) : Touch S a (b.drewN n) := ⟨h.os, h.tape, h.output, h.size, h.block⟩

theorem alloc (h : Touch S a b) (o : Obj) : Touch S a (b.alloc o) :=
  ⟨h.os, h.tape, h.output, Nat.le_trans h.size (by simp), fun i hi hs => (Below.heap_alloc b o i (Nat.lt_of_lt_of_le hi h.size)).trans (h.block i hi hs)⟩

theorem setCell (h : Touch S a b) {p : Addr} (hp : p.block < a.heap.size → S p.block) (u : Value) : Touch S a (b.setCell p u) :=
  ⟨h.os, h.tape, h.output, by simpa [World.setCell] using h.size, fun i hi hs => (Below.heap_setCell b p u i (by
    rintro rfl
    exact hs (hp hi))).trans (h.block i hi hs)⟩

theorem cellAt (w : World) (b i : Nat) (v : Value) : Touch (fun k => k = b) w (w.setCell ⟨b, i, none⟩ v) :=
  ⟨rfl, rfl, rfl, by simp [World.setCell], fun k _ hk => Below.heap_setCell w ⟨b, i, none⟩ v k (by simpa using hk)⟩

theorem of_below (h : Below a.heap.size a b) : Touch S a b := ⟨h.os, h.tape, h.output, h.size, fun i hi _ => h.block i hi⟩
theorem below (h : Touch Nothing a b) : Below a.heap.size a b := ⟨h.os, h.tape, h.output, h.size, fun i hi => h.block i hi (fun x => x)⟩
theorem to_below {B : Nat} (h : Touch S a b) (hB : B ≤ a.heap.size) (hS : ∀ k, S k → B ≤ k) : Below B a b :=
  ⟨h.os, h.tape, h.output, h.size, fun i hi => h.block i (Nat.lt_of_lt_of_le hi hB) (fun s => by have := hS i s; omega)⟩
theorem of_grown {row : Option Nat} (h : a.grownBy b row) (hr : ∀ k, row = some k → S k) : Touch S a b :=
  ⟨h.os, h.tape, h.output, h.size, fun i hi hs => h.block i hi (fun e => hs (hr i e.symm))⟩

theorem cell (h : Touch S w w') {p : Addr} (hp : p.block < w.heap.size) (hs : ¬ S p.block) : w'.cell? p = w.cell? p :=
  World.cell?_of_block (w := w) (h.block p.block hp hs)
theorem frozen (h : Touch S w w') {p : Addr} (hp : p.block < w.heap.size) (hs : ¬ S p.block) : w'.frozen? p = w.frozen? p :=
  World.frozen?_of_block (w := w) (h.block p.block hp hs)
end Touch

namespace Blk
variable {w w' : World} {b : Nat} {t : TypeId} {cs : List Value} {S : Nat → Prop}

theorem lt (h : Blk w b t cs) : b < w.heap.size := (Array.getElem?_eq_some_iff.1 h).1
theorem cell (h : Blk w b t cs) (i : Nat) : w.cell? ⟨b, i, none⟩ = cs[i]? := by
  have h' : w.heap[b]? = _ := h
  simp [World.cell?, h']
theorem free (h : Blk w b t cs) (i : Nat) : w.frozen? ⟨b, i, none⟩ = false := by
  have h' : w.heap[b]? = _ := h
  simp [World.frozen?, h']
theorem touch (h : Blk w b t cs) (k : Touch S w w') (hs : ¬ S b) : Blk w' b t cs := (k.block b h.lt hs).trans h
theorem drew (h : Blk w b t cs) : Blk w.drew b t cs := h
theorem drewN (h : Blk w b t cs) (n : Nat) : Blk (w.drewN n) b t cs := h
theorem alloc (h : Blk w b t cs) (o : Obj) : Blk (w.alloc o) b t cs := (Below.heap_alloc w o b h.lt).trans h
theorem new (w : World) (c : Array Value) (t : TypeId) : Blk (w.alloc (.cells c t)) w.heap.size t c.toList := by
  show (w.heap.push _)[w.heap.size]? = _
  simp
theorem other (h : Blk w b t cs) {p : Addr} (hp : p.block ≠ b) (u : Value) : Blk (w.setCell p u) b t cs :=
  (Below.heap_setCell w p u b (fun e => hp e.symm)).trans h
theorem set (h : Blk w b t cs) (i : Nat) (u : Value) : Blk (w.setCell ⟨b, i, none⟩ u) b t (cs.set i u) := by
  have h' : w.heap[b]? = _ := h
  show (World.setCell w ⟨b, i, none⟩ u).heap[b]? = _
  simp only [World.setCell, Array.getElem?_modify, h']
  simp
theorem inj (h : Blk w b t cs) {t' : TypeId} {cs' : List Value} (k : Blk w b t' cs') : cs = cs' := by
  have := (Eq.symm h).trans k
  simp at this
  exact this.1
end Blk

/-- a slice value that owns a row -/
abbrev Row (w : World) (e : TypeId) (size : Nat) (v : Value) (n : Nat) (xs : List Value) : Prop := w.ownsRow 0 e size v n xs

namespace Row
variable {w w' : World} {e : TypeId} {size : Nat} {v : Value} {n : Nat} {xs : List Value} {S : Nat → Prop}

theorem touch (h : Row w e size v n xs) (k : Touch S w w') (hs : ∀ g, v.ownBlock = some g → ¬ S g) : Row w' e size v n xs := by
  refine ⟨h.1, ?_⟩
  rcases h.2 with hn | ⟨g, cap, cur, rfl, hb, hgg, rest⟩
  · exact .inl hn
  · refine .inr ⟨g, cap, cur, rfl, hb, ?_, rest⟩
    rw [k.block g (Array.getElem?_eq_some_iff.1 hgg).1 (hs g rfl)]
    exact hgg
theorem lt (h : Row w e size v n xs) {g : Nat} (hg : v.ownBlock = some g) : g < w.heap.size := (World.ownsRow.lt h g hg).2
/-- a row that is not empty has a block -/
theorem form (h : Row w e size v n xs) (hn : 0 < n) : ∃ g cap, v = .slice (some ⟨g, 0, none⟩) n cap ∧ n ≤ cap ∧ g < w.heap.size := by
  rcases h.2 with ⟨_, h0⟩ | ⟨g, cap, cur, hv, _, hg, hc, _⟩
  · omega
  · exact ⟨g, cap, hv, hc, (Array.getElem?_eq_some_iff.1 hg).1⟩
theorem cell {g cap : Nat} (h : Row w e size (.slice (some ⟨g, 0, none⟩) n cap) n xs) (j : Nat) (hj : j < n * size) : w.cell? ⟨g, j, none⟩ = xs[j]? := World.ownsRow.cellAt h j hj
theorem free {g cap : Nat} (h : Row w e size (.slice (some ⟨g, 0, none⟩) n cap) n xs) (j : Nat) : w.frozen? ⟨g, j, none⟩ = false := World.ownsRow.frozenAt h j
end Row

theorem Blk.setRow {w : World} {g : Nat} {t : TypeId} {cur : List Value} (h : Blk w g t cur) (cs : Array Value) : Blk (w.setRow g cs) g t cs.toList := by
  have := setRow_heap w g cur.toArray cs t (0, 0) h
  simpa [Blk] using this

theorem Touch.setRow (w : World) (g : Nat) (cs : Array Value) : Touch (· = g) w (w.setRow g cs) :=
  ⟨rfl, rfl, rfl, by simp [World.setRow], fun k _ hk => setRow_other w g k cs hk⟩

theorem splice_all {α : Type} (L cs : List α) (h : L.length = cs.length) : splice L 0 cs = cs := by
  simp [splice, ← h]

/-- 'copy' into a block that is known whole: the block behind it, and that no other block has turned. -/
theorem wpList_copy_blk {P : Program} {w : World} {ops : Array Oper} {rest : List Oper} {o : Oper} {a : Act} {Q : Exit → Act → World → Prop} (hgd : o.guard = none) (d s : Operand) (dT sT : TypeId)
    (ho : o.op = .call { callee := .builtin .copy, args := #[d, s], argTypes := #[dT, sT] }) (elem : TypeId) (hu : P.underlying dT = some (.slice elem)) (hsz : (P.info? elem).map (·.size) = some 1)
    (dp sp : Option Addr) (dLen dCap sLen sCap : Nat) (hd : a.eval d = .slice dp dLen dCap) (hs : a.eval s = .slice sp sLen sCap)
    (g off : Nat) (cur : List Value) (t : TypeId) (hg : Blk w g t cur) (cs : List Value) (hn : cs.length = Nat.min sLen dLen)
    (hpos : 0 < cs.length → dp = some ⟨g, off, none⟩ ∧ ∃ ad, sp = some ad ∧ ∀ j v, cs[j]? = some v → w.cell? (ad.add j) = some v)
    (hfit : off + cs.length ≤ cur.length) (h1 : ∀ v ∈ cs, v.oneCell' = true)
    (h : ∀ w', Hid (Blk w' g t (splice cur off cs)) → Touch (· = g) w w' → wpList P ops Q rest (a.put o.dst (goInt cs.length)) w') :
    wpList P ops Q (o :: rest) a w := by
  by_cases h0 : cs.length = 0
  · obtain rfl : cs = [] := List.eq_nil_of_length_eq_zero h0
    refine wpList_copy_nothing hgd d s dT sT ho elem hu hsz dp sp dLen dCap sLen sCap hd hs (by simpa using hn.symm) ?_
    exact h w (show Blk w g t _ by simpa [splice] using hg) (Touch.refl _ _)
  · obtain ⟨rfl, ad, rfl, hsrc⟩ := hpos (by omega)
    refine wpList_copy_own hgd d s dT sT ho elem hu hsz g off dLen dCap ad sLen sCap hd hs cur.toArray t hg cs hn hsrc (by simpa using hfit) h1 ?_
    refine h _ ?_ (Touch.setRow _ _ _)
    have := hg.setRow (cur.toArray.toList.take off ++ (cs ++ cur.toArray.toList.drop (off + cs.length))).toArray
    simpa [splice, Hid] using this

/-- make of a length that is a variable: the new block, its cells the element's zero -/
theorem run_make_rowN {P : Program} (t e : TypeId) (z : Value) (size bytes : Nat) (ht : P.underlying t = some (.slice e)) (hinfo : (P.info? e).map (fun i => (i.zero, i.size, i.bytes)) = some (some z, size, bytes))
    (kl kc : IntKind) (n : Nat) (hbytes : bytes * n ≤ 281474976710656) (h63 : n ≤ 9223372036854775807) (w : World) :
    (Instr.makeSlice t (.int kl (n : Int)) (.int kc (n : Int))).run P w = .ok (.slice (some ⟨w.heap.size, 0, none⟩) n n) (w.alloc (.cells (madeCells z.cells (n * size)) e)) := by
  obtain ⟨i, hi, hz, hs, hby⟩ := info_parts hinfo
  subst hs
  subst hby
  have hb : (i.bytes : Int) * (n : Int) ≤ 281474976710656 := by
    have h : ((i.bytes * n : Nat) : Int) ≤ 281474976710656 := by omega
    rwa [Int.natCast_mul] at h
  have hr := run_make (P := P) w t e i z ht hi hz kl kc n n (by omega) (by omega) hb (by omega)
  simp only [Int.toNat_natCast] at hr
  exact hr

end Go.Proofs.YtnjcmcnjgdjbiaaGreatDoor

