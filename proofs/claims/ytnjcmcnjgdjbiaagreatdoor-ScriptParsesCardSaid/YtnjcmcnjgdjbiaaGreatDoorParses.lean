/- The walk of ScriptParses. Conditions: none. -/
import Derived.Test.YtnjcmcnjgdjbiaaGreatDoorRefParse
import Derived.Test.YtnjcmcnjgdjbiaaGreatDoorSame
import Derived.Test.YtnjcmcnjgdjbiaaGreatDoorSteps
import Derived.Deep.DeepAppendRoom
import Derived.ArgAppend
namespace Go.Proofs.YtnjcmcnjgdjbiaaGreatDoor
open Go.RowKit

/- owned rows of bytes -/
theorem owns_set {w : World} {B e n k g cap : Nat} {xs : List Value} (h : w.ownsRow B e 1 (.slice (some ⟨g, 0, none⟩) n cap) n xs) (_hk : k < n) (u : Value) : (w.setCell ⟨g, k, none⟩ u).ownsRow B e 1 (.slice (some ⟨g, 0, none⟩) n cap) n (xs.set k u) := by
  obtain ⟨h1, h2⟩ := h
  refine ⟨by simpa using h1, ?_⟩
  rcases h2 with ⟨h2, _⟩ | ⟨g', cap', cur, hv, hb, hg, hc, hm, hs, ht⟩
  · cases h2
  · cases hv
    refine .inr ⟨g, cap, cur.set! k u, rfl, hb, ?_, hc, hm, by simpa using hs, ?_⟩
    · show (World.setCell w ⟨g, k, none⟩ u).heap[g]? = _
      simp only [World.setCell, Array.getElem?_modify, hg]
      simp
    · rw [← ht]
      simp only [Array.set!_eq_setIfInBounds, Array.toList_setIfInBounds]
      rw [List.take_set]

theorem owns_prefix {w : World} {B e n m g cap : Nat} {xs : List Value} (h : w.ownsRow B e 1 (.slice (some ⟨g, 0, none⟩) n cap) n xs) (hm : m ≤ n) : w.ownsRow B e 1 (.slice (some ⟨g, 0, none⟩) m cap) m (xs.take m) := by
  obtain ⟨h1, h2⟩ := h
  refine ⟨by simp; omega, ?_⟩
  rcases h2 with ⟨h2, _⟩ | ⟨g', cap', cur, hv, hb, hg, hc, hmx, hs, ht⟩
  · cases h2
  · cases hv
    refine .inr ⟨g, cap, cur, rfl, hb, hg, by omega, hmx, hs, ?_⟩
    rw [← ht, List.take_take, Nat.mul_one, Nat.mul_one, Nat.min_eq_left hm]

theorem flat_cell (l : List CallV) (i j : Nat) (c : CallV) (u : Value) (hi : l[i]? = some c) (hu : c.cells[j]? = some u) : (l.flatMap CallV.cells)[i * 7 + j]? = some u := by
  have hj := (List.getElem?_eq_some_iff.1 hu).1
  have hj7 : j < 7 := by simpa [CallV.cells] using hj
  induction l generalizing i with
  | nil => simp at hi
  | cons d l ih =>
    cases i with
    | zero =>
      simp at hi
      subst hi
      rw [List.flatMap_cons, List.getElem?_append_left (by simpa [CallV.cells] using hj7)]
      simpa using hu
    | succ i =>
      rw [List.flatMap_cons, List.getElem?_append_right (by simp [CallV.cells]; omega)]
      rw [← ih i (by simpa using hi)]
      congr 1
      simp [CallV.cells]
      omega

theorem rdB_owns {w : World} {B : Nat} {dp : Option Addr} {dn dc : Nat} {d : List UInt8} (h : w.ownsRow B 5 1 (.slice dp dn dc) d.length (bytesV d)) : RdB w dp dn d := by
  obtain ⟨p, c, hv⟩ := owns_form h
  cases hv
  refine ⟨rfl, fun e => ?_, fun a ha j x hj => ?_⟩
  · subst e
    rcases h.2 with ⟨_, h0⟩ | ⟨g, cap, cur, hv, _⟩
    · exact List.eq_nil_of_length_eq_zero h0
    · cases hv
  · subst ha
    rcases h.2 with ⟨h0, _⟩ | ⟨g, cap, cur, hv, _⟩
    · cases h0
    · cases hv
      have hl := (List.getElem?_eq_some_iff.1 hj).1
      have e : (⟨g, 0, none⟩ : Addr).add j = ⟨g, j, none⟩ := by unfold Addr.add; split <;> simp_all
      rw [e, World.ownsRow.cellAt h j (by omega)]
      unfold bytesV
      rw [List.getElem?_map, hj]
      rfl

theorem CallsAt.rd {w : World} {B : Nat} {dp : Option Addr} {dn dc : Nat} {cs : List CallV} {xs : List Txt.Cd} (h : CallsAt w B (.slice dp dn dc) cs xs) : dn = cs.length ∧ RdAll w dp dn cs (xs.map (·.data)) := by
  obtain ⟨p, c, hv⟩ := owns_form h.own
  cases hv
  refine ⟨rfl, ⟨rfl, by simpa using h.len, fun h0 => ?_⟩⟩
  obtain ⟨g, cap, hv, -, -⟩ := World.ownsRow.form h.own h0
  cases hv
  refine ⟨g, 0, rfl, fun i c d hc hd => ?_⟩
  rw [List.getElem?_map, Option.map_eq_some_iff] at hd
  obtain ⟨x, hx, rfl⟩ := hd
  have hi := (List.getElem?_eq_some_iff.1 hc).1
  refine ⟨fun j v hj => ?_, rdB_owns (h.each i c x hc hx).own⟩
  have hj7 : j < 7 := by have := (List.getElem?_eq_some_iff.1 hj).1; simpa [CallV.cells] using this
  rw [Nat.zero_add, World.ownsRow.cellAt h.own (i * 7 + j) (by omega)]
  exact flat_cell cs i j c v hc hj

theorem likeC_of {w w' : World} {B B' : Nat} {c d : CallV} {x : Txt.Cd} (h : CallIs w B c x) (k : CallIs w' B' d x) : LikeC c d :=
  ⟨h.op.trans k.op.symm, h.ref.trans k.ref.symm, h.p.trans k.p.symm, h.a.trans k.a.symm, h.b.trans k.b.symm, h.deny.trans k.deny.symm⟩

/-- what Parse tells has few bytes in each call, and few calls -/
theorem parse_small (s : List UInt8) : (∀ x ∈ (Txt.parseW s).1, x.data.length ≤ 65536) ∧ (Txt.parseW s).1.length ≤ 4096 := by
  unfold Txt.parseW
  split
  · exact ⟨fun x hx => (by cases hx), by simp⟩
  · split
    · exact ⟨fun x hx => (by cases hx), by simp⟩
    · split
      · exact ⟨fun x hx => (by cases hx), by simp⟩
      · rename_i h1 h2 h3
        have key : ∀ (ls : List (List UInt8)) (i : Nat) (acc : List Txt.Cd), (∀ x ∈ acc, x.data.length ≤ 65536) → (∀ x ∈ (Txt.runW ls i acc).1, x.data.length ≤ 65536) ∧ (Txt.runW ls i acc).1.length ≤ acc.length + ls.length := by
          intro ls
          induction ls with
          | nil => intro i acc h; exact ⟨h, by simp [Txt.runW]⟩
          | cons l ls ih =>
            intro i acc h
            unfold Txt.runW
            split
            · exact ⟨fun x hx => (by cases hx), by simp⟩
            · rename_i c hc
              obtain ⟨a, b⟩ := ih (i + 1) (acc ++ [c]) (fun x hx => by
                rcases List.mem_append.1 hx with hx | hx
                · exact h x hx
                · simp at hx
                  subst hx
                  have := ((Txt.okCd_iff _).1 (Txt.text_line hc).2.1).2.2.1
                  exact this)
              exact ⟨a, by simp at b ⊢; omega⟩
        obtain ⟨a, b⟩ := key (Txt.splitC 10 (Txt.trimN s)) 0 [] (fun x hx => (by cases hx))
        exact ⟨a, by simp at b; omega⟩

def u8 (i : Nat) : Value := .int .u8 ((i : Int) % 256)
def marks (i n : Nat) : List Value := List.replicate n (u8 i)

/-- the calls' slice stands; each call's bytes are f's -/
structure MutRel (B : Nat) (v : Value) (cs : List CallV) (f : Nat → List Value) (w wr : World) : Prop where
  own : wr.ownsRow B 43 7 v cs.length (cs.flatMap CallV.cells)
  each : ∀ (j : Nat) c, cs[j]? = some c → wr.ownsRow B 5 1 (.slice c.dp c.dn c.dc) (f j).length (f j)
  apart : cs.Pairwise fun c d => ∀ g, c.block = some g → d.block ≠ some g
  touch : Touch Nothing w wr

theorem MutRel.apart_ {B : Nat} {v : Value} {cs : List CallV} {f : Nat → List Value} {w wr : World} (M : MutRel B v cs f w wr) {i j : Nat} {c d : CallV} (hc : cs[i]? = some c) (hd : cs[j]? = some d) (hne : i ≠ j) (g : Nat) (hg : c.block = some g) : d.block ≠ some g := by
  have hi := (List.getElem?_eq_some_iff.1 hc)
  have hj := (List.getElem?_eq_some_iff.1 hd)
  obtain ⟨hi1, hi2⟩ := hi
  obtain ⟨hj1, hj2⟩ := hj
  have hp := List.pairwise_iff_getElem.1 M.apart
  rcases Nat.lt_or_gt_of_ne hne with h | h
  · have := hp i j hi1 hj1 h g
    rw [hi2, hj2] at this
    exact this hg
  · intro hdg
    have := hp j i hj1 hi1 h g
    rw [hi2, hj2] at this
    exact this hdg hg

/-- one byte of call i is written -/
theorem MutRel.set {B : Nat} {v : Value} {cs : List CallV} {f : Nat → List Value} {w wr : World} {i k g : Nat} {c : CallV} (M : MutRel B v cs f w wr) (hc : cs[i]? = some c) (hdp : c.dp = some ⟨g, 0, none⟩) (hk : k < (f i).length) (hB : w.heap.size ≤ B) (u : Value) :
    MutRel B v cs (fun j => if j = i then (f i).set k u else f j) w (wr.setCell ⟨g, k, none⟩ u) := by
  have hoc := M.each i c hc
  have hblk : c.block = some g := by unfold CallV.block; rw [hdp]; rfl
  have hgB : B ≤ g := (World.ownsRow.lt hoc g hblk).1
  have hfree : ∀ {B' e k' n : Nat} {v' : Value} {xs : List Value}, wr.ownsRow B' e k' v' n xs → v'.ownBlock ≠ some g → (wr.setCell ⟨g, k, none⟩ u).ownsRow B' e k' v' n xs := fun h hn => ownsRow_setCell_other h (a := ⟨g, k, none⟩) hn u
  refine ⟨hfree M.own (owns_kind hoc M.own (by decide) g hblk), fun j d hd => ?_, M.apart, M.touch.setCell (p := ⟨g, k, none⟩) (S := Nothing) (fun h => by simp only at h; omega) u⟩
  by_cases hj : j = i
  · subst hj
    rw [hc] at hd
    cases hd
    simp only [if_true]
    obtain ⟨p, cap, hv⟩ := owns_form hoc
    have hdn : c.dn = (f j).length := by injection hv
    have h2 := hoc
    rw [hdp, hdn] at h2
    have h3 := owns_set h2 hk u
    rw [hdp, hdn]
    simpa using h3
  · simp only [if_neg hj]
    exact hfree (M.each j d hd) (M.apart_ hc hd (fun e => hj e.symm) g hblk)

theorem MutRel.still {B : Nat} {v : Value} {cs : List CallV} {f : Nat → List Value} {w wr w' : World} (M : MutRel B v cs f w wr) {S : Nat → Prop} (T : Touch S wr w') (hv : ∀ g, v.ownBlock = some g → ¬ S g) (hc : ∀ c ∈ cs, ∀ g, c.block = some g → ¬ S g) (hS : ∀ g, S g → w.heap.size ≤ g) : MutRel B v cs f w w' :=
  ⟨owns_touch M.own T (fun g _ hg => hv g hg), fun j c hj => owns_touch (M.each j c hj) T (fun g _ hg => hc c (List.mem_of_getElem? hj) g hg), M.apart, M.touch.trans' T (fun k hk h => by have := hS k h; omega)⟩

theorem MutRel.congr {B : Nat} {v : Value} {cs : List CallV} {f f' : Nat → List Value} {w wr : World} (M : MutRel B v cs f w wr) (h : ∀ j, j < cs.length → f j = f' j) : MutRel B v cs f' w wr :=
  ⟨M.own, fun j c hj => by rw [← h j (List.getElem?_eq_some_iff.1 hj).1]; exact M.each j c hj, M.apart, M.touch⟩

/-- the row of call i has turned behind its bytes -/
theorem MutRel.turn {B : Nat} {v : Value} {cs : List CallV} {f : Nat → List Value} {w wr w1 : World} {i g : Nat} {c : CallV} (M : MutRel B v cs f w wr) (hc : cs[i]? = some c) (hblk : c.block = some g) (hB : w.heap.size ≤ B) (T : Touch (· = g) wr w1)
    (hrow : w1.ownsRow B 5 1 (.slice c.dp c.dn c.dc) (f i).length (f i)) : MutRel B v cs f w w1 := by
  have hoc := M.each i c hc
  have hgB : B ≤ g := (World.ownsRow.lt hoc g hblk).1
  refine ⟨owns_touch M.own T (fun k _ hk e => by subst e; exact owns_kind hoc M.own (by decide) k hblk hk), fun j d hd => ?_, M.apart, M.touch.trans' T (fun k hk e => by omega)⟩
  by_cases hj : j = i
  · subst hj
    rw [hc] at hd
    cases hd
    exact hrow
  · exact owns_touch (M.each j d hd) T (fun k _ hk e => by subst e; exact M.apart_ hc hd (fun e => hj e.symm) k hblk hk)

/-- what was appended to a call's bytes -/
def App (B : Nat) (v : Value) (cs : List CallV) (c : CallV) (xs : List Value) (k : Nat) (bv : Value) (wr : World) : Prop :=
  ∃ ys : List Value, wr.ownsRow B 5 1 bv (xs.length + k) ys ∧ ((bv = .slice c.dp (xs.length + k) c.dc ∧ ys.take xs.length = xs) ∨ (∀ g, bv.ownBlock = some g → v.ownBlock ≠ some g ∧ ∀ d ∈ cs, d.block ≠ some g))

theorem App.start {B : Nat} {v : Value} {cs : List CallV} {f : Nat → List Value} {w wr : World} {i : Nat} {c : CallV} (M : MutRel B v cs f w wr) (hc : cs[i]? = some c) : App B v cs c (f i) 0 (.slice c.dp c.dn c.dc) wr := by
  have h := M.each i c hc
  obtain ⟨p, cap, hv⟩ := owns_form h
  have hdn : c.dn = (f i).length := by injection hv
  exact ⟨f i, h, .inl ⟨by rw [hdn]; rfl, List.take_length⟩⟩

theorem App.room {B : Nat} {v : Value} {cs : List CallV} {f : Nat → List Value} {w wr w1 : World} {i k g cap : Nat} {c : CallV} {o : Obj} (M : MutRel B v cs f w wr) (hc : cs[i]? = some c) (hB : w.heap.size ≤ B) {ys : List Value}
    (hl : (.slice (some ⟨g, 0, none⟩) ((f i).length + k) cap = Value.slice c.dp ((f i).length + k) c.dc ∧ ys.take (f i).length = f i) ∨ (∀ g', (Value.slice (some ⟨g, 0, none⟩) ((f i).length + k) cap).ownBlock = some g' → v.ownBlock ≠ some g' ∧ ∀ d ∈ cs, d.block ≠ some g')) (hBg : B ≤ g) (hys : ys.length = (f i).length + k)
    (hown : w1.ownsRow B 5 1 (.slice (some ⟨g, 0, none⟩) ((f i).length + k + 1) cap) ((f i).length + k + 1) (ys ++ [.int .u8 99])) (hgrow : (wr.alloc o).grownBy w1 (some g)) :
    MutRel B v cs f w w1 ∧ App B v cs c (f i) (k + 1) (.slice (some ⟨g, 0, none⟩) ((f i).length + k + 1) cap) w1 := by
  have T : Touch (· = g) wr w1 := ((Touch.refl _ wr).alloc o).trans (Touch.of_grown hgrow (fun j hj => by cases hj; rfl))
  have hoc := M.each i c hc
  rcases hl with ⟨he, ht⟩ | hfar
  · have hdp : c.dp = some ⟨g, 0, none⟩ := by injection he with h1 _ _; exact h1.symm
    have hdc : c.dc = cap := by injection he with _ _ h1; exact h1.symm
    have hblk : c.block = some g := by unfold CallV.block; rw [hdp]; rfl
    have hpre := owns_prefix hown (show (f i).length ≤ (f i).length + k + 1 by omega)
    have htk : (ys ++ [Value.int .u8 99]).take (f i).length = f i := by
      rw [List.take_append_of_le_length (by omega)]
      exact ht
    rw [htk] at hpre
    obtain ⟨p, cap', hv⟩ := owns_form hoc
    have hdn : c.dn = (f i).length := by injection hv
    refine ⟨M.turn hc hblk hB T (by rw [hdp, hdc, hdn]; exact hpre), _, hown, .inl ⟨by rw [hdp, hdc]; rfl, htk⟩⟩
  · have hf := hfar g rfl
    refine ⟨M.still T (fun g' hg' e => by subst e; exact hf.1 hg') (fun d hd g' hg' e => by subst e; exact hf.2 d hd hg') (fun g' e => by subst e; omega), _, hown, .inr (fun g' hg' => ?_)⟩
    cases hg'
    exact hf

theorem App.grow {B : Nat} {v v' : Value} {cs : List CallV} {f : Nat → List Value} {w wr w1 : World} {i k : Nat} {c : CallV} {o : Obj} {ys : List Value} (M : MutRel B v cs f w wr) (_hB : w.heap.size ≤ B) (hBr : B ≤ wr.heap.size)
    (hown : w1.ownsRow (wr.alloc o).heap.size 5 1 v' ((f i).length + k + 1) (ys ++ [.int .u8 99])) (hgrow : (wr.alloc o).grownBy w1 none) :
    MutRel B v cs f w w1 ∧ App B v cs c (f i) (k + 1) v' w1 := by
  have T : Touch Nothing wr w1 := ((Touch.refl _ wr).alloc o).trans (Touch.of_grown hgrow (fun j hj => by cases hj))
  have hsz : (wr.alloc o).heap.size = wr.heap.size + 1 := by simp
  rw [hsz] at hown
  refine ⟨M.still T (fun _ _ h => h) (fun _ _ _ _ h => h) (fun _ h => h.elim), _, owns_lower hown (by omega), .inr (fun g hg => ?_)⟩
  have h1 := (World.ownsRow.lt hown g hg).1
  refine ⟨fun e => by have := (World.ownsRow.lt M.own g e).2; omega, fun d hd e => ?_⟩
  obtain ⟨j, hj⟩ := List.mem_iff_getElem?.1 hd
  have := (World.ownsRow.lt (M.each j d hj) g e).2
  omega

theorem MutRel.start {B : Nat} {w w1 w4 : World} {v : Value} {cs : List CallV} {xs : List Txt.Cd} (h : CallsAt w1 B v cs xs) (T : Touch Nothing w1 w4) (T0 : Touch Nothing w w4) : MutRel B v cs (fun j => bytesV ((xs[j]?.map Txt.Cd.data).getD [])) w w4 := by
  have h := h.still T
  refine ⟨h.own, fun j c hj => ?_, h.apart, T0⟩
  obtain ⟨x, hx⟩ : ∃ x, xs[j]? = some x := ⟨_, List.getElem?_eq_getElem (by rw [← h.len]; exact (List.getElem?_eq_some_iff.1 hj).1)⟩
  rw [hx]
  have := (h.each j c x hj hx).own
  simpa [bytesV] using this

theorem marks_set (i k : Nat) (l : List Value) (h : k < l.length) : (marks i k ++ l.drop k).set k (u8 i) = marks i (k + 1) ++ l.drop (k + 1) := by
  have hl : (marks i k).length = k := by simp [marks]
  rw [List.set_append_right _ _ (by omega), hl, Nat.sub_self, List.drop_eq_getElem_cons h, List.set_cons_zero]
  unfold marks
  rw [List.replicate_succ', List.append_assoc]
  rfl

end Go.Proofs.YtnjcmcnjgdjbiaaGreatDoor
