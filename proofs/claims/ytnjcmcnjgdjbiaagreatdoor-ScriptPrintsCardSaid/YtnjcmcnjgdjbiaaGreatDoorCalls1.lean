/- What was read, as calls that can be read: the lemmas of CursorD and Parses that need no walk of the document (THE SAME NAMES: never import this text beside CursorD). Conditions: none. -/
import Derived.Test.YtnjcmcnjgdjbiaaGreatDoorLine
import Derived.Test.YtnjcmcnjgdjbiaaGreatDoorSame
import Derived.Test.YtnjcmcnjgdjbiaaGreatDoorTxt3
namespace Go.Proofs.YtnjcmcnjgdjbiaaGreatDoor
open Go.RowKit

theorem owns_form {w : World} {B e k n : Nat} {v : Value} {xs : List Value} (h : w.ownsRow B e k v n xs) : ∃ dp dc, v = .slice dp n dc := by
  rcases h.2 with ⟨h1, h2⟩ | ⟨g, cap, cur, h1, _⟩
  · exact ⟨none, 0, by rw [h1, h2]⟩
  · exact ⟨_, _, h1⟩

theorem flat_cell (l : List CallV) (i j : Nat) (c : CallV) (u : Value) (hi : l[i]? = some c) (hu : c.cells[j]? = some u) : (l.flatMap CallV.cells)[i * 7 + j]? = some u := by
  have hj := (List.getElem?_eq_some_iff.1 hu).1
  have hj7 : j < 7 := by simpa [CallV.cells] using hj
  induction l generalizing i with
  | nil => simp at hi
  | cons d l ih =>
    cases i with
    | zero =>
      simp at hi
      subst hi
      rw [List.flatMap_cons, List.getElem?_append_left (by simpa [CallV.cells] using hj7)]
      simpa using hu
    | succ i =>
      rw [List.flatMap_cons, List.getElem?_append_right (by simp [CallV.cells]; omega)]
      rw [← ih i (by simpa using hi)]
      congr 1
      simp [CallV.cells]
      omega

theorem rdB_owns {w : World} {B : Nat} {dp : Option Addr} {dn dc : Nat} {d : List UInt8} (h : w.ownsRow B 5 1 (.slice dp dn dc) d.length (bytesV d)) : RdB w dp dn d := by
  obtain ⟨p, c, hv⟩ := owns_form h
  cases hv
  refine ⟨rfl, fun e => ?_, fun a ha j x hj => ?_⟩
  · subst e
    rcases h.2 with ⟨_, h0⟩ | ⟨g, cap, cur, hv, _⟩
    · exact List.eq_nil_of_length_eq_zero h0
    · cases hv
  · subst ha
    rcases h.2 with ⟨h0, _⟩ | ⟨g, cap, cur, hv, _⟩
    · cases h0
    · cases hv
      have hl := (List.getElem?_eq_some_iff.1 hj).1
      have e : (⟨g, 0, none⟩ : Addr).add j = ⟨g, j, none⟩ := by unfold Addr.add; split <;> simp_all
      rw [e, World.ownsRow.cellAt h j (by omega)]
      unfold bytesV
      rw [List.getElem?_map, hj]
      rfl

theorem CallsAt.rd {w : World} {B : Nat} {dp : Option Addr} {dn dc : Nat} {cs : List CallV} {xs : List Txt.Cd} (h : CallsAt w B (.slice dp dn dc) cs xs) : dn = cs.length ∧ RdAll w dp dn cs (xs.map (·.data)) := by
  obtain ⟨p, c, hv⟩ := owns_form h.own
  cases hv
  refine ⟨rfl, ⟨rfl, by simpa using h.len, fun h0 => ?_⟩⟩
  obtain ⟨g, cap, hv, -, -⟩ := World.ownsRow.form h.own h0
  cases hv
  refine ⟨g, 0, rfl, fun i c d hc hd => ?_⟩
  rw [List.getElem?_map, Option.map_eq_some_iff] at hd
  obtain ⟨x, hx, rfl⟩ := hd
  have hi := (List.getElem?_eq_some_iff.1 hc).1
  refine ⟨fun j v hj => ?_, rdB_owns (h.each i c x hc hx).own⟩
  have hj7 : j < 7 := by have := (List.getElem?_eq_some_iff.1 hj).1; simpa [CallV.cells] using this
  rw [Nat.zero_add, World.ownsRow.cellAt h.own (i * 7 + j) (by omega)]
  exact flat_cell cs i j c v hc hj

theorem likeC_of {w w' : World} {B B' : Nat} {c d : CallV} {x : Txt.Cd} (h : CallIs w B c x) (k : CallIs w' B' d x) : LikeC c d :=
  ⟨h.op.trans k.op.symm, h.ref.trans k.ref.symm, h.p.trans k.p.symm, h.a.trans k.a.symm, h.b.trans k.b.symm, h.deny.trans k.deny.symm⟩

/-- what Parse tells has few bytes in each call, and few calls -/
theorem parse_small (s : List UInt8) : (∀ x ∈ (Txt.parseW s).1, x.data.length ≤ 65536) ∧ (Txt.parseW s).1.length ≤ 4096 := by
  unfold Txt.parseW
  split
  · exact ⟨fun x hx => (by cases hx), by simp⟩
  · split
    · exact ⟨fun x hx => (by cases hx), by simp⟩
    · split
      · exact ⟨fun x hx => (by cases hx), by simp⟩
      · rename_i h1 h2 h3
        have key : ∀ (ls : List (List UInt8)) (i : Nat) (acc : List Txt.Cd), (∀ x ∈ acc, x.data.length ≤ 65536) → (∀ x ∈ (Txt.runW ls i acc).1, x.data.length ≤ 65536) ∧ (Txt.runW ls i acc).1.length ≤ acc.length + ls.length := by
          intro ls
          induction ls with
          | nil => intro i acc h; exact ⟨h, by simp [Txt.runW]⟩
          | cons l ls ih =>
            intro i acc h
            unfold Txt.runW
            split
            · exact ⟨fun x hx => (by cases hx), by simp⟩
            · rename_i c hc
              obtain ⟨a, b⟩ := ih (i + 1) (acc ++ [c]) (fun x hx => by
                rcases List.mem_append.1 hx with hx | hx
                · exact h x hx
                · simp at hx
                  subst hx
                  have := ((Txt.okCd_iff _).1 (Txt.text_line hc).2.1).2.2.1
                  exact this)
              exact ⟨a, by simp at b ⊢; omega⟩
        obtain ⟨a, b⟩ := key (Txt.splitC 10 (Txt.trimN s)) 0 [] (fun x hx => (by cases hx))
        exact ⟨a, by simp at b; omega⟩

end Go.Proofs.YtnjcmcnjgdjbiaaGreatDoor
