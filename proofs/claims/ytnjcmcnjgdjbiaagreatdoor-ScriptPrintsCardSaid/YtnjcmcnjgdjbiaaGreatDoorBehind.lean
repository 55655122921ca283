/- The walks of the document's words and behind (the lemmas of CursorL, THE SAME NAMES: never import this text beside CursorL). Conditions: none. -/
import Derived.Test.YtnjcmcnjgdjbiaaGreatDoorWord
namespace Go.Proofs.YtnjcmcnjgdjbiaaGreatDoor
open Go.RowKit

def wordCells : Array Value := #[.string ⟨#[109, 97, 108, 108, 111, 99]⟩, .string ⟨#[99, 97, 108, 108, 111, 99]⟩, .string ⟨#[97, 108, 105, 103, 110, 101, 100]⟩, .string ⟨#[114, 101, 97, 108, 108, 111, 99]⟩, .string ⟨#[102, 114, 101, 101]⟩, .string ⟨#[117, 115, 97, 98, 108, 101]⟩, .string ⟨#[108, 111, 97, 100]⟩, .string ⟨#[115, 116, 111, 114, 101]⟩, .string ⟨#[108, 111, 97, 100, 119, 111, 114, 100]⟩, .string ⟨#[115, 116, 111, 114, 101, 119, 111, 114, 100]⟩, .string ⟨#[114, 101, 97, 100]⟩, .string ⟨#[119, 114, 105, 116, 101]⟩, .string ⟨#[116, 114, 105, 109]⟩, .string ⟨#[115, 116, 97, 116, 115]⟩]
def behindCells : Array Value := #[.string ⟨#[110, 33]⟩, .string ⟨#[110, 110, 33]⟩, .string ⟨#[110, 110, 33]⟩, .string ⟨#[97, 110, 33]⟩, .string ⟨#[97]⟩, .string ⟨#[97]⟩, .string ⟨#[97]⟩, .string ⟨#[97, 110]⟩, .string ⟨#[97]⟩, .string ⟨#[97, 110]⟩, .string ⟨#[97, 110]⟩, .string ⟨#[97, 100]⟩, .string ⟨#[]⟩, .string ⟨#[]⟩]

def behindAt (k : Nat) : List UInt8 := Txt.behinds.getD k []

theorem word_cell (k : Nat) (hk : k < 14) : wordCells.toList[k]? = some (.string ⟨(opWord k).toArray⟩) := by
  match k, hk with
  | 0, _ => rfl
  | 1, _ => rfl
  | 2, _ => rfl
  | 3, _ => rfl
  | 4, _ => rfl
  | 5, _ => rfl
  | 6, _ => rfl
  | 7, _ => rfl
  | 8, _ => rfl
  | 9, _ => rfl
  | 10, _ => rfl
  | 11, _ => rfl
  | 12, _ => rfl
  | 13, _ => rfl
theorem behind_cell (k : Nat) (hk : k < 14) : behindCells.toList[k]? = some (.string ⟨(behindAt k).toArray⟩) := by
  match k, hk with
  | 0, _ => rfl
  | 1, _ => rfl
  | 2, _ => rfl
  | 3, _ => rfl
  | 4, _ => rfl
  | 5, _ => rfl
  | 6, _ => rfl
  | 7, _ => rfl
  | 8, _ => rfl
  | 9, _ => rfl
  | 10, _ => rfl
  | 11, _ => rfl
  | 12, _ => rfl
  | 13, _ => rfl

def Listed (cs : Array Value) (w : World) (e : Ending) (w' : World) : Prop :=
  ∃ g, g = w.heap.size ∧ e = .returned (.slice (some ⟨g, 0, none⟩) 14 14) ∧ Blk w' g 9 cs.toList ∧ g < w'.heap.size ∧ Touch Nothing w w'

set_option maxRecDepth 100000 in
theorem words_ (w : World) : Calls Tryz.prog 78 #[] w (Listed wordCells w) := by
  have H := Lib.hid (Blk.new w wordCells 9)
  have HS := Lib.hid (show w.heap.size < (w.alloc (.cells wordCells 9)).heap.size by simp)
  unfold wordCells at H HS
  go_enter Tryz.func78, Tryz.ntmps78
  go_wp2_with fail
  go_ret
  exact ⟨w.heap.size, rfl, rfl, H.out, HS.out, (Touch.refl _ _).alloc _⟩

set_option maxRecDepth 100000 in
theorem behind_ (w : World) : Calls Tryz.prog 79 #[] w (Listed behindCells w) := by
  have H := Lib.hid (Blk.new w behindCells 9)
  have HS := Lib.hid (show w.heap.size < (w.alloc (.cells behindCells 9)).heap.size by simp)
  unfold behindCells at H HS
  go_enter Tryz.func79, Tryz.ntmps79
  go_wp2_with fail
  go_ret
  exact ⟨w.heap.size, rfl, rfl, H.out, HS.out, (Touch.refl _ _).alloc _⟩

theorem behind_kinds (k : Nat) : ∀ x ∈ behindAt k, x = 33 ∨ x = 97 ∨ x = 100 ∨ x = 110 := by
  by_cases h : k < 14
  · have : ∀ k : Fin 14, ∀ x ∈ behindAt k.val, x = 33 ∨ x = 97 ∨ x = 100 ∨ x = 110 := by decide +kernel
    exact this ⟨k, h⟩
  · have hl : Txt.behinds.length = 14 := rfl
    unfold behindAt
    rw [List.getD_eq_getElem?_getD, List.getElem?_eq_none (by omega)]
    intro x hx
    cases hx

theorem behind_short (k : Nat) : (behindAt k).length ≤ 3 := by
  by_cases h : k < 14
  · have : ∀ k : Fin 14, (behindAt k.val).length ≤ 3 := by decide +kernel
    exact this ⟨k, h⟩
  · have hl : Txt.behinds.length = 14 := rfl
    unfold behindAt
    rw [List.getD_eq_getElem?_getD, List.getElem?_eq_none (by omega)]
    simp

end Go.Proofs.YtnjcmcnjgdjbiaaGreatDoor
