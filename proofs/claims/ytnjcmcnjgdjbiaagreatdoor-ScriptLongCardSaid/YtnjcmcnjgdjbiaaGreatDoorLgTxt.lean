/- Plain law of a script's lines: reading a line by its words (the program's way) and byte by byte (the document's own way) come to the same call. No program in this text. Conditions: none. Plain bridges between the library's words on strings and the plain law of lines. No program in this text. Conditions: none. -/
import Derived.Lib.ParseIntBCases
import Derived.Lib.Split
import Derived.Lib.IndexBytes
namespace Go.Proofs.YtnjcmcnjgdjbiaaGreatDoor.Txt

abbrev Bs := List UInt8

/-- a call as data -/
structure Cd where
  op : Nat
  ref : Nat
  p : Nat
  a : Nat
  b : Nat
  deny : Bool
  data : Bs

structure Form where
  address : Bool
  numbers : Nat
  data : Bool
  refused : Bool

def opWords : List Bs := [[109, 97, 108, 108, 111, 99], [99, 97, 108, 108, 111, 99], [97, 108, 105, 103, 110, 101, 100], [114, 101, 97, 108, 108, 111, 99], [102, 114, 101, 101], [117, 115, 97, 98, 108, 101], [108, 111, 97, 100], [115, 116, 111, 114, 101], [108, 111, 97, 100, 119, 111, 114, 100], [115, 116, 111, 114, 101, 119, 111, 114, 100], [114, 101, 97, 100], [119, 114, 105, 116, 101], [116, 114, 105, 109], [115, 116, 97, 116, 115]]
def behinds : List Bs := [[110, 33], [110, 110, 33], [110, 110, 33], [97, 110, 33], [97], [97], [97], [97, 110], [97], [97, 110], [97, 110], [97, 100], [], []]
def formAt : List Form := [⟨false, 1, false, true⟩, ⟨false, 2, false, true⟩, ⟨false, 2, false, true⟩, ⟨true, 1, false, true⟩, ⟨true, 0, false, false⟩, ⟨true, 0, false, false⟩, ⟨true, 0, false, false⟩, ⟨true, 1, false, false⟩, ⟨true, 0, false, false⟩, ⟨true, 1, false, false⟩, ⟨true, 1, false, false⟩, ⟨true, 0, true, false⟩, ⟨false, 0, false, false⟩, ⟨false, 0, false, false⟩]

def Cd.none (op : Nat) : Cd := ⟨op, 0, 0, 0, 0, false, []⟩

def isDig (c : UInt8) : Bool := decide (48 ≤ c.toNat) && decide (c.toNat ≤ 57)

/-- a word that is a number -/
def numW (w : Bs) : Option Nat :=
  if w = [] ∨ (1 < w.length ∧ w.head? = some 48) ∨ w.all isDig = false then none else match Lib.parseUintB 64 w with | .ok u => some u | _ => none

def half (c : UInt8) : Nat := if 48 ≤ c.toNat ∧ c.toNat ≤ 57 then c.toNat - 48 else if 97 ≤ c.toNat ∧ c.toNat ≤ 102 then c.toNat - 87 else 16

def hexW : Bs → Option Bs
  | [] => some []
  | [_] => none
  | x :: y :: l => if half x = 16 ∨ half y = 16 then none else (hexW l).map fun t => (half x * 16 + half y).toUInt8 :: t

def dataW (w : Bs) : Option Bs := if w = [45] then some [] else if w = [] ∨ w.length % 2 = 1 ∨ 131072 < w.length then none else hexW w

/-- cut at the first byte c -/
def cutC (c : UInt8) : Bs → Bs × Bs × Bool
  | [] => ([], [], false)
  | x :: l => if x = c then ([], l, true) else (x :: (cutC c l).1, (cutC c l).2.1, (cutC c l).2.2)

def placeW (w : Bs) : Option (Nat × Nat) :=
  match w with
  | [] => none
  | x :: l => if x = 36 then
      match numW (cutC 43 l).1 with
      | none => none
      | some n => if n < 1 ∨ 4096 < n then none else if (cutC 43 l).2.2 then (match numW (cutC 43 l).2.1 with | none => none | some p => if p = 0 then none else some (n, p)) else some (n, 0)
    else (numW (x :: l)).map fun p => (0, p)

/-- the words of a text -/
def splitC (c : UInt8) : Bs → List Bs
  | [] => [[]]
  | x :: l => if x = c then [] :: splitC c l else match splitC c l with | [] => [[x]] | w :: ws => (x :: w) :: ws

/-- a line's fields by its words -/
def numsW (x : Cd) (n : Nat) (ws : List Bs) : Option (Cd × List Bs) :=
  if n = 0 then some (x, ws) else match ws with
    | [] => none
    | w :: ws => match numW w with
      | none => none
      | some v => if n = 1 then some ({ x with a := v }, ws) else match ws with
        | [] => none
        | w' :: ws => (numW w').map fun v' => ({ x with a := v, b := v' }, ws)

def addrW (x : Cd) (f : Form) (ws : List Bs) : Option (Cd × List Bs) :=
  if f.address then match ws with
    | [] => none
    | w :: ws => (placeW w).map fun r => ({ x with ref := r.1, p := r.2 }, ws)
  else some (x, ws)

def datW (x : Cd) (f : Form) (ws : List Bs) : Option (Cd × List Bs) :=
  if f.data then match ws with
    | [] => none
    | w :: ws => (dataW w).map fun d => ({ x with data := d }, ws)
  else some (x, ws)

def fieldsW (x : Cd) (f : Form) (ws : List Bs) : Option Cd :=
  match addrW x f ws with
  | none => none
  | some (x, ws) => match numsW x f.numbers ws with
    | none => none
    | some (x, ws) => match datW x f ws with
      | none => none
      | some (x, ws) => if ws = [] then some x else none

def idx (w : Bs) : List Bs → Option Nat
  | [] => none
  | v :: l => if v = w then some 0 else (idx w l).map (· + 1)

def lineWs (ws : List Bs) : Option Cd :=
  match ws with
  | [] => none
  | w :: ws => match idx w opWords with
    | none => none
    | some i => let f := formAt.getD i ⟨false, 0, false, false⟩
      if f.refused && ws.getLast? == some [33] then fieldsW { Cd.none (i + 1) with deny := true } f ws.dropLast else fieldsW (Cd.none (i + 1)) f ws

def lineW (s : Bs) : Option Cd := lineWs (splitC 32 s)

/- the document's own way: a cursor -/
structure Cu where
  rest : Bs
  bad : Bool

def blank (c : Cu) : Cu := match c.rest with
  | [] => ⟨[], true⟩
  | x :: l => if x = 32 then ⟨l, c.bad⟩ else ⟨x :: l, true⟩

def numLoop : Bs → Nat → Bool → Nat × Bool × Bs
  | [], v, bad => (v, bad, [])
  | x :: l, v, bad => if isDig x then numLoop l ((v * 10 + (x.toNat - 48)) % 18446744073709551616) (bad || decide ((18446744073709551615 - (x.toNat - 48)) / 10 < v)) else (v, bad, x :: l)

def number (c : Cu) : Nat × Cu :=
  let r := numLoop c.rest 0 c.bad
  (r.1, ⟨r.2.2, r.2.1 || decide (r.2.2.length = c.rest.length) || (decide (r.2.2.length + 1 < c.rest.length) && c.rest.head? == some 48)⟩)

def sign (x : UInt8) (c : Cu) : Bool × Cu := match c.rest with
  | [] => (false, c)
  | y :: l => if y = x then (true, ⟨l, c.bad⟩) else (false, c)

def dloop : Bs → Bs × Bool × Bs
  | [] => ([], false, [])
  | [x] => if x = 32 then ([], false, [x]) else ([], true, [x])
  | x :: y :: l => if x = 32 then ([], false, x :: y :: l) else if half x = 16 ∨ half y = 16 then ([], true, x :: y :: l) else ((half x * 16 + half y).toUInt8 :: (dloop l).1, (dloop l).2)

def dataR (c : Cu) : Bs × Cu :=
  if (sign 45 c).1 then ([], (sign 45 c).2) else
    let r := dloop c.rest
    if r.2.1 then (r.1, ⟨r.2.2, true⟩) else (r.1, ⟨r.2.2, c.bad || decide (r.1.length = 0) || decide (65536 < r.1.length)⟩)

structure St where
  c : Cu
  x : Cd
  first : Bool

def addrR (c : Cu) (x : Cd) (first : Bool) : Option St :=
  if (sign 36 c).1 then
    let n := number (sign 36 c).2
    if n.1 < 1 ∨ 4096 < n.1 then none
    else if (sign 43 n.2).1 then
      let p := number (sign 43 n.2).2
      some ⟨⟨p.2.rest, p.2.bad || decide (p.1 = 0)⟩, { x with ref := n.1, p := p.1 }, first⟩
    else some ⟨(sign 43 n.2).2, { x with ref := n.1 }, first⟩
  else
    let p := number (sign 36 c).2
    some ⟨p.2, { x with p := p.1 }, first⟩

def stepR (k : UInt8) (s : St) : Option St :=
  if k = 33 then
    if s.c.rest = [] then some s
    else
      let r := sign 33 (blank s.c)
      some ⟨⟨r.2.rest, r.2.bad || !r.1⟩, { s.x with deny := r.1 }, s.first⟩
  else
    let c := blank s.c
    if c.bad then none
    else if k = 97 then addrR c s.x s.first
    else if k = 100 then some ⟨(dataR c).2, { s.x with data := (dataR c).1 }, s.first⟩
    else some ⟨(number c).2, if s.first then { s.x with a := (number c).1 } else { s.x with b := (number c).1 }, false⟩

def foldR : Bs → St → Option St
  | [], s => some s
  | k :: ks, s => if s.c.bad then some s else match stepR k s with | none => none | some s' => foldR ks s'

def lastIdx (w : Bs) (l : List Bs) : Option Nat := idx w l

def endR (r : Option St) : Option Cd := match r with
  | none => none
  | some s => if s.c.bad = true ∨ s.c.rest ≠ [] then none else some s.x

def lineR (s : Bs) : Option Cd :=
  match idx (cutC 32 s).1 opWords with
  | none => none
  | some i => endR (foldR (behinds.getD i []) ⟨⟨s.drop (cutC 32 s).1.length, false⟩, Cd.none (i + 1), true⟩)


theorem isDig_iff (c : UInt8) : isDig c = true ↔ 48 ≤ c.toNat ∧ c.toNat ≤ 57 := by simp [isDig]

def M64 : Nat := 18446744073709551615

theorem numLoop_bad (l : Bs) : ∀ v, (numLoop l v true).2.1 = true := by
  induction l with
  | nil => intro v; rfl
  | cons x l ih => intro v; unfold numLoop; split; · simpa using ih _
                   · rfl

theorem numLoop_rest (l : Bs) : ∀ v bad, (numLoop l v bad).2.2 = l.dropWhile isDig := by
  induction l with
  | nil => intro v bad; rfl
  | cons x l ih =>
    intro v bad
    unfold numLoop
    rw [List.dropWhile_cons]
    split
    · exact ih _ _
    · rfl

theorem dropWhile_all (w t : Bs) (hw : w.all isDig = true) (ht : ∀ x l, t = x :: l → isDig x = false) : (w ++ t).dropWhile isDig = t := by
  induction w with
  | nil =>
    cases t with
    | nil => rfl
    | cons x l => simp [ht x l rfl]
  | cons x w ih =>
    simp only [List.all_cons, Bool.and_eq_true] at hw
    rw [List.cons_append, List.dropWhile_cons, if_pos hw.1]
    exact ih hw.2

theorem dropWhile_not (w t : Bs) (hw : w.all isDig = false) : ∃ x l, (w ++ t).dropWhile isDig = x :: l ∧ x ∈ w ∧ isDig x = false ∧ l.length + 1 ≤ (w ++ t).length := by
  induction w with
  | nil => simp at hw
  | cons x w ih =>
    by_cases hx : isDig x = true
    · simp only [List.all_cons, hx, Bool.true_and] at hw
      obtain ⟨y, l, h1, h2, h3, h4⟩ := ih hw
      refine ⟨y, l, ?_, List.mem_cons_of_mem _ h2, h3, by simp at h4 ⊢; omega⟩
      rw [List.cons_append, List.dropWhile_cons, if_pos hx]
      exact h1
    · refine ⟨x, w ++ t, ?_, List.mem_cons_self, by simpa using hx, by simp⟩
      rw [List.cons_append, List.dropWhile_cons, if_neg hx]

theorem numLoop_all (w t : Bs) (ht : ∀ x l, t = x :: l → isDig x = false) : ∀ acc bad, w.all isDig = true → acc ≤ M64 →
    (∀ u, Lib.parseUintM M64 acc w = .ok u → (numLoop (w ++ t) acc bad).1 = u ∧ (numLoop (w ++ t) acc bad).2.1 = bad) ∧
    ((∀ u, Lib.parseUintM M64 acc w ≠ .ok u) → (numLoop (w ++ t) acc bad).2.1 = true) := by
  induction w with
  | nil =>
    intro acc bad _ _
    refine ⟨?_, ?_⟩
    · intro u h
      simp only [Lib.parseUintM] at h
      cases h
      cases t with
      | nil => exact ⟨rfl, rfl⟩
      | cons x l => simp [numLoop, ht x l rfl]
    · intro h
      exact absurd rfl (h acc)
  | cons x w ih =>
    intro acc bad hw ha
    simp only [List.all_cons, Bool.and_eq_true] at hw
    have hd := (isDig_iff x).1 hw.1
    unfold M64 at *
    rw [List.cons_append]
    simp only [numLoop, hw.1, if_true, Lib.parseUintM, hd, and_self]
    by_cases h1 : acc * 10 + (x.toNat - 48) ≤ 18446744073709551615
    · have e1 : decide ((18446744073709551615 - (x.toNat - 48)) / 10 < acc) = false := by simp; omega
      have e2 : (acc * 10 + (x.toNat - 48)) % 18446744073709551616 = acc * 10 + (x.toNat - 48) := Nat.mod_eq_of_lt (by omega)
      rw [e1, e2, if_neg (by omega), if_neg (by omega), Bool.or_false]
      exact ih _ bad hw.2 h1
    · have e1 : decide ((18446744073709551615 - (x.toNat - 48)) / 10 < acc) = true := by simp; omega
      rw [e1, Bool.or_true]
      have hr : (if 1844674407370955162 ≤ acc then Lib.NumEnd.range else if 18446744073709551615 < acc * 10 + (x.toNat - 48) then Lib.NumEnd.range else Lib.parseUintM 18446744073709551615 (acc * 10 + (x.toNat - 48)) w) = .range := by
        split
        · rfl
        · rw [if_pos (by omega)]
      rw [hr]
      exact ⟨fun u h => (by cases h), fun _ => numLoop_bad _ _⟩

theorem parseUintB_64 (w : Bs) (h : w ≠ []) : Lib.parseUintB 64 w = Lib.parseUintM M64 0 w := by
  unfold Lib.parseUintB
  rw [if_neg h]
  rfl

/-- a cursor from which nothing comes to a good end -/
def stuck (c : Cu) : Prop := c.bad = true ∨ ∃ x l, c.rest = x :: l ∧ x ≠ 32

def Ender (t : Bs) : Prop := ∀ x l, t = x :: l → isDig x = false

theorem number_some {w t : Bs} (ht : Ender t) {v : Nat} (h : numW w = some v) : number ⟨w ++ t, false⟩ = (v, ⟨t, false⟩) := by
  unfold numW at h
  split at h
  · cases h
  · rename_i hn
    have hne : w ≠ [] := fun e => hn (.inl e)
    have h2 : ¬ (1 < w.length ∧ w.head? = some 48) := fun e => hn (.inr (.inl e))
    have h3 : w.all isDig = true := by
      cases hh : w.all isDig with
      | true => rfl
      | false => exact absurd (.inr (.inr hh)) hn
    rw [parseUintB_64 w hne] at h
    split at h
    · rename_i u hu
      cases h
      have hr := numLoop_rest (w ++ t) 0 false
      rw [dropWhile_all w t h3 ht] at hr
      obtain ⟨a1, a2⟩ := (numLoop_all w t ht 0 false h3 (Nat.zero_le _)).1 _ hu
      unfold number
      simp only [hr, a1, a2]
      have hl : 0 < w.length := List.length_pos_iff.2 hne
      have e1 : decide (t.length = (w ++ t).length) = false := by simp; exact hne
      have e2 : (decide (t.length + 1 < (w ++ t).length) && (w ++ t).head? == some 48) = false := by
        rw [Bool.and_eq_false_iff]
        by_cases hx : 1 < w.length
        · right
          have : (w ++ t).head? = w.head? := by cases w with | nil => exact absurd rfl hne | cons => rfl
          rw [this]
          simp only [beq_eq_false_iff_ne]
          exact fun e => h2 ⟨hx, e⟩
        · left; simp; omega
      rw [e1, e2]
      simp
    · cases h

theorem number_none {w t : Bs} (ht : Ender t) (h : numW w = none) : (number ⟨w ++ t, false⟩).2.bad = true ∨ ∃ x l, (number ⟨w ++ t, false⟩).2.rest = x :: l ∧ x ∈ w ∧ isDig x = false := by
  by_cases h3 : w.all isDig = true
  · left
    have hr := numLoop_rest (w ++ t) 0 false
    rw [dropWhile_all w t h3 ht] at hr
    unfold number
    simp only [hr]
    unfold numW at h
    by_cases hne : w = []
    · subst hne; simp
    · by_cases h2 : 1 < w.length ∧ w.head? = some 48
      · have e2 : (decide (t.length + 1 < (w ++ t).length) && (w ++ t).head? == some 48) = true := by
          have : (w ++ t).head? = w.head? := by cases w with | nil => exact absurd rfl hne | cons => rfl
          rw [this, h2.2]
          simp; omega
        rw [e2]; simp
      · rw [if_neg (by simp [hne, h3]; intro a; exact fun e => h2 ⟨a, e⟩)] at h
        rw [parseUintB_64 w hne] at h
        have := (numLoop_all w t ht 0 false h3 (Nat.zero_le _)).2 (fun u hu => by rw [hu] at h; cases h)
        rw [this]; simp
  · right
    have h3' : w.all isDig = false := by simpa using h3
    obtain ⟨x, l, h1, h2, h4, _⟩ := dropWhile_not w t h3'
    have hr := numLoop_rest (w ++ t) 0 false
    exact ⟨x, l, by unfold number; simp only [hr]; exact h1, h2, h4⟩

/-- words behind one another, a blank ahead of each -/
def R (ws : List Bs) : Bs := ws.flatMap fun w => 32 :: w

theorem R_ender (ws : List Bs) : Ender (R ws) := by
  intro x l h
  cases ws with
  | nil => cases h
  | cons w ws => simp [R] at h; rw [← h.1]; decide

theorem blank_R (w : Bs) (ws : List Bs) : blank ⟨R (w :: ws), false⟩ = ⟨w ++ R ws, false⟩ := by simp [blank, R]

theorem end_stuck {s : St} (h : stuck s.c) : endR (some s) = none := by
  unfold endR
  rcases h with h | ⟨x, l, h, _⟩
  · simp [h]
  · simp [h]

theorem sign_bad (x : UInt8) (c : Cu) : (sign x c).2.bad = c.bad := by
  unfold sign
  split
  · rfl
  · split <;> rfl

theorem fold_stuck (ks : Bs) : ∀ (s : St), stuck s.c → endR (foldR ks s) = none := by
  induction ks with
  | nil => intro s h; exact end_stuck h
  | cons k ks ih =>
    intro s h
    unfold foldR
    by_cases hb : s.c.bad = true
    · rw [if_pos hb]; exact end_stuck h
    · rw [if_neg hb]
      rcases h with h | ⟨x, l, hr, hx⟩
      · exact absurd h hb
      · have hbl : blank s.c = ⟨x :: l, true⟩ := by unfold blank; rw [hr]; simp [hx]
        unfold stepR
        by_cases hk : k = 33
        · rw [if_pos hk, if_neg (by rw [hr]; simp)]
          apply ih
          left
          simp only [hbl, sign_bad, Bool.true_or]
        · rw [if_neg hk]
          simp only [hbl, if_true]
          rfl

theorem cutC_app (c : UInt8) (w t : Bs) (h : c ∉ w) : cutC c (w ++ c :: t) = (w, t, true) := by
  induction w with
  | nil => simp [cutC]
  | cons x w ih =>
    simp only [List.mem_cons, not_or] at h
    simp only [List.cons_append, cutC, if_neg (Ne.symm h.1), ih h.2]

theorem cutC_none (c : UInt8) (w : Bs) (h : c ∉ w) : cutC c w = (w, [], false) := by
  induction w with
  | nil => simp [cutC]
  | cons x w ih =>
    simp only [List.mem_cons, not_or] at h
    simp only [cutC, if_neg (Ne.symm h.1), ih h.2]

theorem splitC_ne (c : UInt8) (s : Bs) : splitC c s ≠ [] := by
  cases s with
  | nil => simp [splitC]
  | cons x l =>
    unfold splitC
    split
    · simp
    · split <;> simp

theorem split_join (s : Bs) : ∃ w ws, splitC 32 s = w :: ws ∧ s = w ++ R ws ∧ 32 ∉ w ∧ ∀ v ∈ ws, 32 ∉ v := by
  induction s with
  | nil => exact ⟨[], [], rfl, rfl, by simp, by simp⟩
  | cons x l ih =>
    obtain ⟨w, ws, h1, h2, h3, h4⟩ := ih
    by_cases hx : x = 32
    · refine ⟨[], w :: ws, by simp [splitC, hx, h1], by simp [R, hx, h2], by simp, ?_⟩
      intro v hv
      rcases List.mem_cons.1 hv with h | h
      · rw [h]; exact h3
      · exact h4 v h
    · exact ⟨x :: w, ws, by simp [splitC, hx, h1], by simp [h2], by simp [h3, Ne.symm hx], h4⟩

theorem cutC_R (w : Bs) (ws : List Bs) (h : 32 ∉ w) : (cutC 32 (w ++ R ws)).1 = w := by
  cases ws with
  | nil => simp [R, cutC_none 32 w h]
  | cons v ws => simp [R, cutC_app 32 w _ h]

/-- a number step -/
theorem num_step {w : Bs} (h : 32 ∉ w) (ws : List Bs) : (∀ v, numW w = some v → number ⟨w ++ R ws, false⟩ = (v, ⟨R ws, false⟩)) ∧ (numW w = none → stuck (number ⟨w ++ R ws, false⟩).2) := by
  refine ⟨fun v hv => number_some (R_ender ws) hv, fun hn => ?_⟩
  rcases number_none (R_ender ws) hn with h1 | ⟨x, l, h1, h2, _⟩
  · exact .inl h1
  · exact .inr ⟨x, l, h1, fun e => h (e ▸ h2)⟩

theorem half_16 (x : UInt8) (h : x = 32 ∨ x = 45) : half x = 16 := by
  rcases h with h | h <;> subst h <;> decide

theorem dloop_R (ws : List Bs) : ∀ (n : Nat) (w : Bs), w.length ≤ n → 32 ∉ w →
    (∀ d, hexW w = some d → dloop (w ++ R ws) = (d, false, R ws) ∧ 2 * d.length = w.length) ∧ (hexW w = none → (dloop (w ++ R ws)).2.1 = true)
  | n, [], _, _ => by
    refine ⟨fun d h => ?_, fun h => (by simp [hexW] at h)⟩
    simp only [hexW, Option.some.injEq] at h
    subst h
    refine ⟨?_, rfl⟩
    cases ws with
    | nil => rfl
    | cons v ws =>
      simp only [R, List.flatMap_cons, List.nil_append, List.cons_append]
      cases hv : v ++ ws.flatMap fun w => 32 :: w with
      | nil => simp [dloop]
      | cons y l => simp [dloop]
  | n, [x], _, h => by
    simp only [List.mem_singleton] at h
    refine ⟨fun d hd => (by simp [hexW] at hd), fun _ => ?_⟩
    cases ws with
    | nil => simp [R, dloop, Ne.symm h]
    | cons v ws => simp [R, dloop, Ne.symm h, half_16 32 (.inl rfl)]
  | 0, x :: y :: l, hl, _ => by simp at hl
  | n + 1, x :: y :: l, hl, h => by
    simp only [List.mem_cons, not_or] at h
    simp only [List.length_cons] at hl
    obtain ⟨i1, i2⟩ := dloop_R ws n l (by omega) h.2.2
    simp only [List.cons_append, dloop, if_neg (Ne.symm h.1), hexW]
    by_cases hh : half x = 16 ∨ half y = 16
    · rw [if_pos hh, if_pos hh]
      exact ⟨fun d hd => (by cases hd), fun _ => rfl⟩
    · rw [if_neg hh, if_neg hh]
      refine ⟨fun d hd => ?_, fun hn => ?_⟩
      · simp only [Option.map_eq_some_iff] at hd
        obtain ⟨a, ha, rfl⟩ := hd
        obtain ⟨j1, j2⟩ := i1 a ha
        rw [j1]
        exact ⟨rfl, by simp; omega⟩
      · simp only [Option.map_eq_none_iff] at hn
        exact i2 hn

theorem data_step {w : Bs} (h : 32 ∉ w) (ws : List Bs) : (∀ d, dataW w = some d → dataR ⟨w ++ R ws, false⟩ = (d, ⟨R ws, false⟩)) ∧ (dataW w = none → stuck (dataR ⟨w ++ R ws, false⟩).2) := by
  obtain ⟨d1, d2⟩ := dloop_R ws w.length w (Nat.le_refl _) h
  unfold dataW dataR
  by_cases h45 : w = [45]
  · subst h45
    simp [sign]
  · rw [if_neg h45]
    by_cases hs : ∃ l, w = 45 :: l
    · obtain ⟨l, rfl⟩ := hs
      cases l with
      | nil => exact absurd rfl h45
      | cons y l =>
        have hh : hexW (45 :: y :: l) = none := by simp [hexW, half_16 45 (.inr rfl)]
        rw [hh]
        simp only [List.mem_cons, not_or] at h
        refine ⟨fun d hd => (by split at hd <;> cases hd), fun _ => ?_⟩
        simp only [sign, List.cons_append, if_true]
        exact .inr ⟨y, l ++ R ws, rfl, Ne.symm h.2.1⟩
    · have hsg : (sign 45 ⟨w ++ R ws, false⟩).1 = false := by
        unfold sign
        cases w with
        | nil => cases ws with
          | nil => rfl
          | cons v ws => simp [R]
        | cons x l =>
          have : x ≠ 45 := fun e => hs ⟨l, by rw [e]⟩
          simp [this]
      rw [hsg]
      simp only [Bool.false_eq_true, if_false]
      cases hx : hexW w with
      | none =>
        rw [d2 hx]
        exact ⟨fun d hd => (by split at hd <;> cases hd), fun _ => Or.inl rfl⟩
      | some d =>
        obtain ⟨e1, e2⟩ := d1 d hx
        rw [e1]
        simp only [Bool.false_eq_true, if_false, Bool.false_or]
        by_cases hc : w = [] ∨ w.length % 2 = 1 ∨ 131072 < w.length
        · rw [if_pos hc]
          refine ⟨fun d hd => (by cases hd), fun _ => Or.inl ?_⟩
          rcases hc with hc | hc | hc
          · subst hc
            simp only [List.length_nil] at e2
            simp
            exact .inl (List.eq_nil_of_length_eq_zero (by omega))
          · omega
          · simp; right; omega
        · rw [if_neg hc]
          refine ⟨fun d' hd => ?_, fun hd => (by cases hd)⟩
          cases hd
          have n1 : d.length ≠ 0 := fun e => hc (.inl (List.eq_nil_of_length_eq_zero (by omega)))
          have n2 : ¬ 65536 < d.length := fun e => hc (.inr (.inr (by omega)))
          simp [n2, n1]

theorem cutC_split (c : UInt8) (l : Bs) : (c ∉ l ∧ cutC c l = (l, [], false)) ∨ ∃ a b, l = a ++ c :: b ∧ c ∉ a ∧ cutC c l = (a, b, true) := by
  induction l with
  | nil => exact .inl ⟨by simp, rfl⟩
  | cons x l ih =>
    by_cases hx : x = c
    · exact .inr ⟨[], l, by rw [hx]; rfl, by simp, by simp [cutC, hx]⟩
    · rcases ih with ⟨h1, h2⟩ | ⟨a, b, h1, h2, h3⟩
      · exact .inl ⟨by simp [h1, Ne.symm hx], by simp [cutC, hx, h2]⟩
      · exact .inr ⟨x :: a, b, by simp [h1], by simp [h2, Ne.symm hx], by simp [cutC, hx, h3]⟩

theorem stuck_of {c : Cu} (h : c.bad = true) : stuck c := .inl h

theorem stuck_bad {c : Cu} (b : Bool) (h : stuck c) : stuck ⟨c.rest, c.bad || b⟩ := by
  rcases h with h | h
  · exact .inl (by simp [h])
  · exact .inr h

theorem plus_ender (t : Bs) : Ender (43 :: t) := by
  intro x l h
  cases h
  decide

theorem stuck_sign {c : Cu} (x : UInt8) (h : c.bad = true) : stuck (sign x c).2 := .inl (by rw [sign_bad]; exact h)

theorem number_bad (c : Cu) (h : c.bad = true) : (number c).2.bad = true := by
  unfold number
  simp only [h, numLoop_bad, Bool.true_or]

def stuckO (r : Option St) : Prop := ∀ s, r = some s → stuck s.c

theorem addr_step {w : Bs} (h : 32 ∉ w) (ws : List Bs) (x : Cd) (first : Bool) :
    (∀ r, placeW w = some r → addrR ⟨w ++ R ws, false⟩ x first = some ⟨⟨R ws, false⟩, { x with ref := r.1, p := r.2 }, first⟩ ∨ (r.1 = 0 ∧ addrR ⟨w ++ R ws, false⟩ x first = some ⟨⟨R ws, false⟩, { x with p := r.2 }, first⟩) ∨ (r.2 = 0 ∧ addrR ⟨w ++ R ws, false⟩ x first = some ⟨⟨R ws, false⟩, { x with ref := r.1 }, first⟩)) ∧
    (placeW w = none → stuckO (addrR ⟨w ++ R ws, false⟩ x first)) := by
  cases w with
  | nil =>
    refine ⟨fun r hr => (by simp [placeW] at hr), fun _ => ?_⟩
    have hsg : sign 36 ⟨[] ++ R ws, false⟩ = (false, ⟨[] ++ R ws, false⟩) := by
      cases ws with
      | nil => rfl
      | cons v ws => simp [R, sign]
    intro s hs
    unfold addrR at hs
    rw [hsg] at hs
    simp only [Bool.false_eq_true, if_false, Option.some.injEq] at hs
    rw [← hs]
    exact (num_step h ws).2 (by simp [numW])
  | cons y l =>
    by_cases hy : y = 36
    · subst hy
      simp only [List.mem_cons, not_or] at h
      have hsg : sign 36 ⟨36 :: l ++ R ws, false⟩ = (true, ⟨l ++ R ws, false⟩) := by simp [sign]
      unfold addrR placeW
      rw [hsg]
      simp only [if_true]
      rcases cutC_split 43 l with ⟨h1, h2⟩ | ⟨a, b, h1, h2, h3⟩
      · rw [h2]
        simp only [Bool.false_eq_true, if_false]
        cases hn : numW l with
        | none =>
          refine ⟨fun r hr => (by cases hr), fun _ => ?_⟩
          intro s hs
          split at hs
          · cases hs
          · rcases number_none (R_ender ws) hn with q | ⟨z, t, q1, q2, q3⟩
            · split at hs
              · cases hs
                exact stuck_bad (c := (number _).2) _ (.inl (number_bad _ (by rw [sign_bad]; exact q)))
              · cases hs
                exact stuck_sign _ q
            · have hz : z ≠ 43 := fun e => h1 (e ▸ q2)
              have hz' : z ≠ 32 := fun e => h.2 (e ▸ q2)
              have hs2 : sign 43 (number ⟨l ++ R ws, false⟩).2 = (false, (number ⟨l ++ R ws, false⟩).2) := by unfold sign; rw [q1]; simp [hz]
              rw [hs2] at hs
              simp only [Bool.false_eq_true, if_false, Option.some.injEq] at hs
              rw [← hs]
              exact .inr ⟨z, t, q1, hz'⟩
        | some n =>
          have e := number_some (R_ender ws) hn
          simp only [e]
          by_cases hc : n < 1 ∨ 4096 < n
          · rw [if_pos hc, if_pos hc]
            exact ⟨fun r hr => (by cases hr), fun _ s hs => (by cases hs)⟩
          · rw [if_neg hc, if_neg hc]
            have hs2 : sign 43 ⟨R ws, false⟩ = (false, ⟨R ws, false⟩) := by
              cases ws with
              | nil => rfl
              | cons v ws => simp [R, sign]
            rw [hs2]
            simp only [Bool.false_eq_true, if_false]
            exact ⟨fun r hr => (by cases hr; exact .inr (.inr ⟨rfl, rfl⟩)), fun hr => (by cases hr)⟩
      · rw [h3, h1]
        simp only [if_true]
        rw [h1] at h
        have hb : 32 ∉ b := fun e => h.2 (by simp [e])
        have e0 : a ++ 43 :: b ++ R ws = a ++ (43 :: (b ++ R ws)) := by simp
        rw [e0]
        cases hn : numW a with
        | none =>
          refine ⟨fun r hr => (by cases hr), fun _ => ?_⟩
          intro s hs
          split at hs
          · cases hs
          · rcases number_none (plus_ender _) hn with q | ⟨z, t, q1, q2, q3⟩
            · split at hs
              · cases hs
                exact stuck_bad (c := (number _).2) _ (.inl (number_bad _ (by rw [sign_bad]; exact q)))
              · cases hs
                exact stuck_sign _ q
            · have hz : z ≠ 43 := fun e => h2 (e ▸ q2)
              have hz' : z ≠ 32 := fun e => h.2 (by simp [← e, q2])
              have hs2 : sign 43 (number ⟨a ++ 43 :: (b ++ R ws), false⟩).2 = (false, (number ⟨a ++ 43 :: (b ++ R ws), false⟩).2) := by unfold sign; rw [q1]; simp [hz]
              rw [hs2] at hs
              simp only [Bool.false_eq_true, if_false, Option.some.injEq] at hs
              rw [← hs]
              exact .inr ⟨z, t, q1, hz'⟩
        | some n =>
          have e := number_some (plus_ender (b ++ R ws)) hn
          simp only [e]
          by_cases hc : n < 1 ∨ 4096 < n
          · rw [if_pos hc, if_pos hc]
            exact ⟨fun r hr => (by cases hr), fun _ s hs => (by cases hs)⟩
          · rw [if_neg hc, if_neg hc]
            have hs2 : sign 43 ⟨43 :: (b ++ R ws), false⟩ = (true, ⟨b ++ R ws, false⟩) := by simp [sign]
            rw [hs2]
            simp only [if_true]
            obtain ⟨n1, n2⟩ := num_step hb ws
            cases hp : numW b with
            | none =>
              refine ⟨fun r hr => (by cases hr), fun _ => ?_⟩
              intro s hs
              cases hs
              exact stuck_bad (c := (number _).2) _ (n2 hp)
            | some p =>
              simp only [n1 p hp]
              by_cases hp0 : p = 0
              · rw [if_pos hp0]
                refine ⟨fun r hr => (by cases hr), fun _ s hs => ?_⟩
                cases hs
                exact .inl (by simp [hp0])
              · rw [if_neg hp0]
                exact ⟨fun r hr => (by cases hr; exact .inl (by simp [hp0])), fun hr => (by cases hr)⟩
    · have hsg : sign 36 ⟨y :: l ++ R ws, false⟩ = (false, ⟨y :: l ++ R ws, false⟩) := by simp [sign, hy]
      unfold addrR placeW
      rw [hsg]
      simp only [Bool.false_eq_true, if_false, if_neg hy]
      obtain ⟨n1, n2⟩ := num_step h ws
      refine ⟨fun r hr => ?_, fun hr s hs => ?_⟩
      · simp only [Option.map_eq_some_iff] at hr
        obtain ⟨p, hp, rfl⟩ := hr
        rw [n1 p hp]
        exact .inr (.inl ⟨rfl, rfl⟩)
      · simp only [Option.map_eq_none_iff] at hr
        cases hs
        exact n2 hr

/-- .. at a call whose address is not told yet -/
theorem addr_step0 {w : Bs} (h : 32 ∉ w) (ws : List Bs) (x : Cd) (first : Bool) (h1 : x.ref = 0) (h2 : x.p = 0) :
    (∀ r, placeW w = some r → addrR ⟨w ++ R ws, false⟩ x first = some ⟨⟨R ws, false⟩, { x with ref := r.1, p := r.2 }, first⟩) ∧
    (placeW w = none → stuckO (addrR ⟨w ++ R ws, false⟩ x first)) := by
  obtain ⟨a, b⟩ := addr_step h ws x first
  refine ⟨fun r hr => ?_, b⟩
  rcases a r hr with e | ⟨e0, e⟩ | ⟨e0, e⟩
  · exact e
  · rw [e]; cases x; cases h1; simp [e0]
  · rw [e]; cases x; cases h2; simp [e0]

def F (ks : Bs) (ws : List Bs) (x : Cd) (first : Bool) : Option Cd := endR (foldR ks ⟨⟨R ws, false⟩, x, first⟩)

theorem F_nil (ws : List Bs) (x : Cd) (f : Bool) : F [] ws x f = if ws = [] then some x else none := by
  cases ws with
  | nil => simp [F, foldR, endR, R]
  | cons w ws => simp [F, foldR, endR, R]

def cont (ks : Bs) (r : Option St) : Option St := match r with | none => none | some s' => foldR ks s'

theorem fold_step (k : UInt8) (ks : Bs) (s : St) (h : s.c.bad = false) : foldR (k :: ks) s = cont ks (stepR k s) := by
  rw [foldR, if_neg (by simp [h])]
  rfl

theorem endR_none : endR none = none := rfl

theorem fold_bad (ks : Bs) (r : Option St) (h : stuckO r) : endR (cont ks r) = none := by
  cases r with
  | none => rfl
  | some s => exact fold_stuck ks s (h s rfl)

theorem F_n (ks : Bs) (ws : List Bs) (x : Cd) (f : Bool) (h : ∀ v ∈ ws, 32 ∉ v) :
    F (110 :: ks) ws x f = match ws with | [] => none | w :: ws' => match numW w with | none => none | some v => F ks ws' (if f then { x with a := v } else { x with b := v }) false := by
  unfold F
  rw [fold_step _ _ _ rfl]
  cases ws with
  | nil => rfl
  | cons w ws =>
    have hs : stepR 110 ⟨⟨R (w :: ws), false⟩, x, f⟩ = some ⟨(number ⟨w ++ R ws, false⟩).2, if f then { x with a := (number ⟨w ++ R ws, false⟩).1 } else { x with b := (number ⟨w ++ R ws, false⟩).1 }, false⟩ := by
      unfold stepR
      simp only [blank_R]
      simp
    rw [hs]
    obtain ⟨n1, n2⟩ := num_step (h w (by simp)) ws
    cases hn : numW w with
    | none =>
      simp only [hn]
      exact fold_bad ks _ (fun s e => by cases e; exact n2 hn)
    | some v => simp only [n1 v hn, hn]; rfl

theorem F_a (ks : Bs) (ws : List Bs) (x : Cd) (f : Bool) (h : ∀ v ∈ ws, 32 ∉ v) (h1 : x.ref = 0) (h2 : x.p = 0) :
    F (97 :: ks) ws x f = match ws with | [] => none | w :: ws' => match placeW w with | none => none | some r => F ks ws' { x with ref := r.1, p := r.2 } f := by
  unfold F
  rw [fold_step _ _ _ rfl]
  cases ws with
  | nil => rfl
  | cons w ws =>
    have hs : stepR 97 ⟨⟨R (w :: ws), false⟩, x, f⟩ = addrR ⟨w ++ R ws, false⟩ x f := by
      unfold stepR
      simp only [blank_R]
      simp
    rw [hs]
    obtain ⟨n1, n2⟩ := addr_step0 (h w (by simp)) ws x f h1 h2
    cases hn : placeW w with
    | none =>
      simp only [hn]
      exact fold_bad ks _ (n2 hn)
    | some v => simp only [n1 v hn, hn]; rfl

theorem F_d (ks : Bs) (ws : List Bs) (x : Cd) (f : Bool) (h : ∀ v ∈ ws, 32 ∉ v) :
    F (100 :: ks) ws x f = match ws with | [] => none | w :: ws' => match dataW w with | none => none | some d => F ks ws' { x with data := d } f := by
  unfold F
  rw [fold_step _ _ _ rfl]
  cases ws with
  | nil => rfl
  | cons w ws =>
    have hs : stepR 100 ⟨⟨R (w :: ws), false⟩, x, f⟩ = some ⟨(dataR ⟨w ++ R ws, false⟩).2, { x with data := (dataR ⟨w ++ R ws, false⟩).1 }, f⟩ := by
      unfold stepR
      simp only [blank_R]
      simp
    rw [hs]
    obtain ⟨n1, n2⟩ := data_step (h w (by simp)) ws
    cases hn : dataW w with
    | none =>
      simp only [hn]
      exact fold_bad ks _ (fun s e => by cases e; exact n2 hn)
    | some v => simp only [n1 v hn, hn]; rfl

theorem F_bang (ws : List Bs) (x : Cd) (f : Bool) : F [33] ws x f = if ws = [] then some x else if ws = [[33]] then some { x with deny := true } else none := by
  unfold F
  rw [fold_step _ _ _ rfl]
  cases ws with
  | nil => simp [stepR, R, cont, foldR, endR]
  | cons w ws =>
    have hs : stepR 33 ⟨⟨R (w :: ws), false⟩, x, f⟩ = some ⟨⟨(sign 33 ⟨w ++ R ws, false⟩).2.rest, (sign 33 ⟨w ++ R ws, false⟩).2.bad || !(sign 33 ⟨w ++ R ws, false⟩).1⟩, { x with deny := (sign 33 ⟨w ++ R ws, false⟩).1 }, f⟩ := by
      unfold stepR
      simp only [blank_R]
      simp [R]
    rw [hs]
    simp only [cont, foldR, endR, reduceCtorEq, if_false]
    cases w with
    | nil => cases ws with
      | nil => simp [sign, R]
      | cons v ws => simp [sign, R]
    | cons y l =>
      by_cases hy : y = 33
      · subst hy
        cases l with
        | nil => cases ws with
          | nil => simp [sign, R]
          | cons v ws => simp [sign, R]
        | cons z l => simp [sign]
      · simp [sign, hy]

theorem last_cons (w : Bs) (ws : List Bs) (h : ws ≠ []) : (w :: ws).getLast? = ws.getLast? ∧ (w :: ws).dropLast = w :: ws.dropLast := by
  cases ws with
  | nil => exact absurd rfl h
  | cons v ws => exact ⟨by simp, rfl⟩

theorem bang_last (ws : List Bs) : (ws.getLast? == some [33]) = true → (ws.dropLast = [] ↔ ws = [[33]]) := by
  intro h
  cases ws with
  | nil => simp at h
  | cons v ws =>
    cases ws with
    | nil => simp at h ⊢; exact h
    | cons u ws => simp

theorem num33 : numW [33] = none := by decide
theorem place33 : placeW [33] = none := by decide

/-- what a denied line comes to -/
def refd (g : Cd → List Bs → Option Cd) (x : Cd) (ws : List Bs) : Option Cd :=
  if ws.getLast? == some [33] then g { x with deny := true } ws.dropLast else g x ws

theorem refd_end (x : Cd) (ws : List Bs) : refd (fun x ws => if ws = [] then some x else none) x ws = if ws = [] then some x else if ws = [[33]] then some { x with deny := true } else none := by
  unfold refd
  by_cases h : (ws.getLast? == some [33]) = true
  · have := bang_last ws h
    have hne : ws ≠ [] := fun e => by subst e; simp at h
    rw [if_pos h, if_neg hne]
    dsimp only
    by_cases e : ws = [[33]]
    · rw [if_pos e, if_pos (this.2 e)]
    · rw [if_neg e, if_neg (fun q => e (this.1 q))]
  · rw [if_neg h]
    dsimp only
    by_cases hne : ws = []
    · rw [if_pos hne, if_pos hne]
    · rw [if_neg hne, if_neg hne, if_neg (fun e => h (by rw [e]; rfl))]

/-- a word ahead -/
theorem refd_word {α : Type} (p : Bs → Option α) (set : Cd → α → Cd) (g : Cd → List Bs → Option Cd) (hp : p [33] = none) (hset : ∀ x v, set { x with deny := true } v = { set x v with deny := true }) (x : Cd) (ws : List Bs) :
    refd (fun x ws => match ws with | [] => none | w :: ws => match p w with | none => none | some v => g (set x v) ws) x ws = match ws with | [] => none | w :: ws => match p w with | none => none | some v => refd g (set x v) ws := by
  cases ws with
  | nil => rfl
  | cons w ws =>
    cases ws with
    | nil =>
      unfold refd
      by_cases h : w = [33]
      · subst h; simp [hp]
      · have : ([w].getLast? == some [33]) = false := by simp [h]
        rw [this]
        simp
    | cons v ws =>
      unfold refd
      obtain ⟨e1, e2⟩ := last_cons w (v :: ws) (by simp)
      rw [e1, e2]
      simp only []
      by_cases h : ((v :: ws).getLast? == some [33]) = true
      · rw [if_pos h]
        cases p w with
        | none => rfl
        | some u => simp only [hset, if_pos h]
      · rw [if_neg h]
        cases p w with
        | none => rfl
        | some u => simp only [if_neg h]

def Gend (x : Cd) (ws : List Bs) : Option Cd := if ws = [] then some x else none
def Gw {α : Type} (p : Bs → Option α) (set : Cd → α → Cd) (g : Cd → List Bs → Option Cd) (x : Cd) (ws : List Bs) : Option Cd :=
  match ws with | [] => none | w :: ws => match p w with | none => none | some v => g (set x v) ws

theorem refd_w {α : Type} (p : Bs → Option α) (set : Cd → α → Cd) (g : Cd → List Bs → Option Cd) (hp : p [33] = none) (hset : ∀ x v, set { x with deny := true } v = { set x v with deny := true }) (x : Cd) (ws : List Bs) :
    refd (Gw p set g) x ws = Gw p set (refd g) x ws := refd_word p set g hp hset x ws

theorem Gw_congr {α : Type} (p : Bs → Option α) (set : Cd → α → Cd) {g g' : Cd → List Bs → Option Cd} (h : ∀ x ws, g x ws = g' x ws) (x : Cd) (ws : List Bs) : Gw p set g x ws = Gw p set g' x ws := by
  unfold Gw
  cases ws with
  | nil => rfl
  | cons w ws => simp only [h]

def setA (x : Cd) (v : Nat) : Cd := { x with a := v }
def setB (x : Cd) (v : Nat) : Cd := { x with b := v }
def setP (x : Cd) (r : Nat × Nat) : Cd := { x with ref := r.1, p := r.2 }
def setD (x : Cd) (d : Bs) : Cd := { x with data := d }

theorem fields0 (b : Bool) (x : Cd) (ws : List Bs) : fieldsW x ⟨false, 0, false, b⟩ ws = Gend x ws := rfl
theorem fields1 (b : Bool) (x : Cd) (ws : List Bs) : fieldsW x ⟨false, 1, false, b⟩ ws = Gw numW setA Gend x ws := by
  rcases ws with _ | ⟨w, ws⟩
  · simp [fieldsW, addrW, numsW, Gw]
  · cases h : numW w <;> simp [fieldsW, addrW, numsW, datW, Gw, Gend, setA, h]
theorem fields2 (b : Bool) (x : Cd) (ws : List Bs) : fieldsW x ⟨false, 2, false, b⟩ ws = Gw numW setA (Gw numW setB Gend) x ws := by
  rcases ws with _ | ⟨w, _ | ⟨u, ws⟩⟩
  · simp [fieldsW, addrW, numsW, Gw]
  · cases h : numW w <;> simp [fieldsW, addrW, numsW, Gw, h]
  · cases h : numW w <;> cases h' : numW u <;> simp [fieldsW, addrW, numsW, datW, Gw, Gend, setA, setB, h, h']
theorem fieldsP0 (b : Bool) (x : Cd) (ws : List Bs) : fieldsW x ⟨true, 0, false, b⟩ ws = Gw placeW setP Gend x ws := by
  rcases ws with _ | ⟨w, ws⟩
  · simp [fieldsW, addrW, Gw]
  · cases h : placeW w <;> simp [fieldsW, addrW, numsW, datW, Gw, Gend, setP, h]
theorem fieldsP1 (b : Bool) (x : Cd) (ws : List Bs) : fieldsW x ⟨true, 1, false, b⟩ ws = Gw placeW setP (Gw numW setA Gend) x ws := by
  rcases ws with _ | ⟨w, _ | ⟨u, ws⟩⟩
  · simp [fieldsW, addrW, Gw]
  · cases h : placeW w <;> simp [fieldsW, addrW, numsW, Gw, h]
  · cases h : placeW w <;> cases h' : numW u <;> simp [fieldsW, addrW, numsW, datW, Gw, Gend, setA, setP, h, h']
theorem fieldsPD (b : Bool) (x : Cd) (ws : List Bs) : fieldsW x ⟨true, 0, true, b⟩ ws = Gw placeW setP (Gw dataW setD Gend) x ws := by
  rcases ws with _ | ⟨w, _ | ⟨u, ws⟩⟩
  · simp [fieldsW, addrW, Gw]
  · cases h : placeW w <;> simp [fieldsW, addrW, numsW, datW, Gw, h]
  · cases h : placeW w <;> cases h' : dataW u <;> simp [fieldsW, addrW, numsW, datW, Gw, Gend, setD, setP, h, h']

theorem Fn (ks : Bs) (ws : List Bs) (x : Cd) (h : ∀ v ∈ ws, 32 ∉ v) (g : Cd → List Bs → Option Cd) (hg : ∀ x ws', (∀ v ∈ ws', v ∈ ws) → F ks ws' x false = g x ws') : F (110 :: ks) ws x true = Gw numW setA g x ws := by
  rw [F_n ks ws x true h]
  unfold Gw
  cases ws with
  | nil => rfl
  | cons w ws =>
    simp only []
    cases numW w with
    | none => rfl
    | some v => exact hg _ _ (fun u hu => List.mem_cons_of_mem _ hu)
theorem Fn2 (ks : Bs) (ws : List Bs) (x : Cd) (h : ∀ v ∈ ws, 32 ∉ v) (g : Cd → List Bs → Option Cd) (hg : ∀ x ws', (∀ v ∈ ws', v ∈ ws) → F ks ws' x false = g x ws') : F (110 :: ks) ws x false = Gw numW setB g x ws := by
  rw [F_n ks ws x false h]
  unfold Gw
  cases ws with
  | nil => rfl
  | cons w ws =>
    simp only []
    cases numW w with
    | none => rfl
    | some v => exact hg _ _ (fun u hu => List.mem_cons_of_mem _ hu)
theorem Fa (ks : Bs) (ws : List Bs) (x : Cd) (h : ∀ v ∈ ws, 32 ∉ v) (h1 : x.ref = 0) (h2 : x.p = 0) (g : Cd → List Bs → Option Cd) (hg : ∀ x ws', (∀ v ∈ ws', v ∈ ws) → F ks ws' x true = g x ws') : F (97 :: ks) ws x true = Gw placeW setP g x ws := by
  rw [F_a ks ws x true h h1 h2]
  unfold Gw
  cases ws with
  | nil => rfl
  | cons w ws =>
    simp only []
    cases placeW w with
    | none => rfl
    | some v => exact hg _ _ (fun u hu => List.mem_cons_of_mem _ hu)
theorem Fd (ks : Bs) (ws : List Bs) (x : Cd) (h : ∀ v ∈ ws, 32 ∉ v) (g : Cd → List Bs → Option Cd) (hg : ∀ x ws', (∀ v ∈ ws', v ∈ ws) → F ks ws' x true = g x ws') : F (100 :: ks) ws x true = Gw dataW setD g x ws := by
  rw [F_d ks ws x true h]
  unfold Gw
  cases ws with
  | nil => rfl
  | cons w ws =>
    simp only []
    cases dataW w with
    | none => rfl
    | some v => exact hg _ _ (fun u hu => List.mem_cons_of_mem _ hu)

theorem Fb (ws : List Bs) (x : Cd) (f : Bool) : F [33] ws x f = refd Gend x ws := (F_bang ws x f).trans (refd_end x ws).symm

theorem opN (ws : List Bs) (x : Cd) (h : ∀ v ∈ ws, 32 ∉ v) (b : Bool) : F [110, 33] ws x true = refd (fun x ws => fieldsW x ⟨false, 1, false, b⟩ ws) x ws := by
  have e : (fun x ws => fieldsW x ⟨false, 1, false, b⟩ ws) = Gw numW setA Gend := by funext x ws; exact fields1 b x ws
  rw [e, refd_w numW setA Gend num33 (fun _ _ => rfl)]
  exact Fn _ _ _ h _ (fun x ws' _ => Fb ws' x false)
theorem opNN (ws : List Bs) (x : Cd) (h : ∀ v ∈ ws, 32 ∉ v) (b : Bool) : F [110, 110, 33] ws x true = refd (fun x ws => fieldsW x ⟨false, 2, false, b⟩ ws) x ws := by
  have e : (fun x ws => fieldsW x ⟨false, 2, false, b⟩ ws) = Gw numW setA (Gw numW setB Gend) := by funext x ws; exact fields2 b x ws
  rw [e, refd_w numW setA _ num33 (fun _ _ => rfl)]
  refine Fn _ _ _ h _ (fun x ws' hs => ?_)
  rw [refd_w numW setB _ num33 (fun _ _ => rfl)]
  exact Fn2 _ _ _ (fun v hv => h v (hs v hv)) _ (fun x ws' _ => Fb ws' x false)
theorem opPN (ws : List Bs) (x : Cd) (h : ∀ v ∈ ws, 32 ∉ v) (h1 : x.ref = 0) (h2 : x.p = 0) (b : Bool) : F [97, 110, 33] ws x true = refd (fun x ws => fieldsW x ⟨true, 1, false, b⟩ ws) x ws := by
  have e : (fun x ws => fieldsW x ⟨true, 1, false, b⟩ ws) = Gw placeW setP (Gw numW setA Gend) := by funext x ws; exact fieldsP1 b x ws
  rw [e, refd_w placeW setP _ place33 (fun _ _ => rfl)]
  refine Fa _ _ _ h h1 h2 _ (fun x ws' hs => ?_)
  rw [refd_w numW setA _ num33 (fun _ _ => rfl)]
  exact Fn _ _ _ (fun v hv => h v (hs v hv)) _ (fun x ws' _ => Fb ws' x false)
theorem opP (ws : List Bs) (x : Cd) (h : ∀ v ∈ ws, 32 ∉ v) (h1 : x.ref = 0) (h2 : x.p = 0) (b : Bool) : F [97] ws x true = fieldsW x ⟨true, 0, false, b⟩ ws := by
  rw [fieldsP0]
  exact Fa _ _ _ h h1 h2 _ (fun x ws' _ => F_nil ws' x true)
theorem opPn (ws : List Bs) (x : Cd) (h : ∀ v ∈ ws, 32 ∉ v) (h1 : x.ref = 0) (h2 : x.p = 0) (b : Bool) : F [97, 110] ws x true = fieldsW x ⟨true, 1, false, b⟩ ws := by
  rw [fieldsP1]
  exact Fa _ _ _ h h1 h2 _ (fun x ws' hs => Fn _ _ _ (fun v hv => h v (hs v hv)) _ (fun x ws' _ => F_nil ws' x false))
theorem opPd (ws : List Bs) (x : Cd) (h : ∀ v ∈ ws, 32 ∉ v) (h1 : x.ref = 0) (h2 : x.p = 0) (b : Bool) : F [97, 100] ws x true = fieldsW x ⟨true, 0, true, b⟩ ws := by
  rw [fieldsPD]
  exact Fa _ _ _ h h1 h2 _ (fun x ws' hs => Fd _ _ _ (fun v hv => h v (hs v hv)) _ (fun x ws' _ => F_nil ws' x true))

theorem line_eq (s : Bs) : lineR s = lineW s := by
  obtain ⟨w, ws, h1, h2, h3, h4⟩ := split_join s
  unfold lineR lineW lineWs
  rw [h1, h2, cutC_R w ws h3]
  simp only [List.drop_left]
  cases hi : idx w opWords with
  | none => rfl
  | some i =>
    simp only []
    show F (behinds.getD i []) ws (Cd.none (i + 1)) true = _
    have hlt : i < 14 := by
      have : ∀ (l : List Bs) i, idx w l = some i → i < l.length := by
        intro l
        induction l with
        | nil => intro i h; cases h
        | cons v l ih =>
          intro i h
          unfold idx at h
          split at h
          · cases h; simp
          · simp only [Option.map_eq_some_iff] at h
            obtain ⟨a, ha, rfl⟩ := h
            have := ih a ha
            simp; omega
      exact this _ _ hi
    have refN : ∀ (f : Form), f.refused = true → (if (f.refused && ws.getLast? == some [33]) = true then fieldsW { Cd.none (i + 1) with deny := true } f ws.dropLast else fieldsW (Cd.none (i + 1)) f ws) = refd (fun x ws => fieldsW x f ws) (Cd.none (i + 1)) ws := by
      intro f hf
      unfold refd
      rw [hf, Bool.true_and]
    have notN : ∀ (f : Form), f.refused = false → (if (f.refused && ws.getLast? == some [33]) = true then fieldsW { Cd.none (i + 1) with deny := true } f ws.dropLast else fieldsW (Cd.none (i + 1)) f ws) = fieldsW (Cd.none (i + 1)) f ws := by
      intro f hf
      rw [hf, Bool.false_and]
      rfl
    clear hi h1 h2
    match i, hlt with
    | 0, _ => exact (opN ws _ h4 true).trans (refN ⟨false, 1, false, true⟩ rfl).symm
    | 1, _ => exact (opNN ws _ h4 true).trans (refN ⟨false, 2, false, true⟩ rfl).symm
    | 2, _ => exact (opNN ws _ h4 true).trans (refN ⟨false, 2, false, true⟩ rfl).symm
    | 3, _ => exact (opPN ws _ h4 rfl rfl true).trans (refN ⟨true, 1, false, true⟩ rfl).symm
    | 4, _ => exact (opP ws _ h4 rfl rfl false).trans (notN ⟨true, 0, false, false⟩ rfl).symm
    | 5, _ => exact (opP ws _ h4 rfl rfl false).trans (notN ⟨true, 0, false, false⟩ rfl).symm
    | 6, _ => exact (opP ws _ h4 rfl rfl false).trans (notN ⟨true, 0, false, false⟩ rfl).symm
    | 7, _ => exact (opPn ws _ h4 rfl rfl false).trans (notN ⟨true, 1, false, false⟩ rfl).symm
    | 8, _ => exact (opP ws _ h4 rfl rfl false).trans (notN ⟨true, 0, false, false⟩ rfl).symm
    | 9, _ => exact (opPn ws _ h4 rfl rfl false).trans (notN ⟨true, 1, false, false⟩ rfl).symm
    | 10, _ => exact (opPn ws _ h4 rfl rfl false).trans (notN ⟨true, 1, false, false⟩ rfl).symm
    | 11, _ => exact (opPd ws _ h4 rfl rfl false).trans (notN ⟨true, 0, true, false⟩ rfl).symm
    | 12, _ => exact (F_nil ws _ true).trans (notN ⟨false, 0, false, false⟩ rfl).symm
    | 13, _ => exact (F_nil ws _ true).trans (notN ⟨false, 0, false, false⟩ rfl).symm
    | k + 14, h => omega

/- whole texts -/
def trimN (s : Bs) : Bs := if s.getLast? = some 10 then s.dropLast else s

abbrev Parsed := List Cd × Nat × Nat

def runW : List Bs → Nat → List Cd → Parsed
  | [], _, acc => (acc, 0, 0)
  | l :: ls, i, acc => match lineW l with
    | none => ([], i, 7)
    | some c => runW ls (i + 1) (acc ++ [c])

def parseW (s : Bs) : Parsed :=
  if 1048576 < s.length then ([], 0, 6) else if s = [] then ([], 0, 0)
  else if 4096 < (splitC 10 (trimN s)).length then ([], 4096, 6) else runW (splitC 10 (trimN s)) 0 []

def lineCount : Bs → Nat
  | [] => 0
  | [_] => 1
  | x :: y :: l => (if x = 10 then 1 else 0) + lineCount (y :: l)

def runR : Nat → Bs → Nat → List Cd → Parsed
  | 0, _, _, acc => (acc, 0, 0)
  | n + 1, s, i, acc => match lineR (cutC 10 s).1 with
    | none => ([], i, 7)
    | some c => runR n (cutC 10 s).2.1 (i + 1) (acc ++ [c])

def parseR (s : Bs) : Parsed :=
  if 1048576 < s.length then ([], 0, 6) else if 4096 < lineCount s then ([], 4096, 6) else runR (lineCount s) s 0 []

theorem splitC_hit (c : UInt8) (l : Bs) : splitC c (c :: l) = [] :: splitC c l := by rw [splitC, if_pos rfl]
theorem splitC_miss {c x : UInt8} (h : x ≠ c) (l : Bs) : ∃ w ws, splitC c l = w :: ws ∧ splitC c (x :: l) = (x :: w) :: ws := by
  cases hs : splitC c l with
  | nil => exact absurd hs (splitC_ne c l)
  | cons w ws => exact ⟨w, ws, rfl, by rw [splitC, if_neg h, hs]⟩

theorem splitC_cut (c : UInt8) (s : Bs) : splitC c s = if (cutC c s).2.2 then (cutC c s).1 :: splitC c (cutC c s).2.1 else [(cutC c s).1] := by
  induction s with
  | nil => rfl
  | cons x l ih =>
    by_cases hx : x = c
    · subst hx
      rw [splitC_hit]
      simp [cutC]
    · obtain ⟨w, ws, h1, h2⟩ := splitC_miss hx l
      rw [h2]
      rw [h1] at ih
      simp only [cutC, if_neg hx]
      split
      · rename_i h
        rw [if_pos h] at ih
        cases ih
        rfl
      · rename_i h
        rw [if_neg h] at ih
        cases ih
        rfl

theorem runW_eq (ls : List Bs) : ∀ (s : Bs) (i : Nat) (acc : List Cd) (more : List Bs), splitC 10 s = ls ++ more → runR ls.length s i acc = runW ls i acc := by
  induction ls with
  | nil => intro s i acc more _; rfl
  | cons l ls ih =>
    intro s i acc more h
    have hh := splitC_cut 10 s
    rw [h] at hh
    simp only [List.length_cons, runR, runW, line_eq]
    by_cases hc : (cutC 10 s).2.2 = true
    · rw [if_pos hc, List.cons_append] at hh
      obtain ⟨h1, h2⟩ := List.cons.inj hh
      rw [← h1]
      cases lineW l with
      | none => rfl
      | some c => exact ih _ _ _ more h2.symm
    · rw [if_neg hc, List.cons_append] at hh
      obtain ⟨h1, h2⟩ := List.cons.inj hh
      obtain ⟨rfl, _⟩ := List.append_eq_nil_iff.1 h2
      rw [← h1]
      cases lineW l with
      | none => rfl
      | some c => rfl

theorem splitC_snoc (c : UInt8) (t : Bs) : splitC c (t ++ [c]) = splitC c t ++ [[]] := by
  induction t with
  | nil => simp [splitC]
  | cons x t ih =>
    by_cases hx : x = c
    · subst hx
      rw [List.cons_append, splitC_hit, splitC_hit, ih]
      rfl
    · obtain ⟨w, ws, h1, h2⟩ := splitC_miss hx t
      obtain ⟨w', ws', h3, h4⟩ := splitC_miss hx (t ++ [c])
      rw [List.cons_append, h4, h2]
      rw [ih, h1, List.cons_append] at h3
      cases h3
      rfl

theorem trimN_cons (x y : UInt8) (l : Bs) : trimN (x :: y :: l) = x :: trimN (y :: l) := by
  unfold trimN
  have : (x :: y :: l).getLast? = (y :: l).getLast? := by simp
  rw [this]
  split <;> rfl

theorem lineCount_eq : ∀ s : Bs, s ≠ [] → lineCount s = (splitC 10 (trimN s)).length
  | [], h => absurd rfl h
  | [x], _ => by
    by_cases hx : x = 10
    · subst hx; decide
    · have : trimN [x] = [x] := by simp [trimN, hx]
      rw [this]
      simp [splitC, hx, lineCount]
  | x :: y :: l, _ => by
    have ih := lineCount_eq (y :: l) (by simp)
    rw [trimN_cons, lineCount, ih]
    by_cases hx : x = 10
    · subst hx
      rw [splitC_hit, if_pos rfl]
      simp; omega
    · obtain ⟨w, ws, h1, h2⟩ := splitC_miss hx (trimN (y :: l))
      rw [h2, h1, if_neg hx]
      simp

theorem trim_more (s : Bs) : ∃ more, splitC 10 s = splitC 10 (trimN s) ++ more := by
  unfold trimN
  split
  · rename_i h
    have : s = s.dropLast ++ [10] := by
      have hne : s ≠ [] := fun e => by subst e; simp at h
      have := List.dropLast_concat_getLast hne
      rw [List.getLast?_eq_some_getLast hne] at h
      rw [Option.some.inj h] at this
      exact this.symm
    refine ⟨[[]], ?_⟩
    conv => lhs; rw [this]
    exact splitC_snoc 10 _
  · exact ⟨[], by simp⟩

theorem parse_eq (s : Bs) : parseR s = parseW s := by
  unfold parseR parseW
  split
  · rfl
  · by_cases hs : s = []
    · subst hs; rfl
    · rw [if_neg hs, lineCount_eq s hs]
      obtain ⟨more, hm⟩ := trim_more s
      split
      · rfl
      · exact runW_eq _ s 0 [] more hm
end Go.Proofs.YtnjcmcnjgdjbiaaGreatDoor.Txt

namespace Go.Proofs.YtnjcmcnjgdjbiaaGreatDoor.Txt

theorem indexByte_cut (c : UInt8) (l : Bs) : Lib.indexByte l c = if (cutC c l).2.2 then (((cutC c l).1.length : Nat) : Int) else -1 := by
  induction l with
  | nil => rfl
  | cons x l ih =>
    unfold Lib.indexByte cutC
    by_cases hx : x = c
    · simp [hx]
    · rw [if_neg (by simpa using hx), if_neg hx, ih]
      by_cases h : (cutC c l).2.2 = true
      · simp only [h, if_true]
        rw [if_neg (by rw [beq_iff_eq]; omega)]
        simp
      · simp [h]

theorem cut_lib (c : UInt8) (l : Bs) : Lib.cut l [c] = cutC c l := by
  unfold Lib.cut
  rw [Lib.index_one, indexByte_cut]
  rcases cutC_split c l with ⟨h1, h2⟩ | ⟨a, b, h1, h2, h3⟩
  · rw [h2]; simp
  · rw [h3, h1]; simp

theorem hasPrefix_one (c : UInt8) (l : Bs) : Lib.hasPrefix l [c] = (l.head? == some c) := by
  cases l with
  | nil => rfl
  | cons x l =>
    simp only [Lib.hasPrefix, List.isPrefixOf, Bool.and_true, List.head?_cons]
    rw [Bool.eq_iff_iff, beq_iff_eq, beq_iff_eq]
    exact ⟨fun h => by rw [h], fun h => (Option.some.inj h).symm⟩

theorem trimPrefix_one (c : UInt8) (l : Bs) : Lib.trimPrefix (c :: l) [c] = l := by
  unfold Lib.trimPrefix
  rw [hasPrefix_one]
  simp

theorem trimSuffix_10 (s : Bs) : Lib.trimSuffix s [10] = trimN s := by
  unfold Lib.trimSuffix trimN Lib.hasSuffix
  by_cases h : s.getLast? = some 10
  · have hs : List.isSuffixOf [10] s = true := by
      rw [List.isSuffixOf_iff_suffix]
      have hne : s ≠ [] := fun e => by subst e; simp at h
      have := List.dropLast_concat_getLast hne
      rw [List.getLast?_eq_some_getLast hne] at h
      rw [Option.some.inj h] at this
      exact ⟨_, this⟩
    rw [if_pos hs, if_pos h, List.dropLast_eq_take]
    rfl
  · have hs : ¬ (List.isSuffixOf [10] s = true) := by
      rw [List.isSuffixOf_iff_suffix]
      rintro ⟨t, rfl⟩
      exact h (by simp)
    rw [if_neg hs, if_neg h]

theorem count_split (c : UInt8) : ∀ (f : Nat) (s : Bs), s.length < f → Lib.countFrom [c] f s + 1 = (splitC c s).length
  | 0, s, h => by omega
  | f + 1, s, h => by
    unfold Lib.countFrom
    rw [Lib.index_one, indexByte_cut, splitC_cut]
    rcases cutC_split c s with ⟨h1, h2⟩ | ⟨a, b, h1, h2, h3⟩
    · rw [h2]; simp
    · rw [h3, h1]
      have := count_split c f b (by rw [h1] at h; simp at h; omega)
      have hn : ¬ (((a.length : Nat) : Int) == -1) = true := by rw [beq_iff_eq]; omega
      simp only [if_true, hn, Bool.false_eq_true, if_false, Int.toNat_natCast, List.length_cons, List.length_nil]
      have hd : (a ++ c :: b).drop (a.length + (0 + 1)) = b := by simp
      rw [hd]
      omega

theorem splitK_split (c : UInt8) : ∀ (k : Nat) (s : Bs), k + 1 = (splitC c s).length → Lib.splitK [c] 0 k s = splitC c s
  | 0, s, h => by
    rw [splitC_cut] at h ⊢
    rcases cutC_split c s with ⟨h1, h2⟩ | ⟨a, b, h1, h2, h3⟩
    · rw [h2]; simp [Lib.splitK]
    · rw [h3] at h
      simp only [if_true, List.length_cons] at h
      have := List.length_pos_iff.2 (splitC_ne c b)
      omega
  | k + 1, s, h => by
    unfold Lib.splitK
    rw [Lib.index_one, indexByte_cut]
    rw [splitC_cut] at h ⊢
    rcases cutC_split c s with ⟨h1, h2⟩ | ⟨a, b, h1, h2, h3⟩
    · rw [h2] at h; simp at h
    · rw [h3] at h ⊢
      simp only [if_true, List.length_cons] at h
      have hn : ¬ (((a.length : Nat) : Int) == -1) = true := by rw [beq_iff_eq]; omega
      simp only [if_true, hn, Bool.false_eq_true, if_false, Int.toNat_natCast, List.length_cons, List.length_nil]
      rw [h1]
      have hd : (a ++ c :: b).drop (a.length + (0 + 1)) = b := by simp
      rw [hd, splitK_split c k b (by omega)]
      simp

theorem split_lib (c : UInt8) (s : Bs) : Lib.splitK [c] 0 (Lib.count s [c]) s = splitC c s ∧ Lib.count s [c] + 1 = (splitC c s).length := by
  have h := count_split c (s.length + 1) s (by omega)
  exact ⟨splitK_split c _ s h, h⟩

end Go.Proofs.YtnjcmcnjgdjbiaaGreatDoor.Txt

