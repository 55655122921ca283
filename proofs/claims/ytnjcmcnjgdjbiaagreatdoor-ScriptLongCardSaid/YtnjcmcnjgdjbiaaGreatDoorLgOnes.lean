/- The first heap of the examples (base 65536, two regions of two pages), and its first small block. Conditions: none; closed facts. A map of function values that a call makes: its laws at the operations. Conditions: none. A call and an answer as the program holds them. Conditions: none. The walks of script's address and value. Conditions: none. The walks of script's value and of a doer's methods. Conditions: the heap's method has its contract. -/
import Derived.Test.YtnjcmcnjgdjbiaaGreatDoorLgHeapb
import Derived.Maps.OwnSet
namespace Go.Proofs.YtnjcmcnjgdjbiaaGreatDoor
open Go.RowKit

/-- the examples' empty heap -/
def β0 : Bu := Bu.fresh 65536 2 1
/-- .. behind its first region, cut to a page -/
def β1 : Bu := β0.fed.took 0 1 0 0
/-- .. behind its first cell of sixteen bytes -/
def β2 : Bu := β1.newCell 0 0

theorem may0 : mayB 65536 2 1 = true := by decide +kernel

theorem take0 : TakeOk β0.fed 0 1 0 0 := by
  refine ⟨by decide, by decide +kernel, ?_, by decide +kernel, by decide +kernel, by decide +kernel, by decide +kernel, fun h => absurd rfl h, fun h => absurd h (by decide +kernel), ?_, by decide +kernel, by decide +kernel, by decide +kernel⟩
  · intro k h1 h2
    obtain rfl : k = 0 := by omega
    decide +kernel
  · intro m hm
    obtain rfl : m = 0 := by omega
    exact ⟨by decide +kernel, by decide +kernel, by decide +kernel, fun h => absurd (by decide +kernel) h, by decide +kernel⟩

theorem zero_heads : ∀ k, k ≤ β0.μ.order → β0.heads.getD k 0 = 0 := by
  intro k hk
  have : k ≤ 1 := hk
  match k, this with
  | 0, _ => decide
  | 1, _ => decide
  | k + 2, h => omega

theorem page1 : ∃ p, β1.μ.pages[0]? = some p := by
  have : 0 < β1.μ.pages.length := by decide +kernel
  exact ⟨_, List.getElem?_eq_getElem this⟩

theorem len1 : β1.μ.pages.length = β1.σ.n * 2 ^ β1.μ.order := by decide +kernel
theorem base1 : β1.σ.base = β0.fed.σ.base := by decide +kernel
theorem same2 : β2.σ.base = β0.σ.base ∧ β2.σ.limit = β0.σ.limit ∧ β2.μ.order = β0.μ.order := by
  refine ⟨by decide +kernel, by decide +kernel, by decide +kernel⟩
theorem addr0 : β0.fed.addr 0 = 65536 := by decide +kernel

/-- the small block's round -/
theorem round16 (size : Nat) (h : size ≤ 16) : roundN β0.σ.size size 1 = (16, 0) := by
  have h1 : max (max size 1) 16 = 16 := by omega
  unfold roundN
  rw [h1]
  decide +kernel

def parts2 : List Int := noParts.set 0 (0 : Nat)

/-- take of 16 bytes out of the empty heap -/
theorem HpRep.take16 {m : Int} {w : World} {hb s pb : Nat} {K : BuL} (R : HpRep m w hb s pb K β0 noParts) :
    Calls Tryz.prog 139 #[.pointer (some ⟨hb, 0, none⟩), .int .u64 16, .bool false] w (TookAs w 65536 0 (QSl s pb K β2 parts2)) := by
  obtain ⟨p, hp⟩ := page1
  refine take_small hb s 16 0 65536 true false 0 (QSl s pb K β2 parts2) R.cells.2.2.2.2.1 (by omega) (by decide) (fun W T => ?_)
  have RW := R.touch0 T
  have h := RW.sl.take_new RW.glob (fun k hk => RW.far k (List.mem_cons_of_mem _ hk)) 0 0 0 1 (by omega) (by decide) zero_heads (by decide) (by decide) (by decide) take0 hp len1 base1
  refine h.mono ?_
  rintro e w' ⟨rfl, K', S, N, T'⟩
  rw [addr0]
  exact ⟨rfl, K', S, N, T'⟩

theorem QSl.touch {s pb : Nat} {K : BuL} {β' : Bu} {ps' : List Int} (W W1 : World) (h : QSl s pb K β' ps' W W1) : Touch (· ∈ s :: K.fp) W W1 := by
  obtain ⟨_, _, _, T⟩ := h
  exact T

theorem HpRep.malloc16 {m : Int} {w : World} {hb s pb : Nat} {K : BuL} (R : HpRep m w hb s pb K β0 noParts) (size : Nat) (h : size ≤ 16) :
    Calls Tryz.prog 133 #[.pointer (some ⟨hb, 0, none⟩), .int .u64 size, .int .u64 1, .bool false] w (Did w (.tuple #[.agg #[.int .u64 65536, .int .u64 16], .int .i64 0]) (QSl s pb K β2 parts2)) := by
  refine malloc_ok hb size 1 16 65536 false _ (· ∈ s :: K.fp) (fun k hk => ?_) QSl.touch (Lib.hid fun W T => ?_) (Lib.hid fun W T => (R.touch0 T).take16)
  · refine R.lt k ?_
    rcases List.mem_cons.1 hk with h | h
    · simp [h]
    · simp [h]
  · have := (R.touch0 T).round_ size 1 (by omega) (by omega)
    rw [round16 size h] at this
    exact this

/-- Malloc of at most sixteen bytes, as the first call -/
theorem HpRep.first_malloc {w : World} {hb s pb : Nat} {K : BuL} (R : HpRep 0 w hb s pb K β0 noParts) (size : Nat) (h : size ≤ 16) :
    Calls Tryz.prog 88 #[.pointer (some ⟨hb, 0, none⟩), .int .u64 size, .bool false] w (Heaped w hb s pb K β2 parts2 (.tuple #[.int .u64 65536, .int .i64 0])) :=
  R.malloc_ size 65536 16 0 false same2 (fun _ RW => RW.malloc16 size h)

end Go.Proofs.YtnjcmcnjgdjbiaaGreatDoor

namespace Go.Proofs.YtnjcmcnjgdjbiaaGreatDoor
open Go.RowKit Go.Maps

/-- a function value reads as itself -/
def asHeld (v : Value) : Option (DataW Value × List MemPlace) := some (.held v, [])

theorem law3 : Keyed Tryz.prog 3 := int_keyed Tryz.underlying3

/-- an insertion into a map of the call's own, at the operation -/
theorem wpList_insert_own {w : World} {ops : Array Oper} {rest : List Oper} {o : Oper} {a : Act} {Q : Exit → Act → World → Prop}
    (hg : o.guard = none) (m x v : Operand) (hop : o.op = Op.insert 106 m x v) (b n : Nat) (D : DataW Value)
    (hm : a.eval m = .map (some b)) (hown : w.ownsMap Tryz.prog 3 asHeld b n D) (hn : n ≤ 100) (k : Int) (val : Value) (hx : a.eval x = .int .i64 k) (hk : (Lit.int .i64 k).wf = true) (hv : a.eval v = val)
    (hK : ∀ w', w'.ownsMap Tryz.prog 3 asHeld b (n + 1) (D.put (.int .i64 k) (.held val)) → w.grownBy w' (some b) → wpList Tryz.prog ops Q rest (a.put o.dst undef) w') :
    wpList Tryz.prog ops Q (o :: rest) a w := by
  refine wpList_plain hg fun K' hK' => ?_
  obtain ⟨w', hrun, r1, r2⟩ := hown.update law3 Tryz.underlying106 (show n < maxLen by unfold maxLen; omega) (keyOf_int_mk Tryz.underlying3 hk) (rfl : asHeld val = some (.held val, []))
  unfold Oper.wp
  simp [execOp, hop, hm, hx, hv, hrun, Result.andThen]
  exact hK' _ _ (hK w' r1 r2)

/-- .. and the look-up -/
theorem wpList_lookup_fn {w : World} {ops : Array Oper} {rest : List Oper} {o : Oper} {a : Act} {Q : Exit → Act → World → Prop}
    (hg : o.guard = none) (m x : Operand) (hop : o.op = Op.lookup 106 m x true) (b n : Nat) (D : DataW Value)
    (hm : a.eval m = .map (some b)) (hown : w.ownsMap Tryz.prog 3 asHeld b n D) (k : Int) (hx : a.eval x = .int .i64 k) (hk : (Lit.int .i64 k).wf = true) (z : Value) (hz : (zeroValue 104).run Tryz.prog w = .ok z w)
    (val : Value) (ok : Bool) (hval : D.atKey (.int .i64 k) (.held z) = .held val) (hok : Maps.has D (.int .i64 k) = ok)
    (hK : wpList Tryz.prog ops Q rest (a.put o.dst (.tuple #[val, .bool ok])) w) :
    wpList Tryz.prog ops Q (o :: rest) a w := by
  refine wpList_lookup_own_ok w hg m x 106 hop 3 104 law3 Tryz.underlying106 asHeld hz (.held z) [] rfl b n D hm hown _ _ hx (keyOf_int_mk Tryz.underlying3 hk) ?_
  intro v ps hv
  rw [hval] at hv
  have : v = val := by
    simp only [asHeld, Option.some.injEq, Prod.mk.injEq, DataW.held.injEq] at hv
    exact hv.1
  rw [this, hok]
  exact hK

/-- a map from numbers to functions that bind one value -/
def fnD (dv : Value) (ks : List (Int × Nat)) : DataW Value := ks.foldl (fun D p => D.put (.int .i64 p.1) (.held (.func (.func p.2) #[dv] #[]))) (.map [])

def FnMap (w : World) (b : Nat) (dv : Value) (ks : List (Int × Nat)) : Prop := w.ownsMap Tryz.prog 3 asHeld b ks.length (fnD dv ks)

theorem FnMap.made (w : World) (dv : Value) : FnMap (w.alloc (.map #[] 0)) w.heap.size dv [] := World.ownsMap_made w Tryz.prog 3 asHeld

theorem wpList_insert_fn {w : World} {ops : Array Oper} {rest : List Oper} {o : Oper} {a : Act} {Q : Exit → Act → World → Prop}
    (hg : o.guard = none) (m x v : Operand) (hop : o.op = Op.insert 106 m x v) (b : Nat) (dv : Value) (ks : List (Int × Nat))
    (hm : a.eval m = .map (some b)) (hown : FnMap w b dv ks) (hn : ks.length ≤ 100) (k : Int) (f : Nat) (hx : a.eval x = .int .i64 k) (hk : (Lit.int .i64 k).wf = true) (hv : a.eval v = .func (.func f) #[dv] #[])
    (hK : ∀ w', FnMap w' b dv (ks ++ [(k, f)]) → w.grownBy w' (some b) → wpList Tryz.prog ops Q rest (a.put o.dst undef) w') :
    wpList Tryz.prog ops Q (o :: rest) a w := by
  refine wpList_insert_own hg m x v hop b ks.length _ hm hown hn k _ hx hk hv ?_
  intro w' h1 h2
  refine hK w' ?_ h2
  unfold FnMap fnD
  rw [List.foldl_append, List.length_append]
  exact h1

theorem fnD_cons (dv : Value) (l : List (Int × Nat)) (p : Int × Nat) : fnD dv (p :: l).reverse = (fnD dv l.reverse).put (.int .i64 p.1) (.held (.func (.func p.2) #[dv] #[])) := by
  unfold fnD
  rw [List.reverse_cons, List.foldl_append]
  rfl

theorem fnD_isMap (dv : Value) (l : List (Int × Nat)) : IsMap (fnD dv l.reverse) := by
  induction l with
  | nil => exact ⟨_, rfl⟩
  | cons p l ih => rw [fnD_cons]; exact ih.put _ _

theorem fnD_at (dv : Value) (z : DataW Value) (k : Int) : ∀ (l : List (Int × Nat)), (fnD dv l.reverse).atKey (.int .i64 k) z = (match l.find? (fun p => p.1 == k) with | some p => .held (.func (.func p.2) #[dv] #[]) | none => z) ∧ has (fnD dv l.reverse) (.int .i64 k) = (l.find? (fun p => p.1 == k)).isSome := by
  intro l
  induction l with
  | nil => exact ⟨rfl, rfl⟩
  | cons p l ih =>
    rw [fnD_cons, List.find?_cons]
    by_cases h : p.1 = k
    · subst h
      rw [beq_self_eq_true]
      exact ⟨atKey_put_same (k := .int .i64 p.1) (fnD_isMap dv l) (by trivial) _ _, has_put_same (k := .int .i64 p.1) (fnD_isMap dv l) (by trivial) _⟩
    · have hne : (Lit.int .i64 k) ≠ (Lit.int .i64 p.1) := fun e => by cases e; exact h rfl
      have hb : (p.1 == k) = false := by simpa using h
      rw [hb, atKey_put_other hne, has_put_other hne]
      exact ih

/-- a key that is there -/
theorem wpList_lookup_there {w : World} {ops : Array Oper} {rest : List Oper} {o : Oper} {a : Act} {Q : Exit → Act → World → Prop}
    (hg : o.guard = none) (m x : Operand) (hop : o.op = Op.lookup 106 m x true) (b : Nat) (dv : Value) (ks : List (Int × Nat))
    (hm : a.eval m = .map (some b)) (hown : FnMap w b dv ks) (k : Int) (hx : a.eval x = .int .i64 k) (hk : (Lit.int .i64 k).wf = true) (f : Nat) (hf : (ks.reverse.find? (fun p => p.1 == k)).map Prod.snd = some f)
    (hK : wpList Tryz.prog ops Q rest (a.put o.dst (.tuple #[.func (.func f) #[dv] #[], .bool true])) w) :
    wpList Tryz.prog ops Q (o :: rest) a w := by
  obtain ⟨p, hp, rfl⟩ := Option.map_eq_some_iff.1 hf
  obtain ⟨h1, h2⟩ := fnD_at dv (.held .nilFunc) k ks.reverse
  rw [List.reverse_reverse, hp] at h1 h2
  exact wpList_lookup_fn hg m x hop b ks.length _ hm hown k hx hk _ (Tryz.zeroValue104 _) _ true h1 h2 hK

/-- a key that is not -/
theorem wpList_lookup_away {w : World} {ops : Array Oper} {rest : List Oper} {o : Oper} {a : Act} {Q : Exit → Act → World → Prop}
    (hg : o.guard = none) (m x : Operand) (hop : o.op = Op.lookup 106 m x true) (b : Nat) (dv : Value) (ks : List (Int × Nat))
    (hm : a.eval m = .map (some b)) (hown : FnMap w b dv ks) (k : Int) (hx : a.eval x = .int .i64 k) (hk : (Lit.int .i64 k).wf = true) (hf : ks.reverse.find? (fun p => p.1 == k) = none)
    (hK : wpList Tryz.prog ops Q rest (a.put o.dst (.tuple #[.nilFunc, .bool false])) w) :
    wpList Tryz.prog ops Q (o :: rest) a w := by
  obtain ⟨h1, h2⟩ := fnD_at dv (.held .nilFunc) k ks.reverse
  rw [List.reverse_reverse, hf] at h1 h2
  exact wpList_lookup_fn hg m x hop b ks.length _ hm hown k hx hk _ (Tryz.zeroValue104 _) _ false h1 h2 hK

end Go.Proofs.YtnjcmcnjgdjbiaaGreatDoor

namespace Go.Proofs.YtnjcmcnjgdjbiaaGreatDoor
open Go.RowKit

/-- a call as the program holds it -/
structure CallV where
  op : Int
  ref : Int
  p : Nat
  a : Nat
  b : Nat
  deny : Bool
  dp : Option Addr
  dn : Nat
  dc : Nat

/-- an answer as the program holds it -/
structure AnsV where
  e : Int
  v : Nat
  dp : Option Addr
  dn : Nat
  dc : Nat
  h : Nat
  l : Nat
  bl : Int
  fr : Int

def AnsV.val (a : AnsV) : Value := .agg #[.int .i64 a.e, .int .u64 a.v, .slice a.dp a.dn a.dc, .int .u64 a.h, .int .u64 a.l, .int .i64 a.bl, .int .i64 a.fr]

/-- a call that answered, and what it turned beside a block of its own -/
def Done (w : World) (Q : AnsV → World → World → Prop) (e : Ending) (w' : World) : Prop :=
  ∃ an : AnsV, e = .returned an.val ∧ ∃ W W1 b, Touch Nothing w W ∧ Q an W W1 ∧ w.heap.size ≤ b ∧ b < W.heap.size ∧ Touch (· = b) W1 w'

def CallV.val (c : CallV) : Value := .agg #[.int .i64 c.op, .int .i64 c.ref, .int .u64 c.p, .int .u64 c.a, .int .u64 c.b, .bool c.deny, (.slice c.dp c.dn c.dc)]
def CallV.doer (c : CallV) (hb q : Nat) : Value := .agg #[.pointer (some ⟨hb, 0, none⟩), .int .u64 q, .int .i64 c.op, .int .i64 c.ref, .int .u64 c.p, .int .u64 c.a, .int .u64 c.b, .bool c.deny, (.slice c.dp c.dn c.dc)]

end Go.Proofs.YtnjcmcnjgdjbiaaGreatDoor

namespace Go.Proofs.YtnjcmcnjgdjbiaaGreatDoor
open Go.RowKit

def AnsV.cells (a : AnsV) : List Value := [.int .i64 a.e, .int .u64 a.v, .slice a.dp a.dn a.dc, .int .u64 a.h, .int .u64 a.l, .int .i64 a.bl, .int .i64 a.fr]

/-- a slice of answers -/
abbrev Anss (w : World) (v : Value) (aa : List AnsV) : Prop := Row w 38 7 v aa.length (aa.flatMap AnsV.cells)

theorem flat7_get (l : List AnsV) : ∀ (i : Nat) (p : AnsV), l[i]? = some p → ∀ (j : Nat) (u : Value), p.cells[j]? = some u → (l.flatMap AnsV.cells)[i * 7 + j]? = some u := by
  induction l with
  | nil => intro i p h; simp at h
  | cons a l ih =>
    intro i p h j u hu
    cases i with
    | zero =>
      simp at h
      subst h
      have hj : j < 7 := by have := (List.getElem?_eq_some_iff.1 hu).1; simpa [AnsV.cells] using this
      rw [List.flatMap_cons, Nat.zero_mul, Nat.zero_add, List.getElem?_append_left (by simpa [AnsV.cells] using hj)]
      exact hu
    | succ i =>
      simp at h
      rw [List.flatMap_cons, List.getElem?_append_right (by simp [AnsV.cells]; omega)]
      have : (i + 1) * 7 + j - a.cells.length = i * 7 + j := by simp [AnsV.cells]; omega
      rw [this]
      exact ih i p h j u hu

theorem flat7_len (l : List AnsV) : (l.flatMap AnsV.cells).length = l.length * 7 := by
  induction l with
  | nil => rfl
  | cons a l ih => rw [List.flatMap_cons, List.length_append, ih]; simp [AnsV.cells]; omega

def Addressed (w : World) (q : Nat) (e : Ending) (w' : World) : Prop := e = .returned (.tuple #[.int .u64 q, .bool true]) ∧ Touch Nothing w w'

theorem address_zero {w : World} (c : CallV) (av : Value) (h : c.ref = 0) : Calls Tryz.prog 38 #[c.val, av] w (Addressed w c.p) := by
  obtain ⟨op, ref, p, a, b, deny, dp, dn, dc⟩ := c
  simp only at h
  subst h
  unfold CallV.val
  go_enter Tryz.func38, Tryz.ntmps38
  go_wp2_with fail
  go_ret2
  exact ⟨rfl, (Touch.refl Nothing w).alloc _⟩

set_option maxRecDepth 100000 in
theorem address_err {w : World} (c : CallV) (av : Value) (aa : List AnsV) (A : Anss w av aa) (j : Nat) (x : AnsV) (h : c.ref = (j : Int) + 1) (hx : aa[j]? = some x) (he : x.e ≠ 0) : Calls Tryz.prog 38 #[c.val, av] w (Addressed w c.p) := by
  have hj : j < aa.length := (List.getElem?_eq_some_iff.1 hx).1
  obtain ⟨g, cap, hv, hcap, hg⟩ := A.form (by omega)
  rw [hv] at A
  subst hv
  have hcell : ∀ k u, x.cells[k]? = some u → w.cell? ⟨g, j * 7 + k, none⟩ = some u := fun k u hu => by
    have hk : k < 7 := by have := (List.getElem?_eq_some_iff.1 hu).1; simpa [AnsV.cells] using this
    rw [A.cell _ (by omega)]
    exact flat7_get aa j x hx k u hu
  have d0 := hcell 0 _ rfl
  have d1 := hcell 1 _ rfl
  have d2 := hcell 2 _ rfl
  have d3 := hcell 3 _ rfl
  have d4 := hcell 4 _ rfl
  have d5 := hcell 5 _ rfl
  have d6 := hcell 6 _ rfl
  simp only [Nat.add_zero] at d0
  have hmx : aa.length ≤ 9223372036854775807 := by
    rcases A.2 with ⟨h0, _⟩ | ⟨g', cap', cur, hv', _, _, hc', hm, _⟩
    · cases h0
    · unfold maxLen at hm; omega
  obtain ⟨op, ref, p, a, b, deny, dp, dn, dc⟩ := c
  obtain ⟨e, v, xp, xn, xc, xh, xl, xb, xf⟩ := x
  simp only at h he
  subst h
  have hne : (e != 0) = true := by rw [bne_iff_ne]; exact he
  have hlt : (j : Int) < (aa.length : Int) := by omega
  have hr0 : (((j : Int) + 1) == 0) = false := by rw [beq_eq_false_iff_ne]; omega
  unfold CallV.val
  clear hcell A hx he hcap
  go_enter Tryz.func38, Tryz.ntmps38
  go_wp2_with fail
  go_ret2
  exact ⟨rfl, ((Touch.refl Nothing w).alloc _).alloc _⟩

set_option maxRecDepth 100000 in
theorem address_ok {w : World} (c : CallV) (av : Value) (aa : List AnsV) (A : Anss w av aa) (j : Nat) (x : AnsV) (h : c.ref = (j : Int) + 1) (hx : aa[j]? = some x) (he : x.e = 0) (hs : x.v + c.p ≤ 18446744073709551615) : Calls Tryz.prog 38 #[c.val, av] w (Addressed w (x.v + c.p)) := by
  have hj : j < aa.length := (List.getElem?_eq_some_iff.1 hx).1
  obtain ⟨g, cap, hv, hcap, hg⟩ := A.form (by omega)
  rw [hv] at A
  subst hv
  have hcell : ∀ k u, x.cells[k]? = some u → w.cell? ⟨g, j * 7 + k, none⟩ = some u := fun k u hu => by
    have hk : k < 7 := by have := (List.getElem?_eq_some_iff.1 hu).1; simpa [AnsV.cells] using this
    rw [A.cell _ (by omega)]
    exact flat7_get aa j x hx k u hu
  have d0 := hcell 0 _ rfl
  have d1 := hcell 1 _ rfl
  have d2 := hcell 2 _ rfl
  have d3 := hcell 3 _ rfl
  have d4 := hcell 4 _ rfl
  have d5 := hcell 5 _ rfl
  have d6 := hcell 6 _ rfl
  simp only [Nat.add_zero] at d0
  have hmx : aa.length ≤ 9223372036854775807 := by
    rcases A.2 with ⟨h0, _⟩ | ⟨g', cap', cur, hv', _, _, hc', hm, _⟩
    · cases h0
    · unfold maxLen at hm; omega
  obtain ⟨op, ref, p, a, b, deny, dp, dn, dc⟩ := c
  obtain ⟨e, v, xp, xn, xc, xh, xl, xb, xf⟩ := x
  simp only at h he hs
  subst h
  subst he
  have hlt : (j : Int) < (aa.length : Int) := by omega
  have hr0 : (((j : Int) + 1) == 0) = false := by rw [beq_eq_false_iff_ne]; omega
  have hs' : (v : Int) + (p : Int) ≤ 18446744073709551615 := by omega
  unfold CallV.val
  clear hcell A hx hcap hs
  go_enter Tryz.func38, Tryz.ntmps38
  go_wp2_with fail
  go_ret2
  exact ⟨by simp, ((Touch.refl Nothing w).alloc _).alloc _⟩

end Go.Proofs.YtnjcmcnjgdjbiaaGreatDoor

namespace Go.Proofs.YtnjcmcnjgdjbiaaGreatDoor
open Go.RowKit

/-- an answer that is a number or an error -/
def numAns (v : Nat) (e : Int) : AnsV := if e = 0 then ⟨0, v, none, 0, 0, 0, 0, 0, 0⟩ else ⟨e, 0, none, 0, 0, 0, 0, 0, 0⟩

/-- an answer that is an error alone -/
def errAns (e : Int) : AnsV := ⟨e, 0, none, 0, 0, 0, 0, 0, 0⟩

theorem value_ (v : Nat) (er : Int) (w : World) : Calls Tryz.prog 87 #[.int .u64 v, .int .i64 er] w fun e w' => e = .returned (numAns v er).val ∧ Touch Nothing w w' := by
  have T0 := Lib.hid (show Touch Nothing w (w.alloc (.cells #[.int .i64 0, .int .u64 0, .slice none 0 0, .int .u64 0, .int .u64 0, .int .i64 0, .int .i64 0] 38)) from (Touch.refl _ _).alloc _)
  by_cases h : er = 0
  · subst h
    go_enter Tryz.func87, Tryz.ntmps87
    go_wp2_with fail
    exact bodyPost_ret (v := (numAns v 0).val) (by simp [results, Tryz.results87, go_sem, numAns, AnsV.val]) rfl ⟨rfl, (Touch.refl _ _).alloc _⟩
  · have hne : (er != 0) = true := by rw [bne_iff_ne]; exact h
    have hN : numAns v er = errAns er := by unfold numAns errAns; rw [if_neg h]
    rw [hN]
    have H := Lib.hid h
    clear h hN
    go_enter Tryz.func87, Tryz.ntmps87
    go_wp2_with fail
    exact bodyPost_ret (v := (errAns er).val) (by simp [results, Tryz.results87, go_sem, errAns, AnsV.val]) rfl ⟨rfl, (Touch.refl _ _).alloc _⟩

/-- what an operation may turn -/
def QHp (hb s pb : Nat) (K : BuL) (β' : Bu) (ps' : List Int) (a0 an : AnsV) (W W1 : World) : Prop :=
  an = a0 ∧ ∃ K', HpRep 0 W1 hb s pb K' β' ps' ∧ K.Next W K' ∧ Touch (· ∈ hb :: s :: K.fp) W W1

/-- behind a method's own block -/
theorem Heaped.out {w W w1 w2 : World} {hb s pb b : Nat} {K : BuL} {β β' : Bu} {ps ps' : List Int} {v : Value} {e : Ending} (R : HpRep 0 w hb s pb K β ps) (T0 : Touch Nothing w W) (H : Heaped W hb s pb K β' ps' v e w1) (hb1 : w.heap.size ≤ b) (hb2 : b < W.heap.size) (T2 : Touch (· = b) w1 w2) :
    ∃ K', HpRep 0 w2 hb s pb K' β' ps' ∧ K.Next w K' ∧ Touch (· ∈ hb :: s :: K.fp) w w2 := by
  obtain ⟨-, K', R1, N1, T1⟩ := H
  have hl := R.lt
  have hne : ∀ k ∈ hb :: s :: pb :: K'.fp, ¬ k = b := by
    intro k hk e
    simp only [List.mem_cons] at hk
    rcases hk with h | h | h | h
    · have := hl k (by simp [h]); omega
    · have := hl k (by simp [h]); omega
    · have := hl k (by simp [h]); omega
    · rcases N1.fresh k h with h | h
      · have := hl k (by simp [h]); omega
      · omega
  have hg := R.glob.size
  refine ⟨K', R1.touch T2 hne (fun k hk e => by omega), ⟨N1.bb, N1.sb, N1.mb, fun k hk => ?_⟩, (T0.none_.trans T1).trans' T2 (fun i hi e => by omega)⟩
  rcases N1.fresh k hk with h | h
  · exact .inl h
  · exact .inr (Nat.le_trans T0.size h)

theorem Looked.heaped {w w' : World} {hb s pb : Nat} {K : BuL} {β : Bu} {ps : List Int} {v : Value} {e : Ending} (H : Looked w hb s pb K β ps v e w') : Heaped w hb s pb K β ps v e w' :=
  ⟨H.1, K, H.2.1, BuL.Next.refl _ _, H.2.2.mono (fun k _ h => by simp [h])⟩

/-- seven cells laid -/
def laid7 (w : World) (b : Nat) (an : AnsV) : World :=
  ((((((w.setCell ⟨b, 0, none⟩ (.int .i64 an.e)).setCell ⟨b, 1, none⟩ (.int .u64 an.v)).setCell ⟨b, 2, none⟩ (.slice an.dp an.dn an.dc)).setCell ⟨b, 3, none⟩ (.int .u64 an.h)).setCell ⟨b, 4, none⟩ (.int .u64 an.l)).setCell ⟨b, 5, none⟩ (.int .i64 an.bl)).setCell ⟨b, 6, none⟩ (.int .i64 an.fr)

theorem laid7_touch (w : World) (b : Nat) (an : AnsV) : Touch (· = b) w (laid7 w b an) :=
  ((((((Touch.cellAt w b 0 _).trans (Touch.cellAt _ b 1 _)).trans (Touch.cellAt _ b 2 _)).trans (Touch.cellAt _ b 3 _)).trans (Touch.cellAt _ b 4 _)).trans (Touch.cellAt _ b 5 _)).trans (Touch.cellAt _ b 6 _)

theorem laid7_blk {w : World} {b : Nat} {z0 z1 z2 z3 z4 z5 z6 : Value} (h : Blk w b 38 [z0, z1, z2, z3, z4, z5, z6]) (an : AnsV) : Blk (laid7 w b an) b 38 an.cells :=
  ((((((h.set 0 _).set 1 _).set 2 _).set 3 _).set 4 _).set 5 _).set 6 _

set_option maxRecDepth 100000 in
set_option maxHeartbeats 1000000 in
theorem meth_malloc {w : World} {hb s pb : Nat} {K : BuL} {β β' : Bu} {ps ps' : List Int} (R : HpRep 0 w hb s pb K β ps) (c : CallV) (q p : Nat) (er : Int)
    (HM : ∀ W, HpRep 0 W hb s pb K β ps → Calls Tryz.prog 88 #[.pointer (some ⟨hb, 0, none⟩), .int .u64 c.a, .bool c.deny] W (Heaped W hb s pb K β' ps' (.tuple #[.int .u64 p, .int .i64 er]))) :
    Calls Tryz.prog 39 #[c.doer hb q] w fun e w' => ∃ an : AnsV, e = .returned an.val ∧ QHp hb s pb K β' ps' (numAns p er) an w w' := by
  obtain ⟨op, ref, pp, a, b, deny, dp, dn, dc⟩ := c
  unfold CallV.doer at *
  have T0 : Touch Nothing w ((w.alloc (.cells #[.pointer (some ⟨hb, 0, none⟩), .int .u64 q, .int .i64 op, .int .i64 ref, .int .u64 pp, .int .u64 a, .int .u64 b, .bool deny, .slice dp dn dc] 103)).alloc (.cells #[.int .i64 0, .int .u64 0, .slice none 0 0, .int .u64 0, .int .u64 0, .int .i64 0, .int .i64 0] 38)) := ((Touch.refl _ w).alloc _).alloc _
  have hsz : (w.alloc (.cells #[.pointer (some ⟨hb, 0, none⟩), .int .u64 q, .int .i64 op, .int .i64 ref, .int .u64 pp, .int .u64 a, .int .u64 b, .bool deny, .slice dp dn dc] 103)).heap.size = w.heap.size + 1 := by simp
  have R0 := Blk.new (w.alloc (.cells #[.pointer (some ⟨hb, 0, none⟩), .int .u64 q, .int .i64 op, .int .i64 ref, .int .u64 pp, .int .u64 a, .int .u64 b, .bool deny, .slice dp dn dc] 103)) #[.int .i64 0, .int .u64 0, .slice none 0 0, .int .u64 0, .int .u64 0, .int .i64 0, .int .i64 0] 38
  rw [hsz] at R0
  have HM0 := Lib.hid (HM _ (R.touch0 T0))
  have HR0 := Lib.hid R0
  have HT0 := Lib.hid T0
  have HV := Lib.hid (value_ p er)
  have HR := Lib.hid R
  have hlt := R.lt
  have HL := Lib.hid hlt
  clear R HM T0 R0 hsz hlt
  go_enter Tryz.func39, Tryz.ntmps39
  go_wp2_with fail
  generalize (w.alloc (.cells #[.pointer (some ⟨hb, 0, none⟩), .int .u64 q, .int .i64 op, .int .i64 ref, .int .u64 pp, .int .u64 a, .int .u64 b, .bool deny, .slice dp dn dc] 103)).alloc (.cells #[.int .i64 0, .int .u64 0, .slice none 0 0, .int .u64 0, .int .u64 0, .int .i64 0, .int .i64 0] 38) = w1 at *
  refine HM0.out.mono ?_
  rintro e w2 hH
  have HH := Lib.hid hH
  obtain ⟨rfl, K', R2, N2, T2⟩ := hH
  have hnot : ¬ (w.heap.size + 1 ∈ hb :: s :: K.fp) := fun h => by
    simp only [List.mem_cons] at h
    rcases h with h | h | h
    · have := HL.out hb (by simp); omega
    · have := HL.out s (by simp); omega
    · have := HL.out (w.heap.size + 1) (by simp [h]); omega
  have B2 := Lib.hid (HR0.out.touch T2 hnot)
  clear R2 N2 T2 hnot
  go_wp2_with fail
  refine (HV.out _).mono ?_
  rintro e w3 ⟨rfl, T3⟩
  have R3 := B2.out.touch T3 (fun h => h)
  have HT3 := Lib.hid T3
  have z0 : w3.cell? ⟨w.heap.size + 1, 0, none⟩ = some (.int .i64 0) := R3.cell 0
  have f0 := R3.free 0
  have z1 : w3.cell? ⟨w.heap.size + 1, 1, none⟩ = some (.int .u64 0) := R3.cell 1
  have f1 := R3.free 1
  have z2 : w3.cell? ⟨w.heap.size + 1, 2, none⟩ = some (.slice none 0 0) := R3.cell 2
  have f2 := R3.free 2
  have z3 : w3.cell? ⟨w.heap.size + 1, 3, none⟩ = some (.int .u64 0) := R3.cell 3
  have f3 := R3.free 3
  have z4 : w3.cell? ⟨w.heap.size + 1, 4, none⟩ = some (.int .u64 0) := R3.cell 4
  have f4 := R3.free 4
  have z5 : w3.cell? ⟨w.heap.size + 1, 5, none⟩ = some (.int .i64 0) := R3.cell 5
  have f5 := R3.free 5
  have z6 : w3.cell? ⟨w.heap.size + 1, 6, none⟩ = some (.int .i64 0) := R3.cell 6
  have f6 := R3.free 6
  generalize hN : numAns p er = an at *
  have HN := Lib.hid hN
  have HB := Lib.hid (laid7_blk R3 an)
  have HTL := Lib.hid (laid7_touch w3 (w.heap.size + 1) an)
  clear R3 T3 hN
  obtain ⟨ae, avv, adp, adn, adc, ah, al, abl, afr⟩ := an
  unfold laid7 at *
  unfold AnsV.val at *
  go_wp2_with fail
  have y0 := HB.out.cell 0
  have y1 := HB.out.cell 1
  have y2 := HB.out.cell 2
  have y3 := HB.out.cell 3
  have y4 := HB.out.cell 4
  have y5 := HB.out.cell 5
  have y6 := HB.out.cell 6
  simp [AnsV.cells] at y0 y1 y2 y3 y4 y5 y6
  exact bodyPost_ret (v := .agg #[.int .i64 ae, .int .u64 avv, .slice adp adn adc, .int .u64 ah, .int .u64 al, .int .i64 abl, .int .i64 afr]) (by simp [results, Tryz.results39, go_sem, y0, y1, y2, y3, y4, y5, y6]) rfl ⟨⟨ae, avv, adp, adn, adc, ah, al, abl, afr⟩, rfl, HN.out.symm, Heaped.out HR.out HT0.out HH.out (by omega) HR0.out.lt (HT3.out.none_.trans HTL.out)⟩

end Go.Proofs.YtnjcmcnjgdjbiaaGreatDoor

