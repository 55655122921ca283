/- The walks of package pagemap: what a map is, and the calls that only read it (At, Pages, size, cells, within, plain, Head). The walks of package pagemap, second part: the calls that write a slab page's description (First, Chain, Own, Slab). Conditions: the page is there and is a slab, the numbers are in range. The walks of package pagemap, third part: Own. Conditions: the page is a slab, the cell is one of its cells and is not yet as asked. The walks of package pagemap, fourth part: Pair, Flip, Slab. Conditions: the page is there, the order is below the map's (Pair, Flip). The walks of package pagemap, fifth part: Slab, Run. Go's '!=' on two pages' descriptions. -/
import Derived.Test.YtnjcmcnjgdjbiaaGreatDoorLgSets
import Derived.Laws.StructEq
import Derived.ChangeKeysEq
namespace Go.Proofs.YtnjcmcnjgdjbiaaGreatDoor
open Go.RowKit

/-- a page's description -/
structure Pg where
  kind : Int
  order : Int
  cls : Int
  live : Int
  next : Int
  prev : Int
  first : Int
  b0 : Nat
  b1 : Nat
  b2 : Nat
  b3 : Nat

def Pg.cells (p : Pg) : List Value := [.int .i64 p.kind, .int .i64 p.order, .int .i64 p.cls, .int .i64 p.live, .int .i64 p.next, .int .i64 p.prev, .int .i64 p.first, .int .u64 p.b0, .int .u64 p.b1, .int .u64 p.b2, .int .u64 p.b3]

/-- a page as a value -/
def Pg.val (p : Pg) : Value := .agg #[.int .i64 p.kind, .int .i64 p.order, .int .i64 p.cls, .int .i64 p.live, .int .i64 p.next, .int .i64 p.prev, .int .i64 p.first, .int .u64 p.b0, .int .u64 p.b1, .int .u64 p.b2, .int .u64 p.b3]

/-- fields within what a heap has -/
structure Pg.ok (p : Pg) : Prop where
  kind : 0 ≤ p.kind ∧ p.kind ≤ 4
  order : 0 ≤ p.order ∧ p.order ≤ 8
  cls : 0 ≤ p.cls ∧ p.cls ≤ 7
  live : 0 ≤ p.live ∧ p.live ≤ 256
  next : -1 ≤ p.next ∧ p.next ≤ 1023
  prev : -1 ≤ p.prev ∧ p.prev ≤ 1023
  first : -1 ≤ p.first ∧ p.first ≤ 255
  w0 : p.b0 < 18446744073709551616
  w1 : p.b1 < 18446744073709551616
  w2 : p.b2 < 18446744073709551616
  w3 : p.b3 < 18446744073709551616

theorem Pg.size (p : Pg) : p.cells.length = 11 := rfl

theorem pow_le8' {o : Nat} (h : o ≤ 8) : 1 ≤ 2 ^ o ∧ 2 ^ o ≤ 256 := ⟨Nat.pos_of_ne_zero (by simp), Nat.pow_le_pow_right (n := 2) (by omega) h⟩

/-- a map's numbers -/
structure Mp where
  order : Nat
  pages : List Pg
  pairs : List PSet

/-- where a map lies -/
structure MpL where
  mb : Nat
  gv : Value
  sv : Value
  sets : List (Nat × Nat)

def MpL.fp (L : MpL) : List Nat := L.mb :: (L.gv.ownBlock.toList ++ L.sv.ownBlock.toList ++ L.sets.flatMap fun l => [l.1, l.2])

structure Mp.ok (μ : Mp) : Prop where
  order : μ.order ≤ 8
  len : μ.pages.length ≤ 1024
  pairs : μ.pairs.length = μ.order
  page : ∀ p ∈ μ.pages, p.ok

structure MpRep (w : World) (L : MpL) (μ : Mp) : Prop where
  blk : Blk w L.mb 194 [.int .i64 (μ.order : Nat), L.gv, L.sv]
  pages : Row w 128 11 L.gv μ.pages.length (μ.pages.flatMap Pg.cells)
  pairs : Row w 218 1 L.sv μ.pairs.length (L.sets.map fun l => .pointer (some ⟨l.1, 0, none⟩))
  sets : ∀ (i : Nat) (l : Nat × Nat) (s : PSet), L.sets[i]? = some l → μ.pairs[i]? = some s → SetRep w l s
  apart : L.fp.Nodup
  ok : μ.ok

theorem MpRep.touch {w w' : World} {L : MpL} {μ : Mp} {S : Nat → Prop} (R : MpRep w L μ) (T : Touch S w w') (h : ∀ k, k ∈ L.fp → ¬ S k) : MpRep w' L μ := by
  refine ⟨R.blk.touch T (h _ (by simp [MpL.fp])), R.pages.touch T (fun g hg => h g (by simp [MpL.fp, hg])), R.pairs.touch T (fun g hg => h g (by simp [MpL.fp, hg])), ?_, R.apart, R.ok⟩
  intro i l s hl hs
  have hm := List.mem_of_getElem? hl
  have h1 : l.1 ∈ L.fp := by simp only [MpL.fp, List.mem_cons, List.mem_append, List.mem_flatMap]; exact .inr (.inr ⟨l, hm, by simp⟩)
  have h2 : l.2 ∈ L.fp := by simp only [MpL.fp, List.mem_cons, List.mem_append, List.mem_flatMap]; exact .inr (.inr ⟨l, hm, by simp⟩)
  exact (R.sets i l s hl hs).touch T (h _ h1) (h _ h2)

theorem MpRep.touch0 {w w' : World} {L : MpL} {μ : Mp} (R : MpRep w L μ) (T : Touch Nothing w w') : MpRep w' L μ := R.touch T (fun _ _ h => h)

theorem MpRep.setLen {w : World} {L : MpL} {μ : Mp} (R : MpRep w L μ) : L.sets.length = μ.pairs.length := by
  have := R.pairs.1
  simpa using this

theorem MpRep.lt {w : World} {L : MpL} {μ : Mp} (R : MpRep w L μ) : ∀ k ∈ L.fp, k < w.heap.size := by
  intro k hk
  simp only [MpL.fp, List.mem_cons, List.mem_append, Option.mem_toList, List.mem_flatMap, List.not_mem_nil, or_false] at hk
  rcases hk with rfl | (hk | hk) | ⟨l, hl, hk⟩
  · exact R.blk.lt
  · exact R.pages.lt hk
  · exact R.pairs.lt hk
  · obtain ⟨i, hi⟩ := List.mem_iff_getElem?.1 hl
    have hlen := R.setLen
    have hi' := (List.getElem?_eq_some_iff.1 hi).1
    have hs := R.sets i l _ hi (List.getElem?_eq_getElem (by omega))
    rcases hk with rfl | rfl
    · exact hs.blk.lt
    · exact hs.words.lt

theorem flat_get (l : List Pg) : ∀ (i : Nat) (p : Pg), l[i]? = some p → ∀ (j : Nat) (u : Value), p.cells[j]? = some u → (l.flatMap Pg.cells)[i * 11 + j]? = some u := by
  induction l with
  | nil => intro i p hp; simp at hp
  | cons q l ih =>
    intro i p hp j u hu
    have hq := q.size
    rw [List.flatMap_cons]
    cases i with
    | zero =>
      simp only [List.getElem?_cons_zero, Option.some.injEq] at hp
      subst hp
      have hj := (List.getElem?_eq_some_iff.1 hu).1
      rw [Nat.zero_mul, Nat.zero_add, List.getElem?_append_left hj]
      exact hu
    | succ i =>
      rw [List.getElem?_append_right (by omega), hq]
      have : (i + 1) * 11 + j - 11 = i * 11 + j := by omega
      rw [this]
      exact ih i p (by simpa using hp) j u hu

/-- where the cells of page i lie -/
theorem MpRep.page {w : World} {L : MpL} {μ : Mp} (R : MpRep w L μ) {i : Nat} {p : Pg} (hi : μ.pages[i]? = some p) :
    ∃ g cap, L.gv = .slice (some ⟨g, 0, none⟩) μ.pages.length cap ∧ μ.pages.length ≤ cap ∧ (∀ j u, p.cells[j]? = some u → w.cell? ⟨g, i * 11 + j, none⟩ = some u) ∧ ∀ j, w.frozen? ⟨g, j, none⟩ = false := by
  have hlt := (List.getElem?_eq_some_iff.1 hi).1
  obtain ⟨g, cap, hv, hc, _⟩ := R.pages.form (by omega)
  have hr := R.pages
  rw [hv] at hr
  refine ⟨g, cap, hv, hc, fun j u hu => ?_, fun j => hr.free j⟩
  have hj := (List.getElem?_eq_some_iff.1 hu).1
  have hp := p.size
  rw [hr.cell _ (by omega)]
  exact flat_get _ i p hi j u hu

theorem MpRep.gv_len {w : World} {L : MpL} {μ : Mp} (R : MpRep w L μ) : ∃ pa cap, L.gv = .slice pa μ.pages.length cap ∧ μ.pages.length ≤ cap := by
  rcases R.pages.2 with ⟨h, h0⟩ | ⟨g, cap, cur, h, _, _, hc, _⟩
  · exact ⟨none, 0, by rw [h, h0], by omega⟩
  · exact ⟨_, cap, h, hc⟩

theorem MpRep.pages_ {w : World} {L : MpL} {μ : Mp} (R : MpRep w L μ) :
    Calls Tryz.prog 64 #[.pointer (some ⟨L.mb, 0, none⟩)] w fun e w' => e = .returned (.int .i64 (μ.pages.length : Nat)) ∧ w = w' := by
  obtain ⟨pa, cap, hp, hc⟩ := R.gv_len
  have c1 := R.blk.cell 1
  simp [hp] at c1
  clear R hc
  go_enter Tryz.func64, Tryz.ntmps64
  go_wp2
  go_ret
  exact ⟨rfl, rfl⟩

theorem MpRep.at_ {w : World} {L : MpL} {μ : Mp} (R : MpRep w L μ) {i : Nat} {p : Pg} (hi : μ.pages[i]? = some p) :
    Calls Tryz.prog 65 #[.pointer (some ⟨L.mb, 0, none⟩), .int .i64 i] w fun e w' => e = .returned (.tuple #[p.val, .bool true]) ∧ Touch Nothing w w' := by
  obtain ⟨g, cap, hv, hc, hcell, hfree⟩ := R.page hi
  have hlt := (List.getElem?_eq_some_iff.1 hi).1
  have c1 := R.blk.cell 1
  simp [hv] at c1
  have d0 := hcell 0 _ rfl
  have d1 := hcell 1 _ rfl
  have d2 := hcell 2 _ rfl
  have d3 := hcell 3 _ rfl
  have d4 := hcell 4 _ rfl
  have d5 := hcell 5 _ rfl
  have d6 := hcell 6 _ rfl
  have d7 := hcell 7 _ rfl
  have d8 := hcell 8 _ rfl
  have d9 := hcell 9 _ rfl
  have d10 := hcell 10 _ rfl
  simp only [Nat.add_zero] at d0
  have hl := R.ok.len
  have lmb := R.blk.lt
  have lg : g < w.heap.size := World.block_lt_of_cell? w _ d0
  clear R hcell hfree hi hv
  unfold Pg.val
  go_enter Tryz.func65, Tryz.ntmps65
  go_wp2
  exact bodyPost_ret (v := .tuple #[p.val, .bool true]) (by simp [results, Tryz.results65, go_sem, Pg.val]) rfl ⟨rfl, (Touch.refl _ _).alloc _⟩

theorem wrap64_pow {o : Nat} (h : o ≤ 8) : wrap64 (2 ^ o) = ((2 ^ o : Nat) : Int) := by
  have := pow_le8' h
  have e : (2 ^ o : Int) = ((2 ^ o : Nat) : Int) := by simp
  rw [e]
  exact IntWalk.wrap64_in _ ⟨by omega, by omega⟩

theorem MpRep.size_ {w : World} {L : MpL} {μ : Mp} (R : MpRep w L μ) :
    Calls Tryz.prog 257 #[.pointer (some ⟨L.mb, 0, none⟩)] w fun e w' => e = .returned (.int .i64 (2 ^ μ.order : Nat)) ∧ w = w' := by
  have c0 := R.blk.cell 0
  simp at c0
  have ho := R.ok.order
  have hp := pow_le8' ho
  clear R
  go_enter Tryz.func257, Tryz.ntmps257
  go_wp2
  go_ret
  rw [wrap64_pow ho]
  exact ⟨rfl, rfl⟩

theorem within_ (v lo hi : Int) (w : World) :
    Calls Tryz.prog 277 #[.int .i64 v, .int .i64 lo, .int .i64 hi] w fun e w' => e = .returned (.bool (decide (lo ≤ v ∧ v ≤ hi))) ∧ w = w' := by
  go_enter Tryz.func277, Tryz.ntmps277
  go_wp2
  all_goals
    go_ret
    refine ⟨congrArg Ending.returned (congrArg Value.bool ?_), rfl⟩
    simp
    omega

/-- a page that is no slab -/
def plainPg (kind order : Int) : Pg := ⟨kind, order, 0, 0, -1, -1, -1, 0, 0, 0, 0⟩

theorem plain_ (kind order : Int) (w : World) :
    Calls Tryz.prog 278 #[.int .i64 kind, .int .i64 order] w fun e w' => e = .returned (plainPg kind order).val ∧ w' = w.alloc (.cells #[.int .i64 kind, .int .i64 order, .int .i64 0, .int .i64 0, .int .i64 (-1), .int .i64 (-1), .int .i64 (-1), .int .u64 0, .int .u64 0, .int .u64 0, .int .u64 0] 128) := by
  unfold Pg.val plainPg
  go_enter Tryz.func278, Tryz.ntmps278
  go_wp2
  exact bodyPost_ret (v := (plainPg kind order).val) (by simp [results, Tryz.results278, go_sem, Pg.val, plainPg]) rfl ⟨rfl, rfl⟩

theorem shr256 (c : Int) (_h : 0 ≤ c ∧ c ≤ 7) : (256 : Int) / 2 ^ c.toNat = ((256 / 2 ^ c.toNat : Nat) : Int) := by simp

/-- how many cells a slab page has -/
def cellsN (c : Int) : Nat := 256 / 2 ^ c.toNat

theorem cells_ (a : Addr) (c : Int) (w : World) (hc : w.cell? ⟨a.block, a.off + 2, none⟩ = some (.int .i64 c)) (ha : a.spot = none) (h : 0 ≤ c ∧ c ≤ 7) :
    Calls Tryz.prog 281 #[.pointer (some a)] w fun e w' => e = .returned (.int .i64 (cellsN c)) ∧ w = w' := by
  obtain ⟨b, o, s⟩ := a
  obtain rfl : s = none := ha
  simp only at hc
  go_enter Tryz.func281, Tryz.ntmps281
  go_wp2
  go_ret
  refine ⟨?_, rfl⟩
  simp [cellsN]

theorem MpRep.slab_ {w : World} {L : MpL} {μ : Mp} (R : MpRep w L μ) {i : Nat} {p : Pg} (hi : μ.pages[i]? = some p) (hk : p.kind = 4) :
    ∃ g cap, L.gv = .slice (some ⟨g, 0, none⟩) μ.pages.length cap ∧
    Calls Tryz.prog 280 #[.pointer (some ⟨L.mb, 0, none⟩), .int .i64 i] w fun e w' => e = .returned (.tuple #[.pointer (some ⟨g, i * 11, none⟩), .bool true]) ∧ Touch Nothing w w' := by
  obtain ⟨g, cap, hv, hc, hcell, hfree⟩ := R.page hi
  refine ⟨g, cap, hv, ?_⟩
  have hlt := (List.getElem?_eq_some_iff.1 hi).1
  have HA := Lib.hid (R.at_ hi)
  have c1 := R.blk.cell 1
  simp [hv] at c1
  have hl := R.ok.len
  have lmb := R.blk.lt
  have HB := Lib.hid R.blk
  clear R hcell hfree hi
  go_enter Tryz.func280, Tryz.ntmps280
  go_wp2_with fail
  refine HA.out.mono ?_
  rintro e w1 ⟨rfl, T1⟩
  have c1' := (HB.out.touch T1 (fun h => h)).cell 1
  simp [hv] at c1'
  have lmb' : L.mb < w1.heap.size := Nat.lt_of_lt_of_le lmb T1.size
  have HT := Lib.hid T1
  clear T1 c1
  unfold Pg.val
  go_wp2_with fail
  go_ret2
  exact ⟨rfl, HT.out.alloc _⟩

theorem MpRep.head_ {w : World} {L : MpL} {μ : Mp} (R : MpRep w L μ) {i : Nat} {p : Pg} (hi : μ.pages[i]? = some p) (o : Nat) (ho : p.order = o) :
    Calls Tryz.prog 168 #[.pointer (some ⟨L.mb, 0, none⟩), .int .i64 i] w fun e w' => e = .returned (.int .i64 (i / 2 ^ o * 2 ^ o : Nat)) ∧ Touch Nothing w w' := by
  have hlt := (List.getElem?_eq_some_iff.1 hi).1
  have HA := Lib.hid (R.at_ hi)
  have hl := R.ok.len
  have h8 := (R.ok.page p (List.mem_of_getElem? hi)).order
  have hpw := pow_le8' (show o ≤ 8 by omega)
  have hle : i / 2 ^ o * 2 ^ o ≤ i := Nat.div_mul_le_self _ _
  have ho8 : o ≤ 8 := by omega
  have HO := Lib.hid ho
  clear R hi ho
  go_enter Tryz.func168, Tryz.ntmps168
  go_wp2_with fail
  refine HA.out.mono ?_
  rintro e w1 ⟨rfl, T1⟩
  have HT := Lib.hid T1
  clear T1
  unfold Pg.val
  rw [HO.out]
  have h8' : (0 : Int) ≤ (o : Int) := by omega
  go_wp2_with fail
  go_quiet (fail)
  go_wp2
  go_ret
  refine ⟨congrArg Ending.returned (congrArg (Value.int .i64) ?_), (HT.out.alloc _).drewN _⟩
  have e : ((i : Int) / 2 ^ o * 2 ^ o) = ((i / 2 ^ o * 2 ^ o : Nat) : Int) := by simp
  rw [e]
  generalize i / 2 ^ o * 2 ^ o = y at *
  exact IntWalk.wrap64_in _ ⟨by omega, by omega⟩

end Go.Proofs.YtnjcmcnjgdjbiaaGreatDoor

namespace Go.Proofs.YtnjcmcnjgdjbiaaGreatDoor
open Go.RowKit

def Mp.setPage (μ : Mp) (i : Nat) (p : Pg) : Mp := { μ with pages := μ.pages.set i p }

theorem flat_set (l : List Pg) : ∀ (i : Nat) (p p' : Pg) (j : Nat) (u : Value), l[i]? = some p → j < 11 → p'.cells = p.cells.set j u → (l.flatMap Pg.cells).set (i * 11 + j) u = (l.set i p').flatMap Pg.cells := by
  induction l with
  | nil => intro i p p' j u hp; simp at hp
  | cons q l ih =>
    intro i p p' j u hp hj he
    have hq := q.size
    cases i with
    | zero =>
      simp only [List.getElem?_cons_zero, Option.some.injEq] at hp
      subst hp
      rw [List.flatMap_cons, Nat.zero_mul, Nat.zero_add, List.set_append_left _ _ (by omega), List.set_cons_zero, List.flatMap_cons, he]
    | succ i =>
      rw [List.flatMap_cons, List.set_append_right _ _ (by omega), hq, List.set_cons_succ, List.flatMap_cons]
      have : (i + 1) * 11 + j - 11 = i * 11 + j := by omega
      rw [this, ih i p p' j u (by simpa using hp) hj he]

theorem MpRep.gv_ne {w : World} {L : MpL} {μ : Mp} (R : MpRep w L μ) {g : Nat} (hg : L.gv.ownBlock = some g) :
    L.mb ≠ g ∧ L.sv.ownBlock ≠ some g ∧ ∀ l ∈ L.sets, l.1 ≠ g ∧ l.2 ≠ g := by
  have h := R.apart
  simp only [MpL.fp, hg, Option.toList_some, List.nodup_cons, List.mem_append, List.mem_singleton, List.nodup_append, Option.mem_toList, List.mem_flatMap] at h
  obtain ⟨h1, ⟨_, _, h3⟩, _, h4⟩ := h
  refine ⟨fun e => h1 (.inl (.inl e)), fun e => h3 g (by simp) g e rfl, fun l hl => ⟨fun e => ?_, fun e => ?_⟩⟩
  · exact h4 g (.inl (by simp)) l.1 ⟨l, hl, by simp⟩ e.symm
  · exact h4 g (.inl (by simp)) l.2 ⟨l, hl, by simp⟩ e.symm

theorem MpRep.store {w : World} {L : MpL} {μ : Mp} (R : MpRep w L μ) {i g cap : Nat} {p p' : Pg} (hi : μ.pages[i]? = some p) (hv : L.gv = .slice (some ⟨g, 0, none⟩) μ.pages.length cap)
    {j : Nat} {u : Value} (hj : j < 11) (he : p'.cells = p.cells.set j u) (ho : p'.ok) :
    MpRep (w.setCell ⟨g, i * 11 + j, none⟩ u) L (μ.setPage i p') ∧ Touch (fun k => k = g) w (w.setCell ⟨g, i * 11 + j, none⟩ u) := by
  have hg : L.gv.ownBlock = some g := by rw [hv]; rfl
  obtain ⟨n1, n2, n3⟩ := R.gv_ne hg
  have T : Touch (fun k => k = g) w (w.setCell ⟨g, i * 11 + j, none⟩ u) := Touch.cellAt _ _ _ _
  refine ⟨⟨R.blk.touch T n1, ?_, R.pairs.touch T (fun g' hg' e => n2 (by rw [hg', e])), fun i l s hl hs => ?_, R.apart, ?_⟩, T⟩
  · have hr := R.pages
    rw [hv] at hr
    have h1 := (World.ownsRow.stored hr (i * 11 + j) u).1
    rw [flat_set _ i p p' j u hi hj he] at h1
    show World.ownsRow _ 0 128 11 L.gv (μ.pages.set i p').length _
    rw [List.length_set, hv]
    exact h1
  · have := n3 l (List.mem_of_getElem? hl)
    exact (R.sets i l s hl hs).touch T this.1 this.2
  · have o := R.ok
    refine ⟨o.order, by simpa [Mp.setPage] using o.len, o.pairs, fun q hq => ?_⟩
    rcases List.mem_or_eq_of_mem_set hq with h | h
    · exact o.page q h
    · rw [h]; exact ho

theorem Mp.setPage_get {μ : Mp} {i : Nat} {p : Pg} (p' : Pg) (h : μ.pages[i]? = some p) : (μ.setPage i p').pages[i]? = some p' := by
  have := (List.getElem?_eq_some_iff.1 h).1
  simp [Mp.setPage, this]

theorem Mp.setPage_set (μ : Mp) (i : Nat) (p p' : Pg) : (μ.setPage i p).setPage i p' = μ.setPage i p' := by
  simp [Mp.setPage, List.set_set]

theorem slice_inj {g g' n n' c c' : Nat} (h : Value.slice (some ⟨g, 0, none⟩) n c = .slice (some ⟨g', 0, none⟩) n' c') : g' = g := by
  simp at h
  exact h.1.symm

theorem MpRep.first_ {w : World} {L : MpL} {μ : Mp} (R : MpRep w L μ) {i : Nat} {p : Pg} (hi : μ.pages[i]? = some p) (hk : p.kind = 4) (c : Int) (h0 : -1 ≤ c) (h1 : c < cellsN p.cls) :
    Calls Tryz.prog 245 #[.pointer (some ⟨L.mb, 0, none⟩), .int .i64 i, .int .i64 c] w fun e w' => e = .returned (.int .i64 0) ∧ MpRep w' L (μ.setPage i { p with first := c }) ∧ Touch (fun k => some k = L.gv.ownBlock) w w' := by
  obtain ⟨g, cap, hv, hS⟩ := R.slab_ hi hk
  have hsl := Lib.hid hS
  have o := R.ok.page p (List.mem_of_getElem? hi)
  have hcl := o.cls
  have hcn : cellsN p.cls ≤ 256 := Nat.div_le_self _ _
  have HR := Lib.hid R
  have HI := Lib.hid hi
  have HV := Lib.hid hv
  have HO := Lib.hid o
  clear R hi hv hS o
  go_enter Tryz.func245, Tryz.ntmps245
  go_wp2_with fail
  refine hsl.out.mono ?_
  rintro e w1 ⟨rfl, T1⟩
  have R1 := HR.out.touch0 T1
  obtain ⟨g', cap', hv', hc', hcell, hfree⟩ := R1.page HI.out
  obtain rfl : g' = g := slice_inj (HV.out.symm.trans hv')
  have d2 := hcell 2 _ rfl
  have d6 := hcell 6 _ rfl
  have f6 := hfree (i * 11 + 6)
  have HC := Lib.hid (cells_ ⟨g', i * 11, none⟩ p.cls w1 d2 rfl hcl)
  have HW := Lib.hid (within_ c (-1) ((cellsN p.cls : Int) - 1) w1)
  have HD : decide (-1 ≤ c ∧ c ≤ (cellsN p.cls : Int) - 1) = true := by simp; omega
  rw [HD] at HW
  have HR1 := Lib.hid R1
  have HT := Lib.hid T1
  clear R1 T1 hcell hfree hv' hc' d2 HD
  go_wp2_with fail
  refine HC.out.mono ?_
  rintro e w2 ⟨rfl, rfl⟩
  go_wp2_with fail
  refine HW.out.mono ?_
  rintro e w2 ⟨rfl, rfl⟩
  go_wp2_with fail
  go_ret
  have oo := HO.out
  obtain ⟨r1, r2⟩ := HR1.out.store (p' := { p with first := c }) HI.out HV.out (j := 6) (u := .int .i64 c) (by omega) rfl
    ⟨oo.kind, oo.order, oo.cls, oo.live, oo.next, oo.prev, ⟨by show -1 ≤ c; omega, by show c ≤ 255; omega⟩, oo.w0, oo.w1, oo.w2, oo.w3⟩
  exact ⟨rfl, r1, HT.out.none_.trans (r2.mono (fun k _ e => by rw [HV.out, e]; rfl))⟩

theorem MpRep.chain_ {w : World} {L : MpL} {μ : Mp} (R : MpRep w L μ) {i : Nat} {p : Pg} (hi : μ.pages[i]? = some p) (hk : p.kind = 4) (a b : Int) (h0 : -1 ≤ a) (h1 : a < μ.pages.length) (h2 : -1 ≤ b) (h3 : b < μ.pages.length) :
    Calls Tryz.prog 282 #[.pointer (some ⟨L.mb, 0, none⟩), .int .i64 i, .int .i64 a, .int .i64 b] w fun e w' => e = .returned (.int .i64 0) ∧ MpRep w' L (μ.setPage i { p with next := a, prev := b }) ∧ Touch (fun k => some k = L.gv.ownBlock) w w' := by
  obtain ⟨g, cap, hv, hS⟩ := R.slab_ hi hk
  have hsl := Lib.hid hS
  have o := R.ok.page p (List.mem_of_getElem? hi)
  have hlen := R.ok.len
  have HR := Lib.hid R
  have HI := Lib.hid hi
  have HV := Lib.hid hv
  have HO := Lib.hid o
  clear R hi hv hS o
  go_enter Tryz.func282, Tryz.ntmps282
  go_wp2_with fail
  refine hsl.out.mono ?_
  rintro e w1 ⟨rfl, T1⟩
  have R1 := HR.out.touch0 T1
  obtain ⟨g', cap', hv', hc', hcell, hfree⟩ := R1.page HI.out
  obtain rfl : g' = g := slice_inj (HV.out.symm.trans hv')
  have d4 := hcell 4 _ rfl
  have d5 := hcell 5 _ rfl
  have f4 := hfree (i * 11 + 4)
  have f5 := hfree (i * 11 + 5)
  have c1 := R1.blk.cell 1
  simp [HV.out] at c1
  have HW := Lib.hid (within_ a (-1) ((μ.pages.length : Int) - 1) w1)
  have HD : decide (-1 ≤ a ∧ a ≤ (μ.pages.length : Int) - 1) = true := by simp; omega
  rw [HD] at HW
  have HW2 := Lib.hid (within_ b (-1) ((μ.pages.length : Int) - 1) w1)
  have HD2 : decide (-1 ≤ b ∧ b ≤ (μ.pages.length : Int) - 1) = true := by simp; omega
  rw [HD2] at HW2
  have HR1 := Lib.hid R1
  have HT := Lib.hid T1
  clear R1 T1 hcell hfree hv' hc' HD HD2
  go_wp2_with fail
  refine HW.out.mono ?_
  rintro e w2 ⟨rfl, rfl⟩
  go_wp2_with fail
  refine HW2.out.mono ?_
  rintro e w2 ⟨rfl, rfl⟩
  go_wp2_with fail
  go_ret
  have oo := HO.out
  have hl := hlen
  obtain ⟨r1, r2⟩ := HR1.out.store (p' := { p with next := a }) HI.out HV.out (j := 4) (u := .int .i64 a) (by omega) rfl
    ⟨oo.kind, oo.order, oo.cls, oo.live, ⟨by show -1 ≤ a; omega, by show a ≤ 1023; omega⟩, oo.prev, oo.first, oo.w0, oo.w1, oo.w2, oo.w3⟩
  obtain ⟨r3, r4⟩ := r1.store (p' := { p with next := a, prev := b }) (Mp.setPage_get _ HI.out) (cap := cap) (g := g') (by rw [HV.out]; simp [Mp.setPage]) (j := 5) (u := .int .i64 b) (by omega) rfl
    ⟨oo.kind, oo.order, oo.cls, oo.live, ⟨by show -1 ≤ a; omega, by show a ≤ 1023; omega⟩, ⟨by show -1 ≤ b; omega, by show b ≤ 1023; omega⟩, oo.first, oo.w0, oo.w1, oo.w2, oo.w3⟩
  rw [Mp.setPage_set] at r3
  exact ⟨rfl, r3, (HT.out.none_.trans (r2.mono (fun k _ e => by rw [HV.out, e]; rfl))).trans (r4.mono (fun k _ e => by rw [HV.out, e]; rfl))⟩

/-- word q of a page's bits -/
def Pg.word (p : Pg) (q : Nat) : Nat := match q with | 0 => p.b0 | 1 => p.b1 | 2 => p.b2 | _ => p.b3

/-- word q of a page's bits, set -/
def Pg.setWord (p : Pg) (q v : Nat) : Pg := match q with | 0 => { p with b0 := v } | 1 => { p with b1 := v } | 2 => { p with b2 := v } | _ => { p with b3 := v }

theorem Pg.word_cell (p : Pg) (q : Nat) (h : q < 4) : p.cells[7 + q]? = some (.int .u64 (p.word q)) := by
  match q, h with
  | 0, _ => rfl
  | 1, _ => rfl
  | 2, _ => rfl
  | 3, _ => rfl

theorem Pg.setWord_cells (p : Pg) (q v : Nat) (h : q < 4) : (p.setWord q v).cells = p.cells.set (7 + q) (.int .u64 v) := by
  match q, h with
  | 0, _ => rfl
  | 1, _ => rfl
  | 2, _ => rfl
  | 3, _ => rfl

theorem Pg.ok.word_lt {p : Pg} (o : p.ok) (q : Nat) (h : q < 4) : p.word q < 18446744073709551616 := by
  match q, h with
  | 0, _ => exact o.w0
  | 1, _ => exact o.w1
  | 2, _ => exact o.w2
  | 3, _ => exact o.w3

theorem Pg.ok.setWord {p : Pg} (o : p.ok) (q v : Nat) (h : q < 4) (hv : v < 18446744073709551616) : (p.setWord q v).ok := by
  match q, h with
  | 0, _ => exact ⟨o.kind, o.order, o.cls, o.live, o.next, o.prev, o.first, hv, o.w1, o.w2, o.w3⟩
  | 1, _ => exact ⟨o.kind, o.order, o.cls, o.live, o.next, o.prev, o.first, o.w0, hv, o.w2, o.w3⟩
  | 2, _ => exact ⟨o.kind, o.order, o.cls, o.live, o.next, o.prev, o.first, o.w0, o.w1, hv, o.w3⟩
  | 3, _ => exact ⟨o.kind, o.order, o.cls, o.live, o.next, o.prev, o.first, o.w0, o.w1, o.w2, hv⟩

/-- is cell c live? -/
def Pg.bit (p : Pg) (c : Nat) : Bool := (p.word (c / 64)).testBit (c % 64)

def Pg.flipBit (p : Pg) (c : Nat) : Pg := p.setWord (c / 64) (p.word (c / 64) ^^^ 2 ^ (c % 64))

end Go.Proofs.YtnjcmcnjgdjbiaaGreatDoor

namespace Go.Proofs.YtnjcmcnjgdjbiaaGreatDoor
open Go.RowKit

theorem bit_test (x r : Nat) (hx : x < 18446744073709551616) : (bits .and .u64 ((x : Int) / 2 ^ r) 1 == 1) = x.testBit r := by
  rw [and_one_int x r hx, natCast_beq_one, Nat.testBit_eq_decide_div_mod_eq]
  rfl

def Owned (Q : World → Prop) (g o1 o2 : Nat) (u1 u2 : Value) (e : Ending) (w' : World) : Prop :=
  ∃ w1, Q w1 ∧ e = .returned (.int .i64 0) ∧ w' = ((w1.setCell ⟨g, o1, none⟩ u1).setCell ⟨g, o2, none⟩ u2).drew

set_option maxRecDepth 100000 in
theorem own_cells (b g i c q r x y z : Nat) (n : Nat) (l : Int) (live : Bool) (w : World) (Q : World → Prop)
    (hsl : Calls Tryz.prog 280 #[.pointer (some ⟨b, 0, none⟩), .int .i64 i] w fun e w' => e = .returned (.tuple #[.pointer (some ⟨g, i * 11, none⟩), .bool true]) ∧ Q w')
    (hf : ∀ w1, Q w1 → (Calls Tryz.prog 281 #[.pointer (some ⟨g, i * 11, none⟩)] w1 fun e w' => e = .returned (.int .i64 n) ∧ w1 = w') ∧
      (Calls Tryz.prog 277 #[.int .i64 c, .int .i64 0, .int .i64 ((n : Int) - 1)] w1 fun e w' => e = .returned (.bool true) ∧ w1 = w') ∧
      w1.cell? ⟨g, i * 11 + 7 + q, none⟩ = some (.int .u64 x) ∧ w1.frozen? ⟨g, i * 11 + 7 + q, none⟩ = false ∧
      w1.cell? ⟨g, i * 11 + 3, none⟩ = some (.int .i64 l) ∧ w1.frozen? ⟨g, i * 11 + 3, none⟩ = false)
    (hn : n ≤ 256) (hl : 0 ≤ l ∧ l ≤ 256)
    (r1 : (c : Int) / 64 = q) (r2 : (c : Int) % 64 = r) (r3 : (c : Int).tmod 64 = r) (r4 : IntKind.i64.wrap (q : Int) = q) (hq : q < 4) (_hr : r < 64) (_hc : c < 256)
    (hb : (bits .and .u64 ((x : Int) / 2 ^ r) 1 == 1) = !live) (hy : IntKind.u64.wrap (2 ^ r) = y) (hz : bits .xor .u64 (x : Int) (y : Int) = z) :
    Calls Tryz.prog 244 #[.pointer (some ⟨b, 0, none⟩), .int .i64 i, .int .i64 c, .bool live] w (Owned Q g (i * 11 + 7 + q) (i * 11 + 3) (.int .u64 z) (.int .i64 (if live then l + 1 else l - 1))) := by
  have H1 := Lib.hid hsl
  have hF := Lib.hid hf
  clear hsl hf
  have hq' : (q : Int) < 4 := by omega
  have hne : ¬ (i * 11 + 7 + q = i * 11 + 3) := by omega
  cases live with
  | true =>
    go_enter Tryz.func244, Tryz.ntmps244
    go_wp2_with fail
    refine H1.out.mono ?_
    rintro e w1 ⟨rfl, hQ⟩
    obtain ⟨hce, hwi, cx, fx, cl, fl⟩ := hF.out w1 hQ
    have H2 := Lib.hid hce
    have H3 := Lib.hid hwi
    have HQ := Lib.hid hQ
    have cl' : (w1.setCell ⟨g, i * 11 + 7 + q, none⟩ (.int .u64 z)).cell? ⟨g, i * 11 + 3, none⟩ = some (.int .i64 l) := (World.cell?_setCell_other _ _ _ _ (by simp)).trans cl
    clear hce hwi hQ
    go_wp2_with fail
    refine H2.out.mono ?_
    rintro e w2 ⟨rfl, rfl⟩
    go_wp2_with fail
    refine H3.out.mono ?_
    rintro e w2 ⟨rfl, rfl⟩
    go_wp2_with fail
    refine wp_region_still_tail 14 (by kernel_rfl) (by kernel_rfl) ?_
    simp only [List.take_succ_cons, List.take_zero, List.drop_succ_cons, List.drop_zero, World.drew_eq]
    repeat still_step
    refine wpStill_nil ?_
    go_wp2_with fail
    go_ret
    exact ⟨_, HQ.out, rfl, rfl⟩
  | false =>
    go_enter Tryz.func244, Tryz.ntmps244
    go_wp2_with fail
    refine H1.out.mono ?_
    rintro e w1 ⟨rfl, hQ⟩
    obtain ⟨hce, hwi, cx, fx, cl, fl⟩ := hF.out w1 hQ
    have H2 := Lib.hid hce
    have H3 := Lib.hid hwi
    have HQ := Lib.hid hQ
    have cl' : (w1.setCell ⟨g, i * 11 + 7 + q, none⟩ (.int .u64 z)).cell? ⟨g, i * 11 + 3, none⟩ = some (.int .i64 l) := (World.cell?_setCell_other _ _ _ _ (by simp)).trans cl
    clear hce hwi hQ
    go_wp2_with fail
    refine H2.out.mono ?_
    rintro e w2 ⟨rfl, rfl⟩
    go_wp2_with fail
    refine H3.out.mono ?_
    rintro e w2 ⟨rfl, rfl⟩
    go_wp2_with fail
    refine wp_region_still_tail 14 (by kernel_rfl) (by kernel_rfl) ?_
    simp only [List.take_succ_cons, List.take_zero, List.drop_succ_cons, List.drop_zero, World.drew_eq]
    repeat still_step
    refine wpStill_nil ?_
    go_wp2_with fail
    go_ret
    exact ⟨_, HQ.out, rfl, rfl⟩

/-- a page behind Own -/
def Pg.own (p : Pg) (c : Nat) (live : Bool) : Pg := { p.flipBit c with live := if live then p.live + 1 else p.live - 1 }

theorem Pg.setWord_live (p : Pg) (q v : Nat) (l : Int) (_h : q < 4) : ({ p.setWord q v with live := l } : Pg).cells = (p.setWord q v).cells.set 3 (.int .i64 l) := rfl

theorem MpRep.own_ {w : World} {L : MpL} {μ : Mp} (R : MpRep w L μ) {i : Nat} {p : Pg} (hi : μ.pages[i]? = some p) (hk : p.kind = 4) (c : Nat) (live : Bool) (h1 : c < cellsN p.cls) (hb : p.bit c = !live) (hl : 0 ≤ (if live then p.live + 1 else p.live - 1) ∧ (if live then p.live + 1 else p.live - 1) ≤ 256) :
    Calls Tryz.prog 244 #[.pointer (some ⟨L.mb, 0, none⟩), .int .i64 i, .int .i64 c, .bool live] w fun e w' => e = .returned (.int .i64 0) ∧ MpRep w' L (μ.setPage i (p.own c live)) ∧ Touch (fun k => some k = L.gv.ownBlock) w w' := by
  obtain ⟨g, cap, hv, hS⟩ := R.slab_ hi hk
  have o := R.ok.page p (List.mem_of_getElem? hi)
  have hcn : cellsN p.cls ≤ 256 := Nat.div_le_self _ _
  have hq : c / 64 < 4 := by omega
  have hx := o.word_lt (c / 64) hq
  have hpw := pow64 c
  refine (own_cells L.mb g i c (c / 64) (c % 64) (p.word (c / 64)) (2 ^ (c % 64)) (p.word (c / 64) ^^^ 2 ^ (c % 64)) (cellsN p.cls) p.live live w (fun w' => Touch Nothing w w') hS ?_ hcn o.live
    (by omega) (by omega) (tmod64 c) (IntWalk.i64_in _ (by omega)) hq (by omega) (by omega) ?_ ?_ (u64_xor_nat _ _ hx hpw)).mono ?_
  · intro w1 T1
    have R1 := R.touch0 T1
    obtain ⟨g', cap', hv', hc', hcell, hfree⟩ := R1.page hi
    obtain rfl : g' = g := slice_inj (hv.symm.trans hv')
    have d7 := hcell (7 + c / 64) _ (p.word_cell _ hq)
    rw [← Nat.add_assoc] at d7
    refine ⟨cells_ ⟨g', i * 11, none⟩ p.cls w1 (hcell 2 _ rfl) rfl o.cls, ?_, d7, hfree _, hcell 3 _ rfl, hfree _⟩
    have HW := within_ c 0 ((cellsN p.cls : Int) - 1) w1
    have HD : decide ((0 : Int) ≤ c ∧ (c : Int) ≤ (cellsN p.cls : Int) - 1) = true := by simp; omega
    rw [HD] at HW
    exact HW
  · rw [bit_test _ _ hx]
    exact hb
  · have := wrap_pow64 c
    rw [show min (c % 64) 64 = c % 64 from by omega] at this
    exact this
  · rintro e w' ⟨w1, T1, rfl, rfl⟩
    have R1 := R.touch0 T1
    obtain ⟨r1, r2⟩ := R1.store (p' := p.flipBit c) hi hv (j := 7 + c / 64) (u := .int .u64 (p.word (c / 64) ^^^ 2 ^ (c % 64) : Nat)) (by omega) (p.setWord_cells _ _ hq)
      (o.setWord _ _ hq (Nat.xor_lt_two_pow (n := 64) hx hpw))
    have e2 : (p.flipBit c).live = p.live := by
      unfold Pg.flipBit Pg.setWord
      split <;> rfl
    have o2 := o.setWord (c / 64) (p.word (c / 64) ^^^ 2 ^ (c % 64)) hq (Nat.xor_lt_two_pow (n := 64) hx hpw)
    obtain ⟨r3, r4⟩ := r1.store (p' := p.own c live) (Mp.setPage_get _ hi) (cap := cap) (g := g) (by rw [hv]; simp [Mp.setPage]) (j := 3) (u := .int .i64 (if live then p.live + 1 else p.live - 1)) (by omega) rfl
      ⟨o2.kind, o2.order, o2.cls, hl, o2.next, o2.prev, o2.first, o2.w0, o2.w1, o2.w2, o2.w3⟩
    rw [Mp.setPage_set] at r3
    have hg : ∀ k, k = g → some k = L.gv.ownBlock := fun k e => by rw [hv, e]; rfl
    rw [← Nat.add_assoc] at r2 r3 r4
    exact ⟨rfl, r3.touch0 ((Touch.refl _ _).drew), ((T1.none_.trans (r2.mono (fun k _ e => hg k e))).trans (r4.mono (fun k _ e => hg k e))).drew⟩

end Go.Proofs.YtnjcmcnjgdjbiaaGreatDoor

namespace Go.Proofs.YtnjcmcnjgdjbiaaGreatDoor
open Go.RowKit

/-- where the set of an order lies -/
theorem MpRep.setAt {w : World} {L : MpL} {μ : Mp} (R : MpRep w L μ) {k : Nat} (hk : k < μ.order) :
    ∃ g cap l, L.sv = .slice (some ⟨g, 0, none⟩) μ.pairs.length cap ∧ μ.pairs.length ≤ cap ∧ L.sets[k]? = some l ∧ w.cell? ⟨g, k, none⟩ = some (.pointer (some ⟨l.1, 0, none⟩)) ∧ SetRep w l (μ.pairs.getD k ⟨0, []⟩) := by
  have hl := R.ok.pairs
  have hsl := R.setLen
  obtain ⟨g, cap, hv, hc, _⟩ := R.pairs.form (by omega)
  have hr := R.pairs
  rw [hv] at hr
  have hk' : k < L.sets.length := by omega
  refine ⟨g, cap, L.sets[k], hv, hc, List.getElem?_eq_getElem hk', ?_, ?_⟩
  · rw [hr.cell _ (by simp; omega)]
    simp [hk']
  · refine R.sets k _ _ (List.getElem?_eq_getElem hk') ?_
    rw [List.getD_eq_getElem?_getD, List.getElem?_eq_getElem (by omega)]
    rfl

set_option maxRecDepth 100000 in
theorem MpRep.pair_ {w : World} {L : MpL} {μ : Mp} (R : MpRep w L μ) {i k : Nat} {p : Pg} (hi : μ.pages[i]? = some p) (hk : k < μ.order) (hn : i / 2 ^ (k + 1) < (μ.pairs.getD k ⟨0, []⟩).n) :
    Calls Tryz.prog 293 #[.pointer (some ⟨L.mb, 0, none⟩), .int .i64 k, .int .i64 i] w fun e w' => e = .returned (.bool (bitOf (μ.pairs.getD k ⟨0, []⟩).ws (i / 2 ^ (k + 1)))) ∧ Touch Nothing w w' := by
  have HA := Lib.hid (R.at_ hi)
  have hlt := (List.getElem?_eq_some_iff.1 hi).1
  have hl := R.ok.len
  have ho := R.ok.order
  have lmb := R.blk.lt
  have HR := Lib.hid R
  have HN := Lib.hid hn
  clear R hi hn
  go_enter Tryz.func293, Tryz.ntmps293
  go_wp2_with fail
  refine HA.out.mono ?_
  rintro e w1 ⟨rfl, T1⟩
  have T2 : Touch Nothing w (w1.alloc (.cells #[.int .i64 p.kind, .int .i64 p.order, .int .i64 p.cls, .int .i64 p.live, .int .i64 p.next, .int .i64 p.prev, .int .i64 p.first, .int .u64 p.b0, .int .u64 p.b1, .int .u64 p.b2, .int .u64 p.b3] 128)) := T1.alloc _
  have R1 := HR.out.touch0 T2
  have c0 := R1.blk.cell 0
  simp at c0
  have HT2 := Lib.hid T2
  have HR1 := Lib.hid R1
  clear T1 T2 R1
  unfold Pg.val
  go_wp2_with fail
  refine (within_ k 0 _ _).mono ?_
  rintro e w2 ⟨rfl, rfl⟩
  have HD : decide ((0 : Int) ≤ (k : Int) ∧ (k : Int) ≤ (μ.order : Int) - 1) = true := by simp; omega
  rw [HD]
  obtain ⟨g, cap, l, hv, hc, hl, hg, hs⟩ := HR1.out.setAt hk
  have c2 := HR1.out.blk.cell 2
  simp [hv] at c2
  have lg := World.block_lt_of_cell? _ _ hg
  have hk' : (k : Int) < (μ.pairs.length : Int) := by have := HR1.out.ok.pairs; omega
  have hsh : (i : Int) / 2 ^ (k + 1) = ((i / 2 ^ (k + 1) : Nat) : Int) := by simp
  have hk1 : ((k : Int) + 1).toNat = k + 1 := by omega
  have HG := Lib.hid (fun n => (hs.touch (S := Nothing) ((Touch.refl Nothing _).drewN n) (fun h => h) (fun h => h)).get_ (i / 2 ^ (k + 1)) HN.out)
  clear hv hs hl HD
  generalize hq' : i / 2 ^ (k + 1) = q at *
  replace hq' := Lib.hid hq'.symm
  go_wp2_with fail
  go_quiet (first | (go_at_call 295; refine Calls.quiet_of_same ((HG.out _).mono fun _ _ h => ⟨h.1, h.2.symm⟩)))
  go_wp2
  have HE : bitOf (μ.pairs.getD k ⟨0, []⟩).ws q = bitOf (μ.pairs.getD k ⟨0, []⟩).ws (i / 2 ^ (k + 1)) := by rw [hq'.out]
  exact bodyPost_ret (v := .bool (bitOf (μ.pairs.getD k ⟨0, []⟩).ws q)) (by simp [results, Tryz.results293, go_sem]) rfl ⟨by rw [HE], HT2.out.drewN _⟩

/-- a map with the bit of the block's pair turned -/
def Mp.flip (μ : Mp) (k i : Nat) : Mp := { μ with pairs := μ.pairs.set k ((μ.pairs.getD k ⟨0, []⟩).flip (i / 2 ^ (k + 1))) }

/-- the blocks in which the bits lie -/
def MpL.words (L : MpL) : List Nat := L.sets.map Prod.snd

theorem MpL.words_fp {L : MpL} : ∀ k ∈ L.words, k ∈ L.fp := by
  intro k hk
  simp only [MpL.words, List.mem_map] at hk
  obtain ⟨l, hl, rfl⟩ := hk
  simp only [MpL.fp, List.mem_cons, List.mem_append, List.mem_flatMap]
  exact .inr (.inr ⟨l, hl, by simp⟩)

theorem nodup_pairs {l : List (Nat × Nat)} (h : (l.flatMap fun p => [p.1, p.2]).Nodup) : ∀ (i j : Nat) (a b : Nat × Nat), l[i]? = some a → l[j]? = some b → i ≠ j → a.1 ≠ b.1 ∧ a.1 ≠ b.2 ∧ a.2 ≠ b.1 ∧ a.2 ≠ b.2 := by
  induction l with
  | nil => intro i j a b ha; simp at ha
  | cons p l ih =>
    rw [List.flatMap_cons, List.nodup_append] at h
    obtain ⟨_, h2, h3⟩ := h
    have key : ∀ (j : Nat) (b : Nat × Nat), l[j]? = some b → p.1 ≠ b.1 ∧ p.1 ≠ b.2 ∧ p.2 ≠ b.1 ∧ p.2 ≠ b.2 := by
      intro j b hb
      have hm := List.mem_of_getElem? hb
      have m1 : b.1 ∈ l.flatMap fun p => [p.1, p.2] := List.mem_flatMap.2 ⟨b, hm, by simp⟩
      have m2 : b.2 ∈ l.flatMap fun p => [p.1, p.2] := List.mem_flatMap.2 ⟨b, hm, by simp⟩
      exact ⟨h3 _ (by simp) _ m1, h3 _ (by simp) _ m2, h3 _ (by simp) _ m1, h3 _ (by simp) _ m2⟩
    intro i j a b ha hb hij
    cases i with
    | zero =>
      simp at ha
      subst ha
      cases j with
      | zero => exact (hij rfl).elim
      | succ j => exact key j b (by simpa using hb)
    | succ i =>
      cases j with
      | zero =>
        simp at hb
        subst hb
        have := key i a (by simpa using ha)
        exact ⟨this.1.symm, this.2.2.1.symm, this.2.1.symm, this.2.2.2.symm⟩
      | succ j => exact ih h2 i j a b (by simpa using ha) (by simpa using hb) (by omega)

theorem MpRep.set_apart {w : World} {L : MpL} {μ : Mp} (R : MpRep w L μ) {k : Nat} {l : Nat × Nat} (hl : L.sets[k]? = some l) :
    L.mb ≠ l.2 ∧ L.mb ≠ l.1 ∧ L.gv.ownBlock ≠ some l.2 ∧ L.gv.ownBlock ≠ some l.1 ∧ L.sv.ownBlock ≠ some l.2 ∧ L.sv.ownBlock ≠ some l.1 ∧ ∀ j a, L.sets[j]? = some a → j ≠ k → a.1 ≠ l.1 ∧ a.1 ≠ l.2 ∧ a.2 ≠ l.1 ∧ a.2 ≠ l.2 := by
  have h := R.apart
  have hm := List.mem_of_getElem? hl
  have m1 : l.1 ∈ L.sets.flatMap fun p => [p.1, p.2] := List.mem_flatMap.2 ⟨l, hm, by simp⟩
  have m2 : l.2 ∈ L.sets.flatMap fun p => [p.1, p.2] := List.mem_flatMap.2 ⟨l, hm, by simp⟩
  simp only [MpL.fp, List.nodup_cons, List.nodup_append, List.mem_append, not_or] at h
  obtain ⟨⟨⟨_, _⟩, h3⟩, ⟨_, _, _⟩, h5, h6⟩ := h
  refine ⟨fun e => h3 (e ▸ m2), fun e => h3 (e ▸ m1), fun e => ?_, fun e => ?_, fun e => ?_, fun e => ?_, fun j a hj hne => nodup_pairs h5 j k a l hj hl hne⟩
  · exact h6 l.2 (.inl (by simp [e])) _ m2 rfl
  · exact h6 l.1 (.inl (by simp [e])) _ m1 rfl
  · exact h6 l.2 (.inr (by simp [e])) _ m2 rfl
  · exact h6 l.1 (.inr (by simp [e])) _ m1 rfl

theorem MpRep.turned {w w' : World} {L : MpL} {μ : Mp} (R : MpRep w L μ) {k : Nat} {l : Nat × Nat} (hl : L.sets[k]? = some l) (hk : k < μ.order) (i : Nat)
    (h : SetRep w' l ((μ.pairs.getD k ⟨0, []⟩).flip (i / 2 ^ (k + 1)))) (T : Touch (fun b => b = l.2) w w') : MpRep w' L (μ.flip k i) := by
  obtain ⟨a1, _, a2, _, a3, _, a4⟩ := R.set_apart hl
  have hp := R.ok.pairs
  refine ⟨R.blk.touch T a1, R.pages.touch T (fun g hg e => a2 (by rw [hg, e])), ?_, ?_, R.apart, ⟨R.ok.order, R.ok.len, by simp [Mp.flip, hp], R.ok.page⟩⟩
  · have := R.pairs.touch T (fun g hg e => a3 (by rw [hg, e]))
    simpa [Mp.flip] using this
  · intro j a s ha hs
    by_cases hj : j = k
    · subst hj
      rw [hl] at ha
      cases ha
      simp [Mp.flip, show j < μ.pairs.length from by omega] at hs
      rw [← hs]
      rw [List.getD_eq_getElem?_getD, List.getElem?_eq_getElem (show j < μ.pairs.length by omega)] at h
      simpa using h
    · have := a4 j a ha hj
      refine (R.sets j a s ha ?_).touch T this.2.1 this.2.2.2
      simpa [Mp.flip, List.getElem?_set, Ne.symm hj] using hs

set_option maxRecDepth 100000 in
theorem MpRep.flip_ {w : World} {L : MpL} {μ : Mp} (R : MpRep w L μ) {i k : Nat} {p : Pg} (hi : μ.pages[i]? = some p) (hk : k < μ.order) (hn : i / 2 ^ (k + 1) < (μ.pairs.getD k ⟨0, []⟩).n) :
    Calls Tryz.prog 276 #[.pointer (some ⟨L.mb, 0, none⟩), .int .i64 k, .int .i64 i] w fun e w' => e = .returned (.tuple #[.bool (!bitOf (μ.pairs.getD k ⟨0, []⟩).ws (i / 2 ^ (k + 1))), .int .i64 0]) ∧ MpRep w' L (μ.flip k i) ∧ Touch (· ∈ L.words) w w' := by
  have HA := Lib.hid (R.at_ hi)
  have hlt := (List.getElem?_eq_some_iff.1 hi).1
  have hl := R.ok.len
  have ho := R.ok.order
  have lmb := R.blk.lt
  have HR := Lib.hid R
  have HN := Lib.hid hn
  have HI := Lib.hid hi
  clear R hi hn
  go_enter Tryz.func276, Tryz.ntmps276
  go_wp2_with fail
  refine HA.out.mono ?_
  rintro e w1 ⟨rfl, T1⟩
  have T2 : Touch Nothing w (w1.alloc (.cells #[.int .i64 p.kind, .int .i64 p.order, .int .i64 p.cls, .int .i64 p.live, .int .i64 p.next, .int .i64 p.prev, .int .i64 p.first, .int .u64 p.b0, .int .u64 p.b1, .int .u64 p.b2, .int .u64 p.b3] 128)) := T1.alloc _
  have R1 := HR.out.touch0 T2
  have c0 := R1.blk.cell 0
  simp at c0
  have HT2 := Lib.hid T2
  have HR1 := Lib.hid R1
  clear T1 T2 R1
  unfold Pg.val
  go_wp2_with fail
  refine (within_ k 0 _ _).mono ?_
  rintro e w2 ⟨rfl, rfl⟩
  have HD : decide ((0 : Int) ≤ (k : Int) ∧ (k : Int) ≤ (μ.order : Int) - 1) = true := by simp; omega
  rw [HD]
  obtain ⟨g, cap, l, hv, hc, hl, hg, hs⟩ := HR1.out.setAt hk
  have c2 := HR1.out.blk.cell 2
  simp [hv] at c2
  have lg := World.block_lt_of_cell? _ _ hg
  have hk' : (k : Int) < (μ.pairs.length : Int) := by have := HR1.out.ok.pairs; omega
  have hsh : (i : Int) / 2 ^ (k + 1) = ((i / 2 ^ (k + 1) : Nat) : Int) := by simp
  have hk1 : ((k : Int) + 1).toNat = k + 1 := by omega
  have HG := Lib.hid ((hs.touch (S := Nothing) (Touch.refl Nothing _).drew (fun h => h) (fun h => h)).flip_ (i / 2 ^ (k + 1)) HN.out)
  have hw1 : IntKind.i64.wrap ((k : Int) + 1) = (k : Int) + 1 := IntWalk.i64_in _ (by omega)
  have HTU := Lib.hid (fun w' h T => (HR1.out.touch0 (Touch.refl Nothing _).drew).turned (w' := w') hl hk i h T)
  have HL := Lib.hid hl
  clear hv hs hl HD
  generalize hq : i / 2 ^ (k + 1) = q at *
  have HQ := Lib.hid hq
  clear hq
  go_wp2_with fail
  refine wp_region_still_tail 11 (by kernel_rfl) (by kernel_rfl) ?_
  simp only [List.take_succ_cons, List.take_zero, List.drop_succ_cons, List.drop_zero, World.drew_eq]
  repeat still_step
  refine wpStill_nil ?_
  go_wp2_with fail
  refine HG.out.mono ?_
  rintro e w2 ⟨rfl, r1, r2⟩
  have R2 := HTU.out _ r1 r2
  have hm : l.2 ∈ L.words := List.mem_map.2 ⟨l, List.mem_of_getElem? HL.out, rfl⟩
  have T3 : Touch (· ∈ L.words) w w2 := HT2.out.drew.none_.trans (r2.mono (fun b _ e => by rw [e]; exact hm))
  have hi2 : (μ.flip k i).pages[i]? = some p := HI.out
  have hp := HR1.out.ok.pairs
  have hk2 : k < μ.pairs.length := by omega
  have e2 : (μ.flip k i).pairs.getD k ⟨0, []⟩ = (μ.pairs.getD k ⟨0, []⟩).flip (i / 2 ^ (k + 1)) := by
    unfold Mp.flip
    rw [List.getD_eq_getElem?_getD, List.getElem?_set_self hk2]
    rfl
  have HP := Lib.hid (R2.pair_ hi2 (show k < (μ.flip k i).order from hk) (by rw [e2]; show i / 2 ^ (k + 1) < (μ.pairs.getD k ⟨0, []⟩).n; rw [HQ.out]; exact HN.out))
  have HS := HR1.out.setAt hk
  have HV : bitOf ((μ.flip k i).pairs.getD k ⟨0, []⟩).ws (i / 2 ^ (k + 1)) = !bitOf (μ.pairs.getD k ⟨0, []⟩).ws (i / 2 ^ (k + 1)) := by
    obtain ⟨_, _, _, _, _, _, _, hs⟩ := HS
    rw [e2]
    have h1 := hs.ok.len
    have h2 := HN.out
    rw [← HQ.out] at h2
    rw [PSet.flip, bitOf_flip _ _ _ (by omega)]
    simp
  rw [HV] at HP
  clear HV HS e2
  generalize hB : bitOf (μ.pairs.getD k ⟨0, []⟩).ws (i / 2 ^ (k + 1)) = B at *
  have HB := Lib.hid hB
  clear hB
  have HR2 := Lib.hid R2
  have HT3 := Lib.hid T3
  clear R2 T3 r1 r2 hi2
  go_wp2_with fail
  refine HP.out.mono ?_
  rintro e w3 ⟨rfl, T4⟩
  go_wp2_with fail
  exact bodyPost_ret (v := .tuple #[.bool (!B), .int .i64 0]) (by simp [results, Tryz.results276, go_sem]) rfl ⟨by rw [HB.out], HR2.out.touch0 T4, HT3.out.trans T4.none_⟩

end Go.Proofs.YtnjcmcnjgdjbiaaGreatDoor

namespace Go.Proofs.YtnjcmcnjgdjbiaaGreatDoor
open Go.RowKit

def slabPg (c : Int) : Pg := { plainPg 4 0 with cls := c }

/-- the cells of a page written, one by one -/
def setPg (w : World) (g o : Nat) (q : Pg) : World :=
  (((((((((((w.setCell ⟨g, o, none⟩ (.int .i64 q.kind)).setCell ⟨g, o + 1, none⟩ (.int .i64 q.order)).setCell ⟨g, o + 2, none⟩ (.int .i64 q.cls)).setCell ⟨g, o + 3, none⟩ (.int .i64 q.live)).setCell ⟨g, o + 4, none⟩ (.int .i64 q.next)).setCell ⟨g, o + 5, none⟩ (.int .i64 q.prev)).setCell ⟨g, o + 6, none⟩ (.int .i64 q.first)).setCell ⟨g, o + 7, none⟩ (.int .u64 q.b0)).setCell ⟨g, o + 8, none⟩ (.int .u64 q.b1)).setCell ⟨g, o + 9, none⟩ (.int .u64 q.b2)).setCell ⟨g, o + 10, none⟩ (.int .u64 q.b3))

theorem MpRep.step {w W : World} {L : MpL} {μ : Mp} {i g cap : Nat} {p p' : Pg} (h : MpRep W L (μ.setPage i p) ∧ Touch (fun k => k = g) w W) (hi : i < μ.pages.length) (hv : L.gv = .slice (some ⟨g, 0, none⟩) μ.pages.length cap)
    {j : Nat} {u : Value} (hj : j < 11) (he : p'.cells = p.cells.set j u) (ho : p'.ok) :
    MpRep (W.setCell ⟨g, i * 11 + j, none⟩ u) L (μ.setPage i p') ∧ Touch (fun k => k = g) w (W.setCell ⟨g, i * 11 + j, none⟩ u) := by
  obtain ⟨R, T⟩ := h
  have := R.store (i := i) (g := g) (cap := cap) (p := p) (p' := p') (by simp [Mp.setPage, hi]) (by rw [hv]; simp [Mp.setPage]) hj he ho
  rw [Mp.setPage_set] at this
  exact ⟨this.1, T.trans this.2⟩

theorem Mp.setPage_self {μ : Mp} {i : Nat} {p : Pg} (h : μ.pages[i]? = some p) : μ.setPage i p = μ := by
  obtain ⟨hi, he⟩ := List.getElem?_eq_some_iff.1 h
  unfold Mp.setPage
  rw [← he, List.set_getElem_self]

theorem MpRep.storePg {w : World} {L : MpL} {μ : Mp} (R : MpRep w L μ) {i g cap : Nat} {p q : Pg} (hi : μ.pages[i]? = some p) (hv : L.gv = .slice (some ⟨g, 0, none⟩) μ.pages.length cap) (o : q.ok) :
    MpRep (setPg w g (i * 11) q) L (μ.setPage i q) ∧ Touch (fun k => k = g) w (setPg w g (i * 11) q) := by
  have hlt := (List.getElem?_eq_some_iff.1 hi).1
  have po := R.ok.page p (List.mem_of_getElem? hi)
  have h0 : MpRep w L (μ.setPage i p) ∧ Touch (fun k => k = g) w w := ⟨by rw [Mp.setPage_self hi]; exact R, Touch.refl _ _⟩
  have h1 := MpRep.step h0 hlt hv (j := 0) (u := .int .i64 q.kind) (p' := { p with kind := q.kind }) (by omega) rfl ⟨o.kind, po.order, po.cls, po.live, po.next, po.prev, po.first, po.w0, po.w1, po.w2, po.w3⟩
  have h2 := MpRep.step h1 hlt hv (j := 1) (u := .int .i64 q.order) (p' := { p with kind := q.kind, order := q.order }) (by omega) rfl ⟨o.kind, o.order, po.cls, po.live, po.next, po.prev, po.first, po.w0, po.w1, po.w2, po.w3⟩
  have h3 := MpRep.step h2 hlt hv (j := 2) (u := .int .i64 q.cls) (p' := { p with kind := q.kind, order := q.order, cls := q.cls }) (by omega) rfl ⟨o.kind, o.order, o.cls, po.live, po.next, po.prev, po.first, po.w0, po.w1, po.w2, po.w3⟩
  have h4 := MpRep.step h3 hlt hv (j := 3) (u := .int .i64 q.live) (p' := { q with next := p.next, prev := p.prev, first := p.first, b0 := p.b0, b1 := p.b1, b2 := p.b2, b3 := p.b3 }) (by omega) rfl ⟨o.kind, o.order, o.cls, o.live, po.next, po.prev, po.first, po.w0, po.w1, po.w2, po.w3⟩
  have h5 := MpRep.step h4 hlt hv (j := 4) (u := .int .i64 q.next) (p' := { q with prev := p.prev, first := p.first, b0 := p.b0, b1 := p.b1, b2 := p.b2, b3 := p.b3 }) (by omega) rfl ⟨o.kind, o.order, o.cls, o.live, o.next, po.prev, po.first, po.w0, po.w1, po.w2, po.w3⟩
  have h6 := MpRep.step h5 hlt hv (j := 5) (u := .int .i64 q.prev) (p' := { q with first := p.first, b0 := p.b0, b1 := p.b1, b2 := p.b2, b3 := p.b3 }) (by omega) rfl ⟨o.kind, o.order, o.cls, o.live, o.next, o.prev, po.first, po.w0, po.w1, po.w2, po.w3⟩
  have h7 := MpRep.step h6 hlt hv (j := 6) (u := .int .i64 q.first) (p' := { q with b0 := p.b0, b1 := p.b1, b2 := p.b2, b3 := p.b3 }) (by omega) rfl ⟨o.kind, o.order, o.cls, o.live, o.next, o.prev, o.first, po.w0, po.w1, po.w2, po.w3⟩
  have h8 := MpRep.step h7 hlt hv (j := 7) (u := .int .u64 q.b0) (p' := { q with b1 := p.b1, b2 := p.b2, b3 := p.b3 }) (by omega) rfl ⟨o.kind, o.order, o.cls, o.live, o.next, o.prev, o.first, o.w0, po.w1, po.w2, po.w3⟩
  have h9 := MpRep.step h8 hlt hv (j := 8) (u := .int .u64 q.b1) (p' := { q with b2 := p.b2, b3 := p.b3 }) (by omega) rfl ⟨o.kind, o.order, o.cls, o.live, o.next, o.prev, o.first, o.w0, o.w1, po.w2, po.w3⟩
  have h10 := MpRep.step h9 hlt hv (j := 9) (u := .int .u64 q.b2) (p' := { q with b3 := p.b3 }) (by omega) rfl ⟨o.kind, o.order, o.cls, o.live, o.next, o.prev, o.first, o.w0, o.w1, o.w2, po.w3⟩
  exact MpRep.step h10 hlt hv (j := 10) (u := .int .u64 q.b3) (p' := q) (by omega) rfl o

theorem plainPg_ok (kind order : Int) (h : 0 ≤ kind ∧ kind ≤ 4) (ho : 0 ≤ order ∧ order ≤ 8) : (plainPg kind order).ok :=
  ⟨h, ho, by simp [plainPg], by simp [plainPg], by simp [plainPg], by simp [plainPg], by simp [plainPg], by simp [plainPg], by simp [plainPg], by simp [plainPg], by simp [plainPg]⟩

theorem slabPg_ok (c : Nat) (h : c < 8) : (slabPg c).ok :=
  ⟨by simp [slabPg, plainPg], by simp [slabPg, plainPg], ⟨by show (0 : Int) ≤ (c : Int); omega, by show (c : Int) ≤ 7; omega⟩, by simp [slabPg, plainPg], by simp [slabPg, plainPg], by simp [slabPg, plainPg], by simp [slabPg, plainPg], by simp [slabPg, plainPg], by simp [slabPg, plainPg], by simp [slabPg, plainPg], by simp [slabPg, plainPg]⟩

set_option maxRecDepth 100000 in
theorem MpRep.slabify_ {w : World} {L : MpL} {μ : Mp} (R : MpRep w L μ) {i : Nat} {p : Pg} (hi : μ.pages[i]? = some p) (c : Nat) (hc : c < 8) :
    Calls Tryz.prog 279 #[.pointer (some ⟨L.mb, 0, none⟩), .int .i64 i, .int .i64 c] w fun e w' => e = .returned (.int .i64 0) ∧ MpRep w' L (μ.setPage i (slabPg c)) ∧ Touch (fun k => some k = L.gv.ownBlock) w w' := by
  have HA := Lib.hid (R.at_ hi)
  have hlt := (List.getElem?_eq_some_iff.1 hi).1
  have hl := R.ok.len
  have lmb := R.blk.lt
  have HR := Lib.hid R
  have HI := Lib.hid hi
  clear R hi
  go_enter Tryz.func279, Tryz.ntmps279
  go_wp2_with fail
  refine HA.out.mono ?_
  rintro e w1 ⟨rfl, T1⟩
  have T2 : Touch Nothing w (w1.alloc (.cells #[.int .i64 p.kind, .int .i64 p.order, .int .i64 p.cls, .int .i64 p.live, .int .i64 p.next, .int .i64 p.prev, .int .i64 p.first, .int .u64 p.b0, .int .u64 p.b1, .int .u64 p.b2, .int .u64 p.b3] 128)) := T1.alloc _
  have HT2 := Lib.hid T2
  have R1 := HR.out.touch0 T2
  obtain ⟨g, cap, hv, hcap, hcell, hfree⟩ := R1.page HI.out
  have c1 := R1.blk.cell 1
  simp [hv] at c1
  have d0 := hcell 0 _ rfl
  simp only [Nat.add_zero] at d0
  have f0 := hfree (i * 11)
  have f1 := hfree (i * 11 + 1)
  have f2 := hfree (i * 11 + 2)
  have f3 := hfree (i * 11 + 3)
  have f4 := hfree (i * 11 + 4)
  have f5 := hfree (i * 11 + 5)
  have f6 := hfree (i * 11 + 6)
  have f7 := hfree (i * 11 + 7)
  have f8 := hfree (i * 11 + 8)
  have f9 := hfree (i * 11 + 9)
  have f10 := hfree (i * 11 + 10)
  have d1 := hcell 1 _ rfl
  have d2 := hcell 2 _ rfl
  have d3 := hcell 3 _ rfl
  have d4 := hcell 4 _ rfl
  have d5 := hcell 5 _ rfl
  have d6 := hcell 6 _ rfl
  have d7 := hcell 7 _ rfl
  have d8 := hcell 8 _ rfl
  have d9 := hcell 9 _ rfl
  have d10 := hcell 10 _ rfl
  have HR1 := Lib.hid R1
  have HC := Lib.hid hcell
  have HF := Lib.hid hfree
  have HV := Lib.hid hv
  clear T1 T2 R1 hcell hfree hv
  have lg : g < (w1.alloc (.cells #[.int .i64 p.kind, .int .i64 p.order, .int .i64 p.cls, .int .i64 p.live, .int .i64 p.next, .int .i64 p.prev, .int .i64 p.first, .int .u64 p.b0, .int .u64 p.b1, .int .u64 p.b2, .int .u64 p.b3] 128)).heap.size := World.block_lt_of_cell? _ _ (HC.out 0 _ rfl)
  have lmb' := HR1.out.blk.lt
  simp at lg lmb'
  unfold Pg.val
  go_wp2_with fail
  refine (within_ c 0 _ _).mono ?_
  rintro e w2 ⟨rfl, rfl⟩
  have HD : decide ((0 : Int) ≤ (c : Int) ∧ (c : Int) ≤ 7) = true := by simp; omega
  rw [HD]
  clear HD
  go_wp2_with fail
  go_region_with (first | (go_at_call 278; refine (plain_ 4 0 _).mono ?_; rintro e w3 ⟨rfl, rfl⟩; unfold Pg.val plainPg))
  all_goals
    have hst := (HR1.out.storePg (q := plainPg 4 0) HI.out HV.out (plainPg_ok 4 0 (by decide) (by decide)))
    have hfold : ((((((((((((w1.alloc (.cells #[.int .i64 p.kind, .int .i64 p.order, .int .i64 p.cls, .int .i64 p.live, .int .i64 p.next, .int .i64 p.prev, .int .i64 p.first, .int .u64 p.b0, .int .u64 p.b1, .int .u64 p.b2, .int .u64 p.b3] 128)).setCell ⟨g, i * 11, none⟩ (.int .i64 4)).setCell ⟨g, i * 11 + 1, none⟩ (.int .i64 0)).setCell ⟨g, i * 11 + 2, none⟩ (.int .i64 0)).setCell ⟨g, i * 11 + 3, none⟩ (.int .i64 0)).setCell ⟨g, i * 11 + 4, none⟩ (.int .i64 (-1))).setCell ⟨g, i * 11 + 5, none⟩ (.int .i64 (-1))).setCell ⟨g, i * 11 + 6, none⟩ (.int .i64 (-1))).setCell ⟨g, i * 11 + 7, none⟩ (.int .u64 0)).setCell ⟨g, i * 11 + 8, none⟩ (.int .u64 0)).setCell ⟨g, i * 11 + 9, none⟩ (.int .u64 0)).setCell ⟨g, i * 11 + 10, none⟩ (.int .u64 0)) = setPg (w1.alloc (.cells #[.int .i64 p.kind, .int .i64 p.order, .int .i64 p.cls, .int .i64 p.live, .int .i64 p.next, .int .i64 p.prev, .int .i64 p.first, .int .u64 p.b0, .int .u64 p.b1, .int .u64 p.b2, .int .u64 p.b3] 128)) g (i * 11) (plainPg 4 0) := rfl
    rw [hfold]
    clear hfold c1 d0 d1 d2 d3 d4 d5 d6 d7 d8 d9 d10 f0 f1 f2 f3 f4 f5 f6 f7 f8 f9 f10 lmb' lg
    have hT3 := (HT2.out.none_.trans (hst.2.mono (T := fun k => some k = L.gv.ownBlock) (fun k _ e => by rw [HV.out, e]; rfl)))
    have hR3 := hst.1
    generalize setPg _ g (i * 11) _ = W at *
    have hR4 := hR3.touch0 (((Touch.refl Nothing W).alloc (.cells #[.int .i64 4, .int .i64 0, .int .i64 0, .int .i64 0, .int .i64 (-1), .int .i64 (-1), .int .i64 (-1), .int .u64 0, .int .u64 0, .int .u64 0, .int .u64 0] 128)).drew)
    have hT4 := (hT3.alloc (.cells #[.int .i64 4, .int .i64 0, .int .i64 0, .int .i64 0, .int .i64 (-1), .int .i64 (-1), .int .i64 (-1), .int .u64 0, .int .u64 0, .int .u64 0, .int .u64 0] 128)).drew
    clear hR3 hT3 hst
    generalize (World.alloc W _).drew = W2 at *
    have c1 := hR4.blk.cell 1
    simp [HV.out] at c1
    have hi4 : (μ.setPage i (plainPg 4 0)).pages[i]? = some (plainPg 4 0) := Mp.setPage_get _ HI.out
    obtain ⟨g', cap', hv', hcap', hcell', hfree'⟩ := hR4.page hi4
    obtain rfl : g' = g := slice_inj (HV.out.symm.trans hv')
    have d2 := hcell' 2 _ rfl
    have f2 := hfree' (i * 11 + 2)
    have HR4 := Lib.hid hR4
    have HT4 := Lib.hid hT4
    clear hR4 hT4 hcell' hfree' hv' hcap' hi4
    go_wp2_with fail
    go_ret
    obtain ⟨r1, r2⟩ := MpRep.step (w := W2) ⟨HR4.out, Touch.refl _ _⟩ hlt HV.out (j := 2) (u := .int .i64 c) (p' := slabPg c) (by omega) rfl (slabPg_ok c hc)
    exact ⟨rfl, r1, HT4.out.trans (r2.mono (fun k _ e => by rw [HV.out, e]; rfl))⟩

end Go.Proofs.YtnjcmcnjgdjbiaaGreatDoor

namespace Go.Proofs.YtnjcmcnjgdjbiaaGreatDoor
open Go.RowKit

def pgEq (p q : Pg) : Bool := p.kind == q.kind && (p.order == q.order && (p.cls == q.cls && (p.live == q.live && (p.next == q.next && (p.prev == q.prev && (p.first == q.first && ((p.b0 : Int) == q.b0 && ((p.b1 : Int) == q.b1 && ((p.b2 : Int) == q.b2 && ((p.b3 : Int) == q.b3))))))))))

theorem pgEq_iff (p q : Pg) : pgEq p q = true ↔ p = q := by
  obtain ⟨a0, a1, a2, a3, a4, a5, a6, a7, a8, a9, a10⟩ := p
  obtain ⟨b0, b1, b2, b3, b4, b5, b6, b7, b8, b9, b10⟩ := q
  simp [pgEq, Int.natCast_inj]

theorem plainInt {P : Program} {t : TypeId} {k : IntKind} (h : P.underlying t = some (.int k)) : P.plainKey t = true := by
  unfold Program.plainKey
  simp [h]

theorem eqFields_int {P : Program} (w : World) (d : Nat) (xs ys : Array Value) (f : Field) (fs : List Field) (k k' : IntKind) (a b : Int) (hn : f.name ≠ "_") (hu : P.underlying f.type = some (.int k'))
    (hx : xs[f.offset]? = some (.int k a)) (hy : ys[f.offset]? = some (.int k b)) {r : Bool} (ih : (Op.eqFields (d + 1) xs ys fs).run P w = .ok r w) :
    (Op.eqFields (d + 1) xs ys (f :: fs)).run P w = .ok ((a == b) && r) w := by
  rw [Op.eqFields, if_pos hn]
  simp only [Sem.run_bind, run_part_plain w (plainInt hu) hx, run_part_plain w (plainInt hu) hy, Result.andThen_ok, run_equalIn_int w d f.type k k' a b hu]
  cases h : (a == b) with
  | true => simpa using ih
  | false => simp

theorem eqItems_int {P : Program} (w : World) (d : Nat) (e : TypeId) (xs ys : Array Value) (i : Nat) (is : List Nat) (k k' : IntKind) (a b : Int) (hu : P.underlying e = some (.int k'))
    (hx : xs[i * 1]? = some (.int k a)) (hy : ys[i * 1]? = some (.int k b)) {r : Bool} (ih : (Op.eqItems (d + 1) e 1 xs ys is).run P w = .ok r w) :
    (Op.eqItems (d + 1) e 1 xs ys (i :: is)).run P w = .ok ((a == b) && r) w := by
  rw [Op.eqItems]
  simp only [Sem.run_bind, run_part_plain w (plainInt hu) hx, run_part_plain w (plainInt hu) hy, Result.andThen_ok, run_equalIn_int w d e k k' a b hu]
  cases h : (a == b) with
  | true => simpa using ih
  | false => simp

theorem pg_bits (p q : Pg) (w : World) (d : Nat) : (Op.equalIn (d + 2) 126 (.agg #[.int .u64 p.b0, .int .u64 p.b1, .int .u64 p.b2, .int .u64 p.b3]) (.agg #[.int .u64 q.b0, .int .u64 q.b1, .int .u64 q.b2, .int .u64 q.b3])).run Tryz.prog w = .ok ((p.b0 : Int) == q.b0 && ((p.b1 : Int) == q.b1 && ((p.b2 : Int) == q.b2 && ((p.b3 : Int) == q.b3 && true)))) w := by
  obtain ⟨i, hi⟩ := info_of_underlying Tryz.underlying33
  rw [run_equalIn_array w (d + 1) _ _ Tryz.underlying126 hi]
  rw [show Tryz.prog.cellsOf 33 = 1 from by kernel_rfl]
  exact eqItems_int w d 33 _ _ 0 [1, 2, 3] .u64 .u64 _ _ Tryz.underlying33 rfl rfl
    (eqItems_int w d 33 _ _ 1 [2, 3] .u64 .u64 _ _ Tryz.underlying33 rfl rfl
      (eqItems_int w d 33 _ _ 2 [3] .u64 .u64 _ _ Tryz.underlying33 rfl rfl
        (eqItems_int w d 33 _ _ 3 [] .u64 .u64 _ _ Tryz.underlying33 rfl rfl rfl)))

set_option maxRecDepth 100000 in
theorem pg_neq (p q : Pg) (w : World) : (binOp .neq 128 p.val q.val).run Tryz.prog w = .ok (.bool (!pgEq p q)) w := by
  unfold Pg.val
  rw [run_neq_struct, run_equalIn_agg w 9999 128 _ _ (by kernel_rfl) (by kernel_rfl)]
  have e0 : (Op.eqFields 9999 #[.int .i64 p.kind, .int .i64 p.order, .int .i64 p.cls, .int .i64 p.live, .int .i64 p.next, .int .i64 p.prev, .int .i64 p.first, .int .u64 p.b0, .int .u64 p.b1, .int .u64 p.b2, .int .u64 p.b3] #[.int .i64 q.kind, .int .i64 q.order, .int .i64 q.cls, .int .i64 q.live, .int .i64 q.next, .int .i64 q.prev, .int .i64 q.first, .int .u64 q.b0, .int .u64 q.b1, .int .u64 q.b2, .int .u64 q.b3] [{ name := "Bits", type := 126, offset := 7, embedded := false, tag := "", pkgPath := "", byteOffset := 56 }]).run Tryz.prog w = .ok ((p.b0 : Int) == q.b0 && ((p.b1 : Int) == q.b1 && ((p.b2 : Int) == q.b2 && ((p.b3 : Int) == q.b3 && true)))) w := by
    rw [Op.eqFields, if_pos (by decide)]
    have part1 : ∀ (p : Pg), (part 126 #[.int .i64 p.kind, .int .i64 p.order, .int .i64 p.cls, .int .i64 p.live, .int .i64 p.next, .int .i64 p.prev, .int .i64 p.first, .int .u64 p.b0, .int .u64 p.b1, .int .u64 p.b2, .int .u64 p.b3] 7).run Tryz.prog w = .ok (.agg #[.int .u64 p.b0, .int .u64 p.b1, .int .u64 p.b2, .int .u64 p.b3]) w := by
      intro p
      simp [part, isAgg, run_underlying Tryz.underlying126, go_sem]
    simp only [Sem.run_bind, part1, Result.andThen_ok, pg_bits p q w 9997]
    cases h : ((p.b0 : Int) == q.b0 && ((p.b1 : Int) == q.b1 && ((p.b2 : Int) == q.b2 && ((p.b3 : Int) == q.b3 && true)))) with
    | true => rfl
    | false => rfl
  rw [show (Tryz.prog.fieldsOf 128).toList = [{ name := "Kind", type := 3, offset := 0, embedded := false, tag := "", pkgPath := "", byteOffset := 0 },
        { name := "Order", type := 3, offset := 1, embedded := false, tag := "", pkgPath := "", byteOffset := 8 },
        { name := "Class", type := 3, offset := 2, embedded := false, tag := "", pkgPath := "", byteOffset := 16 },
        { name := "Live", type := 3, offset := 3, embedded := false, tag := "", pkgPath := "", byteOffset := 24 },
        { name := "Next", type := 3, offset := 4, embedded := false, tag := "", pkgPath := "", byteOffset := 32 },
        { name := "Prev", type := 3, offset := 5, embedded := false, tag := "", pkgPath := "", byteOffset := 40 },
        { name := "First", type := 3, offset := 6, embedded := false, tag := "", pkgPath := "", byteOffset := 48 },
        { name := "Bits", type := 126, offset := 7, embedded := false, tag := "", pkgPath := "", byteOffset := 56 }] from by kernel_rfl]
  rw [eqFields_int w 9998 _ _ _ _ .i64 .i64 p.kind q.kind (by decide) Tryz.underlying3 rfl rfl
    (eqFields_int w 9998 _ _ _ _ .i64 .i64 p.order q.order (by decide) Tryz.underlying3 rfl rfl
      (eqFields_int w 9998 _ _ _ _ .i64 .i64 p.cls q.cls (by decide) Tryz.underlying3 rfl rfl
        (eqFields_int w 9998 _ _ _ _ .i64 .i64 p.live q.live (by decide) Tryz.underlying3 rfl rfl
          (eqFields_int w 9998 _ _ _ _ .i64 .i64 p.next q.next (by decide) Tryz.underlying3 rfl rfl
            (eqFields_int w 9998 _ _ _ _ .i64 .i64 p.prev q.prev (by decide) Tryz.underlying3 rfl rfl
              (eqFields_int w 9998 _ _ _ _ .i64 .i64 p.first q.first (by decide) Tryz.underlying3 rfl rfl e0))))))]
  simp [pgEq]

end Go.Proofs.YtnjcmcnjgdjbiaaGreatDoor

