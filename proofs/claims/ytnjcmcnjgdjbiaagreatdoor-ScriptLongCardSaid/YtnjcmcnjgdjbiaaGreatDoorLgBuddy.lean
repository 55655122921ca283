/- The walks of package buddy, first part: what a buddy is; address, page. The walks of package buddy, second part: enter, cut. The walks of package buddy, third part: Take. The walks of package buddy, fourth part: live, top. The walks of package buddy, fifth part: top. The walks of package buddy, sixth part: Give of a whole region. The walks of package buddy, seventh part: Feed. The walks of package buddy, eighth part: Open of empty lists, New. The walks of package buddy, ninth part: Open of empty lists, New. The walks of package buddy, tenth part: New. -/
import Derived.Test.YtnjcmcnjgdjbiaaGreatDoorLgLinks
import Derived.WalkMore
namespace Go.Proofs.YtnjcmcnjgdjbiaaGreatDoor
open Go.RowKit

/-- a buddy's numbers: its space, its map, its lists' heads -/
structure Bu where
  σ : Sp
  μ : Mp
  heads : List Nat

/-- where a buddy lies: its block, its slice of lists, the lists' blocks, its space, its map -/
structure BuL where
  bb : Nat
  tv : Value
  lbs : List Nat
  L : SpL
  M : MpL

def BuL.own (K : BuL) : List Nat := K.bb :: (K.tv.ownBlock.toList ++ K.lbs)
def BuL.fp (K : BuL) : List Nat := K.own ++ (K.L.fp ++ K.M.fp)

structure Bu.ok (β : Bu) : Prop where
  order : β.σ.order = β.μ.order
  heads : β.heads.length = β.μ.order + 1
  size : β.σ.size = 4096 * 2 ^ β.μ.order
  limit : β.σ.limit ≤ 64
  base : β.σ.base % 4096 = 0
  pages : β.μ.pages.length ≤ 64 * 2 ^ β.μ.order
  regs : β.μ.pages.length ≤ β.σ.n * 2 ^ β.μ.order
  head : ∀ h ∈ β.heads, h < 18446744073709551616

structure BuRep (w : World) (K : BuL) (β : Bu) : Prop where
  blk : Blk w K.bb 274 [.int .u64 β.σ.base, .int .i64 β.σ.limit, .int .i64 β.σ.order, .pointer (some ⟨K.L.sb, 0, none⟩), .pointer (some ⟨K.M.mb, 0, none⟩), K.tv]
  row : Row w 275 1 K.tv β.heads.length (K.lbs.map fun b => .pointer (some ⟨b, 0, none⟩))
  lists : ∀ (i b h : Nat), K.lbs[i]? = some b → β.heads[i]? = some h → Li w b K.L.sb h
  sp : SpRep w K.L β.σ
  mp : MpRep w K.M β.μ
  apart : K.fp.Nodup
  ok : β.ok

theorem BuRep.lens {w : World} {K : BuL} {β : Bu} (R : BuRep w K β) : K.lbs.length = β.heads.length := by
  have := R.row.1
  simpa using this

theorem BuRep.split {w : World} {K : BuL} {β : Bu} (R : BuRep w K β) : (K.own.Nodup ∧ (K.L.fp ++ K.M.fp).Nodup) ∧ (∀ k ∈ K.own, k ∉ K.L.fp ∧ k ∉ K.M.fp) ∧ (∀ k ∈ K.L.fp, k ∉ K.M.fp) := by
  have h := R.apart
  unfold BuL.fp at h
  rw [List.nodup_append] at h
  obtain ⟨h1, h2, h3⟩ := h
  refine ⟨⟨h1, h2⟩, fun k hk => ⟨fun e => h3 k hk k (List.mem_append.2 (.inl e)) rfl, fun e => h3 k hk k (List.mem_append.2 (.inr e)) rfl⟩, fun k hk e => ?_⟩
  rw [List.nodup_append] at h2
  exact h2.2.2 k hk k e rfl

theorem BuRep.own_touch {w w' : World} {K : BuL} {β : Bu} {S : Nat → Prop} (R : BuRep w K β) (T : Touch S w w') (h : ∀ k, k ∈ K.own → ¬ S k) :
    Blk w' K.bb 274 [.int .u64 β.σ.base, .int .i64 β.σ.limit, .int .i64 β.σ.order, .pointer (some ⟨K.L.sb, 0, none⟩), .pointer (some ⟨K.M.mb, 0, none⟩), K.tv] ∧
    Row w' 275 1 K.tv β.heads.length (K.lbs.map fun b => .pointer (some ⟨b, 0, none⟩)) ∧
    ∀ (i b h : Nat), K.lbs[i]? = some b → β.heads[i]? = some h → Li w' b K.L.sb h :=
  ⟨R.blk.touch T (h _ (by simp [BuL.own])), R.row.touch T (fun g hg => h g (by simp [BuL.own, hg])),
    fun i b hh hb hhd => (R.lists i b hh hb hhd).touch T (h b (by simp [BuL.own, List.mem_of_getElem? hb]))⟩

theorem BuRep.touch {w w' : World} {K : BuL} {β : Bu} {S : Nat → Prop} (R : BuRep w K β) (T : Touch S w w') (h : ∀ k, k ∈ K.fp → ¬ S k) : BuRep w' K β := by
  obtain ⟨h1, h2, h3⟩ := R.own_touch T (fun k hk => h k (by simp [BuL.fp, hk]))
  exact ⟨h1, h2, h3, R.sp.touch T (fun k hk => h k (by simp [BuL.fp, hk])), R.mp.touch T (fun k hk => h k (by simp [BuL.fp, hk])), R.apart, R.ok⟩

theorem BuRep.touch0 {w w' : World} {K : BuL} {β : Bu} (R : BuRep w K β) (T : Touch Nothing w w') : BuRep w' K β := R.touch T (fun _ _ h => h)

theorem BuRep.lt {w : World} {K : BuL} {β : Bu} (R : BuRep w K β) : ∀ k ∈ K.fp, k < w.heap.size := by
  intro k hk
  simp only [BuL.fp, BuL.own, List.mem_append, List.mem_cons, Option.mem_toList] at hk
  rcases hk with (rfl | hk | hk) | hk | hk
  · exact R.blk.lt
  · exact R.row.lt hk
  · obtain ⟨i, hi⟩ := List.mem_iff_getElem?.1 hk
    have hlen := R.lens
    have hi' := (List.getElem?_eq_some_iff.1 hi).1
    exact (R.lists i k _ hi (List.getElem?_eq_getElem (by omega))).lt
  · exact R.sp.lt k hk
  · exact R.mp.lt k hk

/-- the map has turned, in its place -/
theorem BuRep.mapped {w w' : World} {K : BuL} {β : Bu} {μ' : Mp} (R : BuRep w K β) (h : MpRep w' K.M μ') (T : Touch (· ∈ K.M.fp) w w') (ho : μ'.order = β.μ.order) (hl : μ'.pages.length = β.μ.pages.length) : BuRep w' K { β with μ := μ' } := by
  obtain ⟨_, s2, s3⟩ := R.split
  obtain ⟨h1, h2, h3⟩ := R.own_touch T (fun k hk => (s2 k hk).2)
  have o := R.ok
  exact ⟨h1, h2, h3, R.sp.touch T s3, h, R.apart, ⟨o.order.trans ho.symm, o.heads.trans (by rw [ho]), o.size.trans (by rw [ho]), o.limit, o.base, by show μ'.pages.length ≤ _; rw [hl, ho]; exact o.pages, by show μ'.pages.length ≤ β.σ.n * _; rw [hl, ho]; exact o.regs, o.head⟩⟩

/-- a list has turned, and the bytes with it -/
theorem BuRep.listed {w w' : World} {K : BuL} {β : Bu} {σ' : Sp} {i lb h' : Nat} (R : BuRep w K β) (hi : K.lbs[i]? = some lb) (S : LS w w' K.L lb σ' h') (hσ : σ'.base = β.σ.base ∧ σ'.limit = β.σ.limit ∧ σ'.order = β.σ.order ∧ σ'.size = β.σ.size ∧ σ'.n = β.σ.n) (h64 : h' < 18446744073709551616) :
    BuRep w' K { β with σ := σ', heads := β.heads.set i h' } := by
  obtain ⟨⟨s0, _⟩, s2, s3⟩ := R.split
  have T := S.touch
  have o := R.ok
  have hown := s0
  simp only [BuL.own, List.nodup_cons, List.nodup_append, List.mem_append, not_or, Option.mem_toList] at hown
  obtain ⟨⟨a1, a2⟩, a3, a4, a5⟩ := hown
  have hlbm := List.mem_of_getElem? hi
  have hrb : ∀ k ∈ K.own, k ≠ lb → ¬ (k ∈ K.L.rbs ∨ k = lb) := by
    rintro k hk hne (h | h)
    · exact (s2 k hk).1 (by simp [SpL.fp, h])
    · exact hne h
  have hbb : ¬ (K.bb ∈ K.L.rbs ∨ K.bb = lb) := hrb _ (by simp [BuL.own]) (fun e => a2 (e ▸ hlbm))
  refine ⟨?_, ?_, ?_, S.rep, R.mp.touch T ?_, R.apart, ⟨hσ.2.2.1.trans o.order, by show (β.heads.set i h').length = _; rw [List.length_set]; exact o.heads, hσ.2.2.2.1.trans o.size, by show σ'.limit ≤ 64; rw [hσ.2.1]; exact o.limit, by show σ'.base % 4096 = 0; rw [hσ.1]; exact o.base, o.pages, by show _ ≤ σ'.n * _; rw [hσ.2.2.2.2]; exact o.regs, ?_⟩⟩
  · have := R.blk.touch T hbb
    show Blk w' K.bb 274 [.int .u64 σ'.base, .int .i64 σ'.limit, .int .i64 σ'.order, _, _, _]
    rw [hσ.1, hσ.2.1, hσ.2.2.1]
    exact this
  · show Row w' 275 1 K.tv (β.heads.set i h').length _
    rw [List.length_set]
    exact R.row.touch T (fun g hg => hrb g (by simp [BuL.own, hg]) (fun e => a5 g hg lb hlbm e))
  · intro j b hh hb hhd
    by_cases hj : j = i
    · subst hj
      rw [hi] at hb
      cases hb
      have hlen := R.lens
      have := (List.getElem?_eq_some_iff.1 hi).1
      simp [show j < β.heads.length from by omega] at hhd
      rw [← hhd]
      exact S.list
    · have hne : b ≠ lb := by
        rintro rfl
        have h1 := (List.getElem?_eq_some_iff.1 hb)
        have h2 := (List.getElem?_eq_some_iff.1 hi)
        obtain ⟨x1, x2⟩ := h1
        obtain ⟨y1, y2⟩ := h2
        exact hj ((List.getElem_inj a4).1 (x2.trans y2.symm))
      refine (R.lists j b hh hb ?_).touch T (hrb b (by simp [BuL.own, List.mem_of_getElem? hb]) hne)
      simpa [List.getElem?_set, Ne.symm hj] using hhd
  · rintro k hk (h | h)
    · exact s3 k (by simp [SpL.fp, h]) hk
    · exact (s2 lb (by simp [BuL.own, hlbm])).2 (h ▸ hk)
  · intro x hx
    rcases List.mem_or_eq_of_mem_set hx with h | h
    · exact o.head x h
    · rw [h]; exact h64

theorem BuRep.cells {w : World} {K : BuL} {β : Bu} (R : BuRep w K β) :
    w.cell? ⟨K.bb, 0, none⟩ = some (.int .u64 β.σ.base) ∧ w.cell? ⟨K.bb, 1, none⟩ = some (.int .i64 β.σ.limit) ∧ w.cell? ⟨K.bb, 2, none⟩ = some (.int .i64 β.μ.order) ∧
    w.cell? ⟨K.bb, 3, none⟩ = some (.pointer (some ⟨K.L.sb, 0, none⟩)) ∧ w.cell? ⟨K.bb, 4, none⟩ = some (.pointer (some ⟨K.M.mb, 0, none⟩)) ∧ w.cell? ⟨K.bb, 5, none⟩ = some K.tv := by
  rw [← R.ok.order]
  exact ⟨R.blk.cell 0, R.blk.cell 1, R.blk.cell 2, R.blk.cell 3, R.blk.cell 4, R.blk.cell 5⟩

/-- the address of a page -/
def Bu.addr (β : Bu) (i : Nat) : Nat := β.σ.base + 4096 * i

theorem BuRep.address_ {w : World} {K : BuL} {β : Bu} (R : BuRep w K β) (i : Nat) (h : β.addr i < 18446744073709551616) :
    Calls Tryz.prog 256 #[.pointer (some ⟨K.bb, 0, none⟩), .int .i64 i] w fun e w' => e = .returned (.int .u64 (β.addr i : Nat)) ∧ w = w' := by
  obtain ⟨c0, -, -, -, -, -⟩ := R.cells
  unfold Bu.addr at *
  have hc : ((β.σ.base + 4096 * i : Nat) : Int) = (β.σ.base : Int) + 4096 * i := by omega
  rw [hc]
  have h' : (β.σ.base : Int) + 4096 * i < 18446744073709551616 := by omega
  clear R h hc
  go_enter Tryz.func256, Tryz.ntmps256
  go_wp2
  go_ret
  exact ⟨rfl, rfl⟩

theorem page_cells (b mb base p d i n : Nat) (w : World) (c0 : w.cell? ⟨b, 0, none⟩ = some (.int .u64 base)) (c4 : w.cell? ⟨b, 4, none⟩ = some (.pointer (some ⟨mb, 0, none⟩)))
    (hc : ∀ k, Calls Tryz.prog 64 #[.pointer (some ⟨mb, 0, none⟩)] (w.drewN k) fun e w' => e = .returned (.int .i64 n) ∧ w' = w.drewN k)
    (h1 : (p : Int) - base = d) (h2 : (d : Int) / 4096 = i) (h3 : (p : Int).tmod 4096 = 0) (_h3' : (p : Int) % 4096 = 0) (_h4 : i < n) (h5 : n ≤ 1024) (_h6 : base ≤ p) (h6' : ¬ (p < base)) (h7 : ¬ (n ≤ i)) (_h8 : p < 18446744073709551616) (h9 : d < 18446744073709551616) :
    Calls Tryz.prog 237 #[.pointer (some ⟨b, 0, none⟩), .int .u64 p] w fun e w' => e = .returned (.tuple #[.int .i64 i, .bool true]) ∧ ∃ k, w' = w.drewN k := by
  have HC := Lib.hid hc
  clear hc
  go_enter Tryz.func237, Tryz.ntmps237
  go_wp2_with fail
  go_quiet (first | (go_at_call 64; refine Calls.quiet_of_same (HC.out _)))
  go_wp2_with fail
  go_ret2
  exact ⟨rfl, _, rfl⟩

theorem Bu.ok.addr_top {β : Bu} (o : β.ok) (so : β.σ.ok) {i : Nat} (h : i < β.μ.pages.length) : β.addr i + 4096 ≤ 18446744073709551615 := by
  have h1 := o.pages
  have h2 := so.top
  have h3 := o.size
  have h4 : 4096 * β.μ.pages.length ≤ 64 * β.σ.size := by
    rw [h3]
    calc 4096 * β.μ.pages.length ≤ 4096 * (64 * 2 ^ β.μ.order) := Nat.mul_le_mul_left _ h1
      _ = 64 * (4096 * 2 ^ β.μ.order) := by rw [← Nat.mul_assoc, ← Nat.mul_assoc]
  unfold Bu.addr
  omega

theorem BuRep.page_ {w : World} {K : BuL} {β : Bu} (R : BuRep w K β) {i : Nat} (h : i < β.μ.pages.length) :
    Calls Tryz.prog 237 #[.pointer (some ⟨K.bb, 0, none⟩), .int .u64 (β.addr i : Nat)] w fun e w' => e = .returned (.tuple #[.int .i64 i, .bool true]) ∧ Touch Nothing w w' := by
  obtain ⟨c0, -, -, -, c4, -⟩ := R.cells
  have ht := R.ok.addr_top R.sp.ok h
  have hb := R.ok.base
  have hl := R.mp.ok.len
  have hmod : (β.addr i) % 4096 = 0 := by unfold Bu.addr; omega
  refine (page_cells K.bb K.M.mb β.σ.base (β.addr i) (4096 * i) i β.μ.pages.length w c0 c4 ?_ (by unfold Bu.addr; omega) (by omega) ?_ (by omega) h hl (by unfold Bu.addr; omega) (by unfold Bu.addr; omega) (by omega) (by omega) (by unfold Bu.addr at ht; omega)).mono ?_
  · intro k
    exact ((R.mp.touch0 ((Touch.refl Nothing w).drewN k)).pages_).mono fun _ _ h => ⟨h.1, h.2.symm⟩
  · have : ((β.addr i : Nat) : Int).tmod 4096 = ((β.addr i % 4096 : Nat) : Int) := (Int.ofNat_tmod _ _).symm
    rw [this, hmod]
    rfl
  · rintro e w' ⟨rfl, k, rfl⟩
    exact ⟨rfl, (Touch.refl Nothing w).drewN k⟩

/-- turn at the greatest order -/
theorem BuRep.turn_top {w : World} {K : BuL} {β : Bu} (R : BuRep w K β) (i : Nat) :
    Calls Tryz.prog 239 #[.pointer (some ⟨K.bb, 0, none⟩), .int .i64 i, .int .i64 β.μ.order] w fun e w' => e = .returned (.bool true) ∧ w = w' := by
  obtain ⟨-, -, c2, -, -, -⟩ := R.cells
  clear R
  go_enter Tryz.func239, Tryz.ntmps239
  go_wp2
  go_ret
  exact ⟨rfl, rfl⟩

/-- the pair's bit of a block -/
def Mp.bit (μ : Mp) (k i : Nat) : Bool := bitOf (μ.pairs.getD k ⟨0, []⟩).ws (i / 2 ^ (k + 1))

def Turned (w : World) (K : BuL) (β : Bu) (v : Value) (e : Ending) (w' : World) : Prop := e = .returned v ∧ BuRep w' K β ∧ Touch (· ∈ K.fp) w w'

theorem BuRep.turn_ {w : World} {K : BuL} {β : Bu} (R : BuRep w K β) {i k : Nat} {p : Pg} (hi : β.μ.pages[i]? = some p) (hk : k < β.μ.order) (hn : i / 2 ^ (k + 1) < (β.μ.pairs.getD k ⟨0, []⟩).n) :
    Calls Tryz.prog 239 #[.pointer (some ⟨K.bb, 0, none⟩), .int .i64 i, .int .i64 k] w (Turned w K { β with μ := β.μ.flip k i } (.bool (!β.μ.bit k i))) := by
  obtain ⟨-, -, c2, -, c4, -⟩ := R.cells
  have HF := Lib.hid (R.mp.flip_ hi hk hn)
  have HR := Lib.hid R
  have hne := int_ne (show k ≠ β.μ.order by omega)
  unfold Mp.bit
  generalize bitOf (β.μ.pairs.getD k ⟨0, []⟩).ws (i / 2 ^ (k + 1)) = B at *
  clear R hi hn
  go_enter Tryz.func239, Tryz.ntmps239
  go_wp2_with fail
  refine HF.out.mono ?_
  rintro e w1 ⟨rfl, h1, h2⟩
  have H1 := Lib.hid h1
  have H2 := Lib.hid h2
  clear h1 h2
  go_wp2_with fail
  go_ret
  have T : Touch (· ∈ K.M.fp) w w1 := H2.out.mono (fun k _ hk => MpL.words_fp k hk)
  exact ⟨rfl, HR.out.mapped H1.out T rfl rfl, T.mono (fun k _ hk => by simp [BuL.fp, hk])⟩

end Go.Proofs.YtnjcmcnjgdjbiaaGreatDoor

namespace Go.Proofs.YtnjcmcnjgdjbiaaGreatDoor
open Go.RowKit

theorem Bu.ok.has {β : Bu} (o : β.ok) {i off n : Nat} (hi : i < β.μ.pages.length) (hn : 0 < n) (hf : off + n ≤ 4096) : β.σ.has (β.addr i + off) n := by
  have e : β.addr i + off - β.σ.base = 4096 * i + off := by unfold Bu.addr; omega
  have hp : 0 < 2 ^ β.μ.order := Nat.pos_of_ne_zero (by simp)
  have hdm := Nat.div_add_mod i (2 ^ β.μ.order)
  have hr := Nat.mod_lt i hp
  have hs : 4096 * i + off = β.σ.size * (i / 2 ^ β.μ.order) + (4096 * (i % 2 ^ β.μ.order) + off) := by
    rw [o.size, Nat.mul_assoc]
    have : 4096 * i = 4096 * (2 ^ β.μ.order * (i / 2 ^ β.μ.order)) + 4096 * (i % 2 ^ β.μ.order) := by rw [← Nat.mul_add, hdm]
    omega
  have hlt : 4096 * (i % 2 ^ β.μ.order) + off < β.σ.size := by rw [o.size]; omega
  have hdiv : (4096 * i + off) / β.σ.size = i / 2 ^ β.μ.order := by
    rw [hs, Nat.mul_add_div (by omega), Nat.div_eq_of_lt hlt]
    omega
  have hmod : (4096 * i + off) % β.σ.size = 4096 * (i % 2 ^ β.μ.order) + off := by
    rw [hs, Nat.mul_add_mod, Nat.mod_eq_of_lt hlt]
  refine ⟨hn, by unfold Bu.addr; omega, ?_, ?_⟩
  · rw [e, hdiv]
    exact (Nat.div_lt_iff_lt_mul hp).2 (Nat.lt_of_lt_of_le hi o.regs)
  · rw [e, hmod, o.size]
    omega

theorem BuRep.ls {w : World} {K : BuL} {β : Bu} (R : BuRep w K β) {k lb h : Nat} (hb : K.lbs[k]? = some lb) (hh : β.heads[k]? = some h) : LS w w K.L lb β.σ h := by
  obtain ⟨_, s2, _⟩ := R.split
  exact ⟨R.sp, R.lists k lb h hb hh, (s2 lb (by simp [BuL.own, List.mem_of_getElem? hb])).1, Touch.refl _ _⟩

/-- where the list of an order lies -/
theorem BuRep.listAt {w : World} {K : BuL} {β : Bu} (R : BuRep w K β) {k : Nat} (hk : k ≤ β.μ.order) :
    ∃ g cap lb, K.tv = .slice (some ⟨g, 0, none⟩) β.heads.length cap ∧ β.heads.length ≤ cap ∧ K.lbs[k]? = some lb ∧ w.cell? ⟨g, k, none⟩ = some (.pointer (some ⟨lb, 0, none⟩)) ∧ β.heads[k]? = some (β.heads.getD k 0) := by
  have hl := R.ok.heads
  have hll := R.lens
  obtain ⟨g, cap, hv, hc, _⟩ := R.row.form (by omega)
  have hr := R.row
  rw [hv] at hr
  have hk' : k < K.lbs.length := by omega
  refine ⟨g, cap, K.lbs[k], hv, hc, List.getElem?_eq_getElem hk', ?_, ?_⟩
  · rw [hr.cell _ (by omega)]
    simp [hk']
  · rw [List.getD_eq_getElem?_getD, List.getElem?_eq_getElem (by omega)]
    rfl

/-- a buddy behind enter -/
def Bu.enter (β : Bu) (j k : Nat) : Bu := { σ := pushed β.σ (β.heads.getD k 0) (β.addr j), μ := β.μ.run j k 0, heads := β.heads.set k (β.addr j) }

theorem pushed_same (σ : Sp) (h p : Nat) : (pushed σ h p).base = σ.base ∧ (pushed σ h p).limit = σ.limit ∧ (pushed σ h p).order = σ.order ∧ (pushed σ h p).size = σ.size ∧ (pushed σ h p).n = σ.n := by
  unfold pushed
  split <;> exact ⟨rfl, rfl, rfl, rfl, rfl⟩

set_option maxRecDepth 100000 in
theorem BuRep.enter_ {w : World} {K : BuL} {β : Bu} (R : BuRep w K β) (j k : Nat) (hk : k ≤ β.μ.order) (hj : (j : Int).tmod (2 ^ k : Nat) = 0) (hle : j + 2 ^ k ≤ β.μ.pages.length)
    (hh : β.heads.getD k 0 ≠ 0 → β.σ.has (β.heads.getD k 0) 16 ∧ β.σ.word (β.heads.getD k 0 + 8) = 0) :
    Calls Tryz.prog 238 #[.pointer (some ⟨K.bb, 0, none⟩), .int .i64 j, .int .i64 k] w (Turned w K (β.enter j k) (.tuple #[])) := by
  obtain ⟨-, -, -, -, c4, -⟩ := R.cells
  have hpw : 0 < 2 ^ k := Nat.pos_of_ne_zero (by simp)
  have HRun := Lib.hid (R.mp.run0_ j k hk hj hle)
  have hjl : j < β.μ.pages.length := by omega
  have HR := Lib.hid R
  have HH := Lib.hid hh
  have hl9 := R.ok.heads
  clear R hj hle hh
  go_enter Tryz.func238, Tryz.ntmps238
  go_wp2_with fail
  refine HRun.out.mono ?_
  rintro e w1 ⟨rfl, h1, h2⟩
  have T1 : Touch (· ∈ K.M.fp) w w1 := h2.mono (fun b _ e => by simp [MpL.fp, e.symm])
  have R1 := (HR.out.mapped h1 T1 rfl (runL_len _ _ _ _ _)).touch0 (Touch.refl Nothing w1).drew
  obtain ⟨g, cap, lb, hv, hc, hlb, hcell, hhd⟩ := R1.listAt hk
  obtain ⟨-, -, -, -, -, c5⟩ := R1.cells
  rw [hv] at c5
  have hadd := R1.ok.addr_top R1.sp.ok (i := j) (by show j < (β.μ.run j k 0).pages.length; rw [show (β.μ.run j k 0).pages.length = β.μ.pages.length from runL_len _ _ _ _ _]; exact hjl)
  have HA := Lib.hid (R1.address_ j (by omega))
  have hhas : β.σ.has (β.addr j) 16 := by
    have := HR.out.ok.has (i := j) (off := 0) (n := 16) hjl (by omega) (by omega)
    simpa using this
  have h64 := R1.ok.head _ (List.mem_of_getElem? hhd)
  have HP := Lib.hid ((R1.ls hlb hhd).push hhas HH.out h64)
  have HR1 := Lib.hid R1
  have HT1 := Lib.hid T1
  have HHD := Lib.hid hhd
  have HLB := Lib.hid hlb
  have HV := Lib.hid hv
  have hkl : (k : Int) < (β.μ.order : Int) + 1 := by omega
  have hlg := World.block_lt_of_cell? _ _ hcell
  clear R1 T1 h1 h2 hhd hlb hhas hv hc
  go_wp2_with fail
  refine wp_region_still_tail 10 (by kernel_rfl) (by kernel_rfl) ?_
  simp only [List.take_succ_cons, List.take_zero, List.drop_succ_cons, List.drop_zero, World.drew_eq]
  repeat still_step
  still_call (HA.out.mono fun _ _ h => ⟨h.1, h.2.symm⟩)
  refine wpStill_nil ?_
  go_wp2_with fail
  refine HP.out.mono ?_
  rintro e w2 ⟨rfl, S2⟩
  have HS2 := Lib.hid S2
  clear S2
  go_wp2_with fail
  go_end0
  have hw : β.addr j < 18446744073709551616 := by have := HR.out.ok.addr_top HR.out.sp.ok hjl; omega
  refine ⟨rfl, HR1.out.listed HLB.out HS2.out (pushed_same _ _ _) hw, (HT1.out.drew.mono (fun b _ hb => by simp [BuL.fp, hb])).trans (HS2.out.touch.mono (fun b _ hb => ?_))⟩
  rcases hb with hb | hb
  · simp [BuL.fp, SpL.fp, hb]
  · simp [BuL.fp, BuL.own, hb, List.mem_of_getElem? HLB.out]

/-- one round of cut: the upper half (at page s) of order i is given up -/
def Bu.cut1 (β : Bu) (s i : Nat) : Bu := { β.enter s i with μ := (β.enter s i).μ.flip i s }

def Bu.cutN (β : Bu) (j frm : Nat) : Nat → Bu
  | 0 => β
  | m + 1 => (β.cutN j frm m).cut1 (j + 2 ^ (frm - 1 - m)) (frm - 1 - m)

/-- a buddy behind cut -/
def Bu.cut (β : Bu) (j frm lo : Nat) : Bu := { β.cutN j frm (frm - lo) with μ := (β.cutN j frm (frm - lo)).μ.run j lo 2 }

structure CutOk (β : Bu) (s i : Nat) : Prop where
  ord : i < β.μ.order
  al : (s : Int).tmod (2 ^ i : Nat) = 0
  le : s + 2 ^ i ≤ β.μ.pages.length
  hd : β.heads.getD i 0 ≠ 0 → β.σ.has (β.heads.getD i 0) 16 ∧ β.σ.word (β.heads.getD i 0 + 8) = 0
  pr : s / 2 ^ (i + 1) < (β.μ.pairs.getD i ⟨0, []⟩).n

theorem BuRep.round {w : World} {K : BuL} {β : Bu} (R : BuRep w K β) {s i : Nat} (C : CutOk β s i) :
    Calls Tryz.prog 238 #[.pointer (some ⟨K.bb, 0, none⟩), .int .i64 s, .int .i64 i] w (Turned w K (β.enter s i) (.tuple #[])) ∧
    ∀ w1, BuRep w1 K (β.enter s i) → Calls Tryz.prog 239 #[.pointer (some ⟨K.bb, 0, none⟩), .int .i64 s, .int .i64 i] w1 (Turned w1 K (β.cut1 s i) (.bool (!(β.enter s i).μ.bit i s))) := by
  refine ⟨R.enter_ s i (Nat.le_of_lt C.ord) C.al C.le C.hd, fun w1 r => ?_⟩
  have hpw : 0 < 2 ^ i := Nat.pos_of_ne_zero (by simp)
  have hlt : s < (β.enter s i).μ.pages.length := by
    show _ < (runL _ _ _ _ _).length
    rw [runL_len]
    have := C.le
    omega
  exact r.turn_ (List.getElem?_eq_getElem hlt) C.ord C.pr

structure CutRel (w : World) (K : BuL) (β : Bu) (wr : World) : Prop where
  rep : BuRep wr K β
  touch : Touch (· ∈ K.fp) w wr

set_option maxRecDepth 100000 in
theorem BuRep.cut_ {w : World} {K : BuL} {β : Bu} (R : BuRep w K β) (j frm lo : Nat) (ht : lo ≤ frm) (hf : frm ≤ β.μ.order) (hC : ∀ m, m < frm - lo → CutOk (β.cutN j frm m) (j + 2 ^ (frm - 1 - m)) (frm - 1 - m))
    (hto : lo ≤ (β.cutN j frm (frm - lo)).μ.order) (hj : (j : Int).tmod (2 ^ lo : Nat) = 0) (hle : j + 2 ^ lo ≤ (β.cutN j frm (frm - lo)).μ.pages.length) :
    Calls Tryz.prog 189 #[.pointer (some ⟨K.bb, 0, none⟩), .int .i64 j, .int .i64 frm, .int .i64 lo] w (Turned w K (β.cut j frm lo) (.tuple #[])) := by
  have hm8 := R.mp.ok.order
  have hf8 : frm ≤ 8 := by omega
  have HR := Lib.hid R
  have HC := Lib.hid hC
  have HTO := Lib.hid (And.intro hto (And.intro hj hle))
  clear R hC hto hj hle
  go_enter Tryz.func189, Tryz.ntmps189
  go_wp2_with fail
  go_loopw [8] (fun a wr => ∃ m : Nat, m ≤ frm - lo ∧ a = .int .i64 ((frm : Int) - 1 - m) ∧ CutRel w K (β.cutN j frm m) wr) (fun a _ => (intOf a + 1).toNat)
  case atStart =>
    exact ⟨0, Nat.zero_le _, by simp, HR.out, Touch.refl _ _⟩
  case round =>
    obtain ⟨m, hm, rfl, hF⟩ := hrel
    have HF := Lib.hid hF
    clear hF
    by_cases hlt : m < frm - lo
    · obtain ⟨i, hi⟩ : ∃ i, i = frm - 1 - m := ⟨_, rfl⟩
      have hii : (frm : Int) - 1 - m = i := by omega
      have C := HC.out m hlt
      rw [← hi] at C
      obtain ⟨s, hs⟩ : ∃ s, s = j + 2 ^ i := ⟨_, rfl⟩
      rw [← hs] at C
      have hle := C.le
      have hlen := HF.out.rep.mp.ok.len
      have hi8 : i ≤ 8 := by omega
      have hpi := pow_le8' hi8
      have HBeta := Lib.hid (show (β.cutN j frm (m + 1)) = (β.cutN j frm m).cut1 s i by rw [hs, hi]; rfl)
      have HE := Lib.hid (HF.out.rep.round C).1
      have HTT := Lib.hid (HF.out.rep.round C).2
      have HI := Lib.hid hi
      have hge : lo ≤ i := by omega
      rw [hii]
      have hwj : wrap64 ((j : Int) + ((2 ^ i : Nat) : Int)) = (s : Int) := by
        rw [hs]
        have : ((j + 2 ^ i : Nat) : Int) = (j : Int) + ((2 ^ i : Nat) : Int) := by omega
        rw [this]
        exact IntWalk.wrap64_in _ ⟨by omega, by omega⟩
      have hwp := wrap64_pow hi8
      clear C hle hi hii hs
      generalize 2 ^ i = y at *
      generalize β.cutN j frm m = βm at *
      go_wp2_with fail
      refine HE.out.mono ?_
      rintro e w1 ⟨rfl, r1, t1⟩
      have HR1 := Lib.hid r1
      have HT1 := Lib.hid t1
      clear r1 t1
      go_wp2_with fail
      refine (HTT.out _ HR1.out).mono ?_
      rintro e w2 ⟨rfl, r2, t2⟩
      have HR2 := Lib.hid r2
      have HT2 := Lib.hid t2
      clear r2 t2
      go_wp2_with fail
      clear hwp hwj
      have hi := HI.out
      go_roundw
      case rel =>
        refine ⟨m + 1, by omega, by congr 1; omega, ?_⟩
        rw [HBeta.out]
        exact ⟨HR2.out, (HF.out.touch.trans HT1.out).trans HT2.out⟩
      case measure => simp [intOf]
    · obtain rfl : m = frm - lo := by omega
      have hRun := HF.out.rep.mp.run2_ j lo HTO.out.1 HTO.out.2.1 HTO.out.2.2
      obtain ⟨-, -, -, -, c4, -⟩ := HF.out.rep.cells
      have HRun := Lib.hid hRun
      have hv : (frm : Int) - 1 - ((frm - lo : Nat) : Int) = (lo : Int) - 1 := by omega
      rw [hv]
      clear hRun hv
      go_wp2_with fail
      refine HRun.out.mono ?_
      rintro e w1 ⟨rfl, r1, t1⟩
      have HR1 := Lib.hid r1
      have HT1 := Lib.hid t1
      clear r1 t1
      go_wp2_with fail
      go_end0
      have T : Touch (· ∈ K.M.fp) wr w1 := HT1.out.mono (fun b _ e => by simp [MpL.fp, e.symm])
      exact ⟨rfl, HF.out.rep.mapped HR1.out T rfl (runL_len _ _ _ _ _), HF.out.touch.trans (T.mono (fun b _ hb => by simp [BuL.fp, hb]))⟩

end Go.Proofs.YtnjcmcnjgdjbiaaGreatDoor

namespace Go.Proofs.YtnjcmcnjgdjbiaaGreatDoor
open Go.RowKit

/-- the facts of a loop over the lists -/
theorem BuRep.listCells {w : World} {K : BuL} {β : Bu} (R : BuRep w K β) {k : Nat} (hk : k ≤ β.μ.order) :
    ∃ g cap lb, w.cell? ⟨K.bb, 5, none⟩ = some (.slice (some ⟨g, 0, none⟩) (β.μ.order + 1) cap) ∧ K.lbs[k]? = some lb ∧ w.cell? ⟨g, k, none⟩ = some (.pointer (some ⟨lb, 0, none⟩)) ∧ g < w.heap.size ∧ β.heads[k]? = some (β.heads.getD k 0) := by
  obtain ⟨g, cap, lb, hv, hc, hlb, hcell, hhd⟩ := R.listAt hk
  obtain ⟨-, -, -, -, -, c5⟩ := R.cells
  rw [hv, R.ok.heads] at c5
  exact ⟨g, cap, lb, c5, hlb, hcell, World.block_lt_of_cell? _ _ hcell, hhd⟩

set_option maxRecDepth 100000 in
theorem BuRep.take_none {w : World} {K : BuL} {β : Bu} (R : BuRep w K β) (o : Nat) (ho : o ≤ β.μ.order) (hh : ∀ k, o ≤ k → k ≤ β.μ.order → β.heads.getD k 0 = 0) :
    Calls Tryz.prog 247 #[.pointer (some ⟨K.bb, 0, none⟩), .int .i64 o] w fun e w' => e = .returned (.tuple #[.int .u64 0, .int .i64 2]) ∧ w = w' := by
  obtain ⟨-, -, c2, -, -, -⟩ := R.cells
  have hm8 := R.mp.ok.order
  have ho8 : o ≤ 8 := by omega
  have HR := Lib.hid R
  have HH := Lib.hid hh
  have hg1 : ¬ (β.μ.order < o) := by omega
  clear R hh
  go_enter Tryz.func247, Tryz.ntmps247
  go_wp2_with fail
  go_loopw [6] (fun a wr => ∃ k : Nat, o ≤ k ∧ k ≤ β.μ.order + 1 ∧ a = .int .i64 k ∧ w = wr) (fun a _ => β.μ.order + 1 - (intOf a).toNat)
  case atStart => exact ⟨o, Nat.le_refl _, by omega, rfl, rfl⟩
  case round =>
    obtain ⟨k, hk1, hk2, rfl, rfl⟩ := hrel
    by_cases hlt : k ≤ β.μ.order
    · obtain ⟨g, cap, lb, c5, hlb, hcell, hg, hhd⟩ := HR.out.listCells hlt
      rw [HH.out k hk1 hlt] at hhd
      have HP := Lib.hid ((HR.out.ls hlb hhd).pop_none)
      have hkl : (k : Int) < (β.μ.order : Int) + 1 := by omega
      clear hlb hhd
      go_wp2_with fail
      refine HP.out.mono ?_
      rintro e w1 ⟨rfl, rfl⟩
      go_wp2_with fail
      go_roundw
      case rel => exact ⟨k + 1, by omega, by omega, by go_num, trivial⟩
      case measure => simp [intOf]; omega
    · obtain rfl : k = β.μ.order + 1 := by omega
      go_wp2_with fail
      go_ret2
      exact ⟨rfl, rfl⟩

/-- a buddy whose list of order j has lost its first block -/
def Bu.popped (β : Bu) (j next : Nat) : Bu := { β with σ := removed β.σ next 0, heads := β.heads.set j next }

/-- .. and whose pair's bit has turned -/
def Bu.turned (β : Bu) (i j : Nat) : Bu := if j = β.μ.order then β else { β with μ := β.μ.flip j i }

theorem removed_same (σ : Sp) (next : Nat) : (removed σ next 0).base = σ.base ∧ (removed σ next 0).limit = σ.limit ∧ (removed σ next 0).order = σ.order ∧ (removed σ next 0).size = σ.size ∧ (removed σ next 0).n = σ.n := by
  unfold removed removed1
  split <;> exact ⟨rfl, rfl, rfl, rfl, rfl⟩

theorem BuRep.turnAny {w : World} {K : BuL} {β : Bu} (R : BuRep w K β) {i j : Nat} (hi : i < β.μ.pages.length) (hj : j ≤ β.μ.order) (hn : j < β.μ.order → i / 2 ^ (j + 1) < (β.μ.pairs.getD j ⟨0, []⟩).n) :
    Calls Tryz.prog 239 #[.pointer (some ⟨K.bb, 0, none⟩), .int .i64 i, .int .i64 j] w fun e w' => ∃ b, e = .returned (.bool b) ∧ BuRep w' K (β.turned i j) ∧ Touch (· ∈ K.fp) w w' := by
  unfold Bu.turned
  by_cases h : j = β.μ.order
  · subst h
    rw [if_pos rfl]
    refine (R.turn_top i).mono ?_
    rintro e w' ⟨rfl, rfl⟩
    exact ⟨true, rfl, R, Touch.refl _ _⟩
  · rw [if_neg h]
    refine (R.turn_ (List.getElem?_eq_getElem hi) (by omega) (hn (by omega))).mono ?_
    rintro e w' ⟨rfl, r, t⟩
    exact ⟨_, rfl, r, t⟩

/-- a buddy behind Take that found block i on the list of order j -/
def Bu.took (β : Bu) (i j o next : Nat) : Bu := ((β.popped j next).turned i j).cut i j o

structure TakeOk (β : Bu) (i j o next : Nat) : Prop where
  lo : o ≤ j
  hi : j ≤ β.μ.order
  none : ∀ k, o ≤ k → k < j → β.heads.getD k 0 = 0
  head : β.heads.getD j 0 = β.addr i
  page : i < β.μ.pages.length
  link : β.σ.word (β.addr i) = next
  prev : β.σ.word (β.addr i + 8) = 0
  back : next ≠ 0 → β.σ.has next 16 ∧ β.σ.word (next + 8) = β.addr i
  pair : j < β.μ.order → i / 2 ^ (j + 1) < (β.μ.pairs.getD j ⟨0, []⟩).n
  cut : ∀ m, m < j - o → CutOk (((β.popped j next).turned i j).cutN i j m) (i + 2 ^ (j - 1 - m)) (j - 1 - m)
  cuto : o ≤ (((β.popped j next).turned i j).cutN i j (j - o)).μ.order
  al : (i : Int).tmod (2 ^ o : Nat) = 0
  le : i + 2 ^ o ≤ (((β.popped j next).turned i j).cutN i j (j - o)).μ.pages.length

set_option maxRecDepth 100000 in
theorem BuRep.take_some {w : World} {K : BuL} {β : Bu} (R : BuRep w K β) (i j o next : Nat) (C : TakeOk β i j o next) :
    Calls Tryz.prog 247 #[.pointer (some ⟨K.bb, 0, none⟩), .int .i64 o] w (Turned w K (β.took i j o next) (.tuple #[.int .u64 (β.addr i : Nat), .int .i64 0])) := by
  obtain ⟨-, -, c2, -, -, -⟩ := R.cells
  have hm8 := R.mp.ok.order
  have hlo := C.lo
  have hhi := C.hi
  have ho8 : o ≤ 8 := by omega
  have HR := Lib.hid R
  have HC := Lib.hid C
  have hg1 : ¬ (β.μ.order < o) := by omega
  clear R C
  go_enter Tryz.func247, Tryz.ntmps247
  go_wp2_with fail
  go_loopw [6] (fun a wr => ∃ k : Nat, o ≤ k ∧ k ≤ j ∧ a = .int .i64 k ∧ w = wr) (fun a _ => β.μ.order + 1 - (intOf a).toNat)
  case atStart => exact ⟨o, Nat.le_refl _, hlo, rfl, rfl⟩
  case round =>
    obtain ⟨k, hk1, hk2, rfl, rfl⟩ := hrel
    have hlt : k ≤ β.μ.order := by omega
    obtain ⟨g, cap, lb, c5, hlb, hcell, hg, hhd⟩ := HR.out.listCells hlt
    have hkl : (k : Int) < (β.μ.order : Int) + 1 := by omega
    by_cases hkj : k < j
    · rw [HC.out.none k hk1 hkj] at hhd
      have HP := Lib.hid ((HR.out.ls hlb hhd).pop_none)
      clear hlb hhd
      go_wp2_with fail
      refine HP.out.mono ?_
      rintro e w1 ⟨rfl, rfl⟩
      go_wp2_with fail
      go_roundw
      case rel => exact ⟨k + 1, by omega, by omega, by go_num, trivial⟩
      case measure => simp [intOf]; omega
    · obtain rfl : k = j := by omega
      rw [HC.out.head] at hhd
      have hbase := HR.out.sp.ok.base0
      have hpos : β.addr i ≠ 0 := by unfold Bu.addr; omega
      have hhas : β.σ.has (β.addr i) 16 := by
        have := HR.out.ok.has (i := i) (off := 0) (n := 16) HC.out.page (by omega) (by omega)
        simpa using this
      have n64 : next < 18446744073709551616 := by rw [← HC.out.link]; exact HR.out.sp.ok.word_lt _
      have HP := Lib.hid ((HR.out.ls hlb hhd).pop hpos hhas HC.out.link HC.out.prev HC.out.back n64)
      have HB := Lib.hid hlb
      have hlen := HR.out.mp.ok.len
      have hap : (β.popped k next).addr i = β.addr i := by
        show (removed β.σ next 0).base + 4096 * i = _
        rw [(removed_same β.σ next).1]
        rfl
      have HN := Lib.hid n64
      clear hlb hhd hbase hpos hhas n64
      go_wp2_with fail
      refine HP.out.mono ?_
      rintro e w1 ⟨rfl, S1⟩
      have R1 := HR.out.listed HB.out S1 (removed_same _ _) HN.out
      have T1 : Touch (· ∈ K.fp) w w1 := S1.touch.mono (fun b _ hb => by
        rcases hb with hb | hb
        · simp [BuL.fp, SpL.fp, hb]
        · simp [BuL.fp, BuL.own, hb, List.mem_of_getElem? HB.out])
      have HPg := Lib.hid (BuRep.page_ (β := β.popped k next) R1 HC.out.page)
      rw [hap] at HPg
      have HR1 := Lib.hid (show BuRep w1 K (β.popped k next) from R1)
      have HT1 := Lib.hid T1
      clear R1 T1 S1 c5 hcell
      go_wp2_with fail
      refine HPg.out.mono ?_
      rintro e w2 ⟨rfl, t2⟩
      have HTu := Lib.hid ((HR1.out.touch0 t2).turnAny (i := i) (j := k) HC.out.page hhi HC.out.pair)
      have HT2 := Lib.hid t2
      clear t2
      go_wp2_with fail
      refine HTu.out.mono ?_
      rintro e w3 ⟨b, rfl, r3, t3⟩
      have ho3 : k ≤ ((β.popped k next).turned i k).μ.order := by
        unfold Bu.turned
        split
        · exact hhi
        · exact hhi
      have HCu := Lib.hid (r3.cut_ i k o hlo ho3 HC.out.cut HC.out.cuto HC.out.al HC.out.le)
      have HT3 := Lib.hid t3
      clear r3 t3 ho3
      go_wp2_with fail
      refine HCu.out.mono ?_
      rintro e w4 ⟨rfl, r4, t4⟩
      have HR4 := Lib.hid r4
      have HT4 := Lib.hid t4
      clear r4 t4
      go_wp2_with fail
      go_ret2
      exact ⟨rfl, HR4.out, ((HT1.out.trans HT2.out.none_).trans HT3.out).trans HT4.out⟩

end Go.Proofs.YtnjcmcnjgdjbiaaGreatDoor

namespace Go.Proofs.YtnjcmcnjgdjbiaaGreatDoor
open Go.RowKit

theorem BuRep.live_ {w : World} {K : BuL} {β : Bu} (R : BuRep w K β) (i k : Nat) {p : Pg} (hi : β.μ.pages[i]? = some p) (hk : p.kind = 2) (ho : p.order = k) :
    Calls Tryz.prog 188 #[.pointer (some ⟨K.bb, 0, none⟩), .int .u64 (β.addr i : Nat), .int .i64 k] w fun e w' => e = .returned (.tuple #[.int .i64 i, .bool true]) ∧ Touch Nothing w w' := by
  have hlt := (List.getElem?_eq_some_iff.1 hi).1
  have HP := Lib.hid (R.page_ hlt)
  have HR := Lib.hid R
  have HI := Lib.hid hi
  clear R hi
  go_enter Tryz.func188, Tryz.ntmps188
  go_wp2_with fail
  refine HP.out.mono ?_
  rintro e w1 ⟨rfl, T1⟩
  have R1 := HR.out.touch0 T1
  obtain ⟨-, -, -, -, c4, -⟩ := R1.cells
  have HA := Lib.hid (R1.mp.at_ HI.out)
  have HT1 := Lib.hid T1
  clear R1 T1
  go_wp2_with fail
  refine HA.out.mono ?_
  rintro e w2 ⟨rfl, T2⟩
  have HT2 := Lib.hid T2
  clear T2
  unfold Pg.val
  go_wp2_with fail
  go_quiet (fail)
  go_wp2
  go_ret2
  exact ⟨rfl, (HT1.out.trans (HT2.out.alloc _)).drewN _⟩

end Go.Proofs.YtnjcmcnjgdjbiaaGreatDoor

namespace Go.Proofs.YtnjcmcnjgdjbiaaGreatDoor
open Go.RowKit

set_option maxRecDepth 100000 in
theorem top_cells (b sb mb o n y t f : Nat) (w : World) (c2 : w.cell? ⟨b, 2, none⟩ = some (.int .i64 o)) (c3 : w.cell? ⟨b, 3, none⟩ = some (.pointer (some ⟨sb, 0, none⟩))) (c4 : w.cell? ⟨b, 4, none⟩ = some (.pointer (some ⟨mb, 0, none⟩)))
    (hr : ∀ k, Calls Tryz.prog 284 #[.pointer (some ⟨sb, 0, none⟩)] (w.drewN k) fun e w' => e = .returned (.int .i64 n) ∧ w' = w.drewN k)
    (hp : ∀ k, Calls Tryz.prog 64 #[.pointer (some ⟨mb, 0, none⟩)] (w.drewN k) fun e w' => e = .returned (.int .i64 t) ∧ w' = w.drewN k)
    (hmin : min o 64 = o) (_h1 : wrap64 ((n : Int) * 2 ^ o) = (t : Int)) (h1' : IntKind.i64.wrap ((n : Int) * 2 ^ o) = (t : Int)) (h2 : IntKind.i64.wrap (2 ^ o) = (y : Int)) (_h2' : wrap64 (2 ^ o) = (y : Int)) (_h4 : IntKind.i64.wrap ((t : Int) - y) = (f : Int)) (h5 : wrap64 (f : Int) = (f : Int)) (h3 : (t : Int) - y = f) (ht : 0 < t) :
    Calls Tryz.prog 254 #[.pointer (some ⟨b, 0, none⟩)] w fun e w' => e = .returned (.tuple #[.int .i64 f, .bool true]) ∧ ∃ k, w' = w.drewN k := by
  have HRg := Lib.hid hr
  have HPg := Lib.hid hp
  clear hr hp
  go_enter Tryz.func254, Tryz.ntmps254
  go_wp2_with fail
  go_quiet (first | (go_at_call 284; refine Calls.quiet_of_same (HRg.out _)))
  go_wp2_with fail
  have HPg2 := Lib.hid (fun k => (by have h := HPg.out (nq + k); rw [← World.drewN_drewN] at h; exact h : Calls Tryz.prog 64 #[.pointer (some ⟨mb, 0, none⟩)] ((w.drewN nq).drewN k) fun e w' => e = .returned (.int .i64 t) ∧ w' = (w.drewN nq).drewN k))
  replace c2 : (w.drewN nq).cell? ⟨b, 2, none⟩ = some (.int .i64 o) := c2
  replace c4 : (w.drewN nq).cell? ⟨b, 4, none⟩ = some (.pointer (some ⟨mb, 0, none⟩)) := c4
  have hW := Lib.hid (show ∀ k, ∃ m, (w.drewN nq).drewN k = w.drewN m from fun k => ⟨nq + k, World.drewN_drewN ..⟩)
  clear c3
  generalize w.drewN nq = W at *
  go_quiet (first | (go_at_call 64; refine Calls.quiet_of_same (HPg2.out _)))
  go_wp2_with fail
  go_ret2
  refine ⟨?_, hW.out _⟩
  show Ending.returned (.tuple #[.int .i64 (wrap64 (f : Int)), .bool true]) = _
  rw [h5]

theorem BuRep.top_ {w : World} {K : BuL} {β : Bu} (R : BuRep w K β) (hn : 0 < β.σ.n) (hl : β.μ.pages.length = β.σ.n * 2 ^ β.μ.order) :
    Calls Tryz.prog 254 #[.pointer (some ⟨K.bb, 0, none⟩)] w fun e w' => e = .returned (.tuple #[.int .i64 (β.μ.pages.length - 2 ^ β.μ.order : Nat), .bool true]) ∧ Touch Nothing w w' := by
  obtain ⟨-, -, c2, c3, c4, -⟩ := R.cells
  have ho := R.mp.ok.order
  have hm := R.mp.ok.len
  have hp := pow_le8' ho
  have hle : 2 ^ β.μ.order ≤ β.μ.pages.length := by rw [hl]; exact Nat.le_mul_of_pos_left _ hn
  have hc : ((β.σ.n : Int) * 2 ^ β.μ.order) = ((β.μ.pages.length : Nat) : Int) := by rw [hl]; simp
  have hpc : ((2 : Int) ^ β.μ.order) = ((2 ^ β.μ.order : Nat) : Int) := by simp
  refine (top_cells K.bb K.L.sb K.M.mb β.μ.order β.σ.n (2 ^ β.μ.order) β.μ.pages.length (β.μ.pages.length - 2 ^ β.μ.order) w c2 c3 c4 ?_ ?_ (by omega) ?_ ?_ ?_ ?_ ?_ ?_ (by omega) (by omega)).mono ?_
  · intro k
    exact ((R.sp.touch0 ((Touch.refl Nothing w).drewN k)).regions_).mono fun _ _ h => ⟨h.1, h.2.symm⟩
  · intro k
    exact ((R.mp.touch0 ((Touch.refl Nothing w).drewN k)).pages_).mono fun _ _ h => ⟨h.1, h.2.symm⟩
  · rw [hc]; exact IntWalk.wrap64_in _ ⟨by omega, by omega⟩
  · rw [hc]; exact IntWalk.i64_in _ (by omega)
  · rw [hpc]; exact IntWalk.i64_in _ (by omega)
  · rw [hpc]; exact IntWalk.wrap64_in _ ⟨by omega, by omega⟩
  · rw [show ((β.μ.pages.length : Int) - ((2 ^ β.μ.order : Nat) : Int)) = ((β.μ.pages.length - 2 ^ β.μ.order : Nat) : Int) by omega]
    exact IntWalk.i64_in _ (by omega)
  · exact IntWalk.wrap64_in _ ⟨by omega, by omega⟩
  · rintro e w' ⟨rfl, k, rfl⟩
    exact ⟨rfl, (Touch.refl Nothing w).drewN k⟩

end Go.Proofs.YtnjcmcnjgdjbiaaGreatDoor

namespace Go.Proofs.YtnjcmcnjgdjbiaaGreatDoor
open Go.RowKit

set_option maxRecDepth 100000 in
theorem BuRep.give_top {w : World} {K : BuL} {β : Bu} (R : BuRep w K β) (i : Nat) {p : Pg} (hi : β.μ.pages[i]? = some p) (hk : p.kind = 2) (ho : p.order = β.μ.order) (hj : (i : Int).tmod (2 ^ β.μ.order : Nat) = 0) (hle : i + 2 ^ β.μ.order ≤ β.μ.pages.length)
    (hh : β.heads.getD β.μ.order 0 ≠ 0 → β.σ.has (β.heads.getD β.μ.order 0) 16 ∧ β.σ.word (β.heads.getD β.μ.order 0 + 8) = 0) :
    Calls Tryz.prog 253 #[.pointer (some ⟨K.bb, 0, none⟩), .int .u64 (β.addr i : Nat), .int .i64 β.μ.order] w (Turned w K (β.enter i β.μ.order) (.int .i64 0)) := by
  have HL := Lib.hid (R.live_ i β.μ.order hi hk ho)
  have HR := Lib.hid R
  have HC := Lib.hid (And.intro hj (And.intro hle hh))
  clear R hi hk ho hj hle hh
  go_enter Tryz.func253, Tryz.ntmps253
  go_wp2_with fail
  go_step3
  go_wp2_with fail
  refine HL.out.mono ?_
  rintro e w1 ⟨rfl, T1⟩
  have HT1 := Lib.hid T1
  have R1 := HR.out.touch0 T1
  have HTop := Lib.hid (R1.turn_top i)
  have HE := Lib.hid (R1.enter_ i β.μ.order (Nat.le_refl _) HC.out.1 HC.out.2.1 HC.out.2.2)
  clear T1 R1
  go_wp2_with fail
  go_step3
  go_wp2_with fail
  refine HTop.out.mono ?_
  rintro e w2 ⟨rfl, rfl⟩
  go_wp2_with fail
  refine HE.out.mono ?_
  rintro e w3 ⟨rfl, r3, t3⟩
  have HR3 := Lib.hid r3
  have HT3 := Lib.hid t3
  clear r3 t3
  go_wp2_with fail
  rw [Exit.noGoto_ret]
  go_ret
  exact ⟨rfl, HR3.out, HT1.out.none_.trans HT3.out⟩

end Go.Proofs.YtnjcmcnjgdjbiaaGreatDoor

namespace Go.Proofs.YtnjcmcnjgdjbiaaGreatDoor
open Go.RowKit

set_option maxRecDepth 100000 in
theorem BuRep.feed_ {w : World} {K : BuL} {β : Bu} (R : BuRep w K β) (i : Nat) {p : Pg} (hn : 0 < β.σ.n) (hl : β.μ.pages.length = β.σ.n * 2 ^ β.μ.order) (hil : i = β.μ.pages.length - 2 ^ β.μ.order) (hi : β.μ.pages[i]? = some p) (hk : p.kind = 2) (ho : p.order = β.μ.order) (hj : (i : Int).tmod (2 ^ β.μ.order : Nat) = 0)
    (hh : β.heads.getD β.μ.order 0 ≠ 0 → β.σ.has (β.heads.getD β.μ.order 0) 16 ∧ β.σ.word (β.heads.getD β.μ.order 0 + 8) = 0) :
    Calls Tryz.prog 250 #[.pointer (some ⟨K.bb, 0, none⟩)] w (Turned w K (β.enter i β.μ.order) (.int .i64 0)) := by
  have hle : 2 ^ β.μ.order ≤ β.μ.pages.length := by rw [hl]; exact Nat.le_mul_of_pos_left _ hn
  have HT := R.top_ hn hl
  rw [← hil] at HT
  have HTop := Lib.hid HT
  have hlt := (List.getElem?_eq_some_iff.1 hi).1
  have hat := R.ok.addr_top R.sp.ok hlt
  have HA := Lib.hid (fun w1 (r : BuRep w1 K β) => r.address_ i (by omega))
  have HG := Lib.hid (fun w1 (r : BuRep w1 K β) => r.give_top i hi hk ho hj (by omega) hh)
  have HR := Lib.hid R
  clear R HT hn hl hil hi hk ho hj hh hle hlt hat
  go_enter Tryz.func250, Tryz.ntmps250
  go_wp2_with fail
  refine HTop.out.mono ?_
  rintro e w1 ⟨rfl, T1⟩
  have R1 := (HR.out.touch0 T1).touch0 (Touch.refl Nothing w1).drew
  obtain ⟨-, -, c2, -, -, -⟩ := R1.cells
  have HA1 := Lib.hid (HA.out _ R1)
  have HG1 := Lib.hid (HG.out _ R1)
  have HT1 := Lib.hid T1
  clear R1 T1
  go_wp2_with fail
  refine wp_region_still_tail 9 (by kernel_rfl) (by kernel_rfl) ?_
  simp only [List.take_succ_cons, List.take_zero, List.drop_succ_cons, List.drop_zero, World.drew_eq]
  repeat still_step
  still_call (HA1.out.mono fun _ _ h => ⟨h.1, h.2.symm⟩)
  repeat still_step
  refine wpStill_nil ?_
  go_wp2_with fail
  refine HG1.out.mono ?_
  rintro e w2 ⟨rfl, r2, t2⟩
  have HR2 := Lib.hid r2
  have HT2 := Lib.hid t2
  clear r2 t2
  go_wp2_with fail
  go_ret
  exact ⟨rfl, HR2.out, (HT1.out.drew.none_).trans HT2.out⟩

end Go.Proofs.YtnjcmcnjgdjbiaaGreatDoor

namespace Go.Proofs.YtnjcmcnjgdjbiaaGreatDoor
open Go.RowKit
attribute [local go_sem ↓] Go.wp_at_zero Go.wp_at_succ

structure OpenRel (w : World) (bb sb mb base limit order k : Nat) (tv : Value) (lbs : List Nat) (wr : World) : Prop where
  blk : Blk wr bb 274 [.int .u64 base, .int .i64 limit, .int .i64 order, .pointer (some ⟨sb, 0, none⟩), .pointer (some ⟨mb, 0, none⟩), tv]
  row : Row wr 275 1 tv k (lbs.map fun b => .pointer (some ⟨b, 0, none⟩))
  each : ∀ b ∈ lbs, Li wr b sb 0
  apart : (bb :: (tv.ownBlock.toList ++ lbs)).Nodup
  fresh : ∀ i ∈ bb :: (tv.ownBlock.toList ++ lbs), w.heap.size ≤ i
  touch : Touch Nothing w wr

theorem OpenRel.lt {w wr : World} {bb sb mb base limit order k : Nat} {tv : Value} {lbs : List Nat} (R : OpenRel w bb sb mb base limit order k tv lbs wr) : ∀ i ∈ bb :: (tv.ownBlock.toList ++ lbs), i < wr.heap.size := by
  intro i hi
  simp only [List.mem_cons, List.mem_append, Option.mem_toList] at hi
  rcases hi with rfl | hi | hi
  · exact R.blk.lt
  · exact R.row.lt hi
  · exact (R.each i hi).lt

theorem OpenRel.step {w W w1 w3 : World} {bb sb mb base limit order k lb : Nat} {tv : Value} {lbs : List Nat} (R : OpenRel w bb sb mb base limit order k tv lbs W) (hs : Li w1 lb sb 0) (h1 : W.heap.size ≤ lb) (T1 : Touch Nothing W w1)
    {g cap : Nat} (hown : Row w3 275 1 (.slice (some ⟨g, 0, none⟩) (k + 1) cap) (k + 1) ((lbs.map fun b => .pointer (some ⟨b, 0, none⟩)) ++ [.pointer (some ⟨lb, 0, none⟩)]))
    (T3 : Touch (fun i => some i = tv.ownBlock) w1 w3) (hg : tv.ownBlock = some g ∨ w1.heap.size ≤ g) :
    OpenRel w bb sb mb base limit order (k + 1) (.slice (some ⟨g, 0, none⟩) (k + 1) cap) (lbs ++ [lb]) (w3.setCell ⟨bb, 5, none⟩ (.slice (some ⟨g, 0, none⟩) (k + 1) cap)) := by
  have hlt := R.lt
  have hap := R.apart
  have hfr := R.fresh
  simp only [List.nodup_cons, List.nodup_append, List.mem_append, not_or, Option.mem_toList] at hap
  obtain ⟨⟨a1, a2⟩, a3, a4, a5⟩ := hap
  have hl1 := hs.lt
  have hbb : bb < W.heap.size := R.blk.lt
  have hsz := T1.size
  have hgb : g ≠ bb := by
    rintro rfl
    rcases hg with h | h
    · exact a1 h
    · omega
  have hbs : ¬ (some bb = tv.ownBlock) := fun e => a1 e.symm
  have hS := Touch.cellAt w3 bb 5 (.slice (some ⟨g, 0, none⟩) (k + 1) cap)
  have hset : ∀ a ∈ lbs, ¬ (some a = tv.ownBlock) ∧ ¬ (a = bb) ∧ a < W.heap.size := fun a ha =>
    ⟨fun e => a5 a e.symm a ha rfl, fun e => a2 (e ▸ ha), hlt a (by simp [ha])⟩
  have hlne : ¬ (some lb = tv.ownBlock) ∧ ¬ (lb = bb) := ⟨fun e => by have := R.row.lt e.symm; omega, by omega⟩
  have hfrb : w.heap.size ≤ bb := hfr bb (by simp)
  have hfrg : w.heap.size ≤ g := by
    rcases hg with h | h
    · exact hfr g (by simp [h])
    · have := R.touch.size; omega
  refine ⟨?_, ?_, ?_, ?_, ?_, ?_⟩
  · exact ((R.blk.touch T1 (fun h => h)).touch T3 hbs).set 5 _
  · rw [List.map_append]
    exact hown.touch hS (fun i hi e => by simp [Value.ownBlock] at hi; omega)
  · intro a ha
    rcases List.mem_append.1 ha with ha | ha
    · have q := hset a ha
      exact (((R.each a ha).touch T1 (fun h => h)).touch T3 q.1).touch hS q.2.1
    · rw [List.mem_singleton] at ha
      subst ha
      exact (hs.touch T3 hlne.1).touch hS hlne.2
  · have hgl : ∀ a ∈ lbs, g ≠ a := by
      intro a ha e
      have q := hset a ha
      rcases hg with h | h
      · exact q.1 (by rw [h, e])
      · omega
    have hgn : g ≠ lb := by
      rcases hg with h | h
      · have := R.row.lt h; omega
      · omega
    simp only [Value.ownBlock, Option.toList_some, List.nodup_cons, List.mem_append, List.nodup_append, List.mem_cons, List.not_mem_nil, or_false, not_or]
    refine ⟨⟨fun e => hgb e.symm, a2, by omega⟩, ⟨fun h => h, List.nodup_nil⟩, ⟨a4, ⟨fun h => h, List.nodup_nil⟩, ?_⟩, ?_⟩
    · rintro a ha b rfl e
      have := (hset a ha).2.2
      omega
    · rintro a rfl b hb e
      rcases hb with hb | rfl
      · exact hgl b hb e
      · exact hgn e
  · intro i hi
    simp only [Value.ownBlock, Option.toList_some, List.mem_cons, List.mem_append, List.not_mem_nil, or_false] at hi
    rcases hi with rfl | rfl | hi | rfl
    · exact hfrb
    · exact hfrg
    · exact hfr i (by simp [hi])
    · have := R.touch.size; omega
  · exact ((R.touch.trans T1).trans' T3 (fun i hi e => by have := hfr i (by simp [e.symm]); omega)).trans' hS (fun i hi e => by omega)

end Go.Proofs.YtnjcmcnjgdjbiaaGreatDoor

namespace Go.Proofs.YtnjcmcnjgdjbiaaGreatDoor
open Go.RowKit
attribute [local go_sem ↓] Go.wp_at_zero Go.wp_at_succ

/-- a Go call of two arguments by its contract, at a step of a region that draws -/
theorem step_call_post2 {P : Program} (w : World) {ops : Array Oper} {o : Oper} {a : Act} {K : Act → World → Prop} {Q : Exit → Act → World → Prop} {E : Prop} (hgd : o.guard = none) (f : FuncId) (x y : Operand) (ts : Array TypeId)
    (ho : o.op = .call { callee := .value (.func f), args := #[x, y], argTypes := ts }) (u v : Value) (hx : a.eval x = u) (hy : a.eval y = v) {Post : Ending → World → Prop}
    (hc : Calls P f #[u, v] w Post) (hcf : (callFunc f #[u, v]).run P w = .ok (.enter f #[u, v]) w) (h : ∀ e w', Post e w' → ∃ r, e = .returned r ∧ K (a.put o.dst r) w') :
    if Region.wanted o (yielded ops a.tmps) = true then Oper.wp P o a w K Q else E := by
  have hw : Region.wanted o (yielded ops a.tmps) = true := by simp [Region.wanted, hgd]
  rw [if_pos hw]
  unfold Oper.wp
  have hargs : (#[x, y].map a.eval) = #[u, v] := by simp [hx, hy]
  generalize #[x, y] = xs at ho hargs
  have hr : (execOp a.eval o).run P w = .ok (.enter f #[u, v]) w := by
    simp [execOp, ho, resolve, invoke, hargs, go_sem, hcf]
  rw [hr, Oper.upon_enter]
  refine hc.mono ?_
  intro e w' hp
  obtain ⟨r, rfl, hk⟩ := h e w' hp
  exact hk

theorem OpenRel.ready {w W w1 : World} {bb sb mb base limit order k : Nat} {tv : Value} {lbs : List Nat} (R : OpenRel w bb sb mb base limit order k tv lbs W) {pa : Option Addr} {cap : Nat} (hsv : tv = .slice pa k cap) (hT : Touch Nothing W w1) (lb : Nat) :
    Row (w1.alloc (.cells #[.pointer (some ⟨lb, 0, none⟩)] 275)) 275 1 (.slice pa k cap) k (lbs.map fun b => .pointer (some ⟨b, 0, none⟩)) ∧
    ∀ j u, [Value.pointer (some ⟨lb, 0, none⟩)][j]? = some u → (w1.alloc (.cells #[.pointer (some ⟨lb, 0, none⟩)] 275)).cell? ((⟨w1.heap.size, 0, none⟩ : Addr).add j) = some u := by
  have h := R.row.touch hT (fun _ _ h => h)
  rw [hsv] at h
  exact ⟨World.ownsRow.alloc h _, news_of_blk (Blk.new w1 #[.pointer (some ⟨lb, 0, none⟩)] 275)⟩

theorem afterNew {wr w1 : World} {bb sb h : Nat} {u : Value} (hw1 : w1 = wr.drew.alloc (.cells #[.pointer (some ⟨sb, 0, none⟩), .int .u64 h] 310)) (lbb : bb < wr.heap.size) (c5 : wr.cell? ⟨bb, 5, none⟩ = some u) (f5 : wr.frozen? ⟨bb, 5, none⟩ = false) :
    w1.cell? ⟨bb, 5, none⟩ = some u ∧ w1.frozen? ⟨bb, 5, none⟩ = false ∧ bb < w1.heap.size ∧ Touch Nothing wr w1 ∧ Li w1 wr.heap.size sb h := by
  subst hw1
  have T : Touch Nothing wr (wr.drew.alloc (.cells #[.pointer (some ⟨sb, 0, none⟩), .int .u64 h] 310)) := ((Touch.refl Nothing wr).drew).alloc _
  exact ⟨(T.cell lbb (fun h => h)).trans c5, (T.frozen lbb (fun h => h)).trans f5, Nat.lt_of_lt_of_le lbb T.size, T, Blk.new wr.drew _ _⟩

theorem info275 : (Tryz.prog.info? 275).map (fun i => (i.zero, i.size, i.bytes)) = some (some (.pointer none), 1, 8) := by kernel_rfl

def Opened (w : World) (sb mb base limit order k : Nat) (e : Ending) (w' : World) : Prop :=
  ∃ bb tv lbs, e = .returned (.tuple #[.pointer (some ⟨bb, 0, none⟩), .int .i64 0]) ∧ OpenRel w bb sb mb base limit order k tv lbs w'

set_option maxRecDepth 100000 in
set_option maxHeartbeats 2000000 in
theorem open_ (sb mb base limit order hb : Nat) (w : World) (ho : order ≤ 8) (hB : Blk w hb 33 (u64s (List.replicate (order + 1) 0))) :
    Calls Tryz.prog 131 #[.agg #[.int .u64 base, .int .i64 limit, .int .i64 order], .pointer (some ⟨sb, 0, none⟩), .pointer (some ⟨mb, 0, none⟩), .slice (some ⟨hb, 0, none⟩) ((order + 1 : Nat)) (order + 1)] w
      (Opened w sb mb base limit order (order + 1)) := by
  obtain ⟨i0, hi0, hz0, hz1, hz2⟩ := info_parts info275
  have hHB := Lib.hid hB
  clear hB
  go_enter Tryz.func131, Tryz.ntmps131
  go_wp2_with fail
  have hbb : w.heap.size + 1 < ((w.alloc (.cells #[.int .u64 base, .int .i64 limit, .int .i64 order] 51)).alloc (.cells #[.int .u64 base, .int .i64 limit, .int .i64 order, .pointer (some ⟨sb, 0, none⟩), .pointer (some ⟨mb, 0, none⟩), .slice none 0 0] 274)).heap.size := by simp
  have hcf : ∀ W : World, (callFunc 182 #[.pointer (some ⟨sb, 0, none⟩), .int .u64 0]).run Tryz.prog W = .ok (.enter 182 #[.pointer (some ⟨sb, 0, none⟩), .int .u64 0]) W := fun W => by simp [go_sem]
  have HCF := Lib.hid hcf
  clear hcf
  have HB0 := Lib.hid (Blk.new (w.alloc (.cells #[.int .u64 base, .int .i64 limit, .int .i64 order] 51)) #[.int .u64 base, .int .i64 limit, .int .i64 order, .pointer (some ⟨sb, 0, none⟩), .pointer (some ⟨mb, 0, none⟩), .slice none 0 0] 274)
  generalize hbe : w.heap.size + 1 = bb at *
  have HBE := Lib.hid hbe
  go_loopw [26] (fun a wr => ∃ k : Nat, k ≤ order + 1 ∧ a = .int .i64 k ∧ ∃ tv lbs, OpenRel w bb sb mb base limit order k tv lbs wr) (fun a _ => order + 1 - (intOf a).toNat)
  case atStart =>
    refine ⟨0, Nat.zero_le _, rfl, .slice none 0 0, [], ⟨?_, ⟨rfl, .inl ⟨rfl, rfl⟩⟩, by simp, by simp [Value.ownBlock], by simp [Value.ownBlock]; omega, ((Touch.refl _ _).alloc _).alloc _⟩⟩
    have := HB0.out
    simp only [World.size_alloc] at this
    rw [← HBE.out]
    exact this
  case round =>
    obtain ⟨k, hk, rfl, tv, lbs, hF⟩ := hrel
    by_cases hlt' : k < order + 1
    · have hsv : ∃ pa cap, tv = .slice pa k cap := by
        rcases hF.row.2 with ⟨h, h0⟩ | ⟨g, cap, cur, h, _⟩
        · exact ⟨none, 0, by rw [h, h0]⟩
        · exact ⟨_, cap, h⟩
      obtain ⟨pa, cap, hsv⟩ := hsv
      have c5 := hF.blk.cell 5
      have f5 := hF.blk.free 5
      simp [hsv] at c5
      have hh := (hHB.out.touch hF.touch (fun h => h)).cell k
      rw [u64s_get _ _ (by simpa using hlt')] at hh
      have hz : (List.replicate (order + 1) 0).getD k 0 = 0 := by simp [List.getD_eq_getElem?_getD, hlt']
      rw [hz] at hh
      have hlb : hb < wr.heap.size := Nat.lt_of_lt_of_le hHB.out.lt hF.touch.size
      have lbb : bb < wr.heap.size := hF.blk.lt
      have lbb' : bb < wr.drew.heap.size := lbb
      have hkl : (k : Int) < (order : Int) + 1 := by omega
      have HN := Lib.hid (newList_ sb 0 wr.drew)
      have HF := Lib.hid hF
      have HSV := Lib.hid hsv
      have hne0 : some bb ≠ (Value.slice pa k cap).ownBlock := by
        rw [← hsv]
        intro e
        have := hF.apart
        simp [e.symm] at this
      have HNE := Lib.hid hne0
      clear hF hne0 hsv hbe hz hbb
      go_wp2_with fail
      go_region_law (first | (refine step_call_post2 _ (by rfl) 182 _ _ #[115, 33] (by rfl) (.pointer (some ⟨sb, 0, none⟩)) (.int .u64 0) (by rfl) (by rfl) HN.out (HCF.out _) ?_; rintro e w1 ⟨rfl, hw1⟩; refine ⟨_, rfl, ?_⟩; have HW1 := Lib.hid hw1; obtain ⟨c5', f5', l5', hT1, hLI⟩ := afterNew hw1 lbb c5 f5; have HT1 := Lib.hid hT1; have HROW := Lib.hid (HF.out.ready HSV.out hT1 wr.heap.size); have HLI := Lib.hid hLI; clear hw1 hT1 hLI) | (refine step_append_lies _ (by rfl) _ _ _ (by rfl) 0 275 i0 _ 1 8 Tryz.underlying272 hi0 hz0 hz1 hz2 rfl (by omega) (.slice pa k cap) k _ (by rfl) HROW.out.1 ⟨w1.heap.size, 0, none⟩ 1 1 [.pointer (some ⟨wr.heap.size, 0, none⟩)] (by rfl) (by rfl) HROW.out.2 (by simp [Value.oneCell']) (by omega) (by unfold maxLen; omega) (by omega) (by simp) (w1.heap.size + 1) (by simp) ?_; intro gg cap' w3 hown3 hgrow hat hltg; have c3' : w3.cell? ⟨bb, 5, none⟩ = some (.slice pa k cap) := (hgrow.cell_far _ (by simp; omega) HNE.out).trans ((World.cell?_alloc_past _ _ _ l5').trans c5'); have f3' : w3.frozen? ⟨bb, 5, none⟩ = false := (hgrow.frozen_far _ (by simp; omega) HNE.out).trans ((World.frozen?_alloc_past _ _ _ l5').trans f5')))
      all_goals
        have hst : OpenRel w bb sb mb base limit order (k + 1) (.slice (some ⟨gg, 0, none⟩) (k + 1) cap') (lbs ++ [wr.heap.size]) (w3.setCell ⟨bb, 5, none⟩ (.slice (some ⟨gg, 0, none⟩) (k + 1) cap')) := by
          refine HF.out.step HLI.out (Nat.le_refl _) HT1.out hown3 ?_ ?_
          · exact (((Touch.refl Nothing w1).alloc _).none_).trans (Touch.of_grown hgrow (fun i hi => by rw [HSV.out]; exact hi.symm))
          · rw [HSV.out]
            rcases hat with h | h
            · exact .inl h
            · exact .inr (by omega)
        have HST := Lib.hid hst
        clear hst hown3 hgrow hat c3' f3' c5' f5' c5 f5
        generalize World.setCell w3 _ _ = w4 at *
        go_wp2_with fail
        go_roundw
        case rel => exact ⟨k + 1, by omega, by go_num, _, _, HST.out⟩
        case measure => simp [intOf]; omega
    · obtain rfl : k = order + 1 := by omega
      have HF := Lib.hid hF
      clear hF
      go_wp2_with fail
      go_ret2
      exact ⟨bb, tv, lbs, rfl, HF.out⟩

end Go.Proofs.YtnjcmcnjgdjbiaaGreatDoor

namespace Go.Proofs.YtnjcmcnjgdjbiaaGreatDoor
open Go.RowKit

/-- a Go call by its contract, at a step of a region that draws -/
theorem step_call_post {P : Program} (w : World) {ops : Array Oper} {o : Oper} {a : Act} {K : Act → World → Prop} {Q : Exit → Act → World → Prop} {E : Prop} (hgd : o.guard = none) (f : FuncId) (xs : Array Operand) (ts : Array TypeId)
    (ho : o.op = .call { callee := .value (.func f), args := xs, argTypes := ts }) (us : Array Value) (hargs : xs.map a.eval = us) {Post : Ending → World → Prop}
    (hc : Calls P f us w Post) (hcf : (callFunc f us).run P w = .ok (.enter f us) w) (h : ∀ e w', Post e w' → ∃ r, e = .returned r ∧ K (a.put o.dst r) w') :
    if Region.wanted o (yielded ops a.tmps) = true then Oper.wp P o a w K Q else E := by
  have hw : Region.wanted o (yielded ops a.tmps) = true := by simp [Region.wanted, hgd]
  rw [if_pos hw]
  unfold Oper.wp
  have hr : (execOp a.eval o).run P w = .ok (.enter f us) w := by
    simp [execOp, ho, resolve, invoke, hargs, go_sem, hcf]
  rw [hr, Oper.upon_enter]
  refine hc.mono ?_
  intro e w' hp
  obtain ⟨r, rfl, hk⟩ := h e w' hp
  exact hk

theorem OpenRel.back {w w1 wr : World} {bb sb mb base limit order k : Nat} {tv : Value} {lbs : List Nat} (R : OpenRel w1 bb sb mb base limit order k tv lbs wr) (T : Touch Nothing w w1) : OpenRel w bb sb mb base limit order k tv lbs wr :=
  ⟨R.blk, R.row, R.each, R.apart, fun i hi => Nat.le_trans T.size (R.fresh i hi), T.trans R.touch⟩

def NewBu (w : World) (sb mb base limit order : Nat) (e : Ending) (w' : World) : Prop :=
  ∃ bb tv lbs, e = .returned (.pointer (some ⟨bb, 0, none⟩)) ∧ OpenRel w bb sb mb base limit order (order + 1) tv lbs w'

set_option maxRecDepth 100000 in
set_option maxHeartbeats 2000000 in
theorem newBu_ (sb mb base limit order : Nat) (w : World) (ho : order ≤ 8) :
    Calls Tryz.prog 86 #[.agg #[.int .u64 base, .int .i64 limit, .int .i64 order], .pointer (some ⟨sb, 0, none⟩), .pointer (some ⟨mb, 0, none⟩)] w (NewBu w sb mb base limit order) := by
  have hcf : ∀ (us : Array Value) (W : World), (callFunc 131 us).run Tryz.prog W = .ok (.enter 131 us) W := fun us W => by simp [go_sem]
  have HCF := Lib.hid hcf
  clear hcf
  have hmk : ∀ W : World, (Instr.makeSlice 201 (.int .i64 ((order : Int) + 1)) (.int .i64 ((order : Int) + 1))).run Tryz.prog W = .ok (.slice (some ⟨W.heap.size, 0, none⟩) (order + 1) (order + 1)) (W.alloc (zeroWords (order + 1))) := fun W => by
    have := make201 (order + 1) (by omega) W
    exact this
  have HO := Lib.hid (fun w1 hb h => open_ sb mb base limit order hb w1 ho h)
  have HBk := Lib.hid (show Blk ((w.alloc (.cells #[.int .u64 base, .int .i64 limit, .int .i64 order] 51)).alloc (zeroWords (order + 1))).drew (w.heap.size + 1) 33 (u64s (List.replicate (order + 1) 0)) by
    have := (zeroWords_zeros (w.alloc (.cells #[.int .u64 base, .int .i64 limit, .int .i64 order] 51)) (order + 1)).drew
    simpa using this)
  have HOp := Lib.hid (HO.out _ _ HBk.out)
  have hmax : max 0 ((order : Int) + 1) = (order : Int) + 1 := by omega
  have hwp : IntKind.i64.wrap ((order : Int) + 1) = (order : Int) + 1 := IntWalk.i64_in _ (by omega)
  clear HBk HO
  go_enter Tryz.func86, Tryz.ntmps86
  go_wp2_with fail
  go_region_law (refine step_call_post _ (by rfl) 131 #[.tmp 10, .tmp 11, .tmp 12, .tmp 17] #[51, 115, 117, 201] (by rfl) #[.agg #[.int .u64 base, .int .i64 limit, .int .i64 order], .pointer (some ⟨sb, 0, none⟩), .pointer (some ⟨mb, 0, none⟩), .slice (some ⟨w.heap.size + 1, 0, none⟩) (order + 1) (order + 1)] (by simp [Act.eval]) HOp.out (HCF.out _ _) ?_; rintro e w1 ⟨bb, tv, lbs, rfl, hR⟩; refine ⟨_, rfl, ?_⟩; have HR := Lib.hid hR; clear hR)
  all_goals
    clear hwp hmax
    go_wp2_with fail
    go_ret
    exact ⟨bb, tv, lbs, rfl, HR.out.back ((((Touch.refl Nothing w).alloc _).alloc _).drew)⟩

end Go.Proofs.YtnjcmcnjgdjbiaaGreatDoor

