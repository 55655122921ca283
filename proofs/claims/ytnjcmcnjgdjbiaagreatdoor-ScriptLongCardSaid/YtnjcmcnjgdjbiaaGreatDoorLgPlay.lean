/- The walk of script.Play: call after call. Conditions: each call has its contract. The walk of script.Play: call after call. Conditions: each call has its contract. -/
import Derived.Test.YtnjcmcnjgdjbiaaGreatDoorLgMeth
import Derived.Test.YtnjcmcnjgdjbiaaGreatDoorLgLine
import Derived.Deep.AppendLies
namespace Go.Proofs.YtnjcmcnjgdjbiaaGreatDoor
open Go.RowKit

/-- an answer as data -/
structure An where
  e : Int
  v : Nat
  data : List UInt8
  h : Nat
  l : Nat
  bl : Int
  fr : Int

def AnsV.block (a : AnsV) : Option Nat := (Value.slice a.dp a.dn a.dc).ownBlock

structure AnsIs (w : World) (a : AnsV) (x : An) : Prop where
  e : a.e = x.e
  v : a.v = x.v
  h : a.h = x.h
  l : a.l = x.l
  bl : a.bl = x.bl
  fr : a.fr = x.fr
  own : w.ownsRow 0 5 1 (.slice a.dp a.dn a.dc) x.data.length (bytesV x.data)

theorem AnsIs.touch {w w' : World} {a : AnsV} {x : An} {S : Nat → Prop} (h : AnsIs w a x) (T : Touch S w w') (hs : ∀ g, a.block = some g → ¬ S g) : AnsIs w' a x :=
  ⟨h.e, h.v, h.h, h.l, h.bl, h.fr, owns_touch h.own T (fun g _ hg => hs g hg)⟩

/-- what a call of a script does: it answers x and leaves the heap at β', ps' -/
def Stepped (w : World) (hb s pb : Nat) (K : BuL) (β' : Bu) (ps' : List Int) (x : An) (e : Ending) (w' : World) : Prop :=
  ∃ a : AnsV, e = .returned a.val ∧ ∃ K', HpRep 0 w' hb s pb K' β' ps' ∧ K.Next w K' ∧ Touch (· ∈ hb :: s :: K.fp) w w' ∧ AnsIs w' a x ∧ ∀ g, a.block = some g → w.heap.size ≤ g ∧ g ∉ hb :: s :: pb :: K'.fp

/-- the calls' slice, and the bytes of each, beside the heap -/
structure Callers (w : World) (hb s pb : Nat) (K : BuL) (gc cap : Nat) (cs : List CallV) (cx : List Txt.Cd) : Prop where
  calls : CallsAt w 0 (.slice (some ⟨gc, 0, none⟩) cs.length cap) cs cx
  away : gc ∉ hb :: s :: pb :: K.fp
  data : ∀ c ∈ cs, ∀ g, c.block = some g → g ∉ hb :: s :: pb :: K.fp

/-- the answers' slice, and the bytes of each, beside the heap -/
structure Answers (w : World) (B hb s pb : Nat) (K : BuL) (v : Value) (aa : List AnsV) (ax : List An) : Prop where
  own : w.ownsRow B 38 7 v aa.length (aa.flatMap AnsV.cells)
  len : aa.length = ax.length
  each : ∀ (i : Nat) a x, aa[i]? = some a → ax[i]? = some x → AnsIs w a x
  away : ∀ g, v.ownBlock = some g → g ∉ hb :: s :: pb :: K.fp
  data : ∀ a ∈ aa, ∀ g, a.block = some g → g ∉ hb :: s :: pb :: K.fp

theorem away_next {w : World} {hb s pb : Nat} {K K' : BuL} {g : Nat} (N : K.Next w K') (h : g ∉ hb :: s :: pb :: K.fp) (hl : g < w.heap.size) : g ∉ hb :: s :: pb :: K'.fp := by
  simp only [List.mem_cons, not_or] at h ⊢
  refine ⟨h.1, h.2.1, h.2.2.1, fun hk => ?_⟩
  rcases N.fresh g hk with h' | h'
  · exact h.2.2.2 h'
  · omega

theorem away_turn {hb s pb : Nat} {K : BuL} {g : Nat} (h : g ∉ hb :: s :: pb :: K.fp) : ¬ (g ∈ hb :: s :: K.fp) := by
  simp only [List.mem_cons, not_or] at h ⊢
  exact ⟨h.1, h.2.1, h.2.2.2⟩

theorem Callers.step {w w' : World} {hb s pb : Nat} {K K' : BuL} {gc cap : Nat} {cs : List CallV} {cx : List Txt.Cd} (C : Callers w hb s pb K gc cap cs cx) (N : K.Next w K') (T : Touch (· ∈ hb :: s :: K.fp) w w') : Callers w' hb s pb K' gc cap cs cx := by
  have hcl : ∀ c ∈ cs, ∀ g, c.block = some g → g < w.heap.size := fun c hc g hg => by
    obtain ⟨i, hi⟩ := List.getElem?_of_mem hc
    have hil := (List.getElem?_eq_some_iff.1 hi).1
    exact (World.ownsRow.lt (C.calls.each i c _ hi (List.getElem?_eq_getElem (by rw [← C.calls.len]; exact hil))).own g hg).2
  refine ⟨⟨owns_touch C.calls.own T (fun g _ hg => ?_), C.calls.len, fun i c x hc hx => ?_, C.calls.apart⟩, ?_, fun c hc g hg => away_next N (C.data c hc g hg) (hcl c hc g hg)⟩
  · cases hg
    exact away_turn C.away
  · have h := C.calls.each i c x hc hx
    exact ⟨h.op, h.ref, h.p, h.a, h.b, h.deny, owns_touch h.own T (fun g _ hg => away_turn (C.data c (List.mem_of_getElem? hc) g hg))⟩
  · by_cases h0 : 0 < cs.length
    · exact away_next N C.away (World.ownsRow.lt C.calls.own gc rfl).2
    · exact away_next N C.away (World.ownsRow.lt C.calls.own gc rfl).2

theorem Answers.step {w w' : World} {B hb s pb : Nat} {K K' : BuL} {v : Value} {aa : List AnsV} {ax : List An} (A : Answers w B hb s pb K v aa ax) (N : K.Next w K') (T : Touch (· ∈ hb :: s :: K.fp) w w') : Answers w' B hb s pb K' v aa ax := by
  have hal : ∀ a ∈ aa, ∀ g, a.block = some g → g < w.heap.size := fun a ha g hg => by
    obtain ⟨i, hi⟩ := List.getElem?_of_mem ha
    have hil := (List.getElem?_eq_some_iff.1 hi).1
    exact (World.ownsRow.lt (A.each i a _ hi (List.getElem?_eq_getElem (by rw [← A.len]; exact hil))).own g hg).2
  exact ⟨owns_touch A.own T (fun g _ hg => away_turn (A.away g hg)), A.len, fun i a x ha hx => (A.each i a x ha hx).touch T (fun g hg => away_turn (A.data a (List.mem_of_getElem? ha) g hg)),
    fun g hg => away_next N (A.away g hg) (World.ownsRow.lt A.own g hg).2, fun a ha g hg => away_next N (A.data a ha g hg) (hal a ha g hg)⟩

theorem Answers.still {w w' : World} {B hb s pb : Nat} {K : BuL} {v : Value} {aa : List AnsV} {ax : List An} (A : Answers w B hb s pb K v aa ax) (T : Touch Nothing w w') : Answers w' B hb s pb K v aa ax :=
  A.step (BuL.Next.refl _ _) T.none_

theorem Callers.still {w w' : World} {hb s pb : Nat} {K : BuL} {gc cap : Nat} {cs : List CallV} {cx : List Txt.Cd} (C : Callers w hb s pb K gc cap cs cx) (T : Touch Nothing w w') : Callers w' hb s pb K gc cap cs cx :=
  C.step (BuL.Next.refl _ _) T.none_

end Go.Proofs.YtnjcmcnjgdjbiaaGreatDoor

namespace Go.Proofs.YtnjcmcnjgdjbiaaGreatDoor
open Go.RowKit

/-- the contract of the k-th call -/
def StepAt (hb s pb : Nat) (B : Nat) (cs : List CallV) (cx : List Txt.Cd) (ax : List An) (st : Nat → Bu × List Int) (gc cap : Nat) : Prop :=
  ∀ (k : Nat) (c : CallV) (a : An) (w : World) (K : BuL) (v : Value) (aa : List AnsV), cs[k]? = some c → ax[k]? = some a → HpRep 0 w hb s pb K (st k).1 (st k).2 → Callers w hb s pb K gc cap cs cx →
    Answers w B hb s pb K v aa (ax.take k) → aa.length = k → Calls Tryz.prog 22 #[.pointer (some ⟨hb, 0, none⟩), c.val, v] w (Stepped w hb s pb K (st (k + 1)).1 (st (k + 1)).2 a)

structure PlayRel (w : World) (hb s pb : Nat) (K0 : BuL) (cs : List CallV) (cx : List Txt.Cd) (ax : List An) (st : Nat → Bu × List Int) (gc cap k : Nat) (v : Value) (wr : World) (K : BuL) (aa : List AnsV) : Prop where
  heap : HpRep 0 wr hb s pb K (st k).1 (st k).2
  callers : Callers wr hb s pb K gc cap cs cx
  answers : Answers wr w.heap.size hb s pb K v aa (ax.take k)
  len : aa.length = k
  next : K0.Next w K
  touch : Touch (· ∈ hb :: s :: K0.fp) w wr
  low : 9 ≤ w.heap.size

theorem call_cell {w : World} {hb s pb gc cap : Nat} {K : BuL} {cs : List CallV} {cx : List Txt.Cd} (C : Callers w hb s pb K gc cap cs cx) (k : Nat) (c : CallV) (hk : cs[k]? = some c) (j : Nat) (u : Value) (hu : c.cells[j]? = some u) :
    w.cell? ⟨gc, k * 7 + j, none⟩ = some u := by
  have hkl := (List.getElem?_eq_some_iff.1 hk).1
  have hj := (List.getElem?_eq_some_iff.1 hu).1
  have hj7 : j < 7 := by simpa [CallV.cells] using hj
  rw [World.ownsRow.cellAt C.calls.own (k * 7 + j) (by omega)]
  have gen : ∀ (l : List CallV) (i : Nat), l[i]? = some c → (l.flatMap CallV.cells)[i * 7 + j]? = some u := by
    intro l
    induction l with
    | nil => intro i h; simp at h
    | cons d l ih =>
      intro i h
      cases i with
      | zero =>
        simp at h
        subst h
        rw [List.flatMap_cons, List.getElem?_append_left (by simpa [CallV.cells] using hj7)]
        simpa using hu
      | succ i =>
        rw [List.flatMap_cons, List.getElem?_append_right (by simp [CallV.cells]; omega)]
        have := ih i (by simpa using h)
        rw [← this]
        congr 1
        simp [CallV.cells]
        omega
  exact gen cs k hk

theorem PlayRel.more {w : World} {hb s pb : Nat} {K0 : BuL} {cs : List CallV} {cx : List Txt.Cd} {ax : List An} {st : Nat → Bu × List Int} {gc cap k : Nat} {v : Value} {wr w1 w2 w3 : World} {K K' : BuL} {aa : List AnsV} {a : AnsV} {x : An} {o : Obj} {g c' : Nat}
    (R : PlayRel w hb s pb K0 cs cx ax st gc cap k v wr K aa) (hx : ax[k]? = some x) (T1 : Touch Nothing wr w1) (H : HpRep 0 w2 hb s pb K' (st (k + 1)).1 (st (k + 1)).2) (N : K.Next w1 K') (T2 : Touch (· ∈ hb :: s :: K.fp) w1 w2)
    (A : AnsIs w2 a x) (F : ∀ g, a.block = some g → w1.heap.size ≤ g ∧ g ∉ hb :: s :: pb :: K'.fp) (hown : w3.ownsRow w.heap.size 38 7 (.slice (some ⟨g, 0, none⟩) (aa.length + 1) c') (aa.length + 1) (aa.flatMap AnsV.cells ++ a.cells))
    (hg : (w2.alloc o).grownBy w3 v.ownBlock) (hat : v.ownBlock = some g ∨ g = w2.heap.size + 1) : PlayRel w hb s pb K0 cs cx ax st gc cap (k + 1) (.slice (some ⟨g, 0, none⟩) (aa.length + 1) c') w3 K' (aa ++ [a]) := by
  have hA := ((R.answers.still T1).step N T2)
  have hC := ((R.callers.still T1).step N T2)
  have N0 : K.Next wr K' := ⟨N.bb, N.sb, N.mb, fun i hi => (N.fresh i hi).elim .inl (fun h => .inr (Nat.le_trans T1.size h))⟩
  have TG : Touch (fun i => v.ownBlock = some i) w2 w3 := ((Touch.refl _ w2).alloc o).none_.trans (Touch.of_grown hg (fun i hi => hi))
  have hvl : ∀ i, v.ownBlock = some i → w.heap.size ≤ i ∧ i < wr.heap.size := fun i hi => World.ownsRow.lt R.answers.own i hi
  have hH := H.lt
  have h9 := R.low
  have hkind : ∀ (d : AnsV) (y : An), AnsIs w2 d y → AnsIs w3 d y := fun d y hd => hd.touch TG (fun i hi hv => owns_kind hd.own hA.own (by decide) i hi hv)
  have haway : g ∉ hb :: s :: pb :: K'.fp := by
    rcases hat with h | h
    · exact hA.away g h
    · exact fun hm => by have := hH g hm; omega
  refine ⟨H.touch TG (fun i hi hv => hA.away i hv hi) (fun i hi hv => by have := hvl i hv; omega), ?_, ?_, by simp [R.len], R.next.trans N0 R.touch.size, ?_, R.low⟩
  · refine ⟨⟨owns_touch hC.calls.own TG (fun i _ hi hv => owns_kind hC.calls.own hA.own (by decide) i hi hv), hC.calls.len, fun i c y hc hy => ?_, hC.calls.apart⟩, hC.away, hC.data⟩
    have h := hC.calls.each i c y hc hy
    exact ⟨h.op, h.ref, h.p, h.a, h.b, h.deny, owns_touch h.own TG (fun i _ hi hv => owns_kind h.own hA.own (by decide) i hi hv)⟩
  · have hxl := (List.getElem?_eq_some_iff.1 hx).1
    have htk : ax.take (k + 1) = ax.take k ++ [x] := by
      rw [List.take_add_one, hx]
      rfl
    refine ⟨by simpa using hown, by rw [htk, List.length_append, List.length_append, hA.len]; rfl, fun i d y hd hy => ?_, fun i hi => by cases hi; exact haway, fun d hd i hi => ?_⟩
    · rw [htk] at hy
      by_cases hi : i < aa.length
      · rw [List.getElem?_append_left hi] at hd
        rw [List.getElem?_append_left (by rw [← hA.len]; exact hi)] at hy
        exact hkind d y (hA.each i d y hd hy)
      · have hi' : i = aa.length := by
          have := (List.getElem?_eq_some_iff.1 hd).1
          simp at this
          omega
        subst hi'
        rw [List.getElem?_append_right (Nat.le_refl _)] at hd
        rw [hA.len, List.getElem?_append_right (Nat.le_refl _)] at hy
        simp at hd hy
        subst hd hy
        exact hkind _ _ A
    · rcases List.mem_append.1 hd with hd | hd
      · exact hA.data d hd i hi
      · simp at hd
        subst hd
        exact (F i hi).2
  · have T3 : Touch (fun i => i ∈ hb :: s :: K.fp ∨ v.ownBlock = some i) wr w3 := (T1.none_.trans (T2.mono (fun _ _ h => .inl h))).trans (TG.mono (fun _ _ h => .inr h))
    refine R.touch.trans' T3 (fun i hi h => ?_)
    rcases h with h | h
    · simp only [List.mem_cons] at h ⊢
      rcases h with h | h | h
      · exact .inl h
      · exact .inr (.inl h)
      · rcases R.next.fresh i h with h | h
        · exact .inr (.inr h)
        · omega
    · have := hvl i h
      omega

theorem info38 : (Tryz.prog.info? 38).map (fun i => (i.zero, i.size, i.bytes)) = some (some (.agg #[.int .i64 0, .int .u64 0, .slice none 0 0, .int .u64 0, .int .u64 0, .int .i64 0, .int .i64 0]), 7, 72) := by kernel_rfl

def Played (w : World) (hb s pb : Nat) (K0 : BuL) (cs : List CallV) (cx : List Txt.Cd) (ax : List An) (st : Nat → Bu × List Int) (gc cap : Nat) (e : Ending) (w' : World) : Prop :=
  ∃ K aa dp dn dc, e = .returned (.tuple #[.slice dp dn dc, .int .i64 0]) ∧ PlayRel w hb s pb K0 cs cx ax st gc cap cs.length (.slice dp dn dc) w' K aa

set_option maxRecDepth 100000 in
set_option maxHeartbeats 4000000 in
theorem play_ {w : World} {hb s pb : Nat} {K0 : BuL} {cs : List CallV} {cx : List Txt.Cd} {ax : List An} {st : Nat → Bu × List Int} {gc cap : Nat} (R : HpRep 0 w hb s pb K0 (st 0).1 (st 0).2) (C : Callers w hb s pb K0 gc cap cs cx)
    (hn : cs.length ≤ 4096) (ha : ax.length = cs.length) (H : StepAt hb s pb w.heap.size cs cx ax st gc cap) :
    Calls Tryz.prog 15 #[.pointer (some ⟨hb, 0, none⟩), .slice (some ⟨gc, 0, none⟩) cs.length cap] w (Played w hb s pb K0 cs cx ax st gc cap) := by
  have HR0 := Lib.hid (show PlayRel w hb s pb K0 cs cx ax st gc cap 0 (.slice none 0 0) w K0 [] from
    ⟨R, C, ⟨World.ownsRow_nil _ _ _ _, by simp, fun i a x h => by simp at h, fun g h => by simp [Value.ownBlock] at h, fun a h => by simp at h⟩, rfl, BuL.Next.refl _ _, Touch.refl _ _, R.glob.size⟩)
  have HS := Lib.hid H
  obtain ⟨i0, hi0, hz0, hz1, hz2⟩ := info_parts info38
  obtain ⟨n, hN⟩ : ∃ n, cs.length = n := ⟨_, rfl⟩
  rw [hN] at hn ⊢
  have HN := Lib.hid hN
  clear R C H hN
  go_enter Tryz.func15, Tryz.ntmps15
  go_wp2_with fail
  go_loopw [6, 14] (fun v a wr => ∃ k : Nat, k ≤ n ∧ a = .int .i64 k ∧ ∃ K aa, PlayRel w hb s pb K0 cs cx ax st gc cap k v wr K aa) (fun _ a _ => n - (intOf a).toNat)
  case atStart => exact ⟨0, by omega, rfl, K0, [], HR0.out⟩
  case round =>
    obtain ⟨k, hk, rfl, K, aa, hR⟩ := hrel
    have HR := Lib.hid hR
    clear hR
    by_cases hlt : k < n
    · obtain ⟨c, hc⟩ : ∃ c, cs[k]? = some c := ⟨_, List.getElem?_eq_getElem (by have := HN.out; omega)⟩
      obtain ⟨x, hx⟩ : ∃ x, ax[k]? = some x := ⟨_, List.getElem?_eq_getElem (by have := HN.out; omega)⟩
      have HC := Lib.hid hc
      have HX := Lib.hid hx
      clear hc hx
      obtain ⟨vp, vn, vc, hv⟩ := owns_slice HR.out.answers.own
      subst hv
      obtain ⟨cop, cref, cp, ca, cb, cd, cdp, cdn, cdc⟩ := c
      have z0 : wr.cell? ⟨gc, k * 7, none⟩ = some (.int .i64 cop) := call_cell HR.out.callers k _ HC.out 0 _ rfl
      have z1 : wr.cell? ⟨gc, k * 7 + 1, none⟩ = some (.int .i64 cref) := call_cell HR.out.callers k _ HC.out 1 _ rfl
      have z2 : wr.cell? ⟨gc, k * 7 + 2, none⟩ = some (.int .u64 cp) := call_cell HR.out.callers k _ HC.out 2 _ rfl
      have z3 : wr.cell? ⟨gc, k * 7 + 3, none⟩ = some (.int .u64 ca) := call_cell HR.out.callers k _ HC.out 3 _ rfl
      have z4 : wr.cell? ⟨gc, k * 7 + 4, none⟩ = some (.int .u64 cb) := call_cell HR.out.callers k _ HC.out 4 _ rfl
      have z5 : wr.cell? ⟨gc, k * 7 + 5, none⟩ = some (.bool cd) := call_cell HR.out.callers k _ HC.out 5 _ rfl
      have z6 : wr.cell? ⟨gc, k * 7 + 6, none⟩ = some (.slice cdp cdn cdc) := call_cell HR.out.callers k _ HC.out 6 _ rfl
      have hT1 : Touch Nothing wr (wr.alloc (.cells #[.int .i64 cop, .int .i64 cref, .int .u64 cp, .int .u64 ca, .int .u64 cb, .bool cd, .slice cdp cdn cdc] 43)) := (Touch.refl _ _).alloc _
      have HST := Lib.hid (HS.out k _ x _ K (.slice vp vn vc) aa HC.out HX.out (HR.out.heap.touch0 hT1) (HR.out.callers.still hT1) (HR.out.answers.still hT1) HR.out.len)
      have HT1 := Lib.hid hT1
      clear hT1
      unfold CallV.val at HST
      go_wp2_with fail
      refine HST.out.mono ?_
      rintro e w2 ⟨a, rfl, K', hR', hN', hT', hA, hF⟩
      obtain ⟨ae, av, adp, adn, adc, ah, al, abl, afr⟩ := a
      unfold AnsV.val at *
      have HH := Lib.hid hR'
      have HNx := Lib.hid hN'
      have HT2 := Lib.hid hT'
      have HA := Lib.hid hA
      have HF := Lib.hid hF
      clear hR' hN' hT' hA hF
      have HAn := Lib.hid ((HR.out.answers.still HT1.out).step HNx.out HT2.out)
      have hB2 := Blk.new w2 #[.int .i64 ae, .int .u64 av, .slice adp adn adc, .int .u64 ah, .int .u64 al, .int .i64 abl, .int .i64 afr] 38
      have HNW := Lib.hid (news_of_blk hB2)
      have hkl : aa.length ≤ 4096 := by have := HR.out.len; omega
      have hbs : w.heap.size ≤ w2.heap.size := Nat.le_trans HR.out.touch.size (Nat.le_trans HT1.out.size HT2.out.size)
      clear hB2
      go_wp2_with (at_builtin; refine wpList_append_lies _ rfl _ _ 30 rfl w.heap.size 38 i0 _ 7 72 Tryz.underlying30 hi0 hz0 hz1 hz2 rfl (by decide) _ _ _ rfl (HAn.out.own.alloc _) ⟨w2.heap.size, 0, none⟩ 1 1 [.int .i64 ae, .int .u64 av, .slice adp adn adc, .int .u64 ah, .int .u64 al, .int .i64 abl, .int .i64 afr] rfl rfl HNW.out (by simp [Value.oneCell']) (by omega) (by unfold maxLen; omega) (by omega) (by simp; omega) (w2.heap.size + 1) (by simp) ?_; intro gg cap' w3 hown hgrow hat hltg)
      have HO := Lib.hid hown
      have HG := Lib.hid hgrow
      have HAt := Lib.hid hat
      clear hown hgrow hat
      go_wp2_with fail
      go_roundw
      case rel => exact ⟨k + 1, by omega, by go_num, K', aa ++ [⟨ae, av, adp, adn, adc, ah, al, abl, afr⟩], HR.out.more (a := ⟨ae, av, adp, adn, adc, ah, al, abl, afr⟩) HX.out HT1.out HH.out HNx.out HT2.out HA.out HF.out HO.out HG.out HAt.out⟩
      case measure => simp [intOf]; omega
    · obtain rfl : k = n := by omega
      obtain ⟨vp, vn, vc, hv⟩ := owns_slice HR.out.answers.own
      subst hv
      go_wp2_with fail
      go_ret2
      exact ⟨K, aa, vp, vn, vc, rfl, by rw [HN.out]; exact HR.out⟩

end Go.Proofs.YtnjcmcnjgdjbiaaGreatDoor

