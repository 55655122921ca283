/- script.Play of any calls on any heap. Conditions: as each theorem states. -/
import Derived.Test.YtnjcmcnjgdjbiaaGreatDoorCutPartAt
import Derived.Lib.ConvBytes
import Derived.Laws.IdiomStrings
import Derived.Laws.AppendOwnNone
import Derived.Test.YtnjcmcnjgdjbiaaGreatDoorCutPartAs
set_option maxRecDepth 100000
set_option maxHeartbeats 4000000
namespace Go.Proofs.YtnjcmcnjgdjbiaaGreatDoor
open Go.RowKit
structure Cp where
 ref : Int
 p : Nat
 x : Cq
def cpOf (c : CallV) (d : List UInt8) : Cp := ⟨c.ref, c.p, ⟨c.op, c.a, c.b, c.deny, d⟩⟩
structure Rdr (w : World) (A : Nat → Prop) (p : Option Addr) (n : Nat) (cs : List CallV) (ds : List (List UInt8)) : Prop where
 len : n = cs.length
 len2 : n = ds.length
 each : 0 < n → ∃ g off, p = some ⟨g, off, none⟩ ∧ A g ∧ ∀ (i : Nat) c d, cs[i]? = some c → ds[i]? = some d → (∀ (j : Nat) v, c.cells[j]? = some v → w.cell? ⟨g, off + i * 7 + j, none⟩ = some v) ∧ Src w A c.dp c.dn c.dc d
theorem Rdr.keep {w w' : World} {A : Nat → Prop} {p : Option Addr} {n : Nat} {cs : List CallV} {ds : List (List UInt8)} (h : Rdr w A p n cs ds) (hk : ∀ k, A k → k < w.heap.size → w'.heap[k]? = w.heap[k]?) : Rdr w' A p n cs ds :=
 ⟨h.len, h.len2, fun hn => by
  obtain ⟨g, off, hp, hA, he⟩ := h.each hn
  refine ⟨g, off, hp, hA, fun i c d hc hd => ⟨fun j v hj => ?_, (he i c d hc hd).2.keep hk⟩⟩
  have h1 := (he i c d hc hd).1 j v hj
  have hlt := World.block_lt_of_cell? w _ h1
  rw [World.cell?_of_block (w := w) (a := ⟨g, off + i * 7 + j, none⟩) (hk g hA hlt)]
  exact h1⟩
structure CpOk (c : Cp) : Prop where
 op : (Lit.int .i64 c.x.op).wf = true
 p : c.p < W64
 a : c.x.a < W64
 b : c.x.b < W64
def adrOf (ref : Int) (p : Nat) (ax : List An) : Option Nat :=
 if ref = 0 then some p
 else if ref < 0 ∨ (ax.length : Int) < ref then none
 else match ax[(ref - 1).toNat]? with
  | some a => if a.e = 0 then some ((a.v + p) % W64) else some p
  | none => none
theorem adrOf_lt {ref : Int} {p : Nat} {ax : List An} (hp : p < W64) (n : Nat) (h : adrOf ref p ax = some n) : n < W64 := by
 unfold adrOf at h
 split at h
 ·cases h; exact hp
 ·split at h
  ·cases h
  ·split at h
   ·split at h
    ·cases h; exact Nat.mod_lt _ (by decide)
    ·cases h; exact hp
   ·cases h
theorem adr_is {w : World} {B hb s pb : Nat} {K : BuL} {v : Value} {aa : List AnsV} {ax : List An} (An : Answers w B hb s pb K v aa ax) (hv : ∀ a ∈ ax, a.v < W64) (c : CallV) (hp : c.p < W64) (hl : aa.length ≤ 4096) : AdrIs w c v (adrOf c.ref c.p ax) := by
 intro W T
 have AW := (An.still T)
 have hlen := An.len
 unfold adrOf
 by_cases h0 : c.ref = 0
 ·rw [if_pos h0]
  exact address_zero c v h0
 rw [if_neg h0]
 by_cases h1 : c.ref < 0 ∨ (ax.length : Int) < c.ref
 ·rw [if_pos h1]
  obtain ⟨vp, vn, vc, rfl⟩ := owns_slice AW.own
  have hn : vn = aa.length := by
   rcases AW.own.2 with ⟨h, h'⟩ | ⟨g, cap, cur, h, _⟩
   ·cases h; exact h'.symm
   ·cases h; rfl
  subst hn
  exact address_none c vp _ vc (by omega) (by omega)
 rw [if_neg h1]
 obtain ⟨j, hj⟩ : ∃ j : Nat, c.ref = (j : Int) + 1 := ⟨(c.ref - 1).toNat, by omega⟩
 have hjl : j < ax.length := by omega
 obtain ⟨a, ha⟩ : ∃ a, aa[j]? = some a := ⟨_, List.getElem?_eq_getElem (by omega)⟩
 obtain ⟨x, hx⟩ : ∃ x, ax[j]? = some x := ⟨_, List.getElem?_eq_getElem hjl⟩
 have hi := AW.each j a x ha hx
 have e1 : (c.ref - 1).toNat = j := by omega
 have hxv := hv x (List.mem_of_getElem? hx)
 have hW : W64 = 18446744073709551616 := rfl
 simp only [e1, hx]
 by_cases he : x.e = 0
 ·simp only [he, if_true]
  by_cases hs : x.v + c.p < W64
  ·rw [Nat.mod_eq_of_lt hs]
   have := address_ok c v aa (Anss.of AW) j a hj ha (hi.e.trans he) (by rw [hi.v]; omega)
   rwa [hi.v] at this
  ·have e2 : (x.v + c.p) % W64 = x.v + c.p - W64 := by
    rw [Nat.mod_eq_sub_mod (by omega), Nat.mod_eq_of_lt (by omega)]
   rw [e2]
   have := address_wrap c v aa (Anss.of AW) j a hj ha (hi.e.trans he) (by rw [hi.v]; omega) (by rw [hi.v]; exact hxv) hp
   rwa [hi.v] at this
 ·simp only [he, if_false]
  exact address_err c v aa (Anss.of AW) j a hj ha (by rw [hi.e]; exact he)
structure Run (β : Bu) (ps : List Int) (xs : List Cp) (st : Nat → Bu × List Int) (ax : List An) : Prop where
 start : st 0 = (β, ps)
 len : ax.length = xs.length
 inv : ∀ k, k ≤ xs.length → ∃ F C L, HS (st k).1 (st k).2 F C L
 step : ∀ (k : Nat) x a, xs[k]? = some x → ax[k]? = some a → (∃ F C L, HS (st k).1 (st k).2 F C L ∧ Eff (st k).1 F L x.x (adrOf x.ref x.p (ax.take k)) (st (k + 1)).1 a) ∧ OneDo (st k).1 (st k).2 x.x (adrOf x.ref x.p (ax.take k)) (st (k + 1)).1 (st (k + 1)).2 a
theorem HS.run {β : Bu} {ps : List Int} {F C L : Nat → List Nat} (I : HS β ps F C L) (xs : List Cp) (ok : ∀ x ∈ xs, CpOk x) : ∃ st ax, Run β ps xs st ax := by
 have key : ∀ n, n ≤ xs.length → ∃ st ax, Run β ps (xs.take n) st ax := by
  intro n
  induction n with
  | zero =>
   intro _
   exact ⟨fun _ => (β, ps), [], rfl, by simp, fun k _ => ⟨F, C, L, I⟩, fun k x a hx => by simp at hx⟩
  | succ n ih =>
   intro hn
   obtain ⟨st, ax, R⟩ := ih (by omega)
   have hl : (xs.take n).length = n := by rw [List.length_take]; omega
   have hal : ax.length = n := R.len.trans hl
   obtain ⟨x, hx⟩ : ∃ x, xs[n]? = some x := ⟨_, List.getElem?_eq_getElem (by omega)⟩
   have hok := ok x (List.mem_of_getElem? hx)
   obtain ⟨F1, C1, L1, I1⟩ := R.inv n (by omega)
   obtain ⟨β', ps', F', C', L', an, I', E, D⟩ := I1.one x.x (adrOf x.ref x.p ax) hok.op (fun m hm => adrOf_lt hok.p m hm) hok.a hok.b
   have htk : xs.take (n + 1) = xs.take n ++ [x] := by rw [List.take_add_one, hx]; rfl
   rw [htk]
   refine ⟨fun k => if k ≤ n then st k else (β', ps'), ax ++ [an], ⟨by simp [R.start], by simp [R.len], fun k hk => ?_, fun k y a hy ha => ?_⟩⟩
   ·by_cases h : k ≤ n
    ·simp only [if_pos h]
     exact R.inv k (by omega)
    ·simp only [if_neg h]
     exact ⟨F', C', L', I'⟩
   ·by_cases h : k < n
    ·rw [List.getElem?_append_left (by omega)] at hy ha
     simp only [if_pos (show k ≤ n by omega), if_pos (show k + 1 ≤ n by omega)]
     rw [List.take_append_of_le_length (by omega)]
     exact R.step k y a hy ha
    ·have hk : k = n := by
      have := (List.getElem?_eq_some_iff.1 ha).1
      simp at this
      omega
     subst hk
     rw [List.getElem?_append_right (by omega), hl, Nat.sub_self] at hy
     rw [List.getElem?_append_right (by omega), hal, Nat.sub_self] at ha
     simp at hy ha
     subst hy ha
     simp only [Nat.le_refl, if_true, if_neg (show ¬ k + 1 ≤ k by omega)]
     rw [List.take_append_of_le_length (by omega), List.take_of_length_le (by omega)]
     exact ⟨⟨F1, C1, L1, I1, E⟩, D⟩
 obtain ⟨st, ax, R⟩ := key xs.length (Nat.le_refl _)
 rw [List.take_length] at R
 exact ⟨st, ax, R⟩
structure PlayR (w : World) (A : Nat → Prop) (hb s pb : Nat) (K0 : BuL) (ax : List An) (st : Nat → Bu × List Int) (k : Nat) (v : Value) (wr : World) (K : BuL) (aa : List AnsV) : Prop where
 heap : HpRep 0 wr hb s pb K (st k).1 (st k).2
 keep : ∀ j, A j → j < w.heap.size → wr.heap[j]? = w.heap[j]?
 away : ∀ j, A j → j ∉ hb :: s :: pb :: K.fp
 answers : Answers wr w.heap.size hb s pb K v aa (ax.take k)
 vals : ∀ a ∈ ax.take k, a.v < W64
 new : ∀ a ∈ aa, ∀ g, a.block = some g → w.heap.size ≤ g
 len : aa.length = k
 next : K0.Next w K
 touch : Touch (· ∈ hb :: s :: K0.fp) w wr
 low : 9 ≤ w.heap.size
theorem PlayR.more {w : World} {A : Nat → Prop} {hb s pb : Nat} {K0 : BuL} {ax : List An} {st : Nat → Bu × List Int} {k : Nat} {v : Value} {wr w1 w2 w3 : World} {K K' : BuL} {aa : List AnsV} {a : AnsV} {x : An} {o : Obj} {g c' : Nat}
  (R : PlayR w A hb s pb K0 ax st k v wr K aa) (hlo : ∀ j, A j → j < w.heap.size) (hx : ax[k]? = some x) (hxv : x.v < W64) (T1 : Touch Nothing wr w1) (H : HpRep 0 w2 hb s pb K' (st (k + 1)).1 (st (k + 1)).2) (N : K.Next w1 K') (T2 : Touch (· ∈ hb :: s :: K.fp) w1 w2)
  (AI : AnsIs w2 a x) (F : ∀ g, a.block = some g → w1.heap.size ≤ g ∧ g ∉ hb :: s :: pb :: K'.fp) (hown : w3.ownsRow w.heap.size 38 7 (.slice (some ⟨g, 0, none⟩) (aa.length + 1) c') (aa.length + 1) (aa.flatMap AnsV.cells ++ a.cells))
  (hg : (w2.alloc o).grownBy w3 v.ownBlock) (hat : v.ownBlock = some g ∨ g = w2.heap.size + 1) : PlayR w A hb s pb K0 ax st (k + 1) (.slice (some ⟨g, 0, none⟩) (aa.length + 1) c') w3 K' (aa ++ [a]) := by
 have hA := ((R.answers.still T1).step N T2)
 have N0 : K.Next wr K' := ⟨N.bb, N.sb, N.mb, fun i hi => (N.fresh i hi).elim .inl (fun h => .inr (Nat.le_trans T1.size h))⟩
 have TG : Touch (fun i => v.ownBlock = some i) w2 w3 := ((Touch.refl _ w2).alloc o).none_.trans (Touch.of_grown hg (fun i hi => hi))
 have hvl : ∀ i, v.ownBlock = some i → w.heap.size ≤ i ∧ i < wr.heap.size := fun i hi => World.ownsRow.lt R.answers.own i hi
 have hH := H.lt
 have h9 := R.low
 have hsz := R.touch.size
 have hkind : ∀ (d : AnsV) (y : An), AnsIs w2 d y → AnsIs w3 d y := fun d y hd => hd.touch TG (fun i hi hv => owns_kind hd.own hA.own (by decide) i hi hv)
 have haway : g ∉ hb :: s :: pb :: K'.fp := by
  rcases hat with h | h
  ·exact hA.away g h
  ·exact fun hm => by have := hH g hm; omega
 have hxl := (List.getElem?_eq_some_iff.1 hx).1
 have htk : ax.take (k + 1) = ax.take k ++ [x] := by
  rw [List.take_add_one, hx]
  rfl
 have T3 : Touch (fun i => i ∈ hb :: s :: K.fp ∨ v.ownBlock = some i) wr w3 := (T1.none_.trans (T2.mono (fun _ _ h => .inl h))).trans (TG.mono (fun _ _ h => .inr h))
 refine ⟨H.touch TG (fun i hi hv => hA.away i hv hi) (fun i hi hv => by have := hvl i hv; omega), fun j hj hjl => ?_, fun j hj hm => ?_, ?_, fun b hb => ?_, fun b hb i hi => ?_, by simp [R.len], R.next.trans N0 R.touch.size, ?_, R.low⟩
 ·rw [← R.keep j hj hjl]
  refine T3.block j (by omega) ?_
  rintro (h | h)
  ·refine R.away j hj ?_
   simp only [List.mem_cons] at h ⊢
   rcases h with h | h | h
   ·exact .inl h
   ·exact .inr (.inl h)
   ·exact .inr (.inr (.inr h))
  ·have := hvl j h; omega
 ·have hjl := hlo j hj
  refine away_next N0 (R.away j hj) (by omega) hm
 ·refine ⟨by simpa using hown, by rw [htk, List.length_append, List.length_append, hA.len]; rfl, fun i d y hd hy => ?_, fun i hi => by cases hi; exact haway, fun d hd i hi => ?_⟩
  ·rw [htk] at hy
   by_cases hi : i < aa.length
   ·rw [List.getElem?_append_left hi] at hd
    rw [List.getElem?_append_left (by rw [← hA.len]; exact hi)] at hy
    exact hkind d y (hA.each i d y hd hy)
   ·have hi' : i = aa.length := by
     have := (List.getElem?_eq_some_iff.1 hd).1
     simp at this
     omega
    subst hi'
    rw [List.getElem?_append_right (Nat.le_refl _)] at hd
    rw [hA.len, List.getElem?_append_right (Nat.le_refl _)] at hy
    simp at hd hy
    subst hd hy
    exact hkind _ _ AI
  ·rcases List.mem_append.1 hd with hd | hd
   ·exact hA.data d hd i hi
   ·simp at hd
    subst hd
    exact (F i hi).2
 ·rw [htk] at hb
  rcases List.mem_append.1 hb with h | h
  ·exact R.vals b h
  ·simp at h; subst h; exact hxv
 ·rcases List.mem_append.1 hb with h | h
  ·exact R.new b h i hi
  ·simp at h; subst h
   have := (F i hi).1
   have := T1.size
   omega
 ·refine R.touch.trans' T3 (fun i hi h => ?_)
  rcases h with h | h
  ·simp only [List.mem_cons] at h ⊢
   rcases h with h | h | h
   ·exact .inl h
   ·exact .inr (.inl h)
   ·rcases R.next.fresh i h with h | h
    ·exact .inr (.inr h)
    ·omega
  ·have := hvl i h
   omega
def PlayedAs (w : World) (A : Nat → Prop) (hb s pb : Nat) (K0 : BuL) (n : Nat) (ax : List An) (st : Nat → Bu × List Int) (e : Ending) (w' : World) : Prop :=
 ∃ K aa dp dc, e = .returned (.tuple #[.slice dp n dc, .int .i64 0]) ∧ PlayR w A hb s pb K0 ax st n (.slice dp n dc) w' K aa
theorem plays_ {w : World} {A : Nat → Prop} {hb s pb : Nat} {K0 : BuL} {β : Bu} {ps : List Int} {pa : Option Addr} {n cap : Nat} {cs : List CallV} {ds : List (List UInt8)} {ax : List An} {st : Nat → Bu × List Int} (R : HpRep 0 w hb s pb K0 β ps) (C : Rdr w A pa n cs ds)
  (hA : ∀ j, A j → j < w.heap.size ∧ j ∉ hb :: s :: pb :: K0.fp) (hn : n ≤ 4096) (ok : ∀ c ∈ cs, c.p < W64) (H : Run β ps (List.zipWith cpOf cs ds) st ax) :
  Calls Tryz.prog 15 #[.pointer (some ⟨hb, 0, none⟩), .slice pa n cap] w (PlayedAs w A hb s pb K0 n ax st) := by
 have HR0 := Hd (show PlayR w A hb s pb K0 ax st 0 (.slice none 0 0) w K0 [] from
  ⟨by rw [H.start]; exact R, fun _ _ _ => rfl, fun j hj => (hA j hj).2, ⟨World.ownsRow_nil _ _ _ _, by simp, fun i a x h => by simp at h, fun g h => by simp [Value.ownBlock] at h, fun a h => by simp at h⟩, fun a h => by simp at h, fun a h => by simp at h, rfl, BuL.Next.refl _ _, Touch.refl _ _, R.glob.size⟩)
 have HS := Hd H
 have HC := Hd C
 have HA := Hd hA
 have HOk := Hd ok
 obtain ⟨i0, hi0, hz0, hz1, hz2⟩ := info_parts info38
 have hxl : (List.zipWith cpOf cs ds).length = n := by rw [List.length_zipWith, ← C.len, ← C.len2]; omega
 have hal : ax.length = n := H.len.trans hxl
 have HAl := Hd hal
 clear R C H hA ok hxl hal
 go_enter Tryz.func15, Tryz.ntmps15
 go_wp2_with fail
 go_loopw [6, 14] (fun v a wr => ∃ k : Nat, k ≤ n ∧ a = .int .i64 k ∧ ∃ K aa, PlayR w A hb s pb K0 ax st k v wr K aa) (fun _ a _ => n - (intOf a).toNat)
 case atStart => exact ⟨0, by omega, rfl, K0, [], HR0.out⟩
 case round =>
  obtain ⟨k, hk, rfl, K, aa, hR⟩ := hrel
  have HR := Hd hR
  clear hR
  by_cases hlt : k < n
  ·obtain ⟨c, hc⟩ : ∃ c, cs[k]? = some c := ⟨_, List.getElem?_eq_getElem (by have := HC.out.len; omega)⟩
   obtain ⟨d, hd⟩ : ∃ d, ds[k]? = some d := ⟨_, List.getElem?_eq_getElem (by have := HC.out.len2; omega)⟩
   obtain ⟨x, hx⟩ : ∃ x, ax[k]? = some x := ⟨_, List.getElem?_eq_getElem (by have := HAl.out; omega)⟩
   have hCk := HC.out.keep HR.out.keep
   obtain ⟨ga, oa, hpa, hAg, ea⟩ := hCk.each (by omega)
   subst hpa
   have HE := Hd (ea k c d hc hd)
   have hcp : (List.zipWith cpOf cs ds)[k]? = some (cpOf c d) := by
    rw [List.getElem?_zipWith, hc, hd]
   have HSt := Hd (HS.out.step k _ x hcp hx).2
   have hcm := HOk.out c (List.mem_of_getElem? hc)
   have HX := Hd hx
   clear hc hd hx hCk ea hcp
   obtain ⟨vp, vn, vc, hv⟩ := owns_slice HR.out.answers.own
   subst hv
   obtain ⟨cop, cref, cp, ca, cb, cd, cdp, cdn, cdc⟩ := c
   have z0 : wr.cell? ⟨ga, oa + k * 7, none⟩ = some (.int .i64 cop) := HE.out.1 0 _ rfl
   have z1 : wr.cell? ⟨ga, oa + k * 7 + 1, none⟩ = some (.int .i64 cref) := HE.out.1 1 _ rfl
   have z2 : wr.cell? ⟨ga, oa + k * 7 + 2, none⟩ = some (.int .u64 cp) := HE.out.1 2 _ rfl
   have z3 : wr.cell? ⟨ga, oa + k * 7 + 3, none⟩ = some (.int .u64 ca) := HE.out.1 3 _ rfl
   have z4 : wr.cell? ⟨ga, oa + k * 7 + 4, none⟩ = some (.int .u64 cb) := HE.out.1 4 _ rfl
   have z5 : wr.cell? ⟨ga, oa + k * 7 + 5, none⟩ = some (.bool cd) := HE.out.1 5 _ rfl
   have z6 : wr.cell? ⟨ga, oa + k * 7 + 6, none⟩ = some (.slice cdp cdn cdc) := HE.out.1 6 _ rfl
   have hT1 : Touch Nothing wr (wr.alloc (.cells #[.int .i64 cop, .int .i64 cref, .int .u64 cp, .int .u64 ca, .int .u64 cb, .bool cd, .slice cdp cdn cdc] 43)) := (Touch.refl _ _).alloc _
   have hal : aa.length ≤ 4096 := by have := HR.out.len; omega
   have hst := HSt.out _ hb s pb K A ⟨cop, cref, cp, ca, cb, cd, cdp, cdn, cdc⟩ (.slice vp vn vc) (HR.out.heap.touch0 hT1) ⟨rfl, rfl, rfl, rfl⟩ (HE.out.2.keep (fun j _ hj => hT1.block j hj (fun h => h))) HR.out.away (adr_is (HR.out.answers.still hT1) HR.out.vals _ hcm hal)
   have HST := Hd hst.2
   have HXv := Hd hst.1
   have HT1 := Hd hT1
   clear hT1 hst hcm
   unfold CallV.val at HST
   go_wp2_with fail
   refine HST.out.mono ?_
   rintro e w2 ⟨a, rfl, K', hR', hN', hT', hA', hF⟩
   obtain ⟨ae, av, adp, adn, adc, ah, al, abl, afr⟩ := a
   unfold AnsV.val at *
   have HH := Hd hR'
   have HNx := Hd hN'
   have HT2 := Hd hT'
   have HAi := Hd hA'
   have HF := Hd hF
   clear hR' hN' hT' hA' hF
   have HAn := Hd ((HR.out.answers.still HT1.out).step HNx.out HT2.out)
   have hB2 := Blk.new w2 #[.int .i64 ae, .int .u64 av, .slice adp adn adc, .int .u64 ah, .int .u64 al, .int .i64 abl, .int .i64 afr] 38
   have HNW := Hd (news_of_blk hB2)
   have hbs : w.heap.size ≤ w2.heap.size := Nat.le_trans HR.out.touch.size (Nat.le_trans HT1.out.size HT2.out.size)
   clear hB2
   go_wp2_with (at_builtin; refine wpList_append_lies _ rfl _ _ 30 rfl w.heap.size 38 i0 _ 7 72 Tryz.underlying30 hi0 hz0 hz1 hz2 rfl (by decide) _ _ _ rfl (HAn.out.own.alloc _) ⟨w2.heap.size, 0, none⟩ 1 1 [.int .i64 ae, .int .u64 av, .slice adp adn adc, .int .u64 ah, .int .u64 al, .int .i64 abl, .int .i64 afr] rfl rfl HNW.out (by simp [Value.oneCell']) (by omega) (by unfold maxLen; omega) (by omega) (by simp; omega) (w2.heap.size + 1) (by simp) ?_; intro gg cap' w3 hown hgrow hat hltg)
   have HO := Hd hown
   have HG := Hd hgrow
   have HAt := Hd hat
   clear hown hgrow hat
   go_wp2_with fail
   go_roundw
   case rel => exact ⟨k + 1, by omega, by go_num, K', aa ++ [⟨ae, av, adp, adn, adc, ah, al, abl, afr⟩], HR.out.more (a := ⟨ae, av, adp, adn, adc, ah, al, abl, afr⟩) (fun j hj => (HA.out j hj).1) HX.out HXv.out HT1.out HH.out HNx.out HT2.out HAi.out HF.out HO.out HG.out HAt.out⟩
   case measure => simp [intOf]; omega
  ·obtain rfl : k = n := by omega
   obtain ⟨vp, vn, vc, hv⟩ := owns_slice HR.out.answers.own
   subst hv
   have hvn : vn = k := by
    have hl := HR.out.len
    rcases HR.out.answers.own.2 with ⟨h, h'⟩ | ⟨g, cap', cur, h, _⟩
    ·cases h; omega
    ·cases h; omega
   subst hvn
   go_wp2_with fail
   go_ret2
   exact ⟨K, aa, vp, vc, rfl, HR.out⟩
theorem refR_ (base : Nat) (limit : Int) (o : Nat) (ho : o ≤ 8) (w : World) :
  Calls Tryz.prog 37 #[cfgV base limit o] w fun e w' => e = .returned (.int .u64 (4096 * 2 ^ o : Nat)) ∧ Touch Nothing w w' := by
 unfold cfgV
 have hw := wrap_size ho
 have h1 : IntKind.u64.wrap (o : Int) = (o : Int) := IntWalk.u64_in _ (by omega)
 have h2 : min o 64 = o := by omega
 go_enter Tryz.func37, Tryz.ntmps37
 go_wp2_with fail
 go_ret
 exact ⟨by simp, (Touch.refl _ _).alloc _⟩
theorem config_ (base : Nat) (limit order : Int) (w : World) :
  Calls Tryz.prog 19 #[cfgV base limit order] w fun e w' => e = .returned (cfgV base limit order) ∧ Touch Nothing w w' := by
 unfold cfgV
 go_enter Tryz.func19, Tryz.ntmps19
 have T : Touch Nothing w ((w.alloc (.cells #[.int .u64 base, .int .i64 limit, .int .i64 order] 46)).alloc (.cells #[.int .u64 base, .int .i64 limit, .int .i64 order] 51)) := ((Touch.refl _ _).alloc _).alloc _
 have B := Blk.new (w.alloc (.cells #[.int .u64 base, .int .i64 limit, .int .i64 order] 46)) #[.int .u64 base, .int .i64 limit, .int .i64 order] 51
 rw [show (w.alloc (.cells #[.int .u64 base, .int .i64 limit, .int .i64 order] 46)).heap.size = w.heap.size + 1 by simp] at B
 have y0 := B.cell 0
 have y1 := B.cell 1
 have y2 := B.cell 2
 simp only [List.getElem?_cons_zero, List.getElem?_cons_succ] at y0 y1 y2
 have HT := Hd T
 clear T B
 go_wp2_with fail
 exact bodyPost_ret (v := .agg #[.int .u64 base, .int .i64 limit, .int .i64 order]) (by simp [results, Tryz.results19, go_sem, y0, y1, y2]) rfl ⟨rfl, HT.out⟩
theorem mayRef_out (base : Nat) (limit order : Int) (w : World) (h : order < 0 ∨ 8 < order ∨ limit < 1 ∨ 64 < limit) :
  Calls Tryz.prog 20 #[cfgV base limit order] w fun e w' => e = .returned (.bool (mayB base limit order)) ∧ Touch Nothing w w' := by
 have hm : mayB base limit order = false := by
  unfold mayB
  rw [decide_eq_false_iff_not]
  omega
 rw [hm]
 have HT := Hd (show Touch Nothing w (w.alloc (.cells #[.int .u64 base, .int .i64 limit, .int .i64 order] 46)) from (Touch.refl _ _).alloc _)
 unfold cfgV
 by_cases h1 : order < 0
 ·go_enter Tryz.func20, Tryz.ntmps20
  go_wp2
  go_ret
  exact ⟨rfl, HT.out⟩
 by_cases h2 : 8 < order
 ·go_enter Tryz.func20, Tryz.ntmps20
  go_wp2
  go_ret
  exact ⟨rfl, HT.out⟩
 by_cases h3 : limit < 1
 ·go_enter Tryz.func20, Tryz.ntmps20
  go_wp2
  go_ret
  exact ⟨rfl, HT.out⟩
 have h4 : 64 < limit := by omega
 go_enter Tryz.func20, Tryz.ntmps20
 go_wp2
 go_ret
 exact ⟨rfl, HT.out⟩
theorem mayRef_in (base : Nat) (limit : Int) (o r : Nat) (w : World) (hb : base < 18446744073709551616) (h1 : 1 ≤ limit) (h2 : limit ≤ 64) (ho : o ≤ 8) (hr : 4096 * 2 ^ o = r) :
  Calls Tryz.prog 20 #[cfgV base limit o] w fun e w' => e = .returned (.bool (mayB base limit o)) ∧ Touch Nothing w w' := by
 have HR := Hd (fun W => refR_ base limit o ho W)
 have hp := pow_le8 ho
 have hu : IntKind.u64.wrap (o : Int) = (o : Int) := IntWalk.u64_in _ (by omega)
 have hm : min o 64 = o := by omega
 have he : (4096 * 2 ^ o : Int) = (r : Int) := by rw [← hr]; simp
 have HE := Hd (show ∀ b : Bool, (b = true ↔ (limit * 2 ^ o ≤ 1024 ∧ base ≠ 0 ∧ base % r = 0 ∧ base ≤ 9223372036854775808 ∧ limit * (r : Int) ≤ 9223372036854775808 - (base : Int))) → b = mayB base limit o from fun b h => mayB_eq base limit o h1 h2 ho b (by rw [he, hr, Int.mul_comm (r : Int)]; exact h))
 clear he
 have HP := Hd hr
 have h3 : (limit * 2 ^ o : Int) ≤ 16384 ∧ 0 ≤ limit * 2 ^ o := by
  rcases (show o = 0 ∨ o = 1 ∨ o = 2 ∨ o = 3 ∨ o = 4 ∨ o = 5 ∨ o = 6 ∨ o = 7 ∨ o = 8 by omega) with rfl | rfl | rfl | rfl | rfl | rfl | rfl | rfl | rfl <;> (simp; omega)
 have hw3 : IntKind.i64.wrap (limit * 2 ^ o) = limit * 2 ^ o := IntWalk.i64_in _ (by omega)
 unfold cfgV at *
 rw [hr] at HR
 by_cases hc : (1024 : Int) < limit * 2 ^ o
 ·rw [← HE.out false ⟨(fun h => by cases h), (fun h => by omega)⟩]
  go_enter Tryz.func20, Tryz.ntmps20
  go_wp2_with fail
  go_ret
  exact ⟨rfl, (Touch.refl _ _).alloc _⟩
 have T0 := (Touch.refl Nothing w).alloc (.cells #[.int .u64 base, .int .i64 limit, .int .i64 o] 46)
 have B0 := Blk.new w #[.int .u64 base, .int .i64 limit, .int .i64 o] 46
 have HT0 := Hd T0
 have HB0 := Hd B0
 clear T0 B0
 go_enter Tryz.func20, Tryz.ntmps20
 go_wp2_with fail
 refine (HR.out _).mono ?_
 rintro e w1 ⟨rfl, T1⟩
 have B1 := HB0.out.touch T1 (fun h => h)
 have b0 := B1.cell 0
 have b1 := B1.cell 1
 simp only [List.getElem?_cons_zero, List.getElem?_cons_succ] at b0 b1
 have HT1 := Hd (HT0.out.trans T1)
 have HC := Hd (And.intro h3 (And.intro hc hr))
 have hrl : (r : Int) ≤ 1048576 ∧ 4096 ≤ (r : Int) := by omega
 have hrne : ¬ ((r : Int) = 0) := by omega
 have hmul : limit * (r : Int) = 4096 * (limit * 2 ^ o) := by
  rw [← hr]
  simp [Int.mul_left_comm]
 have hml : 0 ≤ limit * (r : Int) ∧ limit * (r : Int) ≤ 67108864 := by omega
 have hwl : IntKind.u64.wrap limit = limit := IntWalk.u64_in _ (by omega)
 have hwm : IntKind.u64.wrap (limit * (r : Int)) = limit * (r : Int) := IntWalk.u64_in _ (by omega)
 have HM := Hd (And.intro hmul hml)
 clear B1 T1 hw3 h3 hc hmul hr hp
 go_wp2_with fail
 all_goals
  go_ret
  refine ⟨ret_bool (HE.out _ ?_), HT1.out⟩
  have k1 := HC.out
  have k2 := HM.out
  simp
  try simp only [beq_iff_eq] at *
  omega
theorem mayRef_ (base : Nat) (limit order : Int) (w : World) (hb : base < 18446744073709551616) :
  Calls Tryz.prog 20 #[cfgV base limit order] w fun e w' => e = .returned (.bool (mayB base limit order)) ∧ Touch Nothing w w' := by
 by_cases h : order < 0 ∨ 8 < order ∨ limit < 1 ∨ 64 < limit
 ·exact mayRef_out base limit order w h
 ·obtain ⟨o, rfl⟩ : ∃ o : Nat, order = o := ⟨order.toNat, by omega⟩
  exact mayRef_in base limit o _ w hb (by omega) (by omega) (by omega) rfl
theorem conv_own {w : World} {B : Nat} {dp : Option Addr} {dn dc : Nat} {d : List UInt8} (h : w.ownsRow B 5 1 (.slice dp dn dc) d.length (bytesV d)) : (convert 34 9 (.slice dp dn dc)).run Tryz.prog w = .ok (.string ⟨d.toArray⟩) w := by
 rcases h.2 with ⟨hv, h0⟩ | ⟨g, cap, cur, hv, hB, hb, hcap, hmx, hs, ht⟩
 ·cases hv
  obtain rfl : d = [] := List.eq_nil_of_length_eq_zero h0
  exact run_convert_bytes_nil w 34 5 Tryz.underlying34 Tryz.underlying5 _ _ 9 Tryz.underlying9
 ·cases hv
  refine run_convert_bytes_back w 34 9 5 ⟨g, 0, none⟩ dc d Tryz.underlying34 Tryz.underlying5 Tryz.underlying9 (fun j hj => ?_)
  rw [Lib.add_plain, Nat.zero_add]
  have hc := World.ownsRow.cellAt h j (by omega)
  rw [hc]
  simp [bytesV, hj]
theorem sameAnswer_ {w : World} {a b : AnsV} {x : An} (ha : AnsIs w a x) (hb : AnsIs w b x) :
  Calls Tryz.prog 25 #[a.val, b.val] w fun e w' => e = .returned (.bool true) ∧ Touch Nothing w w' := by
 obtain ⟨ae, av, adp, adn, adc, ah, al, abl, afr⟩ := a
 obtain ⟨be, bv, bdp, bdn, bdc, bh, bl, bbl, bfr⟩ := b
 obtain ⟨e1, v1, h1, l1, bl1, fr1, o1⟩ := ha
 obtain ⟨e2, v2, h2, l2, bl2, fr2, o2⟩ := hb
 simp only at e1 v1 h1 l1 bl1 fr1 o1 e2 v2 h2 l2 bl2 fr2 o2
 subst e1 v1 h1 l1 bl1 fr1
 unfold AnsV.val
 have T0 : Touch Nothing w ((w.alloc (.cells #[.int .i64 x.e, .int .u64 x.v, .slice adp adn adc, .int .u64 x.h, .int .u64 x.l, .int .i64 x.bl, .int .i64 x.fr] 38)).alloc (.cells #[.int .i64 be, .int .u64 bv, .slice bdp bdn bdc, .int .u64 bh, .int .u64 bl, .int .i64 bbl, .int .i64 bfr] 38)) := ((Touch.refl _ _).alloc _).alloc _
 have C1 := Hd (conv_own (owns_touch o1 T0 (fun _ _ _ h => h)))
 have C2 := Hd (conv_own (owns_touch o2 T0 (fun _ _ _ h => h)))
 have HT := Hd T0
 subst e2 v2 h2 l2 bl2 fr2
 clear o1 o2 T0
 go_enter Tryz.func25, Tryz.ntmps25
 go_wp2_with fail
 rw [C1.out]
 go_wp2_with fail
 rw [C2.out]
 go_wp2_with fail
 go_ret
 exact ⟨rfl, HT.out⟩
theorem wpList_append_rd {P : Program} {w : World} {ops : Array Oper} {rest : List Oper} {o : Oper} {a : Act} {Q : Exit → Act → World → Prop} (hgd : o.guard = none) (s x : Operand) (t : TypeId)
  (ho : o.op = .call { callee := .builtin .append, args := #[s, x], argTypes := #[t, t] })
  (base : Nat) (e : TypeId) (i : TypeInfo) (z : Value) (size bytes : Nat) (ht : P.underlying t = some (.slice e)) (hi : P.info? e = some i) (hz : i.zero = some z)
  (hsize : i.size = size) (hby : i.bytes = bytes) (hzs : z.cells.size = size) (hsz : 0 < size)
  (v : Value) (n : Nat) (xs : List Value) (hs : a.eval s = v) (hown : w.ownsRow base e size v n xs)
  (pa : Option Addr) (m c : Nat) (news : List Value) (hx : a.eval x = .slice pa m c) (hnil : pa = none → m = 0 ∧ c = 0) (hl : news.length = m * size) (hnews : ∀ ad, pa = some ad → ∀ j u, news[j]? = some u → w.cell? (ad.add j) = some u) (h1 : ∀ u ∈ news, u.oneCell' = true)
  (h63 : n + m ≤ maxLen) (hbytes : (n + m) * bytes ≤ 140737488355328) (hbase : base ≤ w.heap.size)
  (h : ∀ v' w', w'.ownsRow base e size v' (n + m) (xs ++ news) → w.grownBy w' v.ownBlock → wpList P ops Q rest (a.put o.dst v') w') : wpList P ops Q (o :: rest) a w := by
 cases pa with
 | none =>
  obtain ⟨rfl, rfl⟩ := hnil rfl
  obtain rfl : news = [] := List.eq_nil_of_length_eq_zero (by rw [hl, Nat.zero_mul])
  refine wpList_append_own_none hgd s x t ho base e i size ht hi v n xs hs hown hx (h v w ?_ (World.grownBy.refl _ _))
  simpa using hown
 | some ad => exact wpList_append_own w hgd s x t ho base e i z size bytes ht hi hz hsize hby hzs hsz v n xs hs hown ad m c news hx hl (hnews ad rfl) h1 h63 hbytes hbase (fun v' w' h2 h3 _ => h v' w' h2 h3)
theorem callCells_len : ∀ (l : List CallV), (l.flatMap CallV.cells).length = l.length * 7
 | [] => rfl
 | c :: l => by
  rw [List.flatMap_cons, List.length_append, callCells_len l, List.length_cons]
  show 7 + _ = _
  omega
theorem callCells_get : ∀ (l : List CallV) (i j : Nat), j < 7 → (l.flatMap CallV.cells)[i * 7 + j]? = (l[i]?).bind fun c => c.cells[j]?
 | [], i, j, _ => by simp
 | c :: l, 0, j, hj => by
  rw [List.flatMap_cons, List.getElem?_append_left (by show _ < 7; omega)]
  simp
 | c :: l, i + 1, j, hj => by
  rw [List.flatMap_cons, List.getElem?_append_right (by show 7 ≤ _; omega), show (i + 1) * 7 + j - c.cells.length = i * 7 + j by show _ - 7 = _; omega, callCells_get l i j hj]
  simp
theorem callCells_one (l : List CallV) : ∀ u ∈ l.flatMap CallV.cells, u.oneCell' = true := by
 intro u hu
 obtain ⟨c, _, h⟩ := List.mem_flatMap.1 hu
 simp only [CallV.cells, List.mem_cons, List.not_mem_nil, or_false] at h
 rcases h with rfl | rfl | rfl | rfl | rfl | rfl | rfl <;> rfl
theorem Rdr.cells {w : World} {A : Nat → Prop} {p : Option Addr} {n : Nat} {cs : List CallV} {ds : List (List UInt8)} (h : Rdr w A p n cs ds) : ∀ ad, p = some ad → ∀ j u, (cs.flatMap CallV.cells)[j]? = some u → w.cell? (ad.add j) = some u := by
 intro ad hp j u hj
 have hlt := (List.getElem?_eq_some_iff.1 hj).1
 rw [callCells_len] at hlt
 obtain ⟨g, off, hp', _, he⟩ := h.each (by have := h.len; omega)
 rw [hp] at hp'
 cases hp'
 have hm := callCells_get cs (j / 7) (j % 7) (Nat.mod_lt _ (by omega))
 rw [show j / 7 * 7 + j % 7 = j by omega, hj] at hm
 obtain ⟨c, hc, hcj⟩ := Option.bind_eq_some_iff.1 hm.symm
 obtain ⟨d, hd⟩ : ∃ d, ds[j / 7]? = some d := ⟨_, List.getElem?_eq_getElem (by have := h.len; have := h.len2; have := (List.getElem?_eq_some_iff.1 hc).1; omega)⟩
 have := (he _ c d hc hd).1 _ u hcj
 rw [show (⟨g, off, none⟩ : Addr).add j = ⟨g, off + j, none⟩ from Lib.add_plain _ _ _]
 rw [← this]
 congr 2
 omega
theorem Rdr.mono {w : World} {A A' : Nat → Prop} {p : Option Addr} {n : Nat} {cs : List CallV} {ds : List (List UInt8)} (h : Rdr w A p n cs ds) (hA : ∀ k, A k → A' k) : Rdr w A' p n cs ds :=
 ⟨h.len, h.len2, fun hn => by
  obtain ⟨g, off, hp, h1, he⟩ := h.each hn
  refine ⟨g, off, hp, hA g h1, fun i c d hc hd => ⟨(he i c d hc hd).1, ?_⟩⟩
  have hs := (he i c d hc hd).2
  refine ⟨hs.len, hs.cap, fun hne => ?_⟩
  obtain ⟨g', o', e1, e2, e3⟩ := hs.data hne
  exact ⟨g', o', e1, hA g' e2, e3⟩⟩
theorem Rdr.src {w : World} {A : Nat → Prop} {p : Option Addr} {n : Nat} {cs : List CallV} {ds : List (List UInt8)} (h : Rdr w A p n cs ds) : ∀ (i : Nat) c d, cs[i]? = some c → ds[i]? = some d → Src w A c.dp c.dn c.dc d := by
 intro i c d hc hd
 obtain ⟨g, off, _, _, he⟩ := h.each (by have := h.len; have := (List.getElem?_eq_some_iff.1 hc).1; omega)
 exact (he i c d hc hd).2
theorem Rdr.own {w : World} {A : Nat → Prop} {B n : Nat} {v : Value} {ks : List CallV} {ds : List (List UInt8)} (ho : w.ownsRow B 43 7 v n (ks.flatMap CallV.cells)) (hk : ks.length = n) (hd : ds.length = n) (hA : ∀ g, v.ownBlock = some g → A g) (hs : ∀ (i : Nat) c d, ks[i]? = some c → ds[i]? = some d → Src w A c.dp c.dn c.dc d) :
  ∃ dp dc, v = .slice dp n dc ∧ (dp = none → n = 0 ∧ dc = 0) ∧ Rdr w A dp n ks ds := by
 rcases ho.2 with ⟨rfl, rfl⟩ | ⟨g, cap, cur, rfl, hB, hb, hc, hm, hsz, ht⟩
 ·exact ⟨none, 0, rfl, fun _ => ⟨rfl, rfl⟩, hk.symm, hd.symm, fun h => absurd h (by omega)⟩
 ·refine ⟨_, cap, rfl, (fun h => by cases h), hk.symm, hd.symm, fun _ => ⟨g, 0, rfl, hA g rfl, fun i c d h1 h2 => ⟨fun j u hj => ?_, hs i c d h1 h2⟩⟩⟩
  have hi := (List.getElem?_eq_some_iff.1 h1).1
  have hj7 : j < 7 := (List.getElem?_eq_some_iff.1 hj).1
  rw [Nat.zero_add, World.ownsRow.cellAt ho _ (by omega), callCells_get ks i j hj7, h1]
  exact hj
theorem Run.append {β : Bu} {ps : List Int} {xs ys : List Cp} {st st2 : Nat → Bu × List Int} {ax ax2 : List An} (RA : Run β ps xs st ax) (RB : Run (st xs.length).1 (st xs.length).2 ys st2 ax2) (h0 : ∀ y ∈ ys, y.ref = 0) :
  Run β ps (xs ++ ys) (fun k => if k ≤ xs.length then st k else st2 (k - xs.length)) (ax ++ ax2) := by
 have hj : ∀ k, xs.length ≤ k → (if k ≤ xs.length then st k else st2 (k - xs.length)) = st2 (k - xs.length) := by
  intro k hk
  by_cases h : k ≤ xs.length
  ·have : k = xs.length := by omega
   subst this
   rw [if_pos h, Nat.sub_self, RB.start]
  ·rw [if_neg h]
 refine ⟨by simp [RA.start], by simp [RA.len, RB.len], fun k hk => ?_, fun k x a hx ha => ?_⟩
 ·by_cases h : k ≤ xs.length
  ·simp only [if_pos h]; exact RA.inv k h
  ·simp only [if_neg h]
   refine RB.inv _ ?_
   simp at hk
   omega
 ·by_cases h : k < xs.length
  ·rw [List.getElem?_append_left h] at hx
   rw [List.getElem?_append_left (by rw [RA.len]; exact h)] at ha
   simp only [if_pos (show k ≤ xs.length by omega), if_pos (show k + 1 ≤ xs.length by omega)]
   rw [List.take_append_of_le_length (by rw [RA.len]; omega)]
   exact RA.step k x a hx ha
  ·rw [List.getElem?_append_right (by omega)] at hx
   rw [List.getElem?_append_right (by rw [RA.len]; omega), RA.len] at ha
   simp only [hj k (by omega), hj (k + 1) (by omega)]
   have hs := RB.step _ x a hx ha
   have hr := h0 x (List.mem_of_getElem? hx)
   have e : k + 1 - xs.length = k - xs.length + 1 := by omega
   rw [e]
   have ea : adrOf x.ref x.p ((ax ++ ax2).take k) = adrOf x.ref x.p (ax2.take (k - xs.length)) := by
    unfold adrOf
    rw [if_pos hr, if_pos hr]
   rw [ea]
   exact hs
theorem Answers.far {w w' : World} {B hb s pb : Nat} {K : BuL} {v : Value} {aa : List AnsV} {ax : List An} {S : Nat → Prop} (A : Answers w B hb s pb K v aa ax) (T : Touch S w w') (hS : ∀ k, S k → k < B) (hd : ∀ a ∈ aa, ∀ g, a.block = some g → B ≤ g) : Answers w' B hb s pb K v aa ax := by
 refine ⟨owns_touch A.own T (fun g hB _ hs => ?_), A.len, fun i a x ha hx => (A.each i a x ha hx).touch T (fun g hg hs => ?_), A.away, A.data⟩
 ·have := hS g hs
  omega
 ·have := hd a (List.mem_of_getElem? ha) g hg
  have := hS g hs
  omega
theorem cpOk_zip {cs : List CallV} {ds : List (List UInt8)} (h : ∀ c ∈ cs, (Lit.int .i64 c.op).wf = true ∧ c.p < W64 ∧ c.a < W64 ∧ c.b < W64) : ∀ x ∈ List.zipWith cpOf cs ds, CpOk x := by
 intro x hx
 obtain ⟨i, hi⟩ := List.mem_iff_getElem?.1 hx
 rw [List.getElem?_zipWith] at hi
 cases hc : cs[i]? with
 | none => rw [hc] at hi; cases hi
 | some c =>
  cases hd : ds[i]? with
  | none => rw [hc, hd] at hi; cases hi
  | some d =>
   rw [hc, hd] at hi
   cases hi
   obtain ⟨h1, h2, h3, h4⟩ := h c (List.mem_of_getElem? hc)
   exact ⟨h1, h2, h3, h4⟩
structure Handed (w : World) (p : Option Addr) (n cap : Nat) (cs : List CallV) (ds : List (List UInt8)) : Prop where
 rd : Rdr w (· < w.heap.size) p n cs ds
 nil : p = none → n = 0 ∧ cap = 0
 ok : ∀ c ∈ cs, (Lit.int .i64 c.op).wf = true ∧ c.p < W64 ∧ c.a < W64 ∧ c.b < W64
theorem Handed.at_ {w w' : World} {p : Option Addr} {n cap : Nat} {cs : List CallV} {ds : List (List UInt8)} (h : Handed w p n cap cs ds) {A : Nat → Prop} (hA : ∀ k, k < w.heap.size → A k) (T : Touch Nothing w w') : Rdr w' A p n cs ds :=
 (h.rd.keep (fun k _ hk => T.block k hk (fun h => h))).mono (fun k hk => hA k hk)
theorem fresh_HS {base limit order : Nat} (h : mayB base limit order = true) : HS (Bu.fresh base limit order) noParts (fun _ => []) (fun _ => []) (fun _ => []) := by
 unfold mayB at h
 have h := of_decide_eq_true h
 simp only [Int.toNat_natCast] at h
 obtain ⟨-, h2, h3, h4, h5, h6, h7, h8, h9⟩ := h
 have e5 : ((limit * 2 ^ order : Nat) : Int) = (limit : Int) * 2 ^ order := by rw [Int.natCast_mul, Int.natCast_pow]; rfl
 have h5' : limit * 2 ^ order ≤ 1024 := by rw [← e5] at h5; omega
 have h9' : 4096 * 2 ^ order * limit + base ≤ 9223372036854775808 := by
  have e9 : ((4096 * 2 ^ order * limit : Nat) : Int) = 4096 * 2 ^ order * (limit : Int) := by rw [Int.natCast_mul, Int.natCast_mul, Int.natCast_pow]; rfl
  rw [← e9] at h9
  omega
 have hm : 4096 * (limit * 2 ^ order) = 4096 * 2 ^ order * limit := by rw [Nat.mul_comm limit, Nat.mul_assoc]
 refine ⟨fresh_inv (by omega) (by omega) (by omega), ⟨rfl, ?_, ?_, fun _ _ => List.nodup_nil, ?_⟩, ⟨?_, rfl, Nat.zero_le _, h5', ?_, rfl, h7⟩⟩
 ·intro i p hp
  simp [Bu.fresh, newMp] at hp
 ·intro c hc
  show noParts.getD c 0 = -1
  unfold noParts
  rw [List.getD_eq_getElem?_getD, List.getElem?_replicate, if_pos hc]
  rfl
 ·intro c hc i
  constructor
  ·intro h; simp at h
  ·rintro ⟨p, hp, _⟩
   simp [Bu.fresh, newMp] at hp
 ·show ([] : List Pg).length = 0 * _
  simp
 ·show base + 4096 * (limit * 2 ^ order) ≤ 9223372036854775808
  omega
def noRef (c : CallV) : CallV := { c with ref := 0 }
theorem cut_no (base : Nat) (limit order : Int) (pa pa2 : Option Addr) (n ca n2 ca2 : Nat) (w : World) (G : Glob w) (hb : base < 18446744073709551616) (hm : mayB base limit order = false) :
  Calls Tryz.prog 7 #[.agg #[.int .u64 base, .int .i64 limit, .int .i64 order, .slice pa n ca], .slice pa2 n2 ca2] w fun e w' => e = .returned (.bool true) ∧ Touch Nothing w w' := by
 have hT0 := (Touch.refl Nothing w).alloc (.cells #[.int .u64 base, .int .i64 limit, .int .i64 order, .slice pa n ca] 48)
 have HT0 := Hd hT0
 have HB0 := Hd (Blk.new w #[.int .u64 base, .int .i64 limit, .int .i64 order, .slice pa n ca] 48)
 have HA := Hd (awake_ _ (G.touch0 hT0))
 have HCf := Hd (fun W => config_ base limit order W)
 have HMy := Hd (fun W => mayRef_ base limit order W hb)
 have HN := Hd (fun W => newHeap_no base limit order W hb hm)
 rw [hm] at HMy
 unfold cfgV at *
 clear G hT0
 go_enter Tryz.func7, Tryz.ntmps7
 go_wp2_with fail
 generalize w.alloc (.cells #[.int .u64 base, .int .i64 limit, .int .i64 order, .slice pa n ca] 48) = w0 at *
 refine HA.out.mono ?_
 rintro e w1 ⟨rfl, T1⟩
 have B1 := HB0.out.touch T1 (fun h => h)
 have b0 := B1.cell 0
 have b1 := B1.cell 1
 have b2 := B1.cell 2
 simp only [List.getElem?_cons_zero, List.getElem?_cons_succ] at b0 b1 b2
 have HB1 := Hd B1
 have HT1 := Hd (HT0.out.trans T1)
 clear B1 T1
 go_wp2_with fail
 refine (HCf.out _).mono ?_
 rintro e w2 ⟨rfl, T2⟩
 have HT2 := Hd T2
 clear T2
 go_wp2_with fail
 refine (HN.out _).mono ?_
 rintro e w3 ⟨rfl, T3⟩
 have B3 := (HB1.out.touch HT2.out (fun h => h)).touch T3 (fun h => h)
 have HT3 := Hd ((HT1.out.trans HT2.out).trans T3)
 clear b0 b1 b2
 have b0 := B3.cell 0
 have b1 := B3.cell 1
 have b2 := B3.cell 2
 simp only [List.getElem?_cons_zero, List.getElem?_cons_succ] at b0 b1 b2
 have HB3 := Hd B3
 clear B3 T3
 go_wp2_with fail
 refine (HCf.out _).mono ?_
 rintro e w4 ⟨rfl, T4⟩
 have HT4 := Hd T4
 clear T4
 go_wp2_with fail
 refine (HN.out _).mono ?_
 rintro e w5 ⟨rfl, T5⟩
 have B5 := (HB3.out.touch HT4.out (fun h => h)).touch T5 (fun h => h)
 have HT5 := Hd ((HT3.out.trans HT4.out).trans T5)
 clear b0 b1 b2
 have b0 := B5.cell 0
 have b1 := B5.cell 1
 have b2 := B5.cell 2
 simp only [List.getElem?_cons_zero, List.getElem?_cons_succ] at b0 b1 b2
 clear B5 T5
 go_wp2_with fail
 refine (HMy.out _).mono ?_
 rintro e w6 ⟨rfl, T6⟩
 have HT6 := Hd (HT5.out.trans T6)
 clear T6
 go_wp2_with fail
 go_ret
 exact ⟨rfl, HT6.out⟩
structure Three (w11 : World) (A : Nat → Prop) (hb1 s1 pb1 : Nat) (K1 : BuL) (hb2 s2 pb2 : Nat) (K2 : BuL) (pa : Option Addr) (n ca : Nat) (dp8 : Option Addr) (k dc8 : Nat) (dp11 : Option Addr) (dc11 : Nat) (axA axB : List An) (stA stB stC : Nat → Bu × List Int) : Prop where
 one : Calls Tryz.prog 15 #[.pointer (some ⟨hb1, 0, none⟩), .slice pa n ca] w11 (PlayedAs w11 A hb1 s1 pb1 K1 n axA stA)
 two : ∀ w12 K1' aaA v, PlayR w11 A hb1 s1 pb1 K1 axA stA n v w12 K1' aaA → Calls Tryz.prog 15 #[.pointer (some ⟨hb1, 0, none⟩), .slice dp8 k dc8] w12 (PlayedAs w12 A hb1 s1 pb1 K1' k axB stB)
 three : ∀ w12 K1' aaA v w13 K1'' aaB v', PlayR w11 A hb1 s1 pb1 K1 axA stA n v w12 K1' aaA → PlayR w12 A hb1 s1 pb1 K1' axB stB k v' w13 K1'' aaB →
  Calls Tryz.prog 15 #[.pointer (some ⟨hb2, 0, none⟩), .slice dp11 (n + k) dc11] w13 (PlayedAs w13 A hb2 s2 pb2 K2 (n + k) (axA ++ axB) stC)
 last : ∀ w12 K1' aaA v w13 K1'' aaB v' w14 K2' aaC v'', PlayR w11 A hb1 s1 pb1 K1 axA stA n v w12 K1' aaA → PlayR w12 A hb1 s1 pb1 K1' axB stB k v' w13 K1'' aaB → PlayR w13 A hb2 s2 pb2 K2 (axA ++ axB) stC (n + k) v'' w14 K2' aaC →
  Touch (fun i => i ∈ hb1 :: s1 :: K1.fp ∨ i ∈ hb2 :: s2 :: K2.fp) w11 w14 ∧ Answers w14 w11.heap.size hb1 s1 pb1 K1'' v aaA axA ∧ Answers w14 w12.heap.size hb1 s1 pb1 K1'' v' aaB axB ∧ Answers w14 w13.heap.size hb2 s2 pb2 K2' v'' aaC (axA ++ axB)
 lenA : axA.length = n
 lenB : axB.length = k
theorem three_of {w11 : World} {A : Nat → Prop} {N1 : Nat} {hb1 s1 pb1 : Nat} {K1 : BuL} {hb2 s2 pb2 : Nat} {K2 : BuL} {pa : Option Addr} {n ca : Nat} {dp8 : Option Addr} {k dc8 : Nat} {dp11 : Option Addr} {dc11 : Nat} {β : Bu} {ps : List Int} {F C L : Nat → List Nat} {cs cs2 : List CallV} {ds ds2 : List (List UInt8)}
  (I : HS β ps F C L) (R1 : HpRep 0 w11 hb1 s1 pb1 K1 β ps) (R2 : HpRep 0 w11 hb2 s2 pb2 K2 β ps) (F1 : ∀ j ∈ hb1 :: s1 :: pb1 :: K1.fp, j < N1) (F2 : ∀ j ∈ hb2 :: s2 :: pb2 :: K2.fp, N1 ≤ j)
  (hA1 : ∀ j, A j → j < w11.heap.size ∧ j ∉ hb1 :: s1 :: pb1 :: K1.fp) (hA2 : ∀ j, A j → j ∉ hb2 :: s2 :: pb2 :: K2.fp)
  (C1 : Rdr w11 A pa n cs ds) (C2 : Rdr w11 A dp8 k (cs2.map noRef) ds2) (C3 : Rdr w11 A dp11 (n + k) (cs ++ cs2.map noRef) (ds ++ ds2)) (hn : n + k ≤ 4096)
  (ok1 : ∀ c ∈ cs, (Lit.int .i64 c.op).wf = true ∧ c.p < W64 ∧ c.a < W64 ∧ c.b < W64) (ok2 : ∀ c ∈ cs2, (Lit.int .i64 c.op).wf = true ∧ c.p < W64 ∧ c.a < W64 ∧ c.b < W64) :
  ∃ axA axB stA stB stC, Three w11 A hb1 s1 pb1 K1 hb2 s2 pb2 K2 pa n ca dp8 k dc8 dp11 dc11 axA axB stA stB stC := by
 have ok2' : ∀ c ∈ cs2.map noRef, (Lit.int .i64 c.op).wf = true ∧ c.p < W64 ∧ c.a < W64 ∧ c.b < W64 := by
  intro c hc
  obtain ⟨d, hd, rfl⟩ := List.mem_map.1 hc
  exact ok2 d hd
 obtain ⟨stA, axA, RA⟩ := I.run (List.zipWith cpOf cs ds) (cpOk_zip ok1)
 obtain ⟨Fn, Cn, Ln, In⟩ := RA.inv _ (Nat.le_refl _)
 obtain ⟨stB, axB, RB⟩ := In.run (List.zipWith cpOf (cs2.map noRef) ds2) (cpOk_zip ok2')
 have hxA : (List.zipWith cpOf cs ds).length = n := by rw [List.length_zipWith, ← C1.len, ← C1.len2]; omega
 have hxB : (List.zipWith cpOf (cs2.map noRef) ds2).length = k := by rw [List.length_zipWith, ← C2.len, ← C2.len2]; omega
 have hlA : axA.length = n := RA.len.trans hxA
 have hlB : axB.length = k := RB.len.trans hxB
 have h0 : ∀ y ∈ List.zipWith cpOf (cs2.map noRef) ds2, y.ref = 0 := by
  intro y hy
  obtain ⟨i, hi⟩ := List.mem_iff_getElem?.1 hy
  rw [List.getElem?_zipWith, List.getElem?_map] at hi
  cases hc : cs2[i]? with
  | none => rw [hc] at hi; cases hi
  | some c =>
   cases hd : ds2[i]? with
   | none => rw [hc, hd] at hi; cases hi
   | some d => rw [hc, hd] at hi; cases hi; rfl
 have RC := RA.append RB h0
 rw [← List.zipWith_append (by rw [← C1.len, ← C1.len2])] at RC
 rw [hxA] at RB RC
 obtain ⟨stC, RC⟩ : ∃ stC, Run β ps (List.zipWith cpOf (cs ++ cs2.map noRef) (ds ++ ds2)) stC (axA ++ axB) := ⟨_, RC⟩
 have hlt := R1.lt
 have T12 : ∀ {w12 : World} {K1' : BuL} {aaA : List AnsV} {v : Value}, PlayR w11 A hb1 s1 pb1 K1 axA stA n v w12 K1' aaA → ∀ {w13 : World} {K1'' : BuL} {aaB : List AnsV} {v' : Value}, PlayR w12 A hb1 s1 pb1 K1' axB stB k v' w13 K1'' aaB → Touch (· ∈ hb1 :: s1 :: K1.fp) w11 w13 := by
  intro w12 K1' aaA v PA w13 K1'' aaB v' PB
  refine PA.touch.trans' PB.touch (fun i hi h => ?_)
  simp only [List.mem_cons] at h ⊢
  rcases h with h | h | h
  ·exact .inl h
  ·exact .inr (.inl h)
  ·rcases PA.next.fresh i h with h | h
   ·exact .inr (.inr h)
   ·omega
 have hsub1 : ∀ i, i ∈ hb1 :: s1 :: K1.fp → i ∈ hb1 :: s1 :: pb1 :: K1.fp := fun i h => by
  simp only [List.mem_cons] at h ⊢
  rcases h with h | h | h
  ·exact .inl h
  ·exact .inr (.inl h)
  ·exact .inr (.inr (.inr h))
 have hsub2 : ∀ i, i ∈ hb2 :: s2 :: K2.fp → i ∈ hb2 :: s2 :: pb2 :: K2.fp := fun i h => by
  simp only [List.mem_cons] at h ⊢
  rcases h with h | h | h
  ·exact .inl h
  ·exact .inr (.inl h)
  ·exact .inr (.inr (.inr h))
 refine ⟨axA, axB, stA, stB, stC, ⟨?_, ?_, ?_, ?_, hlA, hlB⟩⟩
 ·exact plays_ R1 C1 hA1 (by omega) (fun c hc => (ok1 c hc).2.1) RA
 ·intro w12 K1' aaA v PA
  exact plays_ PA.heap (C2.keep PA.keep) (fun j hj => ⟨Nat.lt_of_lt_of_le (hA1 j hj).1 PA.touch.size, PA.away j hj⟩) (by omega) (fun c hc => (ok2' c hc).2.1) RB
 ·intro w12 K1' aaA v w13 K1'' aaB v' PA PB
  have T := T12 PA PB
  have R2' : HpRep 0 w13 hb2 s2 pb2 K2 β ps := R2.touch T (fun j hj h => by have := F2 j hj; have := F1 j (hsub1 j h); omega) (fun j hj h => by have := R1.far j (hsub1 j h); omega)
  exact plays_ R2' ((C3.keep PA.keep).keep (fun j hj hl => PB.keep j hj hl)) (fun j hj => ⟨Nat.lt_of_lt_of_le (hA1 j hj).1 T.size, hA2 j hj⟩) hn (fun c hc => by
   rcases List.mem_append.1 hc with h | h
   ·exact (ok1 c h).2.1
   ·exact (ok2' c h).2.1) RC
 ·intro w12 K1' aaA v w13 K1'' aaB v' w14 K2' aaC v'' PA PB PC
  have T := T12 PA PB
  have s1' := PA.touch.size
  have s2' := PB.touch.size
  have hl2 := R2.lt
  have hS : ∀ i, i ∈ hb2 :: s2 :: K2.fp → i < w11.heap.size := fun i hi => hl2 i (hsub2 i hi)
  have e1 : axA.take n = axA := List.take_of_length_le (by omega)
  have e2 : axB.take k = axB := List.take_of_length_le (by omega)
  have e3 : (axA ++ axB).take (n + k) = axA ++ axB := List.take_of_length_le (by rw [List.length_append]; omega)
  refine ⟨(T.mono (fun i _ h => .inl h)).trans (PC.touch.mono (fun i _ h => .inr h)), ?_, ?_, ?_⟩
  ·have := PA.answers.step PB.next PB.touch
   rw [e1] at this
   exact this.far PC.touch hS PA.new
  ·have := PB.answers
   rw [e2] at this
   exact this.far PC.touch (fun i hi => by have := hS i hi; omega) PB.new
  ·have := PC.answers
   rw [e3] at this
   exact this
theorem Answers.block_of {w : World} {B hb s pb : Nat} {K : BuL} {dp : Option Addr} {n dc : Nat} {aa : List AnsV} {ax : List An} (A : Answers w B hb s pb K (.slice dp n dc) aa ax) {i : Nat} (hi : i < n) : ∃ g, dp = some ⟨g, 0, none⟩ := by
 rcases A.own.2 with ⟨h, _⟩ | ⟨g, cap, cur, h, _⟩
 ·cases h; omega
 ·cases h; exact ⟨g, rfl⟩
theorem map_noRef_take (cs : List CallV) (k : Nat) (c : CallV) (h : cs[k]? = some c) : (cs.take (k + 1)).map noRef = (cs.take k).map noRef ++ [noRef c] := by
 rw [List.take_add_one, h]
 simp
theorem cut_yes (base limit order : Nat) (pa pa2 : Option Addr) (n ca n2 ca2 : Nat) (cs cs2 : List CallV) (ds ds2 : List (List UInt8)) (w : World) (G : Glob w) (hb : base < 18446744073709551616) (hm : mayB base limit order = true) (ho8 : order ≤ 8)
  (H1 : Handed w pa n ca cs ds) (H2 : Handed w pa2 n2 ca2 cs2 ds2) (hn : n ≤ 140737488355328) (hn2 : n2 ≤ 140737488355328) :
  Calls Tryz.prog 7 #[.agg #[.int .u64 base, .int .i64 limit, .int .i64 order, .slice pa n ca], .slice pa2 n2 ca2] w fun e w' => e = .returned (.bool true) ∧ Touch Nothing w w' := by
 have hT0 := (Touch.refl Nothing w).alloc (.cells #[.int .u64 base, .int .i64 limit, .int .i64 order, .slice pa n ca] 48)
 have HT0 := Hd hT0
 have HB0 := Hd (Blk.new w #[.int .u64 base, .int .i64 limit, .int .i64 order, .slice pa n ca] 48)
 have HA := Hd (awake_ _ (G.touch0 hT0))
 have HCf := Hd (fun W => config_ base limit order W)
 have HMy := Hd (fun W => mayRef_ base limit order W hb)
 have HN := Hd (fun W (T : Touch Nothing w W) => newHeap_yes base limit order W hb hm ho8 (G.touch0 T))
 rw [hm] at HMy
 have HI := Hd (fresh_HS hm)
 have HH1 := Hd H1
 have HH2 := Hd H2
 obtain ⟨i0, hi0, hz0, hz1, hz2⟩ := info_parts info43
 unfold cfgV at *
 clear G hT0 H1 H2 hm
 go_enter Tryz.func7, Tryz.ntmps7
 go_wp2_with fail
 generalize w.alloc (.cells #[.int .u64 base, .int .i64 limit, .int .i64 order, .slice pa n ca] 48) = w0 at *
 refine HA.out.mono ?_
 rintro e w1 ⟨rfl, T1⟩
 have B1 := HB0.out.touch T1 (fun h => h)
 have b0 := B1.cell 0
 have b1 := B1.cell 1
 have b2 := B1.cell 2
 simp only [List.getElem?_cons_zero, List.getElem?_cons_succ] at b0 b1 b2
 have HB1 := Hd B1
 have HT1 := Hd (HT0.out.trans T1)
 clear B1 T1
 go_wp2_with fail
 refine (HCf.out _).mono ?_
 rintro e w2 ⟨rfl, T2⟩
 have HT2 := Hd (HT1.out.trans T2)
 have HB2 := Hd (HB1.out.touch T2 (fun h => h))
 clear T2
 go_wp2_with fail
 refine (HN.out _ HT2.out).mono ?_
 rintro e w3 ⟨hb1, s1, pb1, K1, rfl, R1, T3, F1⟩
 have B3 := HB2.out.touch T3 (fun h => h)
 have HT3 := Hd (HT2.out.trans T3)
 clear b0 b1 b2
 have b0 := B3.cell 0
 have b1 := B3.cell 1
 have b2 := B3.cell 2
 simp only [List.getElem?_cons_zero, List.getElem?_cons_succ] at b0 b1 b2
 have HB3 := Hd B3
 have HR1 := Hd R1
 have HF1 := Hd F1
 clear B3 T3 R1 F1
 go_wp2_with fail
 refine (HCf.out _).mono ?_
 rintro e w4 ⟨rfl, T4⟩
 have HT4 := Hd (HT3.out.trans T4)
 have HT34 := Hd T4
 have HB4 := Hd (HB3.out.touch T4 (fun h => h))
 clear T4
 go_wp2_with fail
 refine (HN.out _ HT4.out).mono ?_
 rintro e w5 ⟨hb2, s2, pb2, K2, rfl, R2, T5, F2⟩
 have B5 := HB4.out.touch T5 (fun h => h)
 have HT5 := Hd (HT4.out.trans T5)
 have HT35 := Hd (HT34.out.trans T5)
 clear b0 b1 b2
 have b0 := B5.cell 0
 have b1 := B5.cell 1
 have b2 := B5.cell 2
 simp only [List.getElem?_cons_zero, List.getElem?_cons_succ] at b0 b1 b2
 have HB5 := Hd B5
 have HR2 := Hd R2
 have HF2 := Hd F2
 clear B5 T5 R2 F2
 go_wp2_with fail
 refine (HMy.out _).mono ?_
 rintro e w6 ⟨rfl, T6⟩
 have B6 := HB5.out.touch T6 (fun h => h)
 have HT6 := Hd (HT5.out.trans T6)
 have HT36 := Hd (HT35.out.trans T6)
 have HT56 := Hd T6
 clear b0 b1 b2
 have b3 := B6.cell 3
 simp only [List.getElem?_cons_zero, List.getElem?_cons_succ] at b3
 have HB6 := Hd B6
 clear B6 T6
 by_cases hbig : 4096 < n + n2
 ·have hbig' : (4096 : Int) < (n : Int) + (n2 : Int) := by omega
  go_wp2_with fail
  go_ret
  exact ⟨rfl, HT6.out⟩
 have hbig' : ¬ ((4096 : Int) < (n : Int) + (n2 : Int)) := by omega
 have HC6 := Hd (HH1.out.at_ (A := fun _ => True) (fun _ _ => trivial) HT6.out)
 go_upto_region 12 with fail
 obtain ⟨v0, hv0⟩ : ∃ v0 : Value, v0 = .slice none 0 0 := ⟨_, rfl⟩
 rw [← hv0]
 have HO0 := Hd (show w6.ownsRow w6.heap.size 43 7 v0 0 [] by rw [hv0]; exact World.ownsRow_nil _ _ _ _)
 have HV0 := Hd (show v0.ownBlock = none by rw [hv0]; rfl)
 clear hv0
 go_upto_region 13 with (at_builtin; refine wpList_append_rd rfl _ _ 25 rfl w6.heap.size 43 i0 _ 7 72 Tryz.underlying25 hi0 hz0 hz1 hz2 rfl (by decide) v0 0 [] rfl HO0.out pa n ca (cs.flatMap CallV.cells) rfl HH1.out.nil (by rw [callCells_len, ← HC6.out.len]) HC6.out.cells (callCells_one _) (by unfold maxLen; omega) (by omega) (Nat.le_refl _) ?_; intro v7 w7 hown7 hgrow7)
 have HO7 := Hd (show w7.ownsRow w6.heap.size 43 7 v7 n (cs.flatMap CallV.cells) by simpa using hown7)
 have HT67 := Hd (show Touch Nothing w6 w7 from Touch.of_grown hgrow7 (fun k hk => by rw [HV0.out] at hk; cases hk))
 have HT7 := Hd (HT6.out.trans HT67.out)
 clear hown7 hgrow7 HO0 HV0 b3
 go_wp2_with fail
 go_loopw [10, 11] (fun v a wr => ∃ k : Nat, k ≤ n2 ∧ a = .int .i64 k ∧ wr.ownsRow w7.heap.size 43 7 v k (((cs2.take k).map noRef).flatMap CallV.cells) ∧ Touch Nothing w7 wr) (fun _ a _ => n2 - (intOf a).toNat)
 case atStart => exact ⟨0, by omega, rfl, World.ownsRow_nil _ _ _ _, Touch.refl _ _⟩
 case round =>
  obtain ⟨k, hk, rfl, hO, hT⟩ := hrel
  have HO := Hd hO
  have HT := Hd hT
  clear hO hT
  by_cases hlt : k < n2
  ·have hlt2 : (k : Int) < (n2 : Int) := by omega
   obtain ⟨ga, oa, hpa, _, ea⟩ := (HH2.out.at_ (A := fun _ => True) (fun _ _ => trivial) (HT7.out.trans HT.out)).each (by omega)
   subst hpa
   obtain ⟨c, hc⟩ : ∃ c, cs2[k]? = some c := ⟨_, List.getElem?_eq_getElem (by have := HH2.out.rd.len; omega)⟩
   obtain ⟨dat, hdat⟩ : ∃ x, ds2[k]? = some x := ⟨_, List.getElem?_eq_getElem (by have := HH2.out.rd.len2; omega)⟩
   have HE := Hd (ea k c dat hc hdat)
   have HTk := Hd (map_noRef_take cs2 k c hc)
   clear ea hc hdat
   obtain ⟨op, ref, p, a, b, deny, dp, dn, dc⟩ := c
   have a0 : wr.cell? ⟨ga, oa + k * 7, none⟩ = some (.int .i64 op) := HE.out.1 0 _ rfl
   have a1 : wr.cell? ⟨ga, oa + k * 7 + 1, none⟩ = some (.int .i64 ref) := HE.out.1 1 _ rfl
   have a2 : wr.cell? ⟨ga, oa + k * 7 + 2, none⟩ = some (.int .u64 p) := HE.out.1 2 _ rfl
   have a3 : wr.cell? ⟨ga, oa + k * 7 + 3, none⟩ = some (.int .u64 a) := HE.out.1 3 _ rfl
   have a4 : wr.cell? ⟨ga, oa + k * 7 + 4, none⟩ = some (.int .u64 b) := HE.out.1 4 _ rfl
   have a5 : wr.cell? ⟨ga, oa + k * 7 + 5, none⟩ = some (.bool deny) := HE.out.1 5 _ rfl
   have a6 : wr.cell? ⟨ga, oa + k * 7 + 6, none⟩ = some (.slice dp dn dc) := HE.out.1 6 _ rfl
   have hga : ga < wr.heap.size := World.block_lt_of_cell? wr _ a0
   have HB9 := Hd (Blk.new wr #[.int .i64 op, .int .i64 0, .int .u64 p, .int .u64 a, .int .u64 b, .bool deny, .slice dp dn dc] 43)
   have HT9 := Hd ((Touch.refl Nothing wr).alloc (.cells #[.int .i64 op, .int .i64 0, .int .u64 p, .int .u64 a, .int .u64 b, .bool deny, .slice dp dn dc] 43))
   go_upto_region 19 with fail
   generalize wr.alloc (.cells #[.int .i64 op, .int .i64 0, .int .u64 p, .int .u64 a, .int .u64 b, .bool deny, .slice dp dn dc] 43) = w9 at *
   have c0 : w9.cell? ⟨wr.heap.size, 0, none⟩ = some (.int .i64 op) := HB9.out.cell 0
   have c1 : w9.cell? ⟨wr.heap.size, 1, none⟩ = some (.int .i64 0) := HB9.out.cell 1
   have c2 : w9.cell? ⟨wr.heap.size, 2, none⟩ = some (.int .u64 p) := HB9.out.cell 2
   have c3 : w9.cell? ⟨wr.heap.size, 3, none⟩ = some (.int .u64 a) := HB9.out.cell 3
   have c4 : w9.cell? ⟨wr.heap.size, 4, none⟩ = some (.int .u64 b) := HB9.out.cell 4
   have c5 : w9.cell? ⟨wr.heap.size, 5, none⟩ = some (.bool deny) := HB9.out.cell 5
   have c6 : w9.cell? ⟨wr.heap.size, 6, none⟩ = some (.slice dp dn dc) := HB9.out.cell 6
   have HOW := Hd (owns_touch HO.out HT9.out (fun _ _ _ h => h))
   have HNW := Hd (news_of_blk (Blk.new w9 #[.int .i64 op, .int .i64 0, .int .u64 p, .int .u64 a, .int .u64 b, .bool deny, .slice dp dn dc] 43))
   have hs9 : w7.heap.size ≤ w9.heap.size := Nat.le_trans HT.out.size HT9.out.size
   clear a0 a1 a2 a3 a4 a5 a6
   go_wp2_with (at_builtin; refine wpList_append_own _ rfl _ _ 25 rfl w7.heap.size 43 i0 _ 7 72 Tryz.underlying25 hi0 hz0 hz1 hz2 rfl (by decide) _ _ _ rfl (HOW.out.alloc _) ⟨w9.heap.size, 0, none⟩ 1 1 [.int .i64 op, .int .i64 0, .int .u64 p, .int .u64 a, .int .u64 b, .bool deny, .slice dp dn dc] rfl rfl HNW.out (by simp [Value.oneCell']) (by unfold maxLen; omega) (by omega) (by simp; omega) ?_; intro v' w10 hown hgrow _)
   have HO10 := Hd hown
   have HG10 := Hd hgrow
   clear hown hgrow c0 c1 c2 c3 c4 c5 c6
   go_wp2_with fail
   refine ⟨⟨k + 1, by omega, by go_num, ?_, ?_⟩, by simp [intOf]; omega⟩
   ·rw [HTk.out, List.flatMap_append]
    exact HO10.out
   ·exact ((HT.out.trans HT9.out).alloc _).trans' (Touch.of_grown (S := fun i => some i = _) HG10.out (fun i hi => hi.symm)) (fun i hi e => by have := (World.ownsRow.lt HOW.out i e.symm).1; omega)
  ·obtain rfl : k = n2 := by omega
   obtain ⟨v8, hv8⟩ : ∃ v8, v8 = u10 := ⟨_, rfl⟩
   rw [← hv8] at HO ⊢
   clear hv8
   have htk : cs2.take k = cs2 := List.take_of_length_le (by have := HH2.out.rd.len; omega)
   have HO8 := Hd (show wr.ownsRow w7.heap.size 43 7 v8 k ((cs2.map noRef).flatMap CallV.cells) by have := HO.out; rwa [htk] at this)
   have HL8 := Hd (show (cs2.map noRef).length = k by rw [List.length_map]; exact HH2.out.rd.len.symm)
   have hS8 : ∀ (W : World), Touch Nothing w W → ∀ (A : Nat → Prop), (∀ j, j < w.heap.size → A j) → ∀ (i : Nat) c d, (cs2.map noRef)[i]? = some c → ds2[i]? = some d → Src W A c.dp c.dn c.dc d := by
    intro W T A hA i c d hc hd
    rw [List.getElem?_map, Option.map_eq_some_iff] at hc
    obtain ⟨c', hc', rfl⟩ := hc
    exact (HH2.out.at_ hA T).src i c' d hc' hd
   have HS8 := Hd hS8
   obtain ⟨dp8, dc8, rfl, hnil8, hC8⟩ := Rdr.own (A := fun _ => True) HO8.out HL8.out HH2.out.rd.len2.symm (fun _ _ => trivial) (hS8 wr (HT7.out.trans HT.out) _ (fun _ _ => trivial))
   have HC8 := Hd hC8
   have HN8 := Hd hnil8
   have HO78 := Hd (owns_touch HO7.out HT.out (fun _ _ _ h => h))
   have HTw := Hd (HT7.out.trans HT.out)
   have hbs : w6.heap.size ≤ wr.heap.size := Nat.le_trans HT67.out.size HT.out.size
   clear hS8 hC8 hnil8 htk
   go_upto_region 21 with (at_builtin; refine wpList_append_rd rfl _ _ 25 rfl w6.heap.size 43 i0 _ 7 72 Tryz.underlying25 hi0 hz0 hz1 hz2 rfl (by decide) v7 n (cs.flatMap CallV.cells) rfl HO78.out dp8 k dc8 ((cs2.map noRef).flatMap CallV.cells) rfl HN8.out (by rw [callCells_len, HL8.out]) HC8.out.cells (callCells_one _) (by unfold maxLen; omega) (by omega) hbs ?_; intro v11 w11 hown11 hgrow11)
   have TG : Touch (fun i => v7.ownBlock = some i) wr w11 := Touch.of_grown hgrow11 (fun i hi => hi)
   have HTG := Hd TG
   have HO11 := Hd hown11
   clear hown11 hgrow11 TG
   have hv7 : ∀ i, v7.ownBlock = some i → w6.heap.size ≤ i ∧ i < w7.heap.size := fun i hi => World.ownsRow.lt HO7.out i hi
   have z1 := HTw.out.size
   have z2 := HTG.out.size
   have z3 := HT67.out.size
   have z4 := HT.out.size
   have z5 := HT6.out.size
   have z6 := HT36.out.size
   have z7 := HT56.out.size
   have z8 := HT2.out.size
   have z9 := HT34.out.size
   have z10 := HT4.out.size
   have T11 : Touch Nothing w w11 := HTw.out.trans' HTG.out (fun i hi h => by have := hv7 i h; omega)
   have T311 : Touch Nothing w3 w11 := (((HT36.out.trans HT67.out).trans HT.out)).trans' HTG.out (fun i hi h => by have := hv7 i h; omega)
   have T511 : Touch Nothing w5 w11 := (((HT56.out.trans HT67.out).trans HT.out)).trans' HTG.out (fun i hi h => by have := hv7 i h; omega)
   have l1 := HR1.out.lt
   have l2 := HR2.out.lt
   have f1 := HF1.out
   have f2 := HF2.out
   have hO8 := owns_touch HO8.out HTG.out (fun g hg _ hs => by have := hv7 g hs; omega)
   have hA0 : ∀ j, j < w.heap.size → (j < w.heap.size ∨ w6.heap.size ≤ j ∧ j < w11.heap.size) := fun j h => .inl h
   obtain ⟨dp8', dc8', e8, _, C2⟩ := Rdr.own (A := fun j => j < w.heap.size ∨ w6.heap.size ≤ j ∧ j < w11.heap.size) hO8 HL8.out HH2.out.rd.len2.symm (fun g hg => .inr (by have := World.ownsRow.lt hO8 g hg; omega)) (HS8.out w11 T11 _ hA0)
   cases e8
   have C1 := HH1.out.at_ hA0 T11
   have hO11 := HO11.out
   rw [← List.flatMap_append] at hO11
   have hn12 := HH1.out.rd.len
   have hd12 := HH1.out.rd.len2
   obtain ⟨dp11, dc11, rfl, _, C3⟩ := Rdr.own (A := fun j => j < w.heap.size ∨ w6.heap.size ≤ j ∧ j < w11.heap.size) (ds := ds ++ ds2) hO11 (by rw [List.length_append, HL8.out]; omega) (by rw [List.length_append, ← HH2.out.rd.len2]; omega) (fun g hg => .inr (World.ownsRow.lt hO11 g hg)) (fun i c d hc hd => by
    by_cases hi : i < cs.length
    ·rw [List.getElem?_append_left hi] at hc
     rw [List.getElem?_append_left (by omega)] at hd
     exact C1.src i c d hc hd
    ·rw [List.getElem?_append_right (by omega)] at hc
     rw [List.getElem?_append_right (by omega), show i - ds.length = i - cs.length by omega] at hd
     exact C2.src _ c d hc hd)
   obtain ⟨axA, axB, stA, stB, stC, TH⟩ := three_of (N1 := w3.heap.size) (ca := ca) (dc8 := dc8) (dc11 := dc11) HI.out (HR1.out.touch0 T311) (HR2.out.touch0 T511) (fun j hj => l1 j hj) (fun j hj => by have := f2 j hj; omega)
    (fun j hj => ⟨by rcases hj with h | h <;> omega, fun hm => by have := l1 j hm; have := f1 j hm; rcases hj with h | h <;> omega⟩) (fun j hj hm => by have := l2 j hm; have := f2 j hm; rcases hj with h | h <;> omega) C1 C2 C3 (by omega) HH1.out.ok HH2.out.ok
   have HTH := Hd TH
   have hB11 := HB6.out.touch ((HT67.out.trans HT.out).none_.trans HTG.out) (fun h => by have := hv7 _ h; have := HB6.out.lt; omega)
   have HB11 := Hd hB11
   have HT11 := Hd T11
   have b3 : w11.cell? ⟨w.heap.size, 3, none⟩ = some (.slice pa n ca) := hB11.cell 3
   have HLo := Hd (show ∀ i, i ∈ hb1 :: s1 :: K1.fp ∨ i ∈ hb2 :: s2 :: K2.fp → w.heap.size < i from fun i hi => by
    have q2 := HB2.out.lt
    have q4 := HB4.out.lt
    rcases hi with h | h
    ·have := f1 i (by simp only [List.mem_cons] at h ⊢; rcases h with h | h | h; exact .inl h; exact .inr (.inl h); exact .inr (.inr (.inr h)))
     omega
    ·have := f2 i (by simp only [List.mem_cons] at h ⊢; rcases h with h | h | h; exact .inl h; exact .inr (.inl h); exact .inr (.inr (.inr h)))
     omega)
   clear hv7 z1 z2 z3 z4 z5 z6 z7 z8 z9 z10 T11 T311 T511 l1 l2 f1 f2 hO8 hA0 C1 C2 C3 hO11 TH hB11 hn12 hd12
   have H1 := HTH.out.one
   go_wp2_with fail
   refine H1.mono ?_
   rintro e w12 ⟨K1', aaA, dpA, dcA, rfl, PA⟩
   have HPA := Hd PA
   have H2 := HTH.out.two _ _ _ _ PA
   clear PA H1
   go_wp2_with fail
   refine H2.mono ?_
   rintro e w13 ⟨K1'', aaB, dpB, dcB, rfl, PB⟩
   have HPB := Hd PB
   have H3 := HTH.out.three _ _ _ _ _ _ _ _ HPA.out PB
   clear PB H2
   go_wp2_with fail
   refine H3.mono ?_
   rintro e w14 ⟨K2', aaC, dpC, dcC, rfl, PC⟩
   have HL := Hd (HTH.out.last _ _ _ _ _ _ _ _ _ _ _ _ HPA.out HPB.out PC)
   clear PC H3
   obtain ⟨TT, AA, AB, AC⟩ := HL.out
   have b3 : w14.cell? ⟨w.heap.size, 3, none⟩ = some (.slice pa n ca) := (HB11.out.touch TT (fun h => by have := HLo.out _ h; omega)).cell 3
   have HTT := Hd (HT11.out.trans' TT (fun i hi h => by have := HLo.out _ h; omega) : Touch Nothing w w14)
   have HAA := Hd AA
   have HAB := Hd AB
   have HAC := Hd AC
   clear TT AA AB AC HL
   go_wp2_with fail
   go_loopw [17] (fun a wr => ∃ i : Nat, i ≤ n + k ∧ a = .int .i64 i ∧ Touch Nothing w14 wr) (fun a _ => n + k - (intOf a).toNat)
   case atStart => exact ⟨0, by omega, rfl, Touch.refl _ _⟩
   case round =>
    obtain ⟨i, hi, rfl, hTr⟩ := hrel
    have HTr := Hd hTr
    clear hTr
    by_cases hlt : i < n + k
    ·have hlt' : (i : Int) < (n : Int) + (k : Int) := by omega
     by_cases hin : i < n
     ·have hin' : (i : Int) < (n : Int) := by omega
      obtain ⟨x, hx0⟩ : ∃ x, axA[i]? = some x := ⟨_, List.getElem?_eq_getElem (by rw [HTH.out.lenA]; exact hin)⟩
      obtain ⟨a, ha⟩ : ∃ a, aaA[i]? = some a := ⟨_, List.getElem?_eq_getElem (by rw [HAA.out.len, HTH.out.lenA]; exact hin)⟩
      have hx : (axA ++ axB)[i]? = some x := by rw [List.getElem?_append_left (by rw [HTH.out.lenA]; exact hin)]; exact hx0
      obtain ⟨c, hc⟩ : ∃ c, aaC[i]? = some c := ⟨_, List.getElem?_eq_getElem (by rw [HAC.out.len, List.length_append, HTH.out.lenA, HTH.out.lenB]; exact hlt)⟩
      have HIa := Hd ((HAA.out.still HTr.out).each _ a x ha hx0)
      have HIc := Hd ((HAC.out.still HTr.out).each i c x hc hx)
      obtain ⟨gs, hgs0⟩ := HAA.out.block_of (i := i) (by omega)
      subst hgs0
      obtain ⟨gc, hgc0⟩ := HAC.out.block_of (i := i) hlt
      subst hgc0
      have sa := fun j u hu => ans_cell (HAA.out.still HTr.out) i a ha j u hu
      have sc := fun j u hu => ans_cell (HAC.out.still HTr.out) i c hc j u hu
      obtain ⟨ae, av, adp, adn, adc, ah, al, abl, afr⟩ := a
      obtain ⟨ce, cv, cdp, cdn, cdc, ch, cl, cbl, cfr⟩ := c
      have p0 : wr.cell? ⟨gs, i * 7, none⟩ = some (.int .i64 ae) := sa 0 _ rfl
      have p1 : wr.cell? ⟨gs, i * 7 + 1, none⟩ = some (.int .u64 av) := sa 1 _ rfl
      have p2 : wr.cell? ⟨gs, i * 7 + 2, none⟩ = some (.slice adp adn adc) := sa 2 _ rfl
      have p3 : wr.cell? ⟨gs, i * 7 + 3, none⟩ = some (.int .u64 ah) := sa 3 _ rfl
      have p4 : wr.cell? ⟨gs, i * 7 + 4, none⟩ = some (.int .u64 al) := sa 4 _ rfl
      have p5 : wr.cell? ⟨gs, i * 7 + 5, none⟩ = some (.int .i64 abl) := sa 5 _ rfl
      have p6 : wr.cell? ⟨gs, i * 7 + 6, none⟩ = some (.int .i64 afr) := sa 6 _ rfl
      have hgs : gs < wr.heap.size := World.block_lt_of_cell? wr _ p0
      have HB20 := Hd (Blk.new wr #[.int .i64 ae, .int .u64 av, .slice adp adn adc, .int .u64 ah, .int .u64 al, .int .i64 abl, .int .i64 afr] 38)
      have hT20 : Touch Nothing wr (wr.alloc (.cells #[.int .i64 ae, .int .u64 av, .slice adp adn adc, .int .u64 ah, .int .u64 al, .int .i64 abl, .int .i64 afr] 38)) := (Touch.refl _ _).alloc _
      have HT20 := Hd hT20
      have HSm := Hd (fun W (T : Touch Nothing (wr.alloc (.cells #[.int .i64 ae, .int .u64 av, .slice adp adn adc, .int .u64 ah, .int .u64 al, .int .i64 abl, .int .i64 afr] 38)) W) => sameAnswer_ (HIa.out.touch (hT20.trans T) (fun _ _ h => h)) (HIc.out.touch (hT20.trans T) (fun _ _ h => h)))
      have hc0 : wr.cell? ⟨gc, i * 7, none⟩ = some (.int .i64 ce) := sc 0 _ rfl
      have hgc : gc < wr.heap.size := World.block_lt_of_cell? wr _ hc0
      have HSc := Hd (fun j u hu => (hT20.cell (p := ⟨gc, i * 7 + j, none⟩) hgc (fun h => h)).trans (sc j u hu))
      clear sa sc hT20 hc0 ha hc hx hx0
      go_upto_region 33 with fail
      generalize wr.alloc (.cells #[.int .i64 ae, .int .u64 av, .slice adp adn adc, .int .u64 ah, .int .u64 al, .int .i64 abl, .int .i64 afr] 38) = w20 at *
      clear p0 p1 p2 p3 p4 p5 p6
      have r0 : w20.cell? ⟨wr.heap.size, 0, none⟩ = some (.int .i64 ae) := HB20.out.cell 0
      have r1 : w20.cell? ⟨wr.heap.size, 1, none⟩ = some (.int .u64 av) := HB20.out.cell 1
      have r2 : w20.cell? ⟨wr.heap.size, 2, none⟩ = some (.slice adp adn adc) := HB20.out.cell 2
      have r3 : w20.cell? ⟨wr.heap.size, 3, none⟩ = some (.int .u64 ah) := HB20.out.cell 3
      have r4 : w20.cell? ⟨wr.heap.size, 4, none⟩ = some (.int .u64 al) := HB20.out.cell 4
      have r5 : w20.cell? ⟨wr.heap.size, 5, none⟩ = some (.int .i64 abl) := HB20.out.cell 5
      have r6 : w20.cell? ⟨wr.heap.size, 6, none⟩ = some (.int .i64 afr) := HB20.out.cell 6
      have q0 : w20.cell? ⟨gc, i * 7, none⟩ = some (.int .i64 ce) := HSc.out 0 _ rfl
      have q1 : w20.cell? ⟨gc, i * 7 + 1, none⟩ = some (.int .u64 cv) := HSc.out 1 _ rfl
      have q2 : w20.cell? ⟨gc, i * 7 + 2, none⟩ = some (.slice cdp cdn cdc) := HSc.out 2 _ rfl
      have q3 : w20.cell? ⟨gc, i * 7 + 3, none⟩ = some (.int .u64 ch) := HSc.out 3 _ rfl
      have q4 : w20.cell? ⟨gc, i * 7 + 4, none⟩ = some (.int .u64 cl) := HSc.out 4 _ rfl
      have q5 : w20.cell? ⟨gc, i * 7 + 5, none⟩ = some (.int .i64 cbl) := HSc.out 5 _ rfl
      have q6 : w20.cell? ⟨gc, i * 7 + 6, none⟩ = some (.int .i64 cfr) := HSc.out 6 _ rfl
      unfold AnsV.val at HSm
      refine wp_region_still_tail 5 (by kernel_rfl) (by kernel_rfl) ?_
      simp only [List.take_succ_cons, List.take_zero, List.drop_succ_cons, List.drop_zero, World.drew_eq]
      repeat still_step
      refine wpStill_nil ?_
      go_wp2_with fail
      refine (HSm.out _ ((Touch.refl Nothing w20).drew)).mono ?_
      rintro e w21 ⟨rfl, T21⟩
      have HT21 := Hd ((HTr.out.trans HT20.out).trans ((Touch.refl Nothing w20).drew.trans T21))
      clear T21 r0 q0 r1 q1 r2 q2 r3 q3 r4 q4 r5 q5 r6 q6
      go_wp2_with fail
      go_roundw
      case rel => exact ⟨i + 1, by omega, by go_num, HT21.out⟩
      case measure => simp [intOf]; omega
     ·have hin' : ¬ ((i : Int) < (n : Int)) := by omega
      obtain ⟨x, hx0⟩ : ∃ x, axB[i - n]? = some x := ⟨_, List.getElem?_eq_getElem (by rw [HTH.out.lenB]; omega)⟩
      obtain ⟨a, ha⟩ : ∃ a, aaB[i - n]? = some a := ⟨_, List.getElem?_eq_getElem (by rw [HAB.out.len, HTH.out.lenB]; omega)⟩
      have hx : (axA ++ axB)[i]? = some x := by rw [List.getElem?_append_right (by rw [HTH.out.lenA]; omega), HTH.out.lenA]; exact hx0
      obtain ⟨c, hc⟩ : ∃ c, aaC[i]? = some c := ⟨_, List.getElem?_eq_getElem (by rw [HAC.out.len, List.length_append, HTH.out.lenA, HTH.out.lenB]; exact hlt)⟩
      have HIa := Hd ((HAB.out.still HTr.out).each _ a x ha hx0)
      have HIc := Hd ((HAC.out.still HTr.out).each i c x hc hx)
      obtain ⟨gs, hgs0⟩ := HAB.out.block_of (i := (i - n)) (by omega)
      subst hgs0
      obtain ⟨gc, hgc0⟩ := HAC.out.block_of (i := i) hlt
      subst hgc0
      have sa := fun j u hu => ans_cell (HAB.out.still HTr.out) (i - n) a ha j u hu
      have sc := fun j u hu => ans_cell (HAC.out.still HTr.out) i c hc j u hu
      obtain ⟨ae, av, adp, adn, adc, ah, al, abl, afr⟩ := a
      obtain ⟨ce, cv, cdp, cdn, cdc, ch, cl, cbl, cfr⟩ := c
      have p0 : wr.cell? ⟨gs, (i - n) * 7, none⟩ = some (.int .i64 ae) := sa 0 _ rfl
      have p1 : wr.cell? ⟨gs, (i - n) * 7 + 1, none⟩ = some (.int .u64 av) := sa 1 _ rfl
      have p2 : wr.cell? ⟨gs, (i - n) * 7 + 2, none⟩ = some (.slice adp adn adc) := sa 2 _ rfl
      have p3 : wr.cell? ⟨gs, (i - n) * 7 + 3, none⟩ = some (.int .u64 ah) := sa 3 _ rfl
      have p4 : wr.cell? ⟨gs, (i - n) * 7 + 4, none⟩ = some (.int .u64 al) := sa 4 _ rfl
      have p5 : wr.cell? ⟨gs, (i - n) * 7 + 5, none⟩ = some (.int .i64 abl) := sa 5 _ rfl
      have p6 : wr.cell? ⟨gs, (i - n) * 7 + 6, none⟩ = some (.int .i64 afr) := sa 6 _ rfl
      have hgs : gs < wr.heap.size := World.block_lt_of_cell? wr _ p0
      have HB20 := Hd (Blk.new wr #[.int .i64 ae, .int .u64 av, .slice adp adn adc, .int .u64 ah, .int .u64 al, .int .i64 abl, .int .i64 afr] 38)
      have hT20 : Touch Nothing wr (wr.alloc (.cells #[.int .i64 ae, .int .u64 av, .slice adp adn adc, .int .u64 ah, .int .u64 al, .int .i64 abl, .int .i64 afr] 38)) := (Touch.refl _ _).alloc _
      have HT20 := Hd hT20
      have HSm := Hd (fun W (T : Touch Nothing (wr.alloc (.cells #[.int .i64 ae, .int .u64 av, .slice adp adn adc, .int .u64 ah, .int .u64 al, .int .i64 abl, .int .i64 afr] 38)) W) => sameAnswer_ (HIa.out.touch (hT20.trans T) (fun _ _ h => h)) (HIc.out.touch (hT20.trans T) (fun _ _ h => h)))
      have hc0 : wr.cell? ⟨gc, i * 7, none⟩ = some (.int .i64 ce) := sc 0 _ rfl
      have hgc : gc < wr.heap.size := World.block_lt_of_cell? wr _ hc0
      have HSc := Hd (fun j u hu => (hT20.cell (p := ⟨gc, i * 7 + j, none⟩) hgc (fun h => h)).trans (sc j u hu))
      have hsub : (i : Int) - (n : Int) = ((i - n : Nat) : Int) := by omega
      have hws : IntKind.i64.wrap ((i : Int) - (n : Int)) = ((i - n : Nat) : Int) := by rw [hsub]; exact IntWalk.i64_in _ (by omega)
      have hik : ((i - n : Nat) : Int) < (k : Int) := by omega
      clear sa sc hT20 hc0 ha hc hx hx0
      go_upto_region 33 with fail
      generalize wr.alloc (.cells #[.int .i64 ae, .int .u64 av, .slice adp adn adc, .int .u64 ah, .int .u64 al, .int .i64 abl, .int .i64 afr] 38) = w20 at *
      clear p0 p1 p2 p3 p4 p5 p6
      have r0 : w20.cell? ⟨wr.heap.size, 0, none⟩ = some (.int .i64 ae) := HB20.out.cell 0
      have r1 : w20.cell? ⟨wr.heap.size, 1, none⟩ = some (.int .u64 av) := HB20.out.cell 1
      have r2 : w20.cell? ⟨wr.heap.size, 2, none⟩ = some (.slice adp adn adc) := HB20.out.cell 2
      have r3 : w20.cell? ⟨wr.heap.size, 3, none⟩ = some (.int .u64 ah) := HB20.out.cell 3
      have r4 : w20.cell? ⟨wr.heap.size, 4, none⟩ = some (.int .u64 al) := HB20.out.cell 4
      have r5 : w20.cell? ⟨wr.heap.size, 5, none⟩ = some (.int .i64 abl) := HB20.out.cell 5
      have r6 : w20.cell? ⟨wr.heap.size, 6, none⟩ = some (.int .i64 afr) := HB20.out.cell 6
      have q0 : w20.cell? ⟨gc, i * 7, none⟩ = some (.int .i64 ce) := HSc.out 0 _ rfl
      have q1 : w20.cell? ⟨gc, i * 7 + 1, none⟩ = some (.int .u64 cv) := HSc.out 1 _ rfl
      have q2 : w20.cell? ⟨gc, i * 7 + 2, none⟩ = some (.slice cdp cdn cdc) := HSc.out 2 _ rfl
      have q3 : w20.cell? ⟨gc, i * 7 + 3, none⟩ = some (.int .u64 ch) := HSc.out 3 _ rfl
      have q4 : w20.cell? ⟨gc, i * 7 + 4, none⟩ = some (.int .u64 cl) := HSc.out 4 _ rfl
      have q5 : w20.cell? ⟨gc, i * 7 + 5, none⟩ = some (.int .i64 cbl) := HSc.out 5 _ rfl
      have q6 : w20.cell? ⟨gc, i * 7 + 6, none⟩ = some (.int .i64 cfr) := HSc.out 6 _ rfl
      unfold AnsV.val at HSm
      refine wp_region_still_tail 5 (by kernel_rfl) (by kernel_rfl) ?_
      simp only [List.take_succ_cons, List.take_zero, List.drop_succ_cons, List.drop_zero, World.drew_eq]
      repeat still_step
      refine wpStill_nil ?_
      go_wp2_with fail
      refine (HSm.out _ ((Touch.refl Nothing w20).drew)).mono ?_
      rintro e w21 ⟨rfl, T21⟩
      have HT21 := Hd ((HTr.out.trans HT20.out).trans ((Touch.refl Nothing w20).drew.trans T21))
      clear T21 r0 q0 r1 q1 r2 q2 r3 q3 r4 q4 r5 q5 r6 q6
      go_wp2_with fail
      go_roundw
      case rel => exact ⟨i + 1, by omega, by go_num, HT21.out⟩
      case measure => simp [intOf]; omega
    ·have hlt' : ¬ ((i : Int) < (n : Int) + (k : Int)) := by omega
     go_wp2_with fail
     go_ret
     exact ⟨rfl, HTT.out.trans HTr.out⟩
theorem scut_ (base : Nat) (limit order : Int) (pa : Option Addr) (n ca : Nat) (cs : List CallV) (ds : List (List UInt8)) (pa2 : Option Addr) (n2 ca2 : Nat) (cs2 : List CallV) (ds2 : List (List UInt8)) (w : World) (G : Glob w) (hb : base < 18446744073709551616)
  (H1 : Handed w pa n ca cs ds) (H2 : Handed w pa2 n2 ca2 cs2 ds2) (hn : n ≤ 140737488355328) (hn2 : n2 ≤ 140737488355328) :
  Calls Tryz.prog 7 #[.agg #[.int .u64 base, .int .i64 limit, .int .i64 order, .slice pa n ca], .slice pa2 n2 ca2] w fun e w' => e = .returned (.bool true) ∧ Touch Nothing w w' := by
 cases hm : mayB base limit order with
 | false => exact cut_no base limit order pa pa2 n ca n2 ca2 w G hb hm
 | true =>
  have h := hm
  unfold mayB at h
  have h := of_decide_eq_true h
  obtain ⟨o, rfl⟩ : ∃ o : Nat, order = o := ⟨order.toNat, by omega⟩
  obtain ⟨l, rfl⟩ : ∃ l : Nat, limit = l := ⟨limit.toNat, by omega⟩
  exact cut_yes base l o pa pa2 n ca n2 ca2 cs cs2 ds ds2 w G hb hm (by omega) H1 H2 hn hn2
end Go.Proofs.YtnjcmcnjgdjbiaaGreatDoor
