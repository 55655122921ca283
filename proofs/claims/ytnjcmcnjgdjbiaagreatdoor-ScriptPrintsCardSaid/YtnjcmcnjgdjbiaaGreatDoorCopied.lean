/- The walk of the document's copied: a copy of calls, each with bytes of its own, and two calls behind it. Conditions: the calls can be read, and the copy's row is within an append's bound. -/
import Derived.Test.YtnjcmcnjgdjbiaaGreatDoorPrint
import Derived.Test.YtnjcmcnjgdjbiaaGreatDoorCalls1
import Derived.Lib.ConvBytes
import Derived.Laws.IdiomStrings
namespace Go.Proofs.YtnjcmcnjgdjbiaaGreatDoor
open Go.RowKit

theorem wpList_conv {P : Program} {ops : Array Oper} {rest : List Oper} {o : Oper} {a : Act} {Q : Exit → Act → World → Prop} (hgd : o.guard = none) (src dst : TypeId) (x : Operand) (ho : o.op = .convert src dst x) (v : Value) (hx : a.eval x = v) {w w' : World} (v' : Value)
    (hr : (convert src dst v).run P w = .ok v' w') (h : wpList P ops Q rest (a.put o.dst v') w') : wpList P ops Q (o :: rest) a w := by
  refine wpList_plain hgd fun K hK => ?_
  unfold Oper.wp execOp
  simp only [ho, Sem.run_bind, Sem.run_pure, Result.andThen_ok, hx, hr]
  exact hK _ _ h

theorem conv_rd {w : World} {dp : Option Addr} {dn : Nat} {d : List UInt8} (R : RdD w dp dn d) (dc : Nat) : (convert 34 9 (.slice dp dn dc)).run Tryz.prog w = .ok (.string ⟨d.toArray⟩) w := by
  obtain rfl := R.len
  cases dp with
  | none =>
    obtain rfl := R.none_ rfl
    exact run_convert_bytes_nil w 34 5 Tryz.underlying34 Tryz.underlying5 _ _ 9 Tryz.underlying9
  | some a =>
    refine run_convert_bytes_back w 34 9 5 a dc d Tryz.underlying34 Tryz.underlying5 Tryz.underlying9 (fun j hj => ?_)
    obtain ⟨g, off, hp, hc⟩ := R.data (by intro e; rw [e] at hj; simp at hj)
    cases hp
    rw [Lib.add_plain]
    exact hc j _ (List.getElem?_eq_getElem hj)

/-- bytes in a plain row of their own -/
def Byt (w : World) (c : CallV) (d : List UInt8) : Prop := ∃ g C fz, c.dp = some ⟨g, 0, none⟩ ∧ c.dn = d.length ∧ w.heap[g]? = some (.cells C 5 fz) ∧ ∀ (j : Nat) x, d[j]? = some x → C[j]? = some (.int .u8 x.toNat)

theorem Byt.rd {w : World} {c : CallV} {d : List UInt8} (h : Byt w c d) : RdD w c.dp c.dn d := by
  obtain ⟨g, C, fz, hp, hn, hb, hc⟩ := h
  refine ⟨hn, fun e => (by rw [hp] at e; cases e), fun _ => ⟨g, 0, hp, fun j x hj => ?_⟩⟩
  rw [Nat.zero_add, Lib.cell_of_heap hb]
  exact hc j x hj

theorem Byt.touch {w w' : World} {c : CallV} {d : List UInt8} (h : Byt w c d) (T : Touch Nothing w w') : Byt w' c d := by
  obtain ⟨g, C, fz, hp, hn, hb, hc⟩ := h
  exact ⟨g, C, fz, hp, hn, by rw [T.block g (Array.getElem?_eq_some_iff.1 hb).1 (fun h => h)]; exact hb, hc⟩

/-- growth of a row of calls leaves the bytes -/
theorem Byt.grown {w w' : World} {c : CallV} {d : List UInt8} (h : Byt w c d) {B n : Nat} {v : Value} {xs : List Value} (ho : w.ownsRow B 43 7 v n xs) (hg : w.grownBy w' v.ownBlock) : Byt w' c d := by
  obtain ⟨g, C, fz, hp, hn, hb, hc⟩ := h
  refine ⟨g, C, fz, hp, hn, ?_, hc⟩
  rw [hg.block g (Array.getElem?_eq_some_iff.1 hb).1 ?_]
  · exact hb
  · intro e
    rcases ho.2 with ⟨rfl, _⟩ | ⟨g1, cap, cur, rfl, _, h1, _⟩
    · cases e
    · cases e
      rw [hb] at h1
      cases h1

theorem conv_touch (w : World) (s : ByteArray) : Touch Nothing w (Lib.bytesWorld w 5 s) :=
  ⟨rfl, rfl, rfl, by rw [Lib.bytesWorld_size]; omega, fun k hk _ => Lib.bytesWorld_at_old w 5 s k hk⟩

theorem bytes_new (w : World) (d : List UInt8) : ∃ C fz, (Lib.bytesWorld w 5 ⟨d.toArray⟩).heap[w.heap.size]? = some (.cells C 5 fz) ∧ ∀ (j : Nat) x, d[j]? = some x → C[j]? = some (.int .u8 x.toNat) := by
  refine ⟨_, _, Lib.bytesWorld_at_new w 5 ⟨d.toArray⟩, fun j x hj => ?_⟩
  obtain ⟨hl, rfl⟩ := List.getElem?_eq_some_iff.1 hj
  have h := Lib.bytesWorld_cell w 5 ⟨d.toArray⟩ j (by show j < d.toArray.size; simpa using hl)
  rw [Lib.cell_of_heap (Lib.bytesWorld_at_new w 5 ⟨d.toArray⟩)] at h
  rw [h]
  simp [List.getD, hl]

/-- copied's state: the copy so far -/
structure Cop (w : World) (cs : List CallV) (ds : List (List UInt8)) (k : Nat) (v : Value) (wr : World) (ks : List CallV) : Prop where
  own : wr.ownsRow w.heap.size 43 7 v k (ks.flatMap CallV.cells)
  len : ks.length = k
  each : ∀ (i : Nat) c0 d c, cs[i]? = some c0 → ds[i]? = some d → ks[i]? = some c → LikeC c c0 ∧ Byt wr c d
  touch : Touch Nothing w wr

theorem Cop.more {w wr w3 w4 : World} {cs : List CallV} {ds : List (List UInt8)} {k : Nat} {v v' : Value} {ks : List CallV} {c0 c : CallV} {d : List UInt8} {o : Obj} (C : Cop w cs ds k v wr ks) (hc : cs[k]? = some c0) (hd : ds[k]? = some d) (T : Touch Nothing wr w3) (hl : LikeC c c0) (hy : Byt w3 c d)
    (ho : w4.ownsRow w.heap.size 43 7 v' (k + 1) (ks.flatMap CallV.cells ++ c.cells)) (hg : (w3.alloc o).grownBy w4 v.ownBlock) : Cop w cs ds (k + 1) v' w4 (ks ++ [c]) := by
  have T1 : Touch Nothing w3 (w3.alloc o) := (Touch.refl _ _).alloc _
  have how := owns_touch C.own (T.trans T1) (fun _ _ _ h => h)
  have TG : Touch (fun i => v.ownBlock = some i) (w3.alloc o) w4 := Touch.of_grown hg (fun i hi => hi)
  refine ⟨by simpa using ho, by simp [C.len], fun i c1 d1 c2 h1 h2 h3 => ?_, (C.touch.trans (T.trans T1)).trans' TG (fun i hi h => by have := (World.ownsRow.lt how i h).1; omega)⟩
  rcases Nat.lt_or_ge i k with hi | hi
  · rw [List.getElem?_append_left (by rw [C.len]; exact hi)] at h3
    obtain ⟨l1, y1⟩ := C.each i c1 d1 c2 h1 h2 h3
    exact ⟨l1, (y1.touch (T.trans T1)).grown how hg⟩
  · rw [List.getElem?_append_right (by rw [C.len]; exact hi), C.len] at h3
    obtain ⟨hi2, rfl⟩ := List.getElem?_eq_some_iff.1 h3
    have hik : i = k := by simp at hi2; omega
    subst hik
    rw [hc] at h1; cases h1
    rw [hd] at h2; cases h2
    simp only [Nat.sub_self, List.getElem_cons_zero]
    exact ⟨hl, (hy.touch T1).grown how hg⟩

/-- what copied answers -/
def CopiedAs (w : World) (cs : List CallV) (ds : List (List UInt8)) (n : Nat) (v : Value) (w' : World) : Prop :=
  ∃ g cap ks, v = .slice (some ⟨g, 0, none⟩) (n + 2) cap ∧ n + 2 ≤ cap ∧ RdP w' (some ⟨g, 0, none⟩) n ks ds ∧ (∀ (i : Nat) c0 c, cs[i]? = some c0 → ks[i]? = some c → LikeC c c0) ∧ Touch Nothing w w' ∧ w'.cell? ⟨g, n * 7, none⟩ = some (.int .i64 77) ∧ w'.cell? ⟨g, (n + 1) * 7, none⟩ = some (.int .i64 78)

theorem Cop.done {w wr w1 : World} {cs : List CallV} {ds : List (List UInt8)} {n : Nat} {v v' : Value} {ks : List CallV} {o : Obj} {ys : List Value} (C : Cop w cs ds n v wr ks) (hy0 : ys[0]? = some (.int .i64 77)) (hy7 : ys[7]? = some (.int .i64 78)) (hn : n = cs.length) (hn2 : n = ds.length)
    (ho : w1.ownsRow w.heap.size 43 7 v' (n + 2) (ks.flatMap CallV.cells ++ ys)) (hg : (wr.alloc o).grownBy w1 v.ownBlock) : CopiedAs w cs ds n v' w1 := by
  have T1 : Touch Nothing wr (wr.alloc o) := (Touch.refl _ _).alloc _
  have how := owns_touch C.own T1 (fun _ _ _ h => h)
  have TG : Touch (fun i => v.ownBlock = some i) (wr.alloc o) w1 := Touch.of_grown hg (fun i hi => hi)
  rcases ho.2 with ⟨_, h⟩ | ⟨g, cap, cur, rfl, hB, hb, hcap, hmx, hs, ht⟩
  · omega
  have mark : ∀ (i : Nat) u, ys[i]? = some u → i < 14 → w1.cell? ⟨g, n * 7 + i, none⟩ = some u := fun i u hi hlt => by
    have hl : (ks.flatMap CallV.cells).length = n * 7 := C.own.1
    have h1 : (ks.flatMap CallV.cells ++ ys)[n * 7 + i]? = some u := by
      rw [List.getElem?_append_right (by omega), hl, Nat.add_sub_cancel_left]
      exact hi
    rw [Lib.cell_of_heap hb]
    rw [← ht, List.getElem?_take] at h1
    split at h1
    · rw [← Array.getElem?_toList]; exact h1
    · cases h1
  refine ⟨g, cap, ks, rfl, hcap, ⟨C.len.symm, hn2, fun _ => ⟨g, 0, rfl, fun i c d hc hd => ⟨fun j u hj => ?_, ?_⟩⟩⟩, fun i c0 c h1 h2 => ?_, (C.touch.trans T1).trans' TG (fun i hi h => by have := (World.ownsRow.lt how i h).1; omega), ?_, ?_⟩
  · have hfl := flat_cell ks i j c u hc hj
    rw [Lib.cell_of_heap hb, Nat.zero_add]
    have h1 : (ks.flatMap CallV.cells ++ ys)[i * 7 + j]? = some u := by
      rw [List.getElem?_append_left (List.getElem?_eq_some_iff.1 hfl).1]
      exact hfl
    rw [← ht, List.getElem?_take] at h1
    split at h1
    · rw [← Array.getElem?_toList]; exact h1
    · cases h1
  · obtain ⟨c0, h0⟩ : ∃ c0, cs[i]? = some c0 := ⟨_, List.getElem?_eq_getElem (by have := (List.getElem?_eq_some_iff.1 hc).1; have := C.len; omega)⟩
    exact (((C.each i c0 d c h0 hd hc).2.touch T1).grown how hg).rd
  · obtain ⟨d, hd⟩ : ∃ d, ds[i]? = some d := ⟨_, List.getElem?_eq_getElem (by have := (List.getElem?_eq_some_iff.1 h1).1; omega)⟩
    exact (C.each i c0 d c h1 hd h2).1
  · exact mark 0 _ hy0 (by omega)
  · have h := mark 7 _ hy7 (by omega)
    rwa [show n * 7 + 7 = (n + 1) * 7 by omega] at h

set_option maxRecDepth 100000 in
set_option maxHeartbeats 4000000 in
theorem copied_ (pa : Option Addr) (n ca : Nat) (cs : List CallV) (ds : List (List UInt8)) (w : World) (R : RdP w pa n cs ds) (hn : (n + 2) * 72 ≤ 140737488355328) :
    Calls Tryz.prog 21 #[.slice pa n ca] w fun e w' => ∃ v, e = .returned v ∧ CopiedAs w cs ds n v w' := by
  have HR := Lib.hid R
  obtain ⟨i0, hi0, hz0, hz1, hz2⟩ := info_parts info43
  have HC0 := Lib.hid (show Cop w cs ds 0 (.slice none 0 0) w [] from ⟨World.ownsRow_nil _ _ _ _, rfl, fun i c0 d c _ _ h => (by simp at h), Touch.refl _ _⟩)
  clear R
  go_enter Tryz.func21, Tryz.ntmps21
  go_wp2_with fail
  go_loopw [3, 4] (fun v a wr => ∃ (k : Nat) (ks : List CallV), k ≤ n ∧ a = .int .i64 k ∧ Cop w cs ds k v wr ks) (fun _ a _ => n - (intOf a).toNat)
  case atStart => exact ⟨0, [], by omega, rfl, HC0.out⟩
  case round =>
    obtain ⟨k, ks, hk, rfl, hC⟩ := hrel
    have HC := Lib.hid hC
    have hsz := hC.touch.size
    clear hC
    by_cases hlt : k < n
    · have hlt2 : (k : Int) < (n : Int) := by omega
      obtain ⟨ga, oa, hpa, ea⟩ := (HR.out.touch HC.out.touch).each (by omega)
      subst hpa
      obtain ⟨c, hc⟩ : ∃ c, cs[k]? = some c := ⟨_, List.getElem?_eq_getElem (by have := HR.out.len; omega)⟩
      obtain ⟨dat, hdat⟩ : ∃ x, ds[k]? = some x := ⟨_, List.getElem?_eq_getElem (by have := HR.out.len2; omega)⟩
      have HA := Lib.hid (ea k c dat hc hdat)
      have HCD := Lib.hid (And.intro hc hdat)
      obtain ⟨op, ref, p, a, b, deny, dp, dn, dc⟩ := c
      clear ea hc hdat
      have a0 : wr.cell? ⟨ga, oa + k * 7, none⟩ = some (.int .i64 op) := HA.out.1 0 _ rfl
      have a1 : wr.cell? ⟨ga, oa + k * 7 + 1, none⟩ = some (.int .i64 ref) := HA.out.1 1 _ rfl
      have a2 : wr.cell? ⟨ga, oa + k * 7 + 2, none⟩ = some (.int .u64 p) := HA.out.1 2 _ rfl
      have a3 : wr.cell? ⟨ga, oa + k * 7 + 3, none⟩ = some (.int .u64 a) := HA.out.1 3 _ rfl
      have a4 : wr.cell? ⟨ga, oa + k * 7 + 4, none⟩ = some (.int .u64 b) := HA.out.1 4 _ rfl
      have a5 : wr.cell? ⟨ga, oa + k * 7 + 5, none⟩ = some (.bool deny) := HA.out.1 5 _ rfl
      have a6 : wr.cell? ⟨ga, oa + k * 7 + 6, none⟩ = some (.slice dp dn dc) := HA.out.1 6 _ rfl
      have hga : ga < wr.heap.size := World.block_lt_of_cell? wr _ a0
      have HT1 := Lib.hid ((Touch.refl Nothing wr).alloc (.cells #[.int .i64 op, .int .i64 ref, .int .u64 p, .int .u64 a, .int .u64 b, .bool deny, .slice dp dn dc] 43))
      have HB1 := Lib.hid (Blk.new wr #[.int .i64 op, .int .i64 ref, .int .u64 p, .int .u64 a, .int .u64 b, .bool deny, .slice dp dn dc] 43)
      have HRD := Lib.hid (show RdD (wr.alloc (.cells #[.int .i64 op, .int .i64 ref, .int .u64 p, .int .u64 a, .int .u64 b, .bool deny, .slice dp dn dc] 43)) dp dn dat from HA.out.2.touch HT1.out)
      go_wp2_with fail
      rw [conv_rd HRD.out dc]
      go_wp2_with fail
      rw [Lib.run_convert_string_bytes _ 9 34 5 ⟨dat.toArray⟩ Tryz.underlying9 Tryz.underlying34 Tryz.underlying5]
      have HT2 := Lib.hid (HT1.out.trans (conv_touch _ ⟨dat.toArray⟩))
      have HB2 := Lib.hid (HB1.out.touch (conv_touch _ ⟨dat.toArray⟩) (fun h => h))
      have HN2 := Lib.hid (bytes_new (wr.alloc (.cells #[.int .i64 op, .int .i64 ref, .int .u64 p, .int .u64 a, .int .u64 b, .bool deny, .slice dp dn dc] 43)) dat)
      rw [show (wr.alloc (.cells #[.int .i64 op, .int .i64 ref, .int .u64 p, .int .u64 a, .int .u64 b, .bool deny, .slice dp dn dc] 43)).heap.size = wr.heap.size + 1 by simp] at HN2 ⊢
      rw [show (⟨dat.toArray⟩ : ByteArray).size = dat.length by simp [ByteArray.size]]
      generalize grownCap (wr.alloc (.cells #[.int .i64 op, .int .i64 ref, .int .u64 p, .int .u64 a, .int .u64 b, .bool deny, .slice dp dn dc] 43)) dat.length 0 5 = gc
      generalize Lib.bytesWorld (wr.alloc (.cells #[.int .i64 op, .int .i64 ref, .int .u64 p, .int .u64 a, .int .u64 b, .bool deny, .slice dp dn dc] 43)) 5 ⟨dat.toArray⟩ = w2 at *
      have c6 : w2.cell? ⟨wr.heap.size, 6, none⟩ = some (.slice dp dn dc) := HB2.out.cell 6
      have z6 : w2.frozen? ⟨wr.heap.size, 6, none⟩ = false := HB2.out.free 6
      clear a0 a1 a2 a3 a4 a5 a6 HRD HA HT1 HB1
      go_upto_region 7 with fail
      have HB3 := Lib.hid (show Blk (w2.setCell ⟨wr.heap.size, 6, none⟩ (.slice (some ⟨wr.heap.size + 1, 0, none⟩) dat.length gc)) wr.heap.size 43 [.int .i64 op, .int .i64 ref, .int .u64 p, .int .u64 a, .int .u64 b, .bool deny, .slice (some ⟨wr.heap.size + 1, 0, none⟩) dat.length gc] from HB2.out.set 6 _)
      have HT3 := Lib.hid (HT2.out.setCell (p := ⟨wr.heap.size, 6, none⟩) (fun h => by simp only at h; omega) (.slice (some ⟨wr.heap.size + 1, 0, none⟩) dat.length gc))
      have HY3 := Lib.hid (show Byt (w2.setCell ⟨wr.heap.size, 6, none⟩ (.slice (some ⟨wr.heap.size + 1, 0, none⟩) dat.length gc)) ⟨op, ref, p, a, b, deny, some ⟨wr.heap.size + 1, 0, none⟩, dat.length, gc⟩ dat by
        obtain ⟨C, fz, h1, h2⟩ := HN2.out
        exact ⟨wr.heap.size + 1, C, fz, rfl, rfl, (Below.heap_setCell w2 ⟨wr.heap.size, 6, none⟩ _ (wr.heap.size + 1) (by simp)).trans h1, h2⟩)
      clear c6 z6 HB2 HT2 HN2
      generalize w2.setCell ⟨wr.heap.size, 6, none⟩ (.slice (some ⟨wr.heap.size + 1, 0, none⟩) dat.length gc) = w3 at *
      have b0 : w3.cell? ⟨wr.heap.size, 0, none⟩ = some (.int .i64 op) := HB3.out.cell 0
      have b1 : w3.cell? ⟨wr.heap.size, 1, none⟩ = some (.int .i64 ref) := HB3.out.cell 1
      have b2 : w3.cell? ⟨wr.heap.size, 2, none⟩ = some (.int .u64 p) := HB3.out.cell 2
      have b3 : w3.cell? ⟨wr.heap.size, 3, none⟩ = some (.int .u64 a) := HB3.out.cell 3
      have b4 : w3.cell? ⟨wr.heap.size, 4, none⟩ = some (.int .u64 b) := HB3.out.cell 4
      have b5 : w3.cell? ⟨wr.heap.size, 5, none⟩ = some (.bool deny) := HB3.out.cell 5
      have b6 : w3.cell? ⟨wr.heap.size, 6, none⟩ = some (.slice (some ⟨wr.heap.size + 1, 0, none⟩) dat.length gc) := HB3.out.cell 6
      have HOW := Lib.hid (owns_touch HC.out.own HT3.out (fun _ _ _ h => h))
      have HNW := Lib.hid (news_of_blk (Blk.new w3 #[.int .i64 op, .int .i64 ref, .int .u64 p, .int .u64 a, .int .u64 b, .bool deny, .slice (some ⟨wr.heap.size + 1, 0, none⟩) dat.length gc] 43))
      have hs3 : w.heap.size ≤ w3.heap.size := Nat.le_trans hsz HT3.out.size
      go_wp2_with (at_builtin; refine wpList_append_own _ rfl _ _ 25 rfl w.heap.size 43 i0 _ 7 72 Tryz.underlying25 hi0 hz0 hz1 hz2 rfl (by decide) _ _ _ rfl (HOW.out.alloc _) ⟨w3.heap.size, 0, none⟩ 1 1 [.int .i64 op, .int .i64 ref, .int .u64 p, .int .u64 a, .int .u64 b, .bool deny, .slice (some ⟨wr.heap.size + 1, 0, none⟩) dat.length gc] rfl rfl HNW.out (by simp [Value.oneCell']) (by unfold maxLen; omega) (by omega) (by simp; omega) ?_; intro v' w4 hown hgrow _)
      have HCM := Lib.hid (HC.out.more HCD.out.1 HCD.out.2 HT3.out (c := ⟨op, ref, p, a, b, deny, some ⟨wr.heap.size + 1, 0, none⟩, dat.length, gc⟩) ⟨rfl, rfl, rfl, rfl, rfl, rfl⟩ HY3.out hown hgrow)
      clear hown hgrow b0 b1 b2 b3 b4 b5 b6
      go_wp2_with fail
      exact ⟨⟨k + 1, _, by omega, by go_num, HCM.out⟩, by simp [intOf]; omega⟩
    · obtain rfl : k = n := by omega
      have hlt2 : ¬ (k : Int) < (k : Int) := by omega
      have HNW := Lib.hid (news_of_blk (Blk.new wr #[.int .i64 77, .int .i64 0, .int .u64 0, .int .u64 0, .int .u64 0, .bool false, .slice none 0 0, .int .i64 78, .int .i64 0, .int .u64 0, .int .u64 0, .int .u64 0, .bool false, .slice none 0 0] 43))
      go_wp2_with (at_builtin; refine wpList_append_own _ rfl _ _ 25 rfl w.heap.size 43 i0 _ 7 72 Tryz.underlying25 hi0 hz0 hz1 hz2 rfl (by decide) _ _ _ rfl (HC.out.own.alloc _) ⟨wr.heap.size, 0, none⟩ 2 2 [.int .i64 77, .int .i64 0, .int .u64 0, .int .u64 0, .int .u64 0, .bool false, .slice none 0 0, .int .i64 78, .int .i64 0, .int .u64 0, .int .u64 0, .int .u64 0, .bool false, .slice none 0 0] rfl rfl HNW.out (by simp [Value.oneCell']) (by unfold maxLen; omega) (by omega) (by simp; omega) ?_; intro v' w4 hown hgrow _)
      have HD := Lib.hid (HC.out.done rfl rfl HR.out.len HR.out.len2 hown hgrow)
      clear hown hgrow
      go_wp2_with fail
      go_ret
      exact ⟨_, rfl, HD.out⟩

end Go.Proofs.YtnjcmcnjgdjbiaaGreatDoor
