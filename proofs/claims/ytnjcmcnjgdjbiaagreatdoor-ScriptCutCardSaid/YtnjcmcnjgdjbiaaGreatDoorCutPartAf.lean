/- Package region, first part: what a pool is; a buddy over a space and a map that have grown. Conditions: as each theorem states. -/
import Derived.Test.YtnjcmcnjgdjbiaaGreatDoorCutPartAe
import Derived.Test.YtnjcmcnjgdjbiaaGreatDoorCutPartAa
set_option maxRecDepth 100000
set_option maxHeartbeats 2000000
namespace Go.Proofs.YtnjcmcnjgdjbiaaGreatDoor
open Go.RowKit
structure PoRep (w : World) (pb : Nat) (K : BuL) (β : Bu) : Prop where
 blk : Blk w pb 122 [.pointer (some ⟨K.L.sb, 0, none⟩), .pointer (some ⟨K.M.mb, 0, none⟩), .pointer (some ⟨K.bb, 0, none⟩)]
 bu : BuRep w K β
 apart : pb ∉ K.fp
theorem PoRep.touch {w w' : World} {pb : Nat} {K : BuL} {β : Bu} {S : Nat → Prop} (R : PoRep w pb K β) (T : Touch S w w') (h : ∀ k, k ∈ pb :: K.fp → ¬ S k) : PoRep w' pb K β :=
 ⟨R.blk.touch T (h _ (by simp)), R.bu.touch T (fun k hk => h k (by simp [hk])), R.apart⟩
theorem PoRep.touch0 {w w' : World} {pb : Nat} {K : BuL} {β : Bu} (R : PoRep w pb K β) (T : Touch Nothing w w') : PoRep w' pb K β := R.touch T (fun _ _ h => h)
theorem PoRep.lt {w : World} {pb : Nat} {K : BuL} {β : Bu} (R : PoRep w pb K β) : ∀ k ∈ pb :: K.fp, k < w.heap.size := by
 intro k hk
 rcases List.mem_cons.1 hk with rfl | hk
 ·exact R.blk.lt
 ·exact R.bu.lt k hk
structure BuL.Next (w : World) (K K' : BuL) : Prop where
 bb : K'.bb = K.bb
 sb : K'.L.sb = K.L.sb
 mb : K'.M.mb = K.M.mb
 fresh : ∀ k ∈ K'.fp, k ∈ K.fp ∨ w.heap.size ≤ k
theorem BuL.Next.refl (w : World) (K : BuL) : K.Next w K := ⟨rfl, rfl, rfl, fun _ h => .inl h⟩
theorem BuL.Next.trans {w w1 : World} {K K1 K2 : BuL} (h : K.Next w K1) (h1 : K1.Next w1 K2) (hs : w.heap.size ≤ w1.heap.size) : K.Next w K2 :=
 ⟨h1.bb.trans h.bb, h1.sb.trans h.sb, h1.mb.trans h.mb, fun k hk => by
  rcases h1.fresh k hk with h' | h'
  ·exact h.fresh k h'
  ·exact .inr (Nat.le_trans hs h')⟩
theorem Touch.next {w w1 w2 : World} {K K1 : BuL} (T : Touch (· ∈ K.fp) w w1) (N : K.Next w K1) (T1 : Touch (· ∈ K1.fp) w1 w2) : Touch (· ∈ K.fp) w w2 :=
 T.trans' T1 (fun i hi h => by
  rcases N.fresh i h with h | h
  ·exact h
  ·omega)
theorem SpRep.fp_nodup {w : World} {L : SpL} {σ : Sp} (R : SpRep w L σ) : L.fp.Nodup := by
 unfold SpL.fp
 rw [List.nodup_append]
 refine ⟨R.apart, ?_, ?_⟩
 ·cases L.pv.ownBlock <;> simp
 ·intro a ha b hb e
  simp only [Option.mem_toList] at hb
  exact R.apart' b hb (e ▸ ha)
theorem PoRep.next {w w' : World} {pb : Nat} {K K' : BuL} {β β' : Bu} (R : PoRep w pb K β) (T : Touch (· ∈ K.fp) w w') (N : K.Next w K') (R' : BuRep w' K' β') : PoRep w' pb K' β' := by
 refine ⟨?_, R', fun h => ?_⟩
 ·have := R.blk.touch T R.apart
  rw [N.bb, N.sb, N.mb]
  exact this
 ·rcases N.fresh pb h with h | h
  ·exact R.apart h
  ·have := R.blk.lt; omega
theorem apart_next {A B C B' : List Nat} {n : Nat} (h : (A ++ (B ++ C)).Nodup) (hB : B'.Nodup) (hf : ∀ k ∈ B', k ∈ B ∨ n ≤ k) (hA : ∀ k ∈ A, k < n) (hC : ∀ k ∈ C, k < n) : (A ++ (B' ++ C)).Nodup := by
 rw [List.nodup_append] at h ⊢
 obtain ⟨h1, h2, h3⟩ := h
 rw [List.nodup_append] at h2
 obtain ⟨h4, h5, h6⟩ := h2
 refine ⟨h1, ?_, ?_⟩
 ·rw [List.nodup_append]
  refine ⟨hB, h5, fun a ha b hb e => ?_⟩
  rcases hf a ha with h | h
  ·exact h6 a h b hb e
  ·have := hC b hb; omega
 ·intro a ha b hb e
  rcases List.mem_append.1 hb with hb | hb
  ·rcases hf b hb with h | h
   ·exact h3 a ha b (List.mem_append.2 (.inl h)) e
   ·have := hA a ha; omega
  ·exact h3 a ha b (List.mem_append.2 (.inr hb)) e
theorem apart_next2 {A B C C' : List Nat} {n : Nat} (h : (A ++ (B ++ C)).Nodup) (hC' : C'.Nodup) (hf : ∀ k ∈ C', k ∈ C ∨ n ≤ k) (hA : ∀ k ∈ A, k < n) (hB : ∀ k ∈ B, k < n) : (A ++ (B ++ C')).Nodup := by
 rw [List.nodup_append] at h ⊢
 obtain ⟨h1, h2, h3⟩ := h
 rw [List.nodup_append] at h2
 obtain ⟨h4, h5, h6⟩ := h2
 refine ⟨h1, ?_, ?_⟩
 ·rw [List.nodup_append]
  refine ⟨h4, hC', fun a ha b hb e => ?_⟩
  rcases hf b hb with h | h
  ·exact h6 a ha b h e
  ·have := hB a ha; omega
 ·intro a ha b hb e
  rcases List.mem_append.1 hb with hb | hb
  ·exact h3 a ha b (List.mem_append.2 (.inl hb)) e
  ·rcases hf b hb with h | h
   ·exact h3 a ha b (List.mem_append.2 (.inr h)) e
   ·have := hA a ha; omega
theorem BuRep.committed {w w' : World} {K : BuL} {β : Bu} {e : Ending} (R : BuRep w K β) (G : Grew w K.L β.σ e w') :
  e = .returned (.tuple #[.int .u64 (β.σ.base + β.σ.size * β.σ.n : Nat), .int .i64 0]) ∧ ∃ K', BuRep w' K' { β with σ := β.σ.grow } ∧ K.Next w K' ∧ Touch (· ∈ K.fp) w w' := by
 obtain ⟨pv, g, he, hg, hpv, hS, hT⟩ := G
 obtain ⟨_, s2, s3⟩ := R.split
 have hlt := R.lt
 have T : Touch (· ∈ K.L.fp) w w' := hT.mono (fun k _ hk => by
  rcases hk with hk | hk
  ·simp [SpL.fp, hk]
  ·simp [SpL.fp, ← hk])
 have hf : ∀ k ∈ (⟨K.L.sb, pv, K.L.rbs ++ [g]⟩ : SpL).fp, k ∈ K.L.fp ∨ w.heap.size ≤ k := by
  intro k hk
  simp only [SpL.fp, List.mem_append, List.mem_cons, Option.mem_toList, List.not_mem_nil, or_false] at hk ⊢
  rcases hk with (h | h | h) | h
  ·exact .inl (.inl (.inl h))
  ·exact .inl (.inl (.inr h))
  ·exact .inr (by omega)
  ·rcases hpv k h with h | h
   ·exact .inl (.inr h)
   ·exact .inr h
 obtain ⟨h1, h2, h3⟩ := R.own_touch T (fun k hk => (s2 k hk).1)
 have o := R.ok
 refine ⟨he, { K with L := ⟨K.L.sb, pv, K.L.rbs ++ [g]⟩ }, ⟨h1, h2, h3, hS, R.mp.touch T (fun k hk h => s3 k h hk), ?_, ?_⟩, ⟨rfl, rfl, rfl, ?_⟩, T.mono (fun k _ hk => by simp [BuL.fp, hk])⟩
 ·exact apart_next R.apart hS.fp_nodup hf (fun k hk => hlt k (List.mem_append.2 (.inl hk))) (fun k hk => hlt k (List.mem_append.2 (.inr (List.mem_append.2 (.inr hk)))))
 ·refine ⟨o.order, o.heads, o.size, o.limit, o.base, o.pages, ?_, o.head⟩
  show β.μ.pages.length ≤ (β.σ.n + 1) * 2 ^ β.μ.order
  exact Nat.le_trans o.regs (Nat.mul_le_mul_right _ (Nat.le_succ _))
 ·intro k hk
  simp only [BuL.fp, List.mem_append] at hk ⊢
  rcases hk with h | h | h
  ·exact .inl (.inl h)
  ·rcases hf k h with h | h
   ·exact .inl (.inr (.inl h))
   ·exact .inr h
  ·exact .inl (.inr (.inr h))
theorem BuRep.grown {w w' : World} {K : BuL} {β : Bu} {μ' : Mp} {M' : MpL} (R : BuRep w K β) (G : GrownRel w w' K.M M' β.μ μ') (ho : μ'.order = β.μ.order) (h1 : μ'.pages.length ≤ 64 * 2 ^ β.μ.order) (h2 : μ'.pages.length ≤ β.σ.n * 2 ^ β.μ.order) :
  ∃ K', BuRep w' K' { β with μ := μ' } ∧ K.Next w K' ∧ Touch (· ∈ K.fp) w w' := by
 obtain ⟨_, s2, s3⟩ := R.split
 have hlt := R.lt
 have T := G.touch
 obtain ⟨c1, c2, c3⟩ := R.own_touch T (fun k hk => (s2 k hk).2)
 have o := R.ok
 refine ⟨{ K with M := M' }, ⟨?_, c2, c3, R.sp.touch T s3, G.rep, ?_, ?_⟩, ⟨rfl, rfl, G.mb, ?_⟩, T.mono (fun k _ hk => by simp [BuL.fp, hk])⟩
 ·show Blk w' K.bb 274 [_, _, _, _, .pointer (some ⟨M'.mb, 0, none⟩), _]
  rw [G.mb]
  exact c1
 ·exact apart_next2 R.apart G.rep.apart G.fresh (fun k hk => hlt k (List.mem_append.2 (.inl hk))) (fun k hk => hlt k (List.mem_append.2 (.inr (List.mem_append.2 (.inl hk)))))
 ·exact ⟨o.order.trans ho.symm, o.heads.trans (by rw [ho]), o.size.trans (by rw [ho]), o.limit, o.base, by show μ'.pages.length ≤ _; rw [ho]; exact h1, by show μ'.pages.length ≤ β.σ.n * _; rw [ho]; exact h2, o.head⟩
 ·intro k hk
  simp only [BuL.fp, List.mem_append] at hk ⊢
  rcases hk with h | h | h
  ·exact .inl (.inl h)
  ·exact .inl (.inr (.inl h))
  ·rcases G.fresh k h with h | h
   ·exact .inl (.inr (.inr h))
   ·exact .inr h
theorem PoRep.cells {w : World} {pb : Nat} {K : BuL} {β : Bu} (R : PoRep w pb K β) :
  w.cell? ⟨pb, 0, none⟩ = some (.pointer (some ⟨K.L.sb, 0, none⟩)) ∧ w.cell? ⟨pb, 1, none⟩ = some (.pointer (some ⟨K.M.mb, 0, none⟩)) ∧ w.cell? ⟨pb, 2, none⟩ = some (.pointer (some ⟨K.bb, 0, none⟩)) :=
 ⟨R.blk.cell 0, R.blk.cell 1, R.blk.cell 2⟩
theorem PoRep.space_ {w : World} {pb : Nat} {K : BuL} {β : Bu} (R : PoRep w pb K β) :
  Calls Tryz.prog 60 #[.pointer (some ⟨pb, 0, none⟩)] w fun e w' => e = .returned (.pointer (some ⟨K.L.sb, 0, none⟩)) ∧ w = w' := by
 obtain ⟨c0, -, -⟩ := R.cells
 clear R
 go_enter Tryz.func60, Tryz.ntmps60
 go_wp2
 go_ret
 exact ⟨rfl, rfl⟩
theorem PoRep.map_ {w : World} {pb : Nat} {K : BuL} {β : Bu} (R : PoRep w pb K β) :
  Calls Tryz.prog 63 #[.pointer (some ⟨pb, 0, none⟩)] w fun e w' => e = .returned (.pointer (some ⟨K.M.mb, 0, none⟩)) ∧ w = w' := by
 obtain ⟨-, c1, -⟩ := R.cells
 clear R
 go_enter Tryz.func63, Tryz.ntmps63
 go_wp2
 go_ret
 exact ⟨rfl, rfl⟩
theorem PoRep.buddy_ {w : World} {pb : Nat} {K : BuL} {β : Bu} (R : PoRep w pb K β) :
  Calls Tryz.prog 136 #[.pointer (some ⟨pb, 0, none⟩)] w fun e w' => e = .returned (.pointer (some ⟨K.bb, 0, none⟩)) ∧ w = w' := by
 obtain ⟨-, -, c2⟩ := R.cells
 clear R
 go_enter Tryz.func136, Tryz.ntmps136
 go_wp2
 go_ret
 exact ⟨rfl, rfl⟩
def Bu.fresh (base limit order : Nat) : Bu := ⟨Sp.fresh base limit order, newMp order, List.replicate (order + 1) 0⟩
theorem mod_4096 {base p : Nat} (h : base % (4096 * p) = 0) : base % 4096 = 0 := by
 obtain ⟨k, hk⟩ := Nat.dvd_of_mod_eq_zero h
 rw [hk, Nat.mul_assoc]
 exact Nat.mul_mod_right _ _
theorem freshBu_ok {base limit order : Nat} (h : mayB base limit order = true) : (Bu.fresh base limit order).ok := by
 unfold mayB at h
 rw [decide_eq_true_iff] at h
 obtain ⟨h1, h2, h3, h4, h5, h6, h7, h8, h9⟩ := h
 refine ⟨rfl, by simp [Bu.fresh, newMp], rfl, ?_, ?_, Nat.zero_le _, Nat.zero_le _, fun x hx => ?_⟩
 ·show limit ≤ 64; omega
 ·show base % 4096 = 0
  have : (order : Int).toNat = order := by simp
  rw [this] at h7
  exact mod_4096 h7
 ·rw [List.eq_of_mem_replicate hx]; decide
theorem fresh_bu {w w1 w2 wr : World} {base limit order sb bb : Nat} {M : MpL} {tv : Value} {lbs : List Nat} (h : mayB base limit order = true)
  (hs : w.heap.size ≤ sb) (R1 : SpRep w1 ⟨sb, .slice none 0 0, []⟩ (Sp.fresh base limit order)) (T1 : Touch Nothing w w1)
  (R2 : MpRep w2 M (newMp order)) (T2 : Touch Nothing w1 w2) (F2 : ∀ k ∈ M.fp, w1.heap.size ≤ k)
  (R3 : OpenRel w2 bb sb M.mb base limit order (order + 1) tv lbs wr) :
  BuRep wr ⟨bb, tv, lbs, ⟨sb, .slice none 0 0, []⟩, M⟩ (Bu.fresh base limit order) ∧ ∀ k ∈ (⟨bb, tv, lbs, ⟨sb, .slice none 0 0, []⟩, M⟩ : BuL).fp, w.heap.size ≤ k := by
 have l1 := R1.lt
 have l2 := R2.lt
 have hsb : sb < w1.heap.size := R1.blk.lt
 have hl : lbs.length = order + 1 := by have := R3.row.1; simpa using this
 have s12 := T2.size
 have s01 := T1.size
 have hown : ∀ k ∈ (⟨bb, tv, lbs, ⟨sb, .slice none 0 0, []⟩, M⟩ : BuL).own, w2.heap.size ≤ k := R3.fresh
 refine ⟨⟨R3.blk, ?_, ?_, (R1.touch0 T2).touch0 R3.touch, R2.touch0 R3.touch, ?_, freshBu_ok h⟩, ?_⟩
 ·have := R3.row
  simpa [Bu.fresh] using this
 ·intro i b hh hb hhd
  have : hh = 0 := by
   simp only [Bu.fresh, List.getElem?_replicate] at hhd
   split at hhd
   ·exact (Option.some.inj hhd).symm
   ·cases hhd
  rw [this]
  exact R3.each b (List.mem_of_getElem? hb)
 ·unfold BuL.fp
  rw [List.nodup_append]
  refine ⟨R3.apart, ?_, ?_⟩
  ·rw [List.nodup_append]
   refine ⟨R1.fp_nodup, R2.apart, ?_⟩
   intro a ha b hb e
   have := l1 a ha
   have := F2 b hb
   omega
  ·intro a ha b hb e
   have := hown a ha
   rcases List.mem_append.1 hb with hb | hb
   ·have := l1 b hb; omega
   ·have := l2 b hb; omega
 ·intro k hk
  rcases List.mem_append.1 hk with hk | hk
  ·have := hown k hk; omega
  ·rcases List.mem_append.1 hk with hk | hk
   ·simp [SpL.fp, Value.ownBlock] at hk; omega
   ·have := F2 k hk; omega
def NewPool (w : World) (base limit order : Nat) (e : Ending) (w' : World) : Prop :=
 ∃ pb K, e = .returned (.tuple #[.pointer (some ⟨pb, 0, none⟩), .int .i64 0]) ∧ PoRep w' pb K (Bu.fresh base limit order) ∧ Touch Nothing w w' ∧ ∀ k ∈ pb :: K.fp, w.heap.size ≤ k
theorem newPool_no (base : Nat) (limit order : Int) (w : World) (hb : base < 18446744073709551616) (h : mayB base limit order = false) :
  Calls Tryz.prog 35 #[cfgV base limit order] w fun e w' => e = .returned (.tuple #[.pointer none, .int .i64 1]) ∧ Touch Nothing w w' := by
 have HM := Hd (fun w => new_no base limit order w hb h)
 have T0 := Hd (show Touch Nothing w (w.alloc (.cells #[.int .u64 base, .int .i64 limit, .int .i64 order] 51)) from (Touch.refl _ _).alloc _)
 unfold cfgV at *
 go_enter Tryz.func35, Tryz.ntmps35
 go_wp2_with fail
 refine (HM.out _).mono ?_
 rintro e w1 ⟨rfl, T1⟩
 have HT1 := Hd T1
 clear T1
 go_wp2_with fail
 go_ret2
 exact ⟨rfl, T0.out.trans HT1.out⟩
theorem newPool_yes (base limit order : Nat) (w : World) (hb : base < 18446744073709551616) (h : mayB base limit order = true) (ho : order ≤ 8) :
  Calls Tryz.prog 35 #[cfgV base limit order] w (NewPool w base limit order) := by
 have HM := Hd (fun w => new_yes base limit order w hb h)
 have HN := Hd (fun w => newMp_ order ho w)
 have HB := Hd (fun sb mb w => newBu_ sb mb base limit order w ho)
 have HH := Hd h
 have T0 := Hd (show Touch Nothing w (w.alloc (.cells #[.int .u64 base, .int .i64 limit, .int .i64 order] 51)) from (Touch.refl _ _).alloc _)
 have B0 := Hd (Blk.new w #[.int .u64 base, .int .i64 limit, .int .i64 order] 51)
 have hsz : w.heap.size < (w.alloc (.cells #[.int .u64 base, .int .i64 limit, .int .i64 order] 51)).heap.size := by simp
 unfold cfgV at *
 clear h hb
 go_enter Tryz.func35, Tryz.ntmps35
 go_wp2_with fail
 generalize w.alloc (.cells #[.int .u64 base, .int .i64 limit, .int .i64 order] 51) = w0 at *
 refine (HM.out _).mono ?_
 rintro e w1 ⟨sb, rfl, hsb, R1, T1⟩
 have HR1 := Hd R1
 have HT1 := Hd T1
 have B1 := Hd (B0.out.touch T1 (fun h => h))
 have c0 := B1.out.cell 2
 simp at c0
 have HS := Hd hsb
 clear R1 T1 hsb
 go_wp2_with fail
 refine (HN.out _).mono ?_
 rintro e w2 ⟨M, rfl, R2, T2, F2⟩
 have HR2 := Hd R2
 have HT2 := Hd T2
 have HF2 := Hd F2
 have b2 := (B1.out.touch T2 (fun h => h))
 have d0 := b2.cell 0
 have d1 := b2.cell 1
 have d2 := b2.cell 2
 simp at d0 d1 d2
 clear R2 T2 F2 c0 b2
 go_wp2_with fail
 refine (HB.out _ _ _).mono ?_
 rintro e w3 ⟨bb, tv, lbs, rfl, R3⟩
 have HR3 := Hd R3
 clear R3
 go_wp2_with fail
 go_ret2
 have hb := fresh_bu HH.out HS.out HR1.out HT1.out HR2.out HT2.out HF2.out HR3.out
 have s0 := T0.out.size
 have s1 := HT1.out.size
 have s2 := HT2.out.size
 have s3 := HR3.out.touch.size
 have TT := (((T0.out.trans HT1.out).trans HT2.out).trans HR3.out.touch).alloc (.cells #[.pointer (some ⟨sb, 0, none⟩), .pointer (some ⟨M.mb, 0, none⟩), .pointer (some ⟨bb, 0, none⟩)] 122)
 refine ⟨_, _, rfl, ⟨?_, hb.1.touch0 ((Touch.refl Nothing w3).alloc _), fun hk => ?_⟩, TT, ?_⟩
 ·exact Blk.new w3 _ 122
 ·have := hb.1.lt _ hk; omega
 ·intro k hk
  rcases List.mem_cons.1 hk with rfl | hk
  ·omega
  ·have := hb.2 k hk; omega
theorem runL_get (ps : List Pg) (j : Nat) (kind order : Int) : ∀ (k i : Nat), i < k → j + i < ps.length → (runL ps j kind order k)[j + i]? = some (runPg kind order i)
 | 0, i, h, _ => by omega
 | k + 1, i, h, hl => by
  unfold runL
  by_cases e : i = k
  ·subst e
   rw [List.getElem?_set_self (by rw [runL_len]; exact hl)]
  ·rw [List.getElem?_set_ne (by omega)]
   exact runL_get ps j kind order k i (by omega) hl
theorem runL_far (ps : List Pg) (j : Nat) (kind order : Int) : ∀ (k i : Nat), (i < j ∨ j + k ≤ i) → (runL ps j kind order k)[i]? = ps[i]?
 | 0, i, _ => rfl
 | k + 1, i, h => by
  unfold runL
  rw [List.getElem?_set_ne (by omega)]
  exact runL_far ps j kind order k i (by omega)
theorem Mp.paired_pages (μ : Mp) : μ.paired.pages = μ.pages ∧ μ.paired.order = μ.order := ⟨(Mp.pairedK_pages μ _).1, (Mp.pairedK_pages μ _).2.1⟩
theorem Mp.grow_len (μ : Mp) : μ.grow.pages.length = μ.pages.length + 2 ^ μ.order := by
 unfold Mp.grow Mp.run Mp.runK
 simp only [runL_len, (Mp.paired_pages μ.more).1]
 simp [Mp.more]
theorem Mp.grow_order (μ : Mp) : μ.grow.order = μ.order := by
 show μ.more.paired.order = _
 rw [(Mp.paired_pages μ.more).2]
 rfl
theorem Mp.grow_first (μ : Mp) : μ.grow.pages[μ.pages.length]? = some (plainPg 2 μ.order) := by
 unfold Mp.grow Mp.run Mp.runK
 have hp : 0 < 2 ^ μ.order := Nat.pos_of_ne_zero (by simp)
 have := runL_get μ.more.paired.pages μ.pages.length 2 μ.order (2 ^ μ.order) 0 hp (by rw [(Mp.paired_pages μ.more).1]; simp [Mp.more]; exact hp)
 simpa [runPg] using this
def Bu.fed (β : Bu) : Bu := Bu.enter { β with σ := β.σ.grow, μ := β.μ.grow } β.μ.pages.length β.μ.order
def Needed (w : World) (pb : Nat) (K : BuL) (β' : Bu) (v : Value) (e : Ending) (w' : World) : Prop :=
 e = .returned v ∧ ∃ K', PoRep w' pb K' β' ∧ K.Next w K' ∧ Touch (· ∈ K.fp) w w'
theorem PoRep.need_old {w : World} {pb : Nat} {K : BuL} {β : Bu} (R : PoRep w pb K β) (i j o next : Nat) (deny : Bool) (C : TakeOk β i j o next) :
  Calls Tryz.prog 193 #[.pointer (some ⟨pb, 0, none⟩), .int .i64 o, .bool deny] w (Needed w pb K (β.took i j o next) (.tuple #[.int .u64 (β.addr i : Nat), .bool false, .int .i64 0])) := by
 obtain ⟨-, -, c2⟩ := R.cells
 have HT := Hd (R.bu.take_some i j o next C)
 have HR := Hd R
 clear R C
 go_enter Tryz.func193, Tryz.ntmps193
 go_wp2_with fail
 refine HT.out.mono ?_
 rintro e w1 ⟨rfl, R1, T1⟩
 have HR1 := Hd R1
 have HT1 := Hd T1
 clear R1 T1
 go_wp2_with fail
 go_ret3
 exact ⟨rfl, K, HR.out.next HT1.out (BuL.Next.refl _ _) HR1.out, BuL.Next.refl _ _, HT1.out⟩
theorem PoRep.need_no {w : World} {pb : Nat} {K : BuL} {β : Bu} (R : PoRep w pb K β) (o : Nat) (deny : Bool) (ho : o ≤ β.μ.order) (hh : ∀ k, o ≤ k → k ≤ β.μ.order → β.heads.getD k 0 = 0) (h : deny = true ∨ β.σ.n = β.σ.limit) :
  Calls Tryz.prog 193 #[.pointer (some ⟨pb, 0, none⟩), .int .i64 o, .bool deny] w fun e w' => e = .returned (.tuple #[.int .u64 0, .bool false, .int .i64 2]) ∧ Touch Nothing w w' := by
 obtain ⟨c0, -, c2⟩ := R.cells
 have HT := Hd (R.bu.take_none o ho hh)
 have HC := Hd (R.bu.sp.commit_no deny h)
 clear R hh h
 go_enter Tryz.func193, Tryz.ntmps193
 go_wp2_with fail
 refine HT.out.mono ?_
 rintro e w1 ⟨rfl, rfl⟩
 go_wp2_with fail
 refine HC.out.mono ?_
 rintro e w1 ⟨rfl, k, rfl⟩
 go_wp2_with fail
 go_ret3
 exact ⟨rfl, (Touch.refl Nothing w).drewN k⟩
theorem PoRep.need_new {w : World} {pb : Nat} {K : BuL} {β : Bu} (R : PoRep w pb K β) (o next i j : Nat) (ho : o ≤ β.μ.order) (hh : ∀ k, o ≤ k → k ≤ β.μ.order → β.heads.getD k 0 = 0) (h : β.σ.n < β.σ.limit)
  (hl : β.μ.pages.length = β.σ.n * 2 ^ β.μ.order) (hmax : β.μ.pages.length + 2 ^ β.μ.order ≤ 1024) (C : TakeOk β.fed i j o next) :
  Calls Tryz.prog 193 #[.pointer (some ⟨pb, 0, none⟩), .int .i64 o, .bool false] w (Needed w pb K (β.fed.took i j o next) (.tuple #[.int .u64 (β.fed.addr i : Nat), .bool true, .int .i64 0])) := by
 obtain ⟨c0, c1, c2⟩ := R.cells
 have HT := Hd (R.bu.take_none o ho hh)
 have ok := R.bu.ok
 have hlim := ok.limit
 have HC := Hd (R.bu.sp.commit_yes h hlim)
 have HR := Hd R
 have hd : β.μ.pages.length % 2 ^ β.μ.order = 0 := by rw [hl]; exact Nat.mul_mod_left _ _
 have hp64 : β.μ.grow.pages.length ≤ 64 * 2 ^ β.μ.order := by
  rw [Mp.grow_len, hl, ← Nat.succ_mul]
  exact Nat.mul_le_mul_right _ (by omega)
 have hpn : β.μ.grow.pages.length ≤ (β.σ.n + 1) * 2 ^ β.μ.order := by
  rw [Mp.grow_len, hl, ← Nat.succ_mul]
  exact Nat.le_refl _
 have hpeq : β.μ.grow.pages.length = (β.σ.n + 1) * 2 ^ β.μ.order := by
  rw [Mp.grow_len, hl, ← Nat.succ_mul]
 have hj : (β.μ.pages.length : Int).tmod (2 ^ β.μ.order : Nat) = 0 := by
  rw [← Int.ofNat_tmod, hd]; rfl
 have HX := Hd (And.intro hp64 (And.intro hpn (And.intro hpeq (And.intro hj (And.intro hmax hd)))))
 have H0 := Hd (hh β.μ.order ho (Nat.le_refl _))
 have HCo := Hd C
 clear R hh h hl hmax C ok hlim hd hp64 hpn hpeq hj
 go_enter Tryz.func193, Tryz.ntmps193
 go_wp2_with fail
 refine HT.out.mono ?_
 rintro e w1 ⟨rfl, rfl⟩
 go_wp2_with fail
 refine HC.out.mono ?_
 rintro e w1 G1
 obtain ⟨rfl, K1, R1, N1, T1⟩ := HR.out.bu.committed G1
 have P1 := HR.out.next T1 N1 R1
 obtain ⟨-, d1, -⟩ := P1.cells
 have HG := Hd (R1.mp.grow_ HX.out.2.2.2.2.1 HX.out.2.2.2.2.2)
 have HP1 := Hd P1
 have HR1 := Hd R1
 have HN1 := Hd N1
 have HT1 := Hd T1
 clear G1 P1 R1 N1 T1 c0 c1 c2
 go_wp2_with fail
 refine HG.out.mono ?_
 rintro e w2 ⟨M2, rfl, G2⟩
 obtain ⟨K2, R2, N2, T2⟩ := HR1.out.grown G2 (Mp.grow_order _) HX.out.1 HX.out.2.1
 have P2 := HP1.out.next T2 N2 R2
 obtain ⟨-, -, d2⟩ := P2.cells
 have hF := R2.feed_ β.μ.pages.length (p := plainPg 2 β.μ.order) (Nat.succ_pos _) (by rw [show (⟨β.σ.grow, β.μ.grow, β.heads⟩ : Bu).μ = β.μ.grow from rfl, Mp.grow_order]; exact HX.out.2.2.1)
  (by show _ = β.μ.grow.pages.length - 2 ^ β.μ.grow.order; rw [Mp.grow_order, Mp.grow_len]; omega) (Mp.grow_first _) rfl (by show (β.μ.order : Int) = (β.μ.grow.order : Nat); rw [Mp.grow_order]) (by show (β.μ.pages.length : Int).tmod (2 ^ β.μ.grow.order : Nat) = 0; rw [Mp.grow_order]; exact HX.out.2.2.2.1)
  (fun hne => absurd (by show β.heads.getD β.μ.grow.order 0 = 0; rw [Mp.grow_order]; exact H0.out) hne)
 have hfe : Bu.enter ⟨β.σ.grow, β.μ.grow, β.heads⟩ β.μ.pages.length β.μ.grow.order = β.fed := by rw [Mp.grow_order]; rfl
 have HF := Hd (show Calls Tryz.prog 250 #[.pointer (some ⟨K2.bb, 0, none⟩)] w2 (Turned w2 K2 β.fed (.int .i64 0)) by rw [← hfe]; exact hF)
 have HP2 := Hd P2
 have HN2 := Hd N2
 have HT2 := Hd T2
 clear G2 P2 R2 N2 T2 d1 hF hfe
 go_wp2_with fail
 refine HF.out.mono ?_
 rintro e w3 ⟨rfl, R3, T3⟩
 have P3 := HP2.out.next T3 (BuL.Next.refl _ _) R3
 obtain ⟨-, -, d3⟩ := P3.cells
 have HK := Hd (R3.take_some i j o next HCo.out)
 have HP3 := Hd P3
 have HT3 := Hd T3
 clear R3 P3 T3 d2
 go_wp2_with fail
 refine HK.out.mono ?_
 rintro e w4 ⟨rfl, R4, T4⟩
 have P4 := HP3.out.next T4 (BuL.Next.refl _ _) R4
 have HP4 := Hd P4
 have HT4 := Hd T4
 clear R4 P4 T4 d3
 go_wp2_with fail
 go_ret3
 have s1 := HT1.out.size
 have N := HN1.out.trans HN2.out s1
 exact ⟨rfl, K2, HP4.out, N, (((HT1.out.next HN1.out HT2.out).next N HT3.out)).next N HT4.out⟩
theorem BuRep.bytes {w w' : World} {K : BuL} {β : Bu} {σ' : Sp} (R : BuRep w K β) (h : SpRep w' K.L σ') (T : Touch (· ∈ K.L.rbs) w w') (hσ : σ'.base = β.σ.base ∧ σ'.limit = β.σ.limit ∧ σ'.order = β.σ.order ∧ σ'.size = β.σ.size ∧ σ'.n = β.σ.n) :
  BuRep w' K { β with σ := σ' } ∧ Touch (· ∈ K.fp) w w' := by
 obtain ⟨_, s2, s3⟩ := R.split
 have o := R.ok
 have hr : ∀ k, k ∈ K.L.rbs → k ∈ K.L.fp := fun k hk => by simp [SpL.fp, hk]
 obtain ⟨h1, h2, h3⟩ := R.own_touch T (fun k hk hk' => (s2 k hk).1 (hr k hk'))
 refine ⟨⟨?_, h2, h3, h, R.mp.touch T (fun k hk hk' => s3 k (hr k hk') hk), R.apart, ⟨hσ.2.2.1.trans o.order, o.heads, hσ.2.2.2.1.trans o.size, by show σ'.limit ≤ 64; rw [hσ.2.1]; exact o.limit, by show σ'.base % 4096 = 0; rw [hσ.1]; exact o.base, o.pages, by show _ ≤ σ'.n * _; rw [hσ.2.2.2.2]; exact o.regs, o.head⟩⟩, T.mono (fun k _ hk => by simp [BuL.fp, hr k hk])⟩
 show Blk w' K.bb 274 [.int .u64 σ'.base, .int .i64 σ'.limit, .int .i64 σ'.order, _, _, _]
 rw [hσ.1, hσ.2.1, hσ.2.2.1]
 exact h1
theorem Sp.put_same (σ : Sp) (p : Nat) (bs : List Nat) : (σ.put p bs).base = σ.base ∧ (σ.put p bs).limit = σ.limit ∧ (σ.put p bs).order = σ.order ∧ (σ.put p bs).size = σ.size ∧ (σ.put p bs).n = σ.n := ⟨rfl, rfl, rfl, rfl, rfl⟩
theorem BuRep.paged {w w' : World} {K : BuL} {β : Bu} {μ' : Mp} (R : BuRep w K β) (h : MpRep w' K.M μ') (T : Touch (fun k => some k = K.M.gv.ownBlock) w w') (ho : μ'.order = β.μ.order) (hl : μ'.pages.length = β.μ.pages.length) : BuRep w' K { β with μ := μ' } ∧ Touch (· ∈ K.fp) w w' := by
 have T1 : Touch (· ∈ K.M.fp) w w' := T.mono (fun b _ e => by simp [MpL.fp, e.symm])
 exact ⟨R.mapped h T1 ho hl, T1.mono (fun b _ hb => by simp [BuL.fp, hb])⟩
structure SlRep (w : World) (s pb : Nat) (K : BuL) (β : Bu) (ps : List Int) : Prop where
 blk : Blk w s 163 (.pointer (some ⟨pb, 0, none⟩) :: ps.map fun x => .int .i64 x)
 po : PoRep w pb K β
 apart : s ∉ pb :: K.fp
 len : ps.length = 8
theorem SlRep.touch {w w' : World} {s pb : Nat} {K : BuL} {β : Bu} {ps : List Int} {S : Nat → Prop} (R : SlRep w s pb K β ps) (T : Touch S w w') (h : ∀ k, k ∈ s :: pb :: K.fp → ¬ S k) : SlRep w' s pb K β ps :=
 ⟨R.blk.touch T (h _ (by simp)), R.po.touch T (fun k hk => h k (List.mem_cons_of_mem _ hk)), R.apart, R.len⟩
theorem SlRep.touch0 {w w' : World} {s pb : Nat} {K : BuL} {β : Bu} {ps : List Int} (R : SlRep w s pb K β ps) (T : Touch Nothing w w') : SlRep w' s pb K β ps := R.touch T (fun _ _ h => h)
theorem SlRep.next {w w' : World} {s pb : Nat} {K K' : BuL} {β β' : Bu} {ps : List Int} (R : SlRep w s pb K β ps) (T : Touch (· ∈ K.fp) w w') (N : K.Next w K') (R' : BuRep w' K' β') : SlRep w' s pb K' β' ps := by
 have hs : s ∉ K.fp := fun h => R.apart (List.mem_cons_of_mem _ h)
 refine ⟨R.blk.touch T hs, R.po.next T N R', fun h => ?_, R.len⟩
 rcases List.mem_cons.1 h with h | h
 ·exact R.apart (by simp [h])
 ·rcases N.fresh s h with h | h
  ·exact hs h
  ·have := R.blk.lt; omega
theorem SlRep.lt {w : World} {s pb : Nat} {K : BuL} {β : Bu} {ps : List Int} (R : SlRep w s pb K β ps) : ∀ k ∈ s :: pb :: K.fp, k < w.heap.size := by
 intro k hk
 rcases List.mem_cons.1 hk with rfl | hk
 ·exact R.blk.lt
 ·exact R.po.lt k hk
theorem SlRep.pool {w : World} {s pb : Nat} {K : BuL} {β : Bu} {ps : List Int} (R : SlRep w s pb K β ps) : w.cell? ⟨s, 0, none⟩ = some (.pointer (some ⟨pb, 0, none⟩)) := R.blk.cell 0
theorem SlRep.part {w : World} {s pb : Nat} {K : BuL} {β : Bu} {ps : List Int} (R : SlRep w s pb K β ps) (c : Nat) (hc : c < 8) : w.cell? ⟨s, 1 + c, none⟩ = some (.int .i64 (ps.getD c 0)) := by
 have hl := R.len
 rw [R.blk.cell, Nat.add_comm, List.getElem?_cons_succ, List.getElem?_map, List.getElem?_eq_getElem (by omega), List.getD_eq_getElem?_getD, List.getElem?_eq_getElem (by omega)]
 rfl
theorem SlRep.setPart {w : World} {s pb : Nat} {K : BuL} {β : Bu} {ps : List Int} (R : SlRep w s pb K β ps) (c : Nat) (x : Int) : SlRep (w.setCell ⟨s, 1 + c, none⟩ (.int .i64 x)) s pb K β (ps.set c x) := by
 have T := Touch.cellAt w s (1 + c) (.int .i64 x)
 refine ⟨?_, R.po.touch T (fun k hk e => R.apart (e ▸ hk)), R.apart, by rw [List.length_set]; exact R.len⟩
 have := R.blk.set (1 + c) (.int .i64 x)
 rw [Nat.add_comm, List.set_cons_succ, ← List.map_set] at this
 rw [Nat.add_comm]
 exact this
structure NewSlRel (w : World) (s pb : Nat) (k : Nat) (wr : World) : Prop where
 blk : Blk wr s 163 (.pointer (some ⟨pb, 0, none⟩) :: (List.replicate k (.int .i64 (-1)) ++ List.replicate (8 - k) (.int .i64 0)))
 touch : Touch Nothing w wr
def MadeSl (w : World) (pb : Nat) (e : Ending) (w' : World) : Prop :=
 ∃ s, e = .returned (.pointer (some ⟨s, 0, none⟩)) ∧ w.heap.size ≤ s ∧ Blk w' s 163 (.pointer (some ⟨pb, 0, none⟩) :: (List.replicate 8 (-1)).map fun x => .int .i64 x) ∧ Touch Nothing w w'
theorem NewSlRel.step {w wr : World} {s pb k : Nat} (R : NewSlRel w s pb k wr) (hk : k < 8) (hs : w.heap.size ≤ s) : NewSlRel w s pb (k + 1) (wr.setCell ⟨s, 1 + k, none⟩ (.int .i64 (-1))) := by
 refine ⟨?_, R.touch.trans' (Touch.cellAt wr s (1 + k) (.int .i64 (-1))) (fun i hi e => by omega)⟩
 have := R.blk.set (1 + k) (.int .i64 (-1))
 rw [Nat.add_comm, List.set_cons_succ] at this
 rw [Nat.add_comm]
 have e : (List.replicate k (Value.int .i64 (-1)) ++ List.replicate (8 - k) (Value.int .i64 0)).set k (.int .i64 (-1)) = List.replicate (k + 1) (Value.int .i64 (-1)) ++ List.replicate (8 - (k + 1)) (.int .i64 0) := by
  rw [List.set_append_right _ _ (by simp), List.length_replicate, Nat.sub_self, show 8 - k = (8 - (k + 1)) + 1 by omega, List.replicate_succ, List.set_cons_zero, List.replicate_succ', List.append_assoc]
  rfl
 rw [e] at this
 exact this
theorem newSlab_ (pb : Nat) (w : World) : Calls Tryz.prog 36 #[.pointer (some ⟨pb, 0, none⟩)] w (MadeSl w pb) := by
 go_enter Tryz.func36, Tryz.ntmps36
 go_wp2_with fail
 have HB := Hd (Blk.new w #[.pointer (some ⟨pb, 0, none⟩), .int .i64 0, .int .i64 0, .int .i64 0, .int .i64 0, .int .i64 0, .int .i64 0, .int .i64 0, .int .i64 0] 163)
 generalize hs : w.heap.size = s at *
 have HS := Hd hs
 clear hs
 go_loopw [8] (fun a wr => ∃ k : Nat, k ≤ 8 ∧ a = .int .i64 k ∧ NewSlRel w s pb k wr) (fun a _ => 8 - (intOf a).toNat)
 case atStart => exact ⟨0, by omega, rfl, HB.out, (Touch.refl _ _).alloc _⟩
 case round =>
  obtain ⟨k, hk, rfl, hF⟩ := hrel
  have HF := Hd hF
  by_cases hlt : k < 8
  ·have hc : wr.cell? ⟨s, 1 + k, none⟩ = some (.int .i64 0) := by
    rw [hF.blk.cell, Nat.add_comm, List.getElem?_cons_succ, List.getElem?_append_right (by simp), List.length_replicate, Nat.sub_self, List.getElem?_replicate, if_pos (by omega)]
   have hf := hF.blk.free (1 + k)
   clear hF
   go_wp2_with fail
   go_roundw
   case rel => exact ⟨k + 1, by omega, by go_num, HF.out.step hlt (by rw [HS.out]; exact Nat.le_refl _)⟩
   case measure => simp [intOf]; omega
  ·obtain rfl : k = 8 := by omega
   clear hF
   go_wp2_with fail
   go_ret
   exact ⟨s, rfl, by rw [HS.out]; exact Nat.le_refl _, HF.out.blk, HF.out.touch⟩
theorem SlRep.drewN {w : World} {s pb : Nat} {K : BuL} {β : Bu} {ps : List Int} (R : SlRep w s pb K β ps) (k : Nat) : SlRep (w.drewN k) s pb K β ps := R.touch0 ((Touch.refl Nothing w).drewN k)
theorem SlRep.base_ {w : World} {s pb : Nat} {K : BuL} {β : Bu} {ps : List Int} (R : SlRep w s pb K β ps) (hl : β.μ.pages.length = β.σ.n * 2 ^ β.μ.order) :
  Calls Tryz.prog 243 #[.pointer (some ⟨s, 0, none⟩)] w fun e w' => e = .returned (.int .u64 (β.σ.base : Nat)) ∧ ∃ k, w' = w.drewN k := by
 have c0 := R.pool
 have HS := Hd (fun k => ((R.drewN k).po.space_).mono (fun e w' (h : e = _ ∧ w.drewN k = w') => (⟨h.1, h.2.symm⟩ : e = _ ∧ w' = w.drewN k)))
 have HM := Hd (fun k => ((R.drewN k).po.map_).mono (fun e w' (h : e = _ ∧ w.drewN k = w') => (⟨h.1, h.2.symm⟩ : e = _ ∧ w' = w.drewN k)))
 have HE := Hd (fun k => (R.drewN k).po.bu.sp.end_)
 have HP := Hd (fun k => (R.drewN k).po.bu.mp.pages_)
 have h4 : 4096 * β.μ.pages.length = β.σ.size * β.σ.n := by
  rw [hl, R.po.bu.ok.size, Nat.mul_comm β.σ.n, ← Nat.mul_assoc]
 have htop := R.po.bu.sp.ok.le64
 have hlen := R.po.bu.mp.ok.len
 have HF := Hd (show IntKind.u64.wrap (((β.σ.base + β.σ.size * β.σ.n : Nat) : Int) - 4096 * (β.μ.pages.length : Int)) = (β.σ.base : Int) by
  rw [show ((β.σ.base + β.σ.size * β.σ.n : Nat) : Int) - 4096 * (β.μ.pages.length : Int) = ((β.σ.base : Nat) : Int) by omega]
  exact IntWalk.u64_in _ (by omega))
 generalize β.σ.base + β.σ.size * β.σ.n = E at *
 clear R hl h4
 go_enter Tryz.func243, Tryz.ntmps243
 go_wp2_with fail
 go_quiet (first | (go_at_call 60; refine Calls.quiet_of_same (HS.out _)) | (go_at_call 63; refine Calls.quiet_of_same (HM.out _)))
 go_wp2_with fail
 refine (HE.out _).mono ?_
 rintro e w1 ⟨rfl, k, rfl⟩
 have e1 : (w.drewN nq).drewN k = w.drewN (nq + k) := World.drewN_drewN ..
 rw [e1]
 clear e1
 go_wp2_with fail
 refine (HP.out _).mono ?_
 rintro e w1 ⟨rfl, rfl⟩
 go_wp2_with fail
 go_ret
 refine ⟨?_, _, rfl⟩
 show Ending.returned (.int .u64 (IntKind.u64.wrap ((E : Int) - 4096 * (β.μ.pages.length : Int)))) = _
 rw [HF.out]
def SlRep.hung (μ : Mp) (i : Nat) (p : Pg) : Mp := μ.setPage i { p with next := -1, prev := -1 }
theorem SlRep.hang_ {w : World} {s pb : Nat} {K : BuL} {β : Bu} {ps : List Int} (R : SlRep w s pb K β ps) (i c : Nat) {p : Pg} (hi : β.μ.pages[i]? = some p) (hk : p.kind = 4) (hc : c < 8) (he : ps.getD c 0 = -1) :
  Calls Tryz.prog 252 #[.pointer (some ⟨s, 0, none⟩), .int .i64 i, .int .i64 c] w fun e w' => e = .returned (.tuple #[]) ∧ SlRep w' s pb K { β with μ := SlRep.hung β.μ i p } (ps.set c i) ∧ Touch (· ∈ s :: K.fp) w w' := by
 have c0 := R.pool
 have c1 := R.part c hc
 rw [he] at c1
 have HM := Hd (fun k => ((R.drewN k).po.map_).mono (fun e w' (h : e = _ ∧ w.drewN k = w') => (⟨h.1, h.2.symm⟩ : e = _ ∧ w' = w.drewN k)))
 have hlt := (List.getElem?_eq_some_iff.1 hi).1
 have HCh := Hd (fun k => (R.drewN k).po.bu.mp.chain_ hi hk (-1) (-1) (by omega) (by omega) (by omega) (by omega))
 have HR := Hd R
 clear R hi hk he hlt
 go_enter Tryz.func252, Tryz.ntmps252
 go_wp2_with fail
 go_quiet (first | (go_at_call 63; refine Calls.quiet_of_same (HM.out _)))
 go_wp2_with fail
 refine (HCh.out _).mono ?_
 rintro e w1 ⟨rfl, r1, t1⟩
 have R1 := (HR.out.drewN nq).po.bu.paged r1 t1 rfl (List.length_set ..)
 have S1 := (HR.out.drewN nq).next R1.2 (BuL.Next.refl _ _) R1.1
 have d1 := S1.part c hc
 have f1 := S1.blk.free (1 + c)
 have hS := Hd (S1.setPart c i)
 have hT := Hd (((Touch.refl _ w).drewN nq).trans R1.2)
 clear r1 t1 R1 c0 c1 S1
 go_wp2_with fail
 go_end0
 refine ⟨rfl, hS.out, ?_⟩
 exact (hT.out.mono (fun k _ h => List.mem_cons_of_mem _ h)).trans ((Touch.cellAt w1 s (1 + c) _).mono (fun k _ h => by simp [h]))
def bornW (at_ wd n k : Nat) : Nat := if k + 1 = n then 0 else at_ + (k + 1) * wd
def bornK (σ : Sp) (at_ wd n : Nat) : Nat → Sp
 | 0 => σ
 | k + 1 => (bornK σ at_ wd n k).put (at_ + k * wd) (wordBytes (bornW at_ wd n k))
theorem bornK_same (σ : Sp) (at_ wd n k : Nat) : (bornK σ at_ wd n k).base = σ.base ∧ (bornK σ at_ wd n k).limit = σ.limit ∧ (bornK σ at_ wd n k).order = σ.order ∧ (bornK σ at_ wd n k).size = σ.size ∧ (bornK σ at_ wd n k).n = σ.n := by
 induction k with
 | zero => exact ⟨rfl, rfl, rfl, rfl, rfl⟩
 | succ k ih => exact ih
theorem bornK_has (σ : Sp) (at_ wd n : Nat) {p m : Nat} (H : σ.has p m) : ∀ k, (bornK σ at_ wd n k).has p m
 | 0 => H
 | k + 1 => Sp.has_put.2 (bornK_has σ at_ wd n H k)
def wdOf (c : Nat) : Nat := 16 * 2 ^ c
theorem wd_facts {c : Nat} (h : c < 8) : 16 ≤ wdOf c ∧ wdOf c ≤ 2048 ∧ 4096 / wdOf c * wdOf c = 4096 ∧ 2 ≤ 4096 / wdOf c ∧ 4096 / wdOf c ≤ 256 ∧ 4096 / wdOf c = cellsN c := by
 match c, h with
 | 0, _ => decide
 | 1, _ => decide
 | 2, _ => decide
 | 3, _ => decide
 | 4, _ => decide
 | 5, _ => decide
 | 6, _ => decide
 | 7, _ => decide
 | k + 8, h => omega
structure BornRel (w : World) (s pb : Nat) (K : BuL) (β : Bu) (ps : List Int) (at_ wd n k : Nat) (wr : World) : Prop where
 rep : SlRep wr s pb K { β with σ := bornK β.σ at_ wd n k } ps
 touch : Touch (· ∈ K.fp) w wr
def Bu.born (β : Bu) (i c : Nat) : Bu :=
 { β with σ := bornK β.σ (β.addr i) (wdOf c) (4096 / wdOf c) (4096 / wdOf c), μ := SlRep.hung ((β.μ.setPage i (slabPg c)).setPage i { slabPg c with first := 0 }) i { slabPg c with first := 0 } }
theorem BornRel.step {w wr w1 : World} {s pb : Nat} {K : BuL} {β : Bu} {ps : List Int} {at_ wd n k : Nat} (R : BornRel w s pb K β ps at_ wd n k wr) (h : SpRep w1 K.L ((bornK β.σ at_ wd n k).put (at_ + k * wd) (wordBytes (bornW at_ wd n k)))) (T : Touch (· ∈ K.L.rbs) wr w1) : BornRel w s pb K β ps at_ wd n (k + 1) w1 := by
 obtain ⟨b, t⟩ := R.rep.po.bu.bytes h T (Sp.put_same _ _ _)
 exact ⟨R.rep.next t (BuL.Next.refl _ _) b, R.touch.trans t⟩
theorem SlRep.born_ {w : World} {s pb : Nat} {K : BuL} {β : Bu} {ps : List Int} (R : SlRep w s pb K β ps) (G : Glob w) (hfar : ∀ k ∈ s :: pb :: K.fp, 9 ≤ k) (i c : Nat) {p : Pg} (hi : β.μ.pages[i]? = some p) (hc : c < 8) (he : ps.getD c 0 = -1) (hl : β.μ.pages.length = β.σ.n * 2 ^ β.μ.order) :
  Calls Tryz.prog 242 #[.pointer (some ⟨s, 0, none⟩), .int .u64 (β.addr i : Nat), .int .i64 c] w fun e w' => e = .returned (.int .i64 i) ∧ SlRep w' s pb K (β.born i c) (ps.set c i) ∧ Touch (· ∈ s :: K.fp) w w' := by
 have c0 := R.pool
 have HSp := Hd (fun k => ((R.drewN k).po.space_).mono (fun e w' (h : e = _ ∧ w.drewN k = w') => (⟨h.1, h.2.symm⟩ : e = _ ∧ w' = w.drewN k)))
 have HM := Hd (fun k => ((R.drewN k).po.map_).mono (fun e w' (h : e = _ ∧ w.drewN k = w') => (⟨h.1, h.2.symm⟩ : e = _ ∧ w' = w.drewN k)))
 have HB := Hd (fun k => (R.drewN k).base_ hl)
 have hlt := (List.getElem?_eq_some_iff.1 hi).1
 have htop := R.po.bu.ok.addr_top R.po.bu.sp.ok hlt
 have hlen := R.po.bu.mp.ok.len
 have hsub : ((β.addr i : Nat) : Int) - (β.σ.base : Int) = ((4096 * i : Nat) : Int) := by unfold Bu.addr; omega
 have hdiv : ((4096 * i : Nat) : Int) / 4096 = (i : Int) := by omega
 have hle : ((4096 * i : Nat) : Int) ≤ 18446744073709551615 := by omega
 have hge : (0 : Int) ≤ ((4096 * i : Nat) : Int) := by omega
 obtain ⟨w1, w2, w3, w4, w5, w6⟩ := wd_facts hc
 have HSl := Hd (fun k => (R.drewN k).po.bu.mp.slabify_ hi c hc)
 have HHas := Hd (fun off (h : off + 8 ≤ 4096) => R.po.bu.ok.has (i := i) (off := off) (n := 8) hlt (by omega) h)
 have HR := Hd R
 have HG := Hd G
 have HFar := Hd hfar
 have HI := Hd hi
 have HE := Hd he
 clear R G hfar hi he hl
 go_enter Tryz.func242, Tryz.ntmps242
 go_wp2_with fail
 go_quiet (first | (go_at_call 60; refine Calls.quiet_of_same (HSp.out _)) | (go_at_call 63; refine Calls.quiet_of_same (HM.out _)))
 go_wp2_with fail
 refine (HB.out _).mono ?_
 rintro e w1 ⟨rfl, k, rfl⟩
 have e1 : (w.drewN nq).drewN k = w.drewN (nq + k) := World.drewN_drewN ..
 rw [e1]
 clear e1
 go_wp2_with fail
 refine (HSl.out _).mono ?_
 rintro e wa ⟨rfl, r1, t1⟩
 have R1 := (HR.out.drewN _).po.bu.paged r1 t1 rfl (List.length_set ..)
 have S1 := (HR.out.drewN _).next R1.2 (BuL.Next.refl _ _) R1.1
 have hT1 := Hd (((Touch.refl _ w).drewN _).trans R1.2)
 have hfp : ∀ k, k < 9 → ¬ k ∈ K.fp := fun k hk h => by have := HFar.out k (by simp [h]); omega
 have HFp := Hd hfp
 have HGa := Hd (HG.out.touch hT1.out hfp)
 have hcw := HGa.out.widths c hc
 have hS1 := Hd S1
 have hq : (4096 : Int) / (wdOf c : Int) = ((4096 / wdOf c : Nat) : Int) := (Int.natCast_ediv 4096 (wdOf c)).symm
 have hw0 : ¬ (wdOf c : Int) = 0 := by omega
 rw [show 16 * 2 ^ c = wdOf c from rfl] at hcw
 obtain ⟨n, hn⟩ : ∃ n, n = 4096 / wdOf c := ⟨_, rfl⟩
 rw [← hn] at hq w3 w4 w5
 have HN := Hd hn
 have HW6 := Hd w6
 have HW3 := Hd w3
 clear r1 t1 R1 S1 hfp hn w6 c0 w3
 have hat : β.addr i + 4096 ≤ 18446744073709551615 := htop
 generalize hA : β.addr i = A at *
 generalize hwd : wdOf c = wd at *
 have HA := Hd hA
 have HWd := Hd hwd
 clear hA hwd htop hsub hdiv hle hge
 go_wp2_with fail
 have HQ := Hd hq
 clear hq
 go_loopw [42] (fun a wr => ∃ k : Nat, k ≤ n ∧ a = .int .u64 k ∧ BornRel wa s pb K { β with μ := β.μ.setPage i (slabPg c) } ps A wd n k wr) (fun a _ => n - (intOf a).toNat)
 case atStart => exact ⟨0, Nat.zero_le _, rfl, hS1.out, Touch.refl _ _⟩
 case round =>
  obtain ⟨k, hk, rfl, hF⟩ := hrel
  have HF := Hd hF
  have hcr := (HGa.out.touch hF.touch HFp.out).widths c hc
  rw [show 16 * 2 ^ c = wdOf c from rfl, HWd.out] at hcr
  clear hF
  by_cases hlt2 : k < n
  ·have hltI : (k : Int) < 4096 / (wd : Int) := by rw [HQ.out]; omega
   obtain ⟨x, hx⟩ : ∃ x, x = (k + 1) * wd := ⟨_, rfl⟩
   obtain ⟨y, hy⟩ : ∃ y, y = k * wd := ⟨_, rfl⟩
   have hxy : x = y + wd := by rw [hx, hy, Nat.succ_mul]
   have hxle : x ≤ 4096 := by rw [hx, ← HW3.out]; exact Nat.mul_le_mul_right _ hlt2
   have hyle : y ≤ 4096 := by omega
   have ex : ((k : Int) + 1) * (wd : Int) = (x : Int) := by rw [hx]; push_cast; rfl
   have ey : (k : Int) * (wd : Int) = (y : Int) := by rw [hy]; push_cast; rfl
   have hlo : β.σ.base ≤ A := by rw [← HA.out]; unfold Bu.addr; omega
   have hHas := bornK_has β.σ A wd n (HHas.out y (by omega)) k
   have hv : bornW A wd n k < 18446744073709551616 := by unfold bornW; split <;> omega
   have hS := HF.out.rep.po.bu.sp.setWord_ (A + y) (bornW A wd n k) hHas hv
   rw [show ((A + y : Nat) : Int) = (A : Int) + (y : Int) by omega] at hS
   have HXY := Hd (And.intro hx (And.intro hy hxy))
   by_cases hlast : k + 1 = n
   ·have hw : bornW A wd n k = 0 := if_pos hlast
    rw [hw, Int.ofNat_zero] at hS
    have hW := Hd hw
    have HS := Hd hS
    have hl1 : ((k : Int) + 1 == 4096 / (wd : Int)) = true := by rw [HQ.out, beq_iff_eq]; omega
    clear hS hHas hv hw hxy hx hy hlast
    go_wp2_with fail
    refine HS.out.mono ?_
    rintro e w1 ⟨rfl, r1, t1⟩
    have HB1 := Hd (HF.out.step (by rw [hW.out, ← HXY.out.2.1]; exact r1) t1)
    clear r1 t1 hl1 ex ey hcr hcw
    go_wp2_with fail
    go_roundw
    case rel => exact ⟨k + 1, hlt2, by go_num, HB1.out⟩
    case measure => simp [intOf]; omega
   ·have hw : bornW A wd n k = A + x := by rw [hx]; exact if_neg hlast
    rw [hw, show ((A + x : Nat) : Int) = (A : Int) + (x : Int) by omega] at hS
    have hW := Hd hw
    have HS := Hd hS
    have hl1 : ((k : Int) + 1 == 4096 / (wd : Int)) = false := by rw [HQ.out, beq_eq_false_iff_ne]; omega
    clear hS hHas hv hw hxy hx hy hlast
    go_wp2_with fail
    refine HS.out.mono ?_
    rintro e w1 ⟨rfl, r1, t1⟩
    have HB1 := Hd (HF.out.step (by rw [hW.out, ← HXY.out.2.1]; exact r1) t1)
    clear r1 t1 hl1 ex ey hcr hcw
    go_wp2_with fail
    go_roundw
    case rel => exact ⟨k + 1, hlt2, by go_num, HB1.out⟩
    case measure => simp [intOf]; omega
  ·obtain rfl : k = n := by omega
   have hltI : ¬ ((k : Int) < 4096 / (wd : Int)) := by rw [HQ.out]; omega
   have hi1 : (β.μ.setPage i (slabPg c)).pages[i]? = some (slabPg c) := Mp.setPage_get _ HI.out
   have hFi := HF.out.rep.po.bu.mp.first_ hi1 rfl 0 (by omega) (by
    have : ((slabPg c).cls) = (c : Int) := rfl
    rw [this, ← HW6.out, ← HN.out]; omega)
   have HFi := Hd hFi
   clear hFi hi1
   go_wp2_with fail
   refine HFi.out.mono ?_
   rintro e w1 ⟨rfl, r1, t1⟩
   have R1 := HF.out.rep.po.bu.paged r1 t1 rfl (List.length_set ..)
   have S1 := HF.out.rep.next R1.2 (BuL.Next.refl _ _) R1.1
   have hi2 : ((β.μ.setPage i (slabPg c)).setPage i { slabPg c with first := 0 }).pages[i]? = some { slabPg c with first := 0 } := Mp.setPage_get _ (Mp.setPage_get _ HI.out)
   have HH := Hd (S1.hang_ i c hi2 rfl hc HE.out)
   have HT1 := Hd R1.2
   clear r1 t1 R1 S1 hi2
   go_wp2_with fail
   refine HH.out.mono ?_
   rintro e w2 ⟨rfl, r2, t2⟩
   have HR2 := Hd r2
   have HT2 := Hd t2
   clear r2 t2
   go_wp2_with fail
   go_ret
   refine ⟨rfl, ?_, ?_⟩
   ·have := HR2.out
    unfold Bu.born
    rw [HA.out, HWd.out, ← HN.out]
    exact this
   ·exact (((hT1.out.trans HF.out.touch).trans HT1.out).mono (fun b _ hb => List.mem_cons_of_mem _ hb)).trans HT2.out
theorem leBytes_congr {f g : Nat → Nat} {p : Nat} : ∀ {n : Nat}, (∀ a, p ≤ a → a < p + n → f a = g a) → leBytes f p n = leBytes g p n
 | 0, _ => rfl
 | n + 1, h => by rw [leBytes, leBytes, leBytes_congr (fun a h1 h2 => h a h1 (by omega)), h (p + n) (by omega) (by omega)]
theorem Sp.word_far (σ : Sp) (p q : Nat) (bs : List Nat) (h : q + 8 ≤ p ∨ p + bs.length ≤ q) : (σ.put p bs).word q = σ.word q := by
 unfold Sp.word
 refine leBytes_congr (fun a h1 h2 => ?_)
 simp only [Sp.put]
 rw [if_neg (by omega)]
theorem Sp.word_here (σ : Sp) (p v : Nat) (hv : v < 18446744073709551616) : (σ.put p (wordBytes v)).word p = v := by
 have hl : (wordBytes v).length = 8 := rfl
 have hm : ∀ k, k < 8 → (σ.put p (wordBytes v)).mem (p + k) = (wordBytes v).getD k 0 := by
  intro k hk
  simp only [Sp.put]
  rw [if_pos ⟨by omega, by omega⟩, Nat.add_sub_cancel_left]
 unfold Sp.word
 simp only [leBytes, hm 0 (by omega), hm 1 (by omega), hm 2 (by omega), hm 3 (by omega), hm 4 (by omega), hm 5 (by omega), hm 6 (by omega), hm 7 (by omega)]
 simp [wordBytes]
 omega
theorem bornK_word {σ : Sp} {at_ wd n : Nat} (hwd : 8 ≤ wd) (hb : at_ + n * wd < 18446744073709551616) : ∀ (k j : Nat), k ≤ n → j < k → (bornK σ at_ wd n k).word (at_ + j * wd) = bornW at_ wd n j
 | 0, j, _, h => by omega
 | k + 1, j, hk, h => by
  unfold bornK
  by_cases e : j = k
  ·subst e
   refine Sp.word_here _ _ _ ?_
   unfold bornW
   split
   ·omega
   ·have : (j + 1) * wd ≤ n * wd := Nat.mul_le_mul_right _ hk
    omega
  ·rw [Sp.word_far _ _ _ _ (by
    left
    have : (j + 1) * wd ≤ k * wd := Nat.mul_le_mul_right _ (by omega)
    rw [Nat.succ_mul] at this
    omega)]
   exact bornK_word hwd hb k j (by omega) (by omega)
def Pg.take (p : Pg) (f : Nat) (f' : Int) : Pg := { p.own f true with first := f' }
def bornPg (c : Nat) : Pg := { slabPg c with first := 0, next := -1, prev := -1 }
def Bu.newCell (β : Bu) (i c : Nat) : Bu := { β.born i c with μ := (β.born i c).μ.setPage i ((bornPg c).take 0 1) }
theorem born_page {β : Bu} {i c : Nat} {p : Pg} (h : β.μ.pages[i]? = some p) : (β.born i c).μ.pages[i]? = some (bornPg c) :=
 Mp.setPage_get _ (Mp.setPage_get _ (Mp.setPage_get _ h))
theorem born_len (β : Bu) (i c : Nat) : (β.born i c).μ.pages.length = β.μ.pages.length ∧ (β.born i c).μ.order = β.μ.order ∧ (β.born i c).σ.n = β.σ.n ∧ (β.born i c).σ.base = β.σ.base := by
 refine ⟨?_, rfl, (bornK_same _ _ _ _ _).2.2.2.2, (bornK_same _ _ _ _ _).1⟩
 simp [Bu.born, SlRep.hung, Mp.setPage]
theorem bornPg_bit {c : Nat} : (bornPg c).bit 0 = false := by
 simp [Pg.bit, Pg.word, bornPg, slabPg, plainPg]
def Taken (w : World) (s pb : Nat) (K : BuL) (β' : Bu) (ps' : List Int) (v : Value) (e : Ending) (w' : World) : Prop :=
 e = .returned v ∧ ∃ K', SlRep w' s pb K' β' ps' ∧ K.Next w K' ∧ Touch (· ∈ s :: K.fp) w w'
theorem SlRep.take_new {w : World} {s pb : Nat} {K : BuL} {β : Bu} {ps : List Int} (R : SlRep w s pb K β ps) (G : Glob w) (hfar : ∀ k ∈ s :: pb :: K.fp, 9 ≤ k) (c next i j : Nat) (hc : c < 8) (he : ps.getD c 0 = -1)
  (hh : ∀ k, k ≤ β.μ.order → β.heads.getD k 0 = 0) (h : β.σ.n < β.σ.limit)
  (hl : β.μ.pages.length = β.σ.n * 2 ^ β.μ.order) (hmax : β.μ.pages.length + 2 ^ β.μ.order ≤ 1024) (C : TakeOk β.fed i j 0 next)
  {p : Pg} (hp : (β.fed.took i j 0 next).μ.pages[i]? = some p) (hl1 : (β.fed.took i j 0 next).μ.pages.length = (β.fed.took i j 0 next).σ.n * 2 ^ (β.fed.took i j 0 next).μ.order) (hb1 : (β.fed.took i j 0 next).σ.base = β.fed.σ.base) :
  Calls Tryz.prog 191 #[.pointer (some ⟨s, 0, none⟩), .int .i64 c, .bool false] w
   (Taken w s pb K ((β.fed.took i j 0 next).newCell i c) (ps.set c i) (.tuple #[.int .u64 (β.fed.addr i : Nat), .bool true, .int .i64 0])) := by
 have c0 := R.pool
 have c1 := R.part c hc
 rw [he] at c1
 have HN := Hd (R.po.need_new 0 next i j (Nat.zero_le _) (fun k _ hk => hh k hk) h hl hmax C)
 have haddr : (β.fed.took i j 0 next).addr i = β.fed.addr i := by unfold Bu.addr; rw [hb1]
 have HA := Hd haddr
 have HR := Hd R
 have HG := Hd G
 have HFar := Hd hfar
 have HE := Hd he
 have HP := Hd hp
 have HL1 := Hd hl1
 generalize β.fed.took i j 0 next = β1 at *
 clear R G hfar he hh h hl hmax C hp hl1 hb1 haddr
 go_enter Tryz.func191, Tryz.ntmps191
 go_wp2_with fail
 refine HN.out.mono ?_
 rintro e w1 ⟨rfl, K1, P1, N1, T1⟩
 have S1 := HR.out.next T1 N1 P1.bu
 have hfar1 : ∀ k ∈ s :: pb :: K1.fp, 9 ≤ k := by
  intro k hk
  simp only [List.mem_cons] at hk
  rcases hk with rfl | rfl | hk
  ·exact HFar.out _ (by simp)
  ·exact HFar.out _ (by simp)
  ·rcases N1.fresh k hk with h | h
   ·exact HFar.out _ (by simp [h])
   ·have := HG.out.size; omega
 have hfp : ∀ k, k < 9 → ¬ k ∈ K.fp := fun k hk h => by have := HFar.out k (by simp [h]); omega
 have G1 := HG.out.touch T1 hfp
 have HB := S1.born_ G1 hfar1 i c HP.out hc HE.out HL1.out
 rw [HA.out] at HB
 have HBo := Hd HB
 have HG1 := Hd G1
 have HN1 := Hd N1
 have HT1 := Hd T1
 have HFar1 := Hd hfar1
 clear S1 P1 N1 T1 hfar1 hfp G1 HB c1
 go_wp2_with fail
 refine HBo.out.mono ?_
 rintro e w2 ⟨rfl, S2, T2⟩
 have HS2 := Hd S2
 have HT2 := Hd T2
 have d0 := S2.pool
 have HM2 := Hd (S2.po.map_)
 clear S2 T2 c0
 go_wp2_with fail
 refine HM2.out.mono ?_
 rintro e w3 ⟨rfl, rfl⟩
 have HAt := Hd (HS2.out.po.bu.mp.at_ (born_page HP.out))
 go_wp2_with fail
 refine HAt.out.mono ?_
 rintro e w3 ⟨rfl, T3⟩
 have HT3 := Hd T3
 have S3 := HS2.out.touch0 T3
 have hl2 : (β1.born i c).μ.pages.length = (β1.born i c).σ.n * 2 ^ (β1.born i c).μ.order := by
  obtain ⟨b1, b2, b3, _⟩ := born_len β1 i c
  rw [b1, b2, b3]; exact HL1.out
 have HB3 := Hd (fun W (T : Touch Nothing w3 W) => (S3.touch0 T).base_ hl2)
 have HS3 := Hd S3
 clear T3 S3 hl2
 have hbB : (β1.born i c).σ.base = β1.σ.base := (born_len β1 i c).2.2.2
 have hlt1 : i < (β1.born i c).μ.pages.length := (List.getElem?_eq_some_iff.1 (born_page HP.out)).1
 have hlen1 := HS2.out.po.bu.mp.ok.len
 have htop : (β1.born i c).σ.base + 4096 * i + 4096 ≤ 18446744073709551615 := HS2.out.po.bu.ok.addr_top HS2.out.po.bu.sp.ok hlt1
 have hAB : β.fed.addr i = (β1.born i c).σ.base + 4096 * i := by rw [← HA.out, hbB]; rfl
 have HAB := Hd hAB
 have hi : i ≤ 1023 := by omega
 obtain ⟨u1, u2, u3, u4, u5, u6⟩ := wd_facts hc
 have hwB : (β1.born i c).σ.word (β.fed.addr i) = β.fed.addr i + wdOf c := by
  have := bornK_word (σ := β1.σ) (at_ := β1.addr i) (wd := wdOf c) (n := 4096 / wdOf c) (by omega) (by rw [u3, HA.out, hAB]; omega) (4096 / wdOf c) 0 (Nat.le_refl _) (by omega)
  rw [Nat.zero_mul, Nat.add_zero, HA.out] at this
  show (bornK β1.σ (β1.addr i) (wdOf c) (4096 / wdOf c) (4096 / wdOf c)).word (β.fed.addr i) = _
  rw [HA.out, this]
  unfold bornW
  rw [if_neg (by omega)]
  omega
 have HWB := Hd hwB
 have HU := Hd (And.intro u3 u6)
 have HHas := Hd (HS2.out.po.bu.ok.has (i := i) (off := 0) (n := 8) hlt1 (by omega) (by omega))
 have HG3 := Hd ((HG1.out.touch HT2.out (fun k hk h => by
  rcases List.mem_cons.1 h with e | h
  ·have := HFar1.out s (by simp); omega
  ·have := HFar1.out k (by simp [h]); omega)).touch0 HT3.out)
 clear hbB hlt1 hlen1 hAB hwB u3 u6
 unfold Pg.val
 go_wp2_with fail
 refine (HB3.out _ ((Touch.refl Nothing w3).alloc _)).mono ?_
 rintro e w4 ⟨rfl, k4, rfl⟩
 have T4 : Touch Nothing w3 ((w3.alloc (.cells #[.int .i64 (bornPg c).kind, .int .i64 (bornPg c).order, .int .i64 (bornPg c).cls, .int .i64 (bornPg c).live, .int .i64 (bornPg c).next, .int .i64 (bornPg c).prev, .int .i64 (bornPg c).first, .int .u64 (bornPg c).b0, .int .u64 (bornPg c).b1, .int .u64 (bornPg c).b2, .int .u64 (bornPg c).b3] 128)).drewN k4) := ((Touch.refl Nothing w3).alloc _).drewN k4
 have B4 := (Blk.new w3 #[.int .i64 (bornPg c).kind, .int .i64 (bornPg c).order, .int .i64 (bornPg c).cls, .int .i64 (bornPg c).live, .int .i64 (bornPg c).next, .int .i64 (bornPg c).prev, .int .i64 (bornPg c).first, .int .u64 (bornPg c).b0, .int .u64 (bornPg c).b1, .int .u64 (bornPg c).b2, .int .u64 (bornPg c).b3] 128).drewN k4
 generalize (w3.alloc (.cells #[.int .i64 (bornPg c).kind, .int .i64 (bornPg c).order, .int .i64 (bornPg c).cls, .int .i64 (bornPg c).live, .int .i64 (bornPg c).next, .int .i64 (bornPg c).prev, .int .i64 (bornPg c).first, .int .u64 (bornPg c).b0, .int .u64 (bornPg c).b1, .int .u64 (bornPg c).b2, .int .u64 (bornPg c).b3] 128)).drewN k4 = w4 at *
 have b6 : w4.cell? ⟨w3.heap.size, 6, none⟩ = some (.int .i64 0) := B4.cell 6
 have cw : w4.cell? ⟨1, c, none⟩ = some (.int .u64 (wdOf c : Nat)) := (HG3.out.touch0 T4).widths c hc
 have HT4 := Hd T4
 have HB4 := Hd B4
 have HSp := Hd (fun k => (((HS3.out.touch0 T4).drewN k).po.space_))
 have hw0 : ¬ (wdOf c : Int) = 0 := by omega
 have HWd := Hd (fun k => ((HS3.out.touch0 T4).drewN k).po.bu.sp.word_ ((β1.born i c).σ.base + 4096 * i) HHas.out)
 have hdd : (wdOf c : Int) / (wdOf c : Int) = 1 := Int.ediv_self (by omega)
 have d0' : w4.cell? ⟨s, 0, none⟩ = some (.pointer (some ⟨pb, 0, none⟩)) := (HS3.out.touch0 T4).pool
 clear T4 B4 d0
 generalize wdOf c = wd at *
 generalize (β1.born i c).σ.base = B at *
 go_wp2_with fail
 go_quiet (fail)
 go_wp2_with fail
 refine (HSp.out _).mono ?_
 rintro e w5 ⟨rfl, rfl⟩
 go_wp2_with fail
 have hWo : (β1.born i c).σ.word (B + 4096 * i) = B + 4096 * i + wd := by
  have := HWB.out
  rw [HAB.out] at this
  exact this
 have HW := HWd.out nq
 rw [hWo, show ((B + 4096 * i : Nat) : Int) = (B : Int) + 4096 * (i : Int) by omega, show ((B + 4096 * i + wd : Nat) : Int) = (B : Int) + 4096 * (i : Int) + (wd : Int) by omega] at HW
 have HWH := Hd HW
 have ne0 : ((B : Int) + 4096 * (i : Int) + (wd : Int) != 0) = true := by rw [bne_iff_ne]; omega
 clear HW hWo
 refine HWH.out.mono ?_
 rintro e w5 ⟨rfl, T5⟩
 have hlw : w3.heap.size < w4.heap.size := HB4.out.lt
 have T35 := ((Touch.refl Nothing w4).drewN nq).trans T5
 have f6 : w5.cell? ⟨w3.heap.size, 6, none⟩ = some (.int .i64 0) := (T35.cell (p := ⟨w3.heap.size, 6, none⟩) hlw (fun h => h)).trans b6
 have fw : w5.cell? ⟨1, c, none⟩ = some (.int .u64 wd) := (T35.cell (p := ⟨1, c, none⟩) (World.block_lt_of_cell? _ _ cw) (fun h => h)).trans cw
 have HT5 := Hd (HT4.out.trans T35)
 have HOw := Hd ((HS3.out.touch0 HT5.out).po.bu.mp.own_ (born_page HP.out) rfl 0 true (by rw [show (bornPg c).cls = (c : Int) from rfl, ← HU.out.2]; omega) (by rw [bornPg_bit]; rfl) (by show (0 : Int) ≤ 0 + 1 ∧ (0 : Int) + 1 ≤ 256; decide))
 have hq1 : ((B : Int) + 4096 * (i : Int) + (wd : Int) - ((B : Int) + 4096 * (i : Int))) / (wd : Int) = 1 := by
  rw [show (B : Int) + 4096 * (i : Int) + (wd : Int) - ((B : Int) + 4096 * (i : Int)) = (wd : Int) by omega]
  exact hdd
 clear T5 T35 b6 cw d0' hdd
 go_wp2_with fail
 refine HOw.out.mono ?_
 rintro e w6 ⟨rfl, r6, t6⟩
 have R6 := (HS3.out.touch0 HT5.out).po.bu.paged r6 t6 rfl (List.length_set ..)
 have S6 := (HS3.out.touch0 HT5.out).next R6.2 (BuL.Next.refl _ _) R6.1
 have hp6 : ((β1.born i c).μ.setPage i ((bornPg c).own 0 true)).pages[i]? = some ((bornPg c).own 0 true) := Mp.setPage_get _ (born_page HP.out)
 have HFi := Hd (S6.po.bu.mp.first_ hp6 rfl 1 (by omega) (by rw [show ((bornPg c).own 0 true).cls = (c : Int) from rfl, ← HU.out.2]; omega))
 have HT6 := Hd R6.2
 have HS6 := Hd S6
 clear r6 t6 R6 S6 hp6 hq1 f6 fw ne0
 go_wp2_with fail
 refine HFi.out.mono ?_
 rintro e w7 ⟨rfl, r7, t7⟩
 have R7 := HS6.out.po.bu.paged r7 t7 rfl (List.length_set ..)
 have S7 := HS6.out.next R7.2 (BuL.Next.refl _ _) R7.1
 have HT7 := Hd R7.2
 have HS7 := Hd S7
 clear r7 t7 R7 S7
 go_wp2_with fail
 go_ret3
 refine ⟨?_, K1, ?_, HN1.out, ?_⟩
 ·rw [HAB.out]
  show Ending.returned _ = _
  congr 3
 ·have e : (β1.newCell i c).μ = ((β1.born i c).μ.setPage i ((bornPg c).own 0 true)).setPage i { (bornPg c).own 0 true with first := 1 } := by rw [Mp.setPage_set]; rfl
  have e2 : β1.newCell i c = ⟨(β1.born i c).σ, ((β1.born i c).μ.setPage i ((bornPg c).own 0 true)).setPage i { (bornPg c).own 0 true with first := 1 }, (β1.born i c).heads⟩ := by rw [← e]; rfl
  rw [e2]
  exact HS7.out
 ·have T := HT1.out.mono (T := (· ∈ s :: K.fp)) (fun b _ hb => List.mem_cons_of_mem _ hb)
  have TT := (((HT2.out.trans HT3.out.none_).trans HT5.out.none_).trans (HT6.out.mono (T := (· ∈ s :: K1.fp)) (fun b _ hb => List.mem_cons_of_mem _ hb))).trans (HT7.out.mono (T := (· ∈ s :: K1.fp)) (fun b _ hb => List.mem_cons_of_mem _ hb))
  refine T.trans' TT (fun b hb hm => ?_)
  rcases List.mem_cons.1 hm with e | hm
  ·simp [e]
  ·rcases HN1.out.fresh b hm with h | h
   ·simp [h]
   ·omega
end Go.Proofs.YtnjcmcnjgdjbiaaGreatDoor
