/- Package region, first part: what a pool is; a buddy over a space and a map that have grown. Package region, second part: New. Package region, third part: Need. -/
import Derived.Test.YtnjcmcnjgdjbiaaGreatDoorLgBuddy
namespace Go.Proofs.YtnjcmcnjgdjbiaaGreatDoor
open Go.RowKit

/-- a pool: its block holds the three -/
structure PoRep (w : World) (pb : Nat) (K : BuL) (β : Bu) : Prop where
  blk : Blk w pb 122 [.pointer (some ⟨K.L.sb, 0, none⟩), .pointer (some ⟨K.M.mb, 0, none⟩), .pointer (some ⟨K.bb, 0, none⟩)]
  bu : BuRep w K β
  apart : pb ∉ K.fp

theorem PoRep.touch {w w' : World} {pb : Nat} {K : BuL} {β : Bu} {S : Nat → Prop} (R : PoRep w pb K β) (T : Touch S w w') (h : ∀ k, k ∈ pb :: K.fp → ¬ S k) : PoRep w' pb K β :=
  ⟨R.blk.touch T (h _ (by simp)), R.bu.touch T (fun k hk => h k (by simp [hk])), R.apart⟩

theorem PoRep.touch0 {w w' : World} {pb : Nat} {K : BuL} {β : Bu} (R : PoRep w pb K β) (T : Touch Nothing w w') : PoRep w' pb K β := R.touch T (fun _ _ h => h)

theorem PoRep.lt {w : World} {pb : Nat} {K : BuL} {β : Bu} (R : PoRep w pb K β) : ∀ k ∈ pb :: K.fp, k < w.heap.size := by
  intro k hk
  rcases List.mem_cons.1 hk with rfl | hk
  · exact R.blk.lt
  · exact R.bu.lt k hk

/-- where a pool's things lie behind a call -/
structure BuL.Next (w : World) (K K' : BuL) : Prop where
  bb : K'.bb = K.bb
  sb : K'.L.sb = K.L.sb
  mb : K'.M.mb = K.M.mb
  fresh : ∀ k ∈ K'.fp, k ∈ K.fp ∨ w.heap.size ≤ k

theorem BuL.Next.refl (w : World) (K : BuL) : K.Next w K := ⟨rfl, rfl, rfl, fun _ h => .inl h⟩
theorem BuL.Next.trans {w w1 : World} {K K1 K2 : BuL} (h : K.Next w K1) (h1 : K1.Next w1 K2) (hs : w.heap.size ≤ w1.heap.size) : K.Next w K2 :=
  ⟨h1.bb.trans h.bb, h1.sb.trans h.sb, h1.mb.trans h.mb, fun k hk => by
    rcases h1.fresh k hk with h' | h'
    · exact h.fresh k h'
    · exact .inr (Nat.le_trans hs h')⟩

/-- touches of what a later place holds are touches of what the first held, for blocks that were there -/
theorem Touch.next {w w1 w2 : World} {K K1 : BuL} (T : Touch (· ∈ K.fp) w w1) (N : K.Next w K1) (T1 : Touch (· ∈ K1.fp) w1 w2) : Touch (· ∈ K.fp) w w2 :=
  T.trans' T1 (fun i hi h => by
    rcases N.fresh i h with h | h
    · exact h
    · omega)

theorem SpRep.fp_nodup {w : World} {L : SpL} {σ : Sp} (R : SpRep w L σ) : L.fp.Nodup := by
  unfold SpL.fp
  rw [List.nodup_append]
  refine ⟨R.apart, ?_, ?_⟩
  · cases L.pv.ownBlock <;> simp
  · intro a ha b hb e
    simp only [Option.mem_toList] at hb
    exact R.apart' b hb (e ▸ ha)

theorem PoRep.next {w w' : World} {pb : Nat} {K K' : BuL} {β β' : Bu} (R : PoRep w pb K β) (T : Touch (· ∈ K.fp) w w') (N : K.Next w K') (R' : BuRep w' K' β') : PoRep w' pb K' β' := by
  refine ⟨?_, R', fun h => ?_⟩
  · have := R.blk.touch T R.apart
    rw [N.bb, N.sb, N.mb]
    exact this
  · rcases N.fresh pb h with h | h
    · exact R.apart h
    · have := R.blk.lt; omega

theorem apart_next {A B C B' : List Nat} {n : Nat} (h : (A ++ (B ++ C)).Nodup) (hB : B'.Nodup) (hf : ∀ k ∈ B', k ∈ B ∨ n ≤ k) (hA : ∀ k ∈ A, k < n) (hC : ∀ k ∈ C, k < n) : (A ++ (B' ++ C)).Nodup := by
  rw [List.nodup_append] at h ⊢
  obtain ⟨h1, h2, h3⟩ := h
  rw [List.nodup_append] at h2
  obtain ⟨h4, h5, h6⟩ := h2
  refine ⟨h1, ?_, ?_⟩
  · rw [List.nodup_append]
    refine ⟨hB, h5, fun a ha b hb e => ?_⟩
    rcases hf a ha with h | h
    · exact h6 a h b hb e
    · have := hC b hb; omega
  · intro a ha b hb e
    rcases List.mem_append.1 hb with hb | hb
    · rcases hf b hb with h | h
      · exact h3 a ha b (List.mem_append.2 (.inl h)) e
      · have := hA a ha; omega
    · exact h3 a ha b (List.mem_append.2 (.inr hb)) e

theorem apart_next2 {A B C C' : List Nat} {n : Nat} (h : (A ++ (B ++ C)).Nodup) (hC' : C'.Nodup) (hf : ∀ k ∈ C', k ∈ C ∨ n ≤ k) (hA : ∀ k ∈ A, k < n) (hB : ∀ k ∈ B, k < n) : (A ++ (B ++ C')).Nodup := by
  rw [List.nodup_append] at h ⊢
  obtain ⟨h1, h2, h3⟩ := h
  rw [List.nodup_append] at h2
  obtain ⟨h4, h5, h6⟩ := h2
  refine ⟨h1, ?_, ?_⟩
  · rw [List.nodup_append]
    refine ⟨h4, hC', fun a ha b hb e => ?_⟩
    rcases hf b hb with h | h
    · exact h6 a ha b h e
    · have := hB a ha; omega
  · intro a ha b hb e
    rcases List.mem_append.1 hb with hb | hb
    · exact h3 a ha b (List.mem_append.2 (.inl hb)) e
    · rcases hf b hb with h | h
      · exact h3 a ha b (List.mem_append.2 (.inr h)) e
      · have := hA a ha; omega

/-- behind Commit -/
theorem BuRep.committed {w w' : World} {K : BuL} {β : Bu} {e : Ending} (R : BuRep w K β) (G : Grew w K.L β.σ e w') :
    e = .returned (.tuple #[.int .u64 (β.σ.base + β.σ.size * β.σ.n : Nat), .int .i64 0]) ∧ ∃ K', BuRep w' K' { β with σ := β.σ.grow } ∧ K.Next w K' ∧ Touch (· ∈ K.fp) w w' := by
  obtain ⟨pv, g, he, hg, hpv, hS, hT⟩ := G
  obtain ⟨_, s2, s3⟩ := R.split
  have hlt := R.lt
  have T : Touch (· ∈ K.L.fp) w w' := hT.mono (fun k _ hk => by
    rcases hk with hk | hk
    · simp [SpL.fp, hk]
    · simp [SpL.fp, ← hk])
  have hf : ∀ k ∈ (⟨K.L.sb, pv, K.L.rbs ++ [g]⟩ : SpL).fp, k ∈ K.L.fp ∨ w.heap.size ≤ k := by
    intro k hk
    simp only [SpL.fp, List.mem_append, List.mem_cons, Option.mem_toList, List.not_mem_nil, or_false] at hk ⊢
    rcases hk with (h | h | h) | h
    · exact .inl (.inl (.inl h))
    · exact .inl (.inl (.inr h))
    · exact .inr (by omega)
    · rcases hpv k h with h | h
      · exact .inl (.inr h)
      · exact .inr h
  obtain ⟨h1, h2, h3⟩ := R.own_touch T (fun k hk => (s2 k hk).1)
  have o := R.ok
  refine ⟨he, { K with L := ⟨K.L.sb, pv, K.L.rbs ++ [g]⟩ }, ⟨h1, h2, h3, hS, R.mp.touch T (fun k hk h => s3 k h hk), ?_, ?_⟩, ⟨rfl, rfl, rfl, ?_⟩, T.mono (fun k _ hk => by simp [BuL.fp, hk])⟩
  · exact apart_next R.apart hS.fp_nodup hf (fun k hk => hlt k (List.mem_append.2 (.inl hk))) (fun k hk => hlt k (List.mem_append.2 (.inr (List.mem_append.2 (.inr hk)))))
  · refine ⟨o.order, o.heads, o.size, o.limit, o.base, o.pages, ?_, o.head⟩
    show β.μ.pages.length ≤ (β.σ.n + 1) * 2 ^ β.μ.order
    exact Nat.le_trans o.regs (Nat.mul_le_mul_right _ (Nat.le_succ _))
  · intro k hk
    simp only [BuL.fp, List.mem_append] at hk ⊢
    rcases hk with h | h | h
    · exact .inl (.inl h)
    · rcases hf k h with h | h
      · exact .inl (.inr (.inl h))
      · exact .inr h
    · exact .inl (.inr (.inr h))

/-- behind Grow -/
theorem BuRep.grown {w w' : World} {K : BuL} {β : Bu} {μ' : Mp} {M' : MpL} (R : BuRep w K β) (G : GrownRel w w' K.M M' β.μ μ') (ho : μ'.order = β.μ.order) (h1 : μ'.pages.length ≤ 64 * 2 ^ β.μ.order) (h2 : μ'.pages.length ≤ β.σ.n * 2 ^ β.μ.order) :
    ∃ K', BuRep w' K' { β with μ := μ' } ∧ K.Next w K' ∧ Touch (· ∈ K.fp) w w' := by
  obtain ⟨_, s2, s3⟩ := R.split
  have hlt := R.lt
  have T := G.touch
  obtain ⟨c1, c2, c3⟩ := R.own_touch T (fun k hk => (s2 k hk).2)
  have o := R.ok
  refine ⟨{ K with M := M' }, ⟨?_, c2, c3, R.sp.touch T s3, G.rep, ?_, ?_⟩, ⟨rfl, rfl, G.mb, ?_⟩, T.mono (fun k _ hk => by simp [BuL.fp, hk])⟩
  · show Blk w' K.bb 274 [_, _, _, _, .pointer (some ⟨M'.mb, 0, none⟩), _]
    rw [G.mb]
    exact c1
  · exact apart_next2 R.apart G.rep.apart G.fresh (fun k hk => hlt k (List.mem_append.2 (.inl hk))) (fun k hk => hlt k (List.mem_append.2 (.inr (List.mem_append.2 (.inl hk)))))
  · exact ⟨o.order.trans ho.symm, o.heads.trans (by rw [ho]), o.size.trans (by rw [ho]), o.limit, o.base, by show μ'.pages.length ≤ _; rw [ho]; exact h1, by show μ'.pages.length ≤ β.σ.n * _; rw [ho]; exact h2, o.head⟩
  · intro k hk
    simp only [BuL.fp, List.mem_append] at hk ⊢
    rcases hk with h | h | h
    · exact .inl (.inl h)
    · exact .inl (.inr (.inl h))
    · rcases G.fresh k h with h | h
      · exact .inl (.inr (.inr h))
      · exact .inr h

theorem PoRep.cells {w : World} {pb : Nat} {K : BuL} {β : Bu} (R : PoRep w pb K β) :
    w.cell? ⟨pb, 0, none⟩ = some (.pointer (some ⟨K.L.sb, 0, none⟩)) ∧ w.cell? ⟨pb, 1, none⟩ = some (.pointer (some ⟨K.M.mb, 0, none⟩)) ∧ w.cell? ⟨pb, 2, none⟩ = some (.pointer (some ⟨K.bb, 0, none⟩)) :=
  ⟨R.blk.cell 0, R.blk.cell 1, R.blk.cell 2⟩

theorem PoRep.space_ {w : World} {pb : Nat} {K : BuL} {β : Bu} (R : PoRep w pb K β) :
    Calls Tryz.prog 60 #[.pointer (some ⟨pb, 0, none⟩)] w fun e w' => e = .returned (.pointer (some ⟨K.L.sb, 0, none⟩)) ∧ w = w' := by
  obtain ⟨c0, -, -⟩ := R.cells
  clear R
  go_enter Tryz.func60, Tryz.ntmps60
  go_wp2
  go_ret
  exact ⟨rfl, rfl⟩

theorem PoRep.map_ {w : World} {pb : Nat} {K : BuL} {β : Bu} (R : PoRep w pb K β) :
    Calls Tryz.prog 63 #[.pointer (some ⟨pb, 0, none⟩)] w fun e w' => e = .returned (.pointer (some ⟨K.M.mb, 0, none⟩)) ∧ w = w' := by
  obtain ⟨-, c1, -⟩ := R.cells
  clear R
  go_enter Tryz.func63, Tryz.ntmps63
  go_wp2
  go_ret
  exact ⟨rfl, rfl⟩

theorem PoRep.buddy_ {w : World} {pb : Nat} {K : BuL} {β : Bu} (R : PoRep w pb K β) :
    Calls Tryz.prog 136 #[.pointer (some ⟨pb, 0, none⟩)] w fun e w' => e = .returned (.pointer (some ⟨K.bb, 0, none⟩)) ∧ w = w' := by
  obtain ⟨-, -, c2⟩ := R.cells
  clear R
  go_enter Tryz.func136, Tryz.ntmps136
  go_wp2
  go_ret
  exact ⟨rfl, rfl⟩

end Go.Proofs.YtnjcmcnjgdjbiaaGreatDoor

namespace Go.Proofs.YtnjcmcnjgdjbiaaGreatDoor
open Go.RowKit

/-- a new buddy's numbers -/
def Bu.fresh (base limit order : Nat) : Bu := ⟨Sp.fresh base limit order, newMp order, List.replicate (order + 1) 0⟩

theorem mod_4096 {base p : Nat} (h : base % (4096 * p) = 0) : base % 4096 = 0 := by
  obtain ⟨k, hk⟩ := Nat.dvd_of_mod_eq_zero h
  rw [hk, Nat.mul_assoc]
  exact Nat.mul_mod_right _ _

theorem freshBu_ok {base limit order : Nat} (h : mayB base limit order = true) : (Bu.fresh base limit order).ok := by
  unfold mayB at h
  rw [decide_eq_true_iff] at h
  obtain ⟨h1, h2, h3, h4, h5, h6, h7, h8, h9⟩ := h
  refine ⟨rfl, by simp [Bu.fresh, newMp], rfl, ?_, ?_, Nat.zero_le _, Nat.zero_le _, fun x hx => ?_⟩
  · show limit ≤ 64; omega
  · show base % 4096 = 0
    have : (order : Int).toNat = order := by simp
    rw [this] at h7
    exact mod_4096 h7
  · rw [List.eq_of_mem_replicate hx]; decide

theorem fresh_bu {w w1 w2 wr : World} {base limit order sb bb : Nat} {M : MpL} {tv : Value} {lbs : List Nat} (h : mayB base limit order = true)
    (hs : w.heap.size ≤ sb) (R1 : SpRep w1 ⟨sb, .slice none 0 0, []⟩ (Sp.fresh base limit order)) (T1 : Touch Nothing w w1)
    (R2 : MpRep w2 M (newMp order)) (T2 : Touch Nothing w1 w2) (F2 : ∀ k ∈ M.fp, w1.heap.size ≤ k)
    (R3 : OpenRel w2 bb sb M.mb base limit order (order + 1) tv lbs wr) :
    BuRep wr ⟨bb, tv, lbs, ⟨sb, .slice none 0 0, []⟩, M⟩ (Bu.fresh base limit order) ∧ ∀ k ∈ (⟨bb, tv, lbs, ⟨sb, .slice none 0 0, []⟩, M⟩ : BuL).fp, w.heap.size ≤ k := by
  have l1 := R1.lt
  have l2 := R2.lt
  have hsb : sb < w1.heap.size := R1.blk.lt
  have hl : lbs.length = order + 1 := by have := R3.row.1; simpa using this
  have s12 := T2.size
  have s01 := T1.size
  have hown : ∀ k ∈ (⟨bb, tv, lbs, ⟨sb, .slice none 0 0, []⟩, M⟩ : BuL).own, w2.heap.size ≤ k := R3.fresh
  refine ⟨⟨R3.blk, ?_, ?_, (R1.touch0 T2).touch0 R3.touch, R2.touch0 R3.touch, ?_, freshBu_ok h⟩, ?_⟩
  · have := R3.row
    simpa [Bu.fresh] using this
  · intro i b hh hb hhd
    have : hh = 0 := by
      simp only [Bu.fresh, List.getElem?_replicate] at hhd
      split at hhd
      · exact (Option.some.inj hhd).symm
      · cases hhd
    rw [this]
    exact R3.each b (List.mem_of_getElem? hb)
  · unfold BuL.fp
    rw [List.nodup_append]
    refine ⟨R3.apart, ?_, ?_⟩
    · rw [List.nodup_append]
      refine ⟨R1.fp_nodup, R2.apart, ?_⟩
      intro a ha b hb e
      have := l1 a ha
      have := F2 b hb
      omega
    · intro a ha b hb e
      have := hown a ha
      rcases List.mem_append.1 hb with hb | hb
      · have := l1 b hb; omega
      · have := l2 b hb; omega
  · intro k hk
    rcases List.mem_append.1 hk with hk | hk
    · have := hown k hk; omega
    · rcases List.mem_append.1 hk with hk | hk
      · simp [SpL.fp, Value.ownBlock] at hk; omega
      · have := F2 k hk; omega

def NewPool (w : World) (base limit order : Nat) (e : Ending) (w' : World) : Prop :=
  ∃ pb K, e = .returned (.tuple #[.pointer (some ⟨pb, 0, none⟩), .int .i64 0]) ∧ PoRep w' pb K (Bu.fresh base limit order) ∧ Touch Nothing w w' ∧ ∀ k ∈ pb :: K.fp, w.heap.size ≤ k

theorem newPool_no (base : Nat) (limit order : Int) (w : World) (hb : base < 18446744073709551616) (h : mayB base limit order = false) :
    Calls Tryz.prog 35 #[cfgV base limit order] w fun e w' => e = .returned (.tuple #[.pointer none, .int .i64 1]) ∧ Touch Nothing w w' := by
  have HM := Lib.hid (fun w => new_no base limit order w hb h)
  have T0 := Lib.hid (show Touch Nothing w (w.alloc (.cells #[.int .u64 base, .int .i64 limit, .int .i64 order] 51)) from (Touch.refl _ _).alloc _)
  unfold cfgV at *
  go_enter Tryz.func35, Tryz.ntmps35
  go_wp2_with fail
  refine (HM.out _).mono ?_
  rintro e w1 ⟨rfl, T1⟩
  have HT1 := Lib.hid T1
  clear T1
  go_wp2_with fail
  go_ret2
  exact ⟨rfl, T0.out.trans HT1.out⟩

set_option maxRecDepth 100000 in
theorem newPool_yes (base limit order : Nat) (w : World) (hb : base < 18446744073709551616) (h : mayB base limit order = true) (ho : order ≤ 8) :
    Calls Tryz.prog 35 #[cfgV base limit order] w (NewPool w base limit order) := by
  have HM := Lib.hid (fun w => new_yes base limit order w hb h)
  have HN := Lib.hid (fun w => newMp_ order ho w)
  have HB := Lib.hid (fun sb mb w => newBu_ sb mb base limit order w ho)
  have HH := Lib.hid h
  have T0 := Lib.hid (show Touch Nothing w (w.alloc (.cells #[.int .u64 base, .int .i64 limit, .int .i64 order] 51)) from (Touch.refl _ _).alloc _)
  have B0 := Lib.hid (Blk.new w #[.int .u64 base, .int .i64 limit, .int .i64 order] 51)
  have hsz : w.heap.size < (w.alloc (.cells #[.int .u64 base, .int .i64 limit, .int .i64 order] 51)).heap.size := by simp
  unfold cfgV at *
  clear h hb
  go_enter Tryz.func35, Tryz.ntmps35
  go_wp2_with fail
  generalize w.alloc (.cells #[.int .u64 base, .int .i64 limit, .int .i64 order] 51) = w0 at *
  refine (HM.out _).mono ?_
  rintro e w1 ⟨sb, rfl, hsb, R1, T1⟩
  have HR1 := Lib.hid R1
  have HT1 := Lib.hid T1
  have B1 := Lib.hid (B0.out.touch T1 (fun h => h))
  have c0 := B1.out.cell 2
  simp at c0
  have HS := Lib.hid hsb
  clear R1 T1 hsb
  go_wp2_with fail
  refine (HN.out _).mono ?_
  rintro e w2 ⟨M, rfl, R2, T2, F2⟩
  have HR2 := Lib.hid R2
  have HT2 := Lib.hid T2
  have HF2 := Lib.hid F2
  have b2 := (B1.out.touch T2 (fun h => h))
  have d0 := b2.cell 0
  have d1 := b2.cell 1
  have d2 := b2.cell 2
  simp at d0 d1 d2
  clear R2 T2 F2 c0 b2
  go_wp2_with fail
  refine (HB.out _ _ _).mono ?_
  rintro e w3 ⟨bb, tv, lbs, rfl, R3⟩
  have HR3 := Lib.hid R3
  clear R3
  go_wp2_with fail
  go_ret2
  have hb := fresh_bu HH.out HS.out HR1.out HT1.out HR2.out HT2.out HF2.out HR3.out
  have s0 := T0.out.size
  have s1 := HT1.out.size
  have s2 := HT2.out.size
  have s3 := HR3.out.touch.size
  have TT := (((T0.out.trans HT1.out).trans HT2.out).trans HR3.out.touch).alloc (.cells #[.pointer (some ⟨sb, 0, none⟩), .pointer (some ⟨M.mb, 0, none⟩), .pointer (some ⟨bb, 0, none⟩)] 122)
  refine ⟨_, _, rfl, ⟨?_, hb.1.touch0 ((Touch.refl Nothing w3).alloc _), fun hk => ?_⟩, TT, ?_⟩
  · exact Blk.new w3 _ 122
  · have := hb.1.lt _ hk; omega
  · intro k hk
    rcases List.mem_cons.1 hk with rfl | hk
    · omega
    · have := hb.2 k hk; omega

end Go.Proofs.YtnjcmcnjgdjbiaaGreatDoor

namespace Go.Proofs.YtnjcmcnjgdjbiaaGreatDoor
open Go.RowKit

theorem runL_get (ps : List Pg) (j : Nat) (kind order : Int) : ∀ (k i : Nat), i < k → j + i < ps.length → (runL ps j kind order k)[j + i]? = some (runPg kind order i)
  | 0, i, h, _ => by omega
  | k + 1, i, h, hl => by
    unfold runL
    by_cases e : i = k
    · subst e
      rw [List.getElem?_set_self (by rw [runL_len]; exact hl)]
    · rw [List.getElem?_set_ne (by omega)]
      exact runL_get ps j kind order k i (by omega) hl

theorem runL_far (ps : List Pg) (j : Nat) (kind order : Int) : ∀ (k i : Nat), (i < j ∨ j + k ≤ i) → (runL ps j kind order k)[i]? = ps[i]?
  | 0, i, _ => rfl
  | k + 1, i, h => by
    unfold runL
    rw [List.getElem?_set_ne (by omega)]
    exact runL_far ps j kind order k i (by omega)

theorem Mp.paired_pages (μ : Mp) : μ.paired.pages = μ.pages ∧ μ.paired.order = μ.order := ⟨(Mp.pairedK_pages μ _).1, (Mp.pairedK_pages μ _).2.1⟩

theorem Mp.grow_len (μ : Mp) : μ.grow.pages.length = μ.pages.length + 2 ^ μ.order := by
  unfold Mp.grow Mp.run Mp.runK
  simp only [runL_len, (Mp.paired_pages μ.more).1]
  simp [Mp.more]

theorem Mp.grow_order (μ : Mp) : μ.grow.order = μ.order := by
  show μ.more.paired.order = _
  rw [(Mp.paired_pages μ.more).2]
  rfl

theorem Mp.grow_first (μ : Mp) : μ.grow.pages[μ.pages.length]? = some (plainPg 2 μ.order) := by
  unfold Mp.grow Mp.run Mp.runK
  have hp : 0 < 2 ^ μ.order := Nat.pos_of_ne_zero (by simp)
  have := runL_get μ.more.paired.pages μ.pages.length 2 μ.order (2 ^ μ.order) 0 hp (by rw [(Mp.paired_pages μ.more).1]; simp [Mp.more]; exact hp)
  simpa [runPg] using this

/-- a buddy behind a region that was fed -/
def Bu.fed (β : Bu) : Bu := Bu.enter { β with σ := β.σ.grow, μ := β.μ.grow } β.μ.pages.length β.μ.order

/-- what Need may turn -/
def Needed (w : World) (pb : Nat) (K : BuL) (β' : Bu) (v : Value) (e : Ending) (w' : World) : Prop :=
  e = .returned v ∧ ∃ K', PoRep w' pb K' β' ∧ K.Next w K' ∧ Touch (· ∈ K.fp) w w'

set_option maxRecDepth 100000 in
theorem PoRep.need_old {w : World} {pb : Nat} {K : BuL} {β : Bu} (R : PoRep w pb K β) (i j o next : Nat) (deny : Bool) (C : TakeOk β i j o next) :
    Calls Tryz.prog 193 #[.pointer (some ⟨pb, 0, none⟩), .int .i64 o, .bool deny] w (Needed w pb K (β.took i j o next) (.tuple #[.int .u64 (β.addr i : Nat), .bool false, .int .i64 0])) := by
  obtain ⟨-, -, c2⟩ := R.cells
  have HT := Lib.hid (R.bu.take_some i j o next C)
  have HR := Lib.hid R
  clear R C
  go_enter Tryz.func193, Tryz.ntmps193
  go_wp2_with fail
  refine HT.out.mono ?_
  rintro e w1 ⟨rfl, R1, T1⟩
  have HR1 := Lib.hid R1
  have HT1 := Lib.hid T1
  clear R1 T1
  go_wp2_with fail
  go_ret3
  exact ⟨rfl, K, HR.out.next HT1.out (BuL.Next.refl _ _) HR1.out, BuL.Next.refl _ _, HT1.out⟩

set_option maxRecDepth 100000 in
theorem PoRep.need_no {w : World} {pb : Nat} {K : BuL} {β : Bu} (R : PoRep w pb K β) (o : Nat) (deny : Bool) (ho : o ≤ β.μ.order) (hh : ∀ k, o ≤ k → k ≤ β.μ.order → β.heads.getD k 0 = 0) (h : deny = true ∨ β.σ.n = β.σ.limit) :
    Calls Tryz.prog 193 #[.pointer (some ⟨pb, 0, none⟩), .int .i64 o, .bool deny] w fun e w' => e = .returned (.tuple #[.int .u64 0, .bool false, .int .i64 2]) ∧ Touch Nothing w w' := by
  obtain ⟨c0, -, c2⟩ := R.cells
  have HT := Lib.hid (R.bu.take_none o ho hh)
  have HC := Lib.hid (R.bu.sp.commit_no deny h)
  clear R hh h
  go_enter Tryz.func193, Tryz.ntmps193
  go_wp2_with fail
  refine HT.out.mono ?_
  rintro e w1 ⟨rfl, rfl⟩
  go_wp2_with fail
  refine HC.out.mono ?_
  rintro e w1 ⟨rfl, k, rfl⟩
  go_wp2_with fail
  go_ret3
  exact ⟨rfl, (Touch.refl Nothing w).drewN k⟩

theorem Bu.fed_parts (β : Bu) : β.fed.σ.base = β.σ.base ∧ β.fed.heads = β.heads.set β.μ.order (β.addr β.μ.pages.length) := ⟨(pushed_same _ _ _).1, rfl⟩

set_option maxRecDepth 100000 in
set_option maxHeartbeats 1000000 in
theorem PoRep.need_new {w : World} {pb : Nat} {K : BuL} {β : Bu} (R : PoRep w pb K β) (o next i j : Nat) (ho : o ≤ β.μ.order) (hh : ∀ k, o ≤ k → k ≤ β.μ.order → β.heads.getD k 0 = 0) (h : β.σ.n < β.σ.limit)
    (hl : β.μ.pages.length = β.σ.n * 2 ^ β.μ.order) (hmax : β.μ.pages.length + 2 ^ β.μ.order ≤ 1024) (C : TakeOk β.fed i j o next) :
    Calls Tryz.prog 193 #[.pointer (some ⟨pb, 0, none⟩), .int .i64 o, .bool false] w (Needed w pb K (β.fed.took i j o next) (.tuple #[.int .u64 (β.fed.addr i : Nat), .bool true, .int .i64 0])) := by
  obtain ⟨c0, c1, c2⟩ := R.cells
  have HT := Lib.hid (R.bu.take_none o ho hh)
  have ok := R.bu.ok
  have hlim := ok.limit
  have HC := Lib.hid (R.bu.sp.commit_yes h hlim)
  have HR := Lib.hid R
  have hd : β.μ.pages.length % 2 ^ β.μ.order = 0 := by rw [hl]; exact Nat.mul_mod_left _ _
  have hp64 : β.μ.grow.pages.length ≤ 64 * 2 ^ β.μ.order := by
    rw [Mp.grow_len, hl, ← Nat.succ_mul]
    exact Nat.mul_le_mul_right _ (by omega)
  have hpn : β.μ.grow.pages.length ≤ (β.σ.n + 1) * 2 ^ β.μ.order := by
    rw [Mp.grow_len, hl, ← Nat.succ_mul]
    exact Nat.le_refl _
  have hpeq : β.μ.grow.pages.length = (β.σ.n + 1) * 2 ^ β.μ.order := by
    rw [Mp.grow_len, hl, ← Nat.succ_mul]
  have hj : (β.μ.pages.length : Int).tmod (2 ^ β.μ.order : Nat) = 0 := by
    rw [← Int.ofNat_tmod, hd]; rfl
  have HX := Lib.hid (And.intro hp64 (And.intro hpn (And.intro hpeq (And.intro hj (And.intro hmax hd)))))
  have H0 := Lib.hid (hh β.μ.order ho (Nat.le_refl _))
  have HCo := Lib.hid C
  clear R hh h hl hmax C ok hlim hd hp64 hpn hpeq hj
  go_enter Tryz.func193, Tryz.ntmps193
  go_wp2_with fail
  refine HT.out.mono ?_
  rintro e w1 ⟨rfl, rfl⟩
  go_wp2_with fail
  refine HC.out.mono ?_
  rintro e w1 G1
  obtain ⟨rfl, K1, R1, N1, T1⟩ := HR.out.bu.committed G1
  have P1 := HR.out.next T1 N1 R1
  obtain ⟨-, d1, -⟩ := P1.cells
  have HG := Lib.hid (R1.mp.grow_ HX.out.2.2.2.2.1 HX.out.2.2.2.2.2)
  have HP1 := Lib.hid P1
  have HR1 := Lib.hid R1
  have HN1 := Lib.hid N1
  have HT1 := Lib.hid T1
  clear G1 P1 R1 N1 T1 c0 c1 c2
  go_wp2_with fail
  refine HG.out.mono ?_
  rintro e w2 ⟨M2, rfl, G2⟩
  obtain ⟨K2, R2, N2, T2⟩ := HR1.out.grown G2 (Mp.grow_order _) HX.out.1 HX.out.2.1
  have P2 := HP1.out.next T2 N2 R2
  obtain ⟨-, -, d2⟩ := P2.cells
  have hF := R2.feed_ β.μ.pages.length (p := plainPg 2 β.μ.order) (Nat.succ_pos _) (by rw [show (⟨β.σ.grow, β.μ.grow, β.heads⟩ : Bu).μ = β.μ.grow from rfl, Mp.grow_order]; exact HX.out.2.2.1)
    (by show _ = β.μ.grow.pages.length - 2 ^ β.μ.grow.order; rw [Mp.grow_order, Mp.grow_len]; omega) (Mp.grow_first _) rfl (by show (β.μ.order : Int) = (β.μ.grow.order : Nat); rw [Mp.grow_order]) (by show (β.μ.pages.length : Int).tmod (2 ^ β.μ.grow.order : Nat) = 0; rw [Mp.grow_order]; exact HX.out.2.2.2.1)
    (fun hne => absurd (by show β.heads.getD β.μ.grow.order 0 = 0; rw [Mp.grow_order]; exact H0.out) hne)
  have hfe : Bu.enter ⟨β.σ.grow, β.μ.grow, β.heads⟩ β.μ.pages.length β.μ.grow.order = β.fed := by rw [Mp.grow_order]; rfl
  have HF := Lib.hid (show Calls Tryz.prog 250 #[.pointer (some ⟨K2.bb, 0, none⟩)] w2 (Turned w2 K2 β.fed (.int .i64 0)) by rw [← hfe]; exact hF)
  have HP2 := Lib.hid P2
  have HN2 := Lib.hid N2
  have HT2 := Lib.hid T2
  clear G2 P2 R2 N2 T2 d1 hF hfe
  go_wp2_with fail
  refine HF.out.mono ?_
  rintro e w3 ⟨rfl, R3, T3⟩
  have P3 := HP2.out.next T3 (BuL.Next.refl _ _) R3
  obtain ⟨-, -, d3⟩ := P3.cells
  have HK := Lib.hid (R3.take_some i j o next HCo.out)
  have HP3 := Lib.hid P3
  have HT3 := Lib.hid T3
  clear R3 P3 T3 d2
  go_wp2_with fail
  refine HK.out.mono ?_
  rintro e w4 ⟨rfl, R4, T4⟩
  have P4 := HP3.out.next T4 (BuL.Next.refl _ _) R4
  have HP4 := Lib.hid P4
  have HT4 := Lib.hid T4
  clear R4 P4 T4 d3
  go_wp2_with fail
  go_ret3
  have s1 := HT1.out.size
  have N := HN1.out.trans HN2.out s1
  exact ⟨rfl, K2, HP4.out, N, (((HT1.out.next HN1.out HT2.out).next N HT3.out)).next N HT4.out⟩

end Go.Proofs.YtnjcmcnjgdjbiaaGreatDoor

