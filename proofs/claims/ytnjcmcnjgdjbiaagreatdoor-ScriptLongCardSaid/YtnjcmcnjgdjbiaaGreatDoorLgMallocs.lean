/- Slab's Take, malloc's take, round and malloc under the heap's invariant. Conditions: the invariant. -/
import Derived.Test.YtnjcmcnjgdjbiaaGreatDoorLgCells
import Derived.Test.YtnjcmcnjgdjbiaaGreatDoorLgHeap
namespace Go.Proofs.YtnjcmcnjgdjbiaaGreatDoor
open Go.RowKit

theorem take_same (p : Pg) (f : Nat) (n : Int) : (p.take f n).kind = p.kind ∧ (p.take f n).order = p.order ∧ (p.take f n).cls = p.cls ∧ (p.take f n).next = p.next ∧ (p.take f n).prev = p.prev := by
  obtain ⟨s1, s2, s3, s4, s5, s6⟩ := own_same p f true
  exact ⟨s1, s2, s3, s4, s5⟩

theorem Nums.pages' {β : Bu} {μ' : Mp} (N : Nums β) (ho : μ'.order = β.μ.order) (hl : μ'.pages.length = β.μ.pages.length) : Nums { β with μ := μ' } := by
  refine ⟨?_, ?_, N.le, ?_, ?_, ?_, ?_⟩
  · show μ'.pages.length = β.σ.n * 2 ^ μ'.order; rw [ho, hl]; exact N.full
  · show _ = 4096 * 2 ^ μ'.order; rw [ho]; exact N.size
  · show _ * 2 ^ μ'.order ≤ _; rw [ho]; exact N.pages
  · show _ + 4096 * (_ * 2 ^ μ'.order) ≤ _; rw [ho]; exact N.top
  · show _ = μ'.order; rw [ho]; exact N.so
  · show _ % (4096 * 2 ^ μ'.order) = _; rw [ho]; exact N.al

/-- a slab page turned in place, its neighbours' links with it: the buddy does not mind -/
theorem BInv.slabs {β : Bu} {F : Nat → List Nat} (I : BInv β F NoHole) {μ' : Mp} (ho : μ'.order = β.μ.order) (hp : μ'.pairs = β.μ.pairs) (hl : μ'.pages.length = β.μ.pages.length)
    (hpg : ∀ (x : Nat) (q : Pg), β.μ.pages[x]? = some q → ∃ q' : Pg, μ'.pages[x]? = some q' ∧ (q.kind = 4 ∧ q'.kind = 4 ∧ q'.order = 0 ∨ q.kind ≠ 4 ∧ q' = q)) : BInv { β with μ := μ' } F NoHole := by
  -- all slab pages in hand, then put back
  have hsl : ∀ x, (∃ q, β.μ.pages[x]? = some q ∧ q.kind = 4) → x < β.μ.pages.length := fun x ⟨q, hq, _⟩ => (List.getElem?_eq_some_iff.1 hq).1
  have hkd : ∀ {kd : Int} {k j : Nat}, (runPg kd k j).kind = 4 → kd = 4 ∨ kd = 3 := by
    intro kd k j h
    simp only [runPg, plainPg] at h
    split at h <;> omega
  have I1 : BInv β F (fun x => ∃ q, β.μ.pages[x]? = some q ∧ q.kind = 4) := by
    refine I.open_ (fun x h => h.elim) hsl (fun k hk i hi x ⟨q, hq, h4⟩ hx => ?_) (fun a k hk hb _ y ⟨q, hq, h4⟩ hy => ?_)
    · have e := Option.some.inj (hq.symm.trans ((I.free k hk i hi).page hx))
      rw [e] at h4
      have := hkd h4
      omega
    · have e := Option.some.inj (hq.symm.trans (hb.page hy))
      rw [e] at h4
      have := hkd h4
      omega
  refine I1.pages ho hp hl (fun x h => h.elim) (fun x hx => ?_) (fun x ⟨q, hq, h4⟩ _ => ?_)
  · cases h : β.μ.pages[x]? with
    | none => rw [List.getElem?_eq_none_iff] at h ⊢; omega
    | some q =>
      obtain ⟨q', hq', hs⟩ := hpg x q h
      rcases hs with ⟨h4, _⟩ | ⟨_, e⟩
      · exact (hx ⟨q, h, h4⟩).elim
      · rw [hq', e]
  · obtain ⟨q', hq', hs⟩ := hpg x q hq
    rcases hs with ⟨_, h4', h0⟩ | ⟨h4', _⟩
    · exact .inr ⟨q', hq', h4', h0⟩
    · exact (h4' h4).elim

/-- what Take of a class tells -/
structure CellTook (β : Bu) (ps : List Int) (F L : Nat → List Nat) (c : Nat) (β' : Bu) (p : Nat) : Prop where
  more : More β β' p (wdOf c)
  at_ : ∃ i x, i < β'.μ.pages.length ∧ x < cellsN c ∧ p = β.addr i + x * wdOf c
  grew : (β'.σ.n = β.σ.n ∧ (L c ≠ [] ∨ ∃ k, k ≤ β.μ.order ∧ F k ≠ [])) ∨ (β'.σ.n = β.σ.n + 1 ∧ β.σ.n < β.σ.limit ∧ L c = [] ∧ ∀ k, k ≤ β.μ.order → F k = [])

theorem HS.takeCell {β : Bu} {ps : List Int} {F C L : Nat → List Nat} (I : HS β ps F C L) (c : Nat) (deny : Bool) (hc : c < 8) :
    (∃ β' ps' F' C' L' p g, HS β' ps' F' C' L' ∧ CellTook β ps F L c β' p ∧ (deny = true → β'.σ.n = β.σ.n) ∧
      ∀ (w : World) (s pb : Nat) (K : BuL), SlRep w s pb K β ps → Glob w → (∀ k ∈ s :: pb :: K.fp, 9 ≤ k) → Calls Tryz.prog 191 #[.pointer (some ⟨s, 0, none⟩), .int .i64 c, .bool deny] w (Taken w s pb K β' ps' (.tuple #[.int .u64 (p : Nat), .bool g, .int .i64 0]))) ∨
    (L c = [] ∧ (∀ k, k ≤ β.μ.order → F k = []) ∧ (deny = true ∨ β.σ.n = β.σ.limit) ∧
      ∀ (w : World) (s pb : Nat) (K : BuL), SlRep w s pb K β ps → Calls Tryz.prog 191 #[.pointer (some ⟨s, 0, none⟩), .int .i64 c, .bool deny] w (Taken w s pb K β ps (.tuple #[.int .u64 0, .bool false, .int .i64 2]))) := by
  have hh := (I.slab.lists c hc).head
  cases hL : L c with
  | nil =>
    rw [hL] at hh
    have he : ps.getD c 0 = -1 := hh
    rcases I.need 0 deny (Nat.zero_le _) with ⟨i, β1, F1, g, N, hdn, HC⟩ | ⟨hno, hd, HC⟩
    · left
      obtain ⟨H, M, hn⟩ := I.newCell hc he N
      have hpi := N.blk.page (inb_self i 0)
      refine ⟨β1.newCell i c, _, _, _, _, β1.addr i, g, H, ⟨M, ⟨i, 0, ?_, by have := wd_facts hc; omega, ?_⟩, ?_⟩, fun h => hn.trans (hdn h), ?_⟩
      · rw [newCell_eq]
        show i < (β1.μ.pages.set _ _).length
        rw [List.length_set]
        exact (List.getElem?_eq_some_iff.1 hpi).1
      · unfold Bu.addr
        rw [N.kept.base]
        omega
      · rw [hn]
        rcases N.grew with ⟨h1, k, _, h2, h3⟩ | ⟨h1, h2, h3⟩
        · exact .inl ⟨h1, .inr ⟨k, h2, h3⟩⟩
        · exact .inr ⟨h1, h2, hL, fun k hk => h3 k (Nat.zero_le _) hk⟩
      · intro w s pb K R G far
        exact R.take_page G far c i g deny hc he (HC w pb K R.po) hpi N.nums.full
    · right
      exact ⟨rfl, fun k hk => hno k (Nat.zero_le _) hk, hd, fun w s pb K R => R.take_none c deny hc he (HC w pb K R.po)⟩
  | cons i t =>
    left
    rw [hL] at hh
    have he : ps.getD c 0 = (i : Int) := hh
    have him : i ∈ L c := by rw [hL]; simp
    obtain ⟨p, hp, h4, hcl, hne⟩ := I.slab.cls_of hc him
    have hcn : p.cls.toNat = c := by rw [hcl]; rfl
    have hlt := (List.getElem?_eq_some_iff.1 hp).1
    have D := I.slab.pages i p hp h4
    have hle := (wdOf_cells p.cls D.cls).2.2.2.2
    obtain ⟨f, u, hC⟩ := List.exists_cons_of_ne_nil hne
    rw [hC] at D
    have hfm := (D.mem f).1 (by simp)
    rw [hcl] at hfm
    have hf256 := (D.lt (f := f) (by simp)).2
    have hlv : 0 ≤ p.live + 1 ∧ p.live + 1 ≤ 256 := by
      have h1 := D.live
      have h2 := D.some_
      simp only [List.length_cons] at h1
      omega
    have hch := D.chain
    rw [hcn] at hch
    have D' := D.take
    obtain ⟨q1, q2, q3, q4, q5⟩ := take_same p f (hdI u)
    have hbit : ∀ x, x < 256 → (p.take f (hdI u)).bit x = (p.bit x != decide (x = f)) := fun x hx => own_bit p f x true hf256 hx
    have hset : (β.μ.setPage i (p.take f (hdI u))).pages[i]? = some (p.take f (hdI u)) := List.getElem?_set_self hlt
    have hnei : ∀ x, x ≠ i → (β.μ.setPage i (p.take f (hdI u))).pages[x]? = β.μ.pages[x]? := fun x h => List.getElem?_set_ne (fun e => h e.symm)
    have hgrew : (β.σ.n = β.σ.n ∧ (i :: t ≠ [] ∨ ∃ k, k ≤ β.μ.order ∧ F k ≠ [])) ∨ (β.σ.n = β.σ.n + 1 ∧ β.σ.n < β.σ.limit ∧ i :: t = [] ∧ ∀ k, k ≤ β.μ.order → F k = []) := .inl ⟨rfl, .inl (by simp)⟩
    cases u with
    | nil =>
      -- the page is full from now on
      obtain ⟨nb1, nb2, nb3⟩ := I.slab.nb hc him hp
      have hU := unhung_get (β.μ.setPage i (p.take f (-1))) i (p.take f (-1))
      have hpi : (p.take f (-1)).prev ≠ i ∧ (p.take f (-1)).next ≠ i := by
        rw [(take_same p f (-1)).2.2.2.2, (take_same p f (-1)).2.2.2.1]
        constructor
        · rcases nb1 with h | ⟨j, q, e, hji, _⟩ <;> omega
        · rcases nb2 with h | ⟨j, q, e, hji, _⟩ <;> omega
      have hU' := fun x => hU x hpi.1 hpi.2
      obtain ⟨us1, us2, us3⟩ := unhung_same (β.μ.setPage i (p.take f (-1))) i (p.take f (-1))
      have hlen : ((β.μ.setPage i (p.take f (-1))).unhung i (p.take f (-1))).pages.length = β.μ.pages.length := us3.trans (List.length_set ..)
      have hUi := hU' i
      rw [show (β.μ.setPage i (p.take f (-1))).pages[i]? = some (p.take f (-1)) from hset] at hUi
      have hpgx : ∀ x, x ≠ i → ∀ q, β.μ.pages[x]? = some q → ∃ q', ((β.μ.setPage i (p.take f (-1))).unhung i (p.take f (-1))).pages[x]? = some q' ∧ (q.kind = 4 ∧ SameBut q' q ∨ q.kind ≠ 4 ∧ q' = q) := by
        intro x hx q hq
        rw [hU' x, show (β.μ.setPage i (p.take f (-1))).pages[x]? = β.μ.pages[x]? from hnei x hx, hq]
        refine ⟨_, rfl, ?_⟩
        by_cases hk : q.kind = 4
        · exact .inl ⟨hk, sameBut_mk q _ _⟩
        · refine .inr ⟨hk, ?_⟩
          have n1 : ¬ ((x : Int) = (p.take f (-1)).prev) := by
            rw [(take_same p f (-1)).2.2.2.2]
            intro e
            rcases nb1 with h | ⟨j, q2, e2, _, hq2, hk2, _⟩
            · omega
            · have : j = x := by omega
              subst this
              obtain rfl : q = q2 := Option.some.inj (hq.symm.trans hq2)
              exact hk hk2
          have n2 : ¬ ((x : Int) = (p.take f (-1)).next) := by
            rw [(take_same p f (-1)).2.2.2.1]
            intro e
            rcases nb2 with h | ⟨j, q2, e2, _, hq2, hk2, _⟩
            · omega
            · have : j = x := by omega
              subst this
              obtain rfl : q = q2 := Option.some.inj (hq.symm.trans hq2)
              exact hk hk2
          simp only [if_neg hx, if_neg n1, if_neg n2]
      have S' := I.slab.unhang (β' := { β with μ := (β.μ.setPage i (p.take f (-1))).unhung i (p.take f (-1)) }) (p' := p.take f (-1)) hc him hp ⟨(take_same p f (-1)).2.2.2.1, (take_same p f (-1)).2.2.2.2⟩ rfl (fun _ _ _ _ _ _ _ => rfl) (fun x _ => rfl) (fun q hq h4q => by
        have hq : ((β.μ.setPage i (p.take f (-1))).unhung i (p.take f (-1))).pages[i]? = some q := hq
        rw [hUi] at hq
        have e := Option.some.inj hq
        rw [← e]
        exact ((sameBut_mk (p.take f (-1)) _ _).cells D').1)
      refine ⟨{ β with μ := (β.μ.setPage i (p.take f (-1))).unhung i (p.take f (-1)) }, unps ps c (p.take f (-1)), F, _, _, β.addr i + f * wdOf c, false, ⟨?_, S', I.nums.pages' us1 hlen⟩, ⟨?_, ⟨i, f, by show i < ((β.μ.setPage i (p.take f (-1))).unhung i (p.take f (-1))).pages.length; rw [hlen]; exact hlt, hfm.1, rfl⟩, by rw [hL]; exact hgrew⟩, fun _ => rfl, ?_⟩
      · refine I.inv.slabs us1 us2 hlen (fun x q hq => ?_)
        by_cases hx : x = i
        · subst hx
          obtain rfl : p = q := Option.some.inj (hp.symm.trans hq)
          exact ⟨_, hUi, .inl ⟨h4, (take_same p f (-1)).1.trans h4, (take_same p f (-1)).2.1.trans D.order⟩⟩
        · obtain ⟨q', hq', hs⟩ := hpgx x hx q hq
          refine ⟨q', hq', ?_⟩
          rcases hs with ⟨hk, hs⟩ | ⟨hk, hs⟩
          · left
            refine ⟨hk, hs.kind.1.trans hk, ?_⟩
            have := (I.slab.pages x q hq hk).order
            unfold SameBut at hs
            rw [hs]
            exact this
          · exact .inr ⟨hk, hs⟩
      · refine more_cell (p' := _) hc hp h4 hcl hfm.1 hfm.2 hUi ((take_same p f (-1)).1.trans h4) ((take_same p f (-1)).2.2.1.trans hcl) hbit us1 rfl (fun j hj => ⟨fun q hq => hpgx j hj q hq, fun q' hq' => ?_⟩)
        have hq' : ((β.μ.setPage i (p.take f (-1))).unhung i (p.take f (-1))).pages[j]? = some q' := hq'
        cases h : β.μ.pages[j]? with
        | none =>
          rw [hU' j, show (β.μ.setPage i (p.take f (-1))).pages[j]? = β.μ.pages[j]? from hnei j hj, h] at hq'
          simp at hq'
        | some q => exact ⟨q, rfl⟩
      · intro w s pb K R G far
        exact R.take_last G c i f deny hc he I.nums.full hp h4 hcl (by rw [D.first]; rfl) hfm.1 hfm.2 hlv hch.1 nb1 nb2 nb3
    | cons f2 u =>
      have hf2 := (D.lt (f := f2) (by simp)).1
      rw [hcl] at hf2
      have S' := I.slab.cell (σ' := β.σ) (p' := p.take f (hdI (f2 :: u))) (u := f2 :: u) hp h4 rfl (q1.trans h4) q3 ⟨q4, q5⟩ (by rw [hC]; simp) D' (fun _ _ _ _ => rfl)
      have hlen : (β.μ.setPage i (p.take f (hdI (f2 :: u)))).pages.length = β.μ.pages.length := List.length_set ..
      refine ⟨{ β with μ := β.μ.setPage i (p.take f (f2 : Int)) }, ps, F, _, L, β.addr i + f * wdOf c, false, ⟨?_, S', I.nums.pages' rfl hlen⟩, ⟨?_, ⟨i, f, by show i < (β.μ.pages.set _ _).length; rw [List.length_set]; exact hlt, hfm.1, rfl⟩, by rw [hL]; exact hgrew⟩, fun _ => rfl, ?_⟩
      · refine I.inv.slabs rfl rfl hlen (fun x q hq => ?_)
        by_cases hx : x = i
        · subst hx
          obtain rfl : p = q := Option.some.inj (hp.symm.trans hq)
          exact ⟨_, hset, .inl ⟨h4, q1.trans h4, q2.trans D.order⟩⟩
        · refine ⟨q, (hnei x hx).trans hq, ?_⟩
          by_cases hk : q.kind = 4
          · exact .inl ⟨hk, hk, (I.slab.pages x q hq hk).order⟩
          · exact .inr ⟨hk, rfl⟩
      · refine more_cell (p' := p.take f (hdI (f2 :: u))) hc hp h4 hcl hfm.1 hfm.2 hset (q1.trans h4) (q3.trans hcl) hbit rfl rfl (fun j hj => ⟨fun q hq => ⟨q, (hnei j hj).trans hq, ?_⟩, fun q' hq' => ⟨q', (hnei j hj).symm.trans hq'⟩⟩)
        by_cases hk : q.kind = 4
        · exact .inl ⟨hk, SameBut.refl _⟩
        · exact .inr ⟨hk, rfl⟩
      · intro w s pb K R G far
        exact R.take_old G c i f f2 deny hc he I.nums.full hp h4 hcl (by rw [D.first]; rfl) hfm.1 hfm.2 hlv hf2 hch.1

end Go.Proofs.YtnjcmcnjgdjbiaaGreatDoor
