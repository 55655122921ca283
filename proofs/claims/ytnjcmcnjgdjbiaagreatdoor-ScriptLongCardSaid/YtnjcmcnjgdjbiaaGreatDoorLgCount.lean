/- Plain law: the list of the live blocks says what is live, each block once, rising. Conditions: the invariant. -/
import Derived.Test.YtnjcmcnjgdjbiaaGreatDoorLgStats
namespace Go.Proofs.YtnjcmcnjgdjbiaaGreatDoor

theorem mem_cellsL (at_ wd : Nat) (p : Pg) (b : Nat × Nat) : ∀ m, b ∈ cellsL at_ wd p m ↔ ∃ x, x < m ∧ p.bit x = true ∧ b = (at_ + x * wd, wd)
  | 0 => by simp [cellsL]
  | m + 1 => by
    unfold cellsL
    rw [List.mem_append, mem_cellsL at_ wd p b m]
    constructor
    · rintro (⟨x, h1, h2⟩ | h)
      · exact ⟨x, by omega, h2⟩
      · split at h
        · next hb => exact ⟨m, by omega, hb, by simpa using h⟩
        · simp at h
    · rintro ⟨x, h1, h2, h3⟩
      by_cases e : x = m
      · subst e
        right
        rw [if_pos h2]
        simp [h3]
      · exact .inl ⟨x, by omega, h2, h3⟩

theorem cellsL_rise (at_ wd : Nat) (p : Pg) (hw : 0 < wd) : ∀ m, (cellsL at_ wd p m).Pairwise (fun a b => a.1 < b.1)
  | 0 => List.Pairwise.nil
  | m + 1 => by
    unfold cellsL
    rw [List.pairwise_append]
    refine ⟨cellsL_rise at_ wd p hw m, by split <;> simp, fun a ha b hb => ?_⟩
    obtain ⟨x, h1, _, h3⟩ := (mem_cellsL at_ wd p a m).1 ha
    split at hb
    · simp at hb
      rw [h3, hb]
      have : (x + 1) * wd ≤ m * wd := Nat.mul_le_mul_right _ h1
      rw [Nat.succ_mul] at this
      show at_ + x * wd < at_ + m * wd
      omega
    · simp at hb

/-- the blocks that begin in page i -/
theorem mem_pageL {β : Bu} {ps : List Int} {F C L : Nat → List Nat} (I : HS β ps F C L) {i : Nat} {p : Pg} (hp : β.μ.pages[i]? = some p) (P S : Nat) :
    (P, S) ∈ pageL (β.addr i) p ↔ (∃ k, k ≤ β.μ.order ∧ BlkAt β.μ.pages i k 2 ∧ P = β.addr i ∧ S = 4096 * 2 ^ k) ∨ ∃ c x, c < 8 ∧ Cell β i c x ∧ P = β.addr i + x * wdOf c ∧ S = wdOf c := by
  have hnc : ∀ {c x}, Cell β i c x → p.kind = 4 ∧ p.cls = (c : Int) ∧ x < cellsN c ∧ p.bit x = true := by
    rintro c x ⟨q, hq, h1, h2, h3, h4⟩
    obtain rfl : p = q := Option.some.inj (hp.symm.trans hq)
    exact ⟨h1, h2, h3, h4⟩
  unfold pageL
  split
  · next h2 =>
    obtain ⟨a, k, hk, hb, hin, ho, _, hx⟩ := I.inv.isLive hp (.inl h2)
    have hxa := hx.1 h2
    subst hxa
    rw [List.mem_singleton, ho]
    constructor
    · intro e
      exact .inl ⟨k, hk, hb, congrArg Prod.fst e, congrArg Prod.snd e⟩
    · rintro (⟨k', hk', hb', rfl, rfl⟩ | ⟨c, x, hc, h, _⟩)
      · have := hb.same hb' (inb_self _ _) (inb_self _ _)
        rw [this.2.1]
        rfl
      · have := (hnc h).1
        omega
  · next h2 =>
    have hno : ∀ k, ¬ BlkAt β.μ.pages i k 2 := by
      intro k hb
      have e := Option.some.inj (hp.symm.trans (hb.page (inb_self _ _)))
      apply h2
      rw [e]
      simp [runPg, plainPg]
    split
    · next h4 =>
      have D := I.slab.pages i p hp h4
      obtain ⟨c, hc⟩ := Int.eq_ofNat_of_zero_le D.cls.1
      have hc : p.cls = (c : Int) := hc
      have hc8 : c < 8 := by have := D.cls.2; omega
      rw [mem_cellsL, hc, Int.toNat_natCast]
      constructor
      · rintro ⟨x, h1, hb, e⟩
        exact .inr ⟨c, x, hc8, ⟨p, hp, h4, hc, h1, hb⟩, congrArg Prod.fst e, congrArg Prod.snd e⟩
      · rintro (⟨k, _, hb, _⟩ | ⟨d, x, hd, h, e1, e2⟩)
        · exact (hno k hb).elim
        · obtain ⟨_, h5, h6, h7⟩ := hnc h
          have : d = c := by omega
          subst this
          exact ⟨x, h6, h7, by rw [e1, e2]⟩
    · next h4 =>
      constructor
      · intro h; simp at h
      · rintro (⟨k, _, hb, _⟩ | ⟨d, x, hd, h, _⟩)
        · exact (hno k hb).elim
        · exact (h4 (hnc h).1).elim

theorem mem_liveL {β : Bu} {ps : List Int} {F C L : Nat → List Nat} (I : HS β ps F C L) (b : Nat × Nat) : ∀ m, m ≤ β.μ.pages.length → (b ∈ liveL β m ↔ ∃ i, i < m ∧ b ∈ pageL (β.addr i) (β.μ.pages.getD i zeroPg))
  | 0, _ => by simp [liveL]
  | m + 1, hm => by
    unfold liveL
    rw [List.mem_append, mem_liveL I b m (by omega)]
    constructor
    · rintro (⟨i, h1, h2⟩ | h)
      · exact ⟨i, by omega, h2⟩
      · exact ⟨m, by omega, h⟩
    · rintro ⟨i, h1, h2⟩
      by_cases e : i = m
      · subst e; exact .inr h2
      · exact .inl ⟨i, by omega, h2⟩

theorem getD_page {β : Bu} {i : Nat} {p : Pg} (h : β.μ.pages[i]? = some p) : β.μ.pages.getD i zeroPg = p := by
  rw [List.getD_eq_getElem?_getD, h]; rfl

/-- the list says what is live -/
theorem HS.mem_live {β : Bu} {ps : List Int} {F C L : Nat → List Nat} (I : HS β ps F C L) (P S : Nat) : (P, S) ∈ liveL β β.μ.pages.length ↔ Live β P S := by
  rw [mem_liveL I _ _ (Nat.le_refl _)]
  constructor
  · rintro ⟨i, hi, h⟩
    have hp : β.μ.pages[i]? = some β.μ.pages[i] := List.getElem?_eq_getElem hi
    rw [getD_page hp] at h
    rcases (mem_pageL I hp P S).1 h with ⟨k, h1, h2, h3, h4⟩ | ⟨c, x, h1, h2, h3, h4⟩
    · exact .inl ⟨i, k, h1, h2, h3, h4⟩
    · exact .inr ⟨i, c, x, h1, h2, h3, h4⟩
  · rintro (⟨a, k, h1, h2, h3, h4⟩ | ⟨i, c, x, h1, h2, h3, h4⟩)
    · have hp := h2.page (inb_self _ _)
      refine ⟨a, (List.getElem?_eq_some_iff.1 hp).1, ?_⟩
      rw [getD_page hp]
      exact (mem_pageL I hp P S).2 (.inl ⟨k, h1, h2, h3, h4⟩)
    · have h2' := h2
      obtain ⟨p, hp, _⟩ := h2
      refine ⟨i, (List.getElem?_eq_some_iff.1 hp).1, ?_⟩
      rw [getD_page hp]
      exact (mem_pageL I hp P S).2 (.inr ⟨c, x, h1, h2', h3, h4⟩)

theorem pageL_in {β : Bu} {ps : List Int} {F C L : Nat → List Nat} (I : HS β ps F C L) {i : Nat} {p : Pg} (hp : β.μ.pages[i]? = some p) : ∀ b ∈ pageL (β.addr i) p, β.addr i ≤ b.1 ∧ b.1 < β.addr i + 4096 := by
  rintro ⟨P, S⟩ hb
  rcases (mem_pageL I hp P S).1 hb with ⟨k, _, _, h, _⟩ | ⟨c, x, hc, ⟨q, _, _, _, hx, _⟩, h, _⟩
  · rw [h]; exact ⟨Nat.le_refl _, Nat.lt_add_of_pos_right (by omega)⟩
  · have := cell_lt hc hx
    have := wdOf_pos hc
    show β.addr i ≤ P ∧ P < β.addr i + 4096
    omega

theorem HS.rise {β : Bu} {ps : List Int} {F C L : Nat → List Nat} (I : HS β ps F C L) : ∀ m, m ≤ β.μ.pages.length → (liveL β m).Pairwise (fun a b => a.1 < b.1)
  | 0, _ => List.Pairwise.nil
  | m + 1, hm => by
    unfold liveL
    have hp : β.μ.pages[m]? = some β.μ.pages[m] := List.getElem?_eq_getElem (by omega)
    rw [List.pairwise_append]
    refine ⟨HS.rise I m (by omega), ?_, fun a ha b hb => ?_⟩
    · rw [getD_page hp]
      unfold pageL
      split
      · simp
      · split
        · next h4 =>
          have D := I.slab.pages m _ hp h4
          exact cellsL_rise _ _ _ (by have := (wdOf_cells _ D.cls).2.1; omega) _
        · simp
    · obtain ⟨i, hi, h⟩ := (mem_liveL I a m (by omega)).1 ha
      have hpi : β.μ.pages[i]? = some β.μ.pages[i] := List.getElem?_eq_getElem (by omega)
      rw [getD_page hpi] at h
      rw [getD_page hp] at hb
      have h1 := pageL_in I hpi a h
      have h2 := pageL_in I hp b hb
      unfold Bu.addr at h1 h2
      omega

theorem HS.nodup {β : Bu} {ps : List Int} {F C L : Nat → List Nat} (I : HS β ps F C L) : (liveL β β.μ.pages.length).Nodup :=
  (I.rise _ (Nat.le_refl _)).imp (fun h e => by rw [e] at h; exact absurd h (Nat.lt_irrefl _))

theorem perm_of_nodup {α : Type} [BEq α] [LawfulBEq α] {l l' : List α} (h : l.Nodup) (h' : l'.Nodup) (hm : ∀ a, a ∈ l ↔ a ∈ l') : l.Perm l' := by
  rw [List.perm_iff_count]
  intro a
  rw [h.count, h'.count]
  simp [hm a]

/-- a block more -/
theorem More.perm {β β' : Bu} {ps ps' : List Int} {F C L F' C' L' : Nat → List Nat} {p r : Nat} (I : HS β ps F C L) (I' : HS β' ps' F' C' L') (M : More β β' p r) :
    (liveL β' β'.μ.pages.length).Perm ((p, r) :: liveL β β.μ.pages.length) := by
  refine perm_of_nodup I'.nodup (List.nodup_cons.2 ⟨fun h => M.new ((I.mem_live p r).1 h), I.nodup⟩) (fun b => ?_)
  obtain ⟨P, S⟩ := b
  rw [I'.mem_live, M.live, List.mem_cons, I.mem_live]
  constructor
  · rintro (h | ⟨rfl, rfl⟩)
    · exact .inr h
    · exact .inl rfl
  · rintro (h | h)
    · exact .inr ⟨congrArg Prod.fst h, congrArg Prod.snd h⟩
    · exact .inl h

theorem cellsL_full (at_ wd : Nat) (p : Pg) : ∀ m, (∀ x, x < m → p.bit x = true) → (cellsL at_ wd p m).length = m
  | 0, _ => rfl
  | m + 1, h => by
    unfold cellsL
    rw [List.length_append, cellsL_full at_ wd p m (fun x hx => h x (by omega)), if_pos (h m (by omega))]
    rfl

end Go.Proofs.YtnjcmcnjgdjbiaaGreatDoor
