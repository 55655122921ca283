/- Plain law: the live blocks of a heap; a block taken. Conditions: the invariant. -/
import Derived.Test.YtnjcmcnjgdjbiaaGreatDoorLgNeeds
namespace Go.Proofs.YtnjcmcnjgdjbiaaGreatDoor

/-- cell x of slab page i, of class c, is live -/
def Cell (β : Bu) (i c x : Nat) : Prop := ∃ p, β.μ.pages[i]? = some p ∧ p.kind = 4 ∧ p.cls = (c : Int) ∧ x < cellsN c ∧ p.bit x = true

/-- S bytes from P on are a live block -/
def Live (β : Bu) (P S : Nat) : Prop :=
  (∃ a k, k ≤ β.μ.order ∧ BlkAt β.μ.pages a k 2 ∧ P = β.addr a ∧ S = 4096 * 2 ^ k) ∨ ∃ i c x, c < 8 ∧ Cell β i c x ∧ P = β.addr i + x * wdOf c ∧ S = wdOf c

/-- a block more is live -/
structure More (β β' : Bu) (p r : Nat) : Prop where
  base : β'.σ.base = β.σ.base
  order : β'.μ.order = β.μ.order
  limit : β'.σ.limit = β.σ.limit
  live : ∀ P S, Live β' P S ↔ Live β P S ∨ (P = p ∧ S = r)
  new : ¬ Live β p r
  byte : ∀ P S, Live β P S → ∀ q, P ≤ q → q < P + S → β'.σ.mem q = β.σ.mem q

theorem cell_lt {c x : Nat} (hc : c < 8) (hx : x < cellsN c) : x * wdOf c + wdOf c ≤ 4096 := by
  have := cell_in c (by omega) hx
  simpa using this

theorem wdOf_pos {c : Nat} (hc : c < 8) : 16 ≤ wdOf c ∧ wdOf c ≤ 2048 := by
  obtain ⟨u1, u2, _⟩ := wd_facts hc
  exact ⟨u1, u2⟩

theorem wdOf_inj {c c' : Nat} (h : wdOf c = wdOf c') : c = c' := by
  unfold wdOf at h
  exact (Nat.pow_right_inj (by omega)).1 (Nat.eq_of_mul_eq_mul_left (by omega) h)

/-- where a live block's bytes lie: page by page -/
theorem Live.pages {β : Bu} {P S : Nat} (h : Live β P S) {q : Nat} (h1 : P ≤ q) (h2 : q < P + S) :
    ∃ x off p, q = β.σ.base + 4096 * x + off ∧ off < 4096 ∧ β.μ.pages[x]? = some p ∧ (p.kind = 2 ∨ p.kind = 3 ∨ p.kind = 4) := by
  rcases h with ⟨a, k, hk, hb, rfl, rfl⟩ | ⟨i, c, x, hc, ⟨p, hp, h4, hcl, hx, hbit⟩, rfl, rfl⟩
  · unfold Bu.addr at h1 h2
    have hin : Inb a k (a + (q - (β.σ.base + 4096 * a)) / 4096) := by
      refine ⟨by omega, ?_⟩
      have : (q - (β.σ.base + 4096 * a)) / 4096 < 2 ^ k := by rw [Nat.div_lt_iff_lt_mul (by omega)]; omega
      omega
    refine ⟨a + (q - (β.σ.base + 4096 * a)) / 4096, (q - (β.σ.base + 4096 * a)) % 4096, _, by omega, by omega, hb.page hin, ?_⟩
    simp only [runPg, plainPg]
    split <;> simp
  · have := cell_lt hc hx
    unfold Bu.addr at h1 h2
    exact ⟨i, q - (β.σ.base + 4096 * i), p, by omega, by omega, hp, .inr (.inr h4)⟩

/-- a live page is not open -/
theorem BInv.notOpen {β : Bu} {F : Nat → List Nat} (I : BInv β F NoHole) {x : Nat} {p : Pg} (hp : β.μ.pages[x]? = some p) (h : p.kind = 2 ∨ p.kind = 3 ∨ p.kind = 4) : ¬ Upen β.μ.order F NoHole x := by
  intro e
  have := (I.isFree hp).1 e
  omega

/-- .. so its bytes are kept -/
theorem Kept.bytes {β β' : Bu} {F : Nat → List Nat} (I : BInv β F NoHole) (K : Kept β β' (Upen β.μ.order F NoHole)) {P S : Nat} (h : Live β P S) {q : Nat} (h1 : P ≤ q) (h2 : q < P + S) : β'.σ.mem q = β.σ.mem q := by
  obtain ⟨x, off, p, rfl, ho, hp, hk⟩ := h.pages h1 h2
  exact K.byte x off (List.getElem?_eq_some_iff.1 hp).1 (I.notOpen hp hk) ho

theorem BlkAt.notOpen {β : Bu} {F : Nat → List Nat} (I : BInv β F NoHole) {a k x : Nat} (hb : BlkAt β.μ.pages a k 2) (hx : Inb a k x) : ¬ Upen β.μ.order F NoHole x := by
  refine I.notOpen (hb.page hx) ?_
  simp only [runPg, plainPg]
  split <;> simp

theorem BlkAt.kept {β β' : Bu} {F : Nat → List Nat} (I : BInv β F NoHole) (K : Kept β β' (Upen β.μ.order F NoHole)) {a k : Nat} (hb : BlkAt β.μ.pages a k 2) : BlkAt β'.μ.pages a k 2 := by
  refine hb.far (fun x hx => K.page x ?_ (hb.notOpen I hx))
  have := hb.le
  have := hx.2
  omega

/-- the live blocks behind Need -/
theorem Needs.more {β β1 : Bu} {F F1 : Nat → List Nat} {i o : Nat} (I : BInv β F NoHole) (N : Needs β β1 F F1 i o) (ho : o ≤ β.μ.order) : More β β1 (β.addr i) (4096 * 2 ^ o) := by
  have ha : ∀ j, β1.addr j = β.addr j := fun j => by unfold Bu.addr; rw [N.kept.base]
  have hord := N.kept.order
  have p0 := pow0 o
  have hinlt : ∀ x, Inb i o x → x < β1.μ.pages.length := fun x hx => by have := N.blk.le; have := hx.2; omega
  have hnb : ∀ a k, BlkAt β.μ.pages a k 2 → ∀ x, Inb a k x → ¬ Inb i o x := by
    intro a k hb x hx hi
    rcases N.new x hi with h | h
    · exact hb.notOpen I hx h
    · have := hb.le; have := hx.2; omega
  have hbig : ∀ a k, BlkAt β1.μ.pages a k 2 → BlkAt β.μ.pages a k 2 ∨ (a = i ∧ k = o) := by
    intro a k hb
    by_cases hc : ∃ x, Inb a k x ∧ Inb i o x
    · obtain ⟨x, h1, h2⟩ := hc
      have := hb.same N.blk h1 h2
      exact .inr ⟨this.1, this.2.1⟩
    · left
      have hno : ∀ x, Inb a k x → x < β1.μ.pages.length := fun x hx => by have := hb.le; have := hx.2; omega
      have hop : ∀ x, Inb a k x → ¬ (Upen β.μ.order F NoHole x ∨ β.μ.pages.length ≤ x) := by
        intro x hx h
        have := (N.open_ x (hno x hx)).2 ⟨h, fun e => hc ⟨x, hx, e⟩⟩
        rw [← hord] at this
        exact hb.notOpen N.inv hx this
      refine hb.far (fun x hx => ?_)
      have h := hop x hx
      exact (N.kept.page x (by have := fun e => h (.inr e); omega) (fun e => h (.inl e))).symm
  have hcell : ∀ j c x, Cell β1 j c x ↔ Cell β j c x := by
    intro j c x
    constructor
    · rintro ⟨p, hp, h4, h⟩
      exact ⟨p, N.kept.slab j p hp h4, h4, h⟩
    · rintro ⟨p, hp, h4, h⟩
      exact ⟨p, (N.kept.page j (List.getElem?_eq_some_iff.1 hp).1 (I.notOpen hp (.inr (.inr h4)))).trans hp, h4, h⟩
  refine ⟨N.kept.base, hord, N.kept.limit, fun P S => ?_, ?_, fun P S h q h1 h2 => N.kept.bytes I h h1 h2⟩
  · constructor
    · rintro (⟨a, k, hk, hb, rfl, rfl⟩ | ⟨j, c, x, hc, h, rfl, rfl⟩)
      · rcases hbig a k hb with h | ⟨rfl, rfl⟩
        · exact .inl (.inl ⟨a, k, by omega, h, ha a, rfl⟩)
        · exact .inr ⟨ha a, rfl⟩
      · exact .inl (.inr ⟨j, c, x, hc, (hcell j c x).1 h, by rw [ha], rfl⟩)
    · rintro ((⟨a, k, hk, hb, rfl, rfl⟩ | ⟨j, c, x, hc, h, rfl, rfl⟩) | ⟨rfl, rfl⟩)
      · exact .inl ⟨a, k, by omega, hb.kept I N.kept, (ha a).symm, rfl⟩
      · exact .inr ⟨j, c, x, hc, (hcell j c x).2 h, by rw [ha], rfl⟩
      · exact .inl ⟨i, o, by omega, N.blk, (ha i).symm, rfl⟩
  · rintro (⟨a, k, hk, hb, e, e2⟩ | ⟨j, c, x, hc, ⟨p, hp, h4, hcl, hx, hbit⟩, e, e2⟩)
    · unfold Bu.addr at e
      have : a = i := by omega
      subst this
      exact hnb a k hb a (inb_self _ _) (inb_self _ _)
    · have := wdOf_pos hc
      have := cell_lt hc hx
      omega

/-- a free cell of a standing slab page is taken -/
theorem more_cell {β β' : Bu} {i c f : Nat} {p p' : Pg} (hc : c < 8) (hp : β.μ.pages[i]? = some p) (hk : p.kind = 4) (hcl : p.cls = c) (hf : f < cellsN c) (hb : p.bit f = false)
    (hp' : β'.μ.pages[i]? = some p') (hk' : p'.kind = 4) (hcl' : p'.cls = c) (hbit : ∀ x, x < 256 → p'.bit x = (p.bit x != decide (x = f)))
    (ho : β'.μ.order = β.μ.order) (hσ : β'.σ = β.σ)
    (hpg : ∀ j, j ≠ i → (∀ q, β.μ.pages[j]? = some q → ∃ q', β'.μ.pages[j]? = some q' ∧ (q.kind = 4 ∧ SameBut q' q ∨ q.kind ≠ 4 ∧ q' = q)) ∧ (∀ q', β'.μ.pages[j]? = some q' → ∃ q, β.μ.pages[j]? = some q)) :
    More β β' (β.addr i + f * wdOf c) (wdOf c) := by
  have ha : ∀ j, β'.addr j = β.addr j := fun j => by unfold Bu.addr; rw [hσ]
  have hle : cellsN c ≤ 256 := (wdOf_cells c (by omega)).2.2.2.2
  have hblk : ∀ a k, BlkAt β'.μ.pages a k 2 ↔ BlkAt β.μ.pages a k 2 := by
    have key : ∀ {q : Pg} {k j : Nat}, q = runPg 2 k j → q.kind ≠ 4 := by
      rintro q k j rfl
      simp only [runPg, plainPg]
      split <;> decide
    intro a k
    constructor
    · intro h
      refine h.far (fun x hx => ?_)
      have hx' := h.page hx
      have hxi : x ≠ i := by
        rintro rfl
        exact key (Option.some.inj (hp'.symm.trans hx')) hk'
      obtain ⟨q, hq⟩ := (hpg x hxi).2 _ hx'
      obtain ⟨q', hq', hs⟩ := (hpg x hxi).1 q hq
      have e := Option.some.inj (hq'.symm.trans hx')
      rcases hs with ⟨h4, hs⟩ | ⟨h4, hs⟩
      · exact (key e (hs.kind.1.trans h4)).elim
      · rw [hq, hq', hs]
    · intro h
      refine h.far (fun x hx => ?_)
      have hx' := h.page hx
      have hxi : x ≠ i := by
        rintro rfl
        exact key (Option.some.inj (hp.symm.trans hx')) hk
      obtain ⟨q', hq', hs⟩ := (hpg x hxi).1 _ hx'
      rcases hs with ⟨h4, hs⟩ | ⟨h4, hs⟩
      · exact (key rfl h4).elim
      · rw [hq', hs, hx']
  have hcell : ∀ j d x, Cell β' j d x ↔ Cell β j d x ∨ (j = i ∧ d = c ∧ x = f) := by
    intro j d x
    by_cases e : j = i
    · subst e
      constructor
      · rintro ⟨q, hq, h4, hd, hx, hbx⟩
        obtain rfl : p' = q := Option.some.inj (hp'.symm.trans hq)
        have : d = c := by omega
        subst this
        rw [hbit x (by omega)] at hbx
        by_cases ex : x = f
        · exact .inr ⟨rfl, rfl, ex⟩
        · rw [decide_eq_false ex] at hbx
          exact .inl ⟨p, hp, hk, hcl, hx, by simpa using hbx⟩
      · rintro (⟨q, hq, h4, hd, hx, hbx⟩ | ⟨_, rfl, rfl⟩)
        · obtain rfl : p = q := Option.some.inj (hp.symm.trans hq)
          have : d = c := by omega
          subst this
          refine ⟨p', hp', hk', hcl', hx, ?_⟩
          rw [hbit x (by omega), hbx, decide_eq_false (by rintro rfl; rw [hb] at hbx; simp at hbx)]
          rfl
        · refine ⟨p', hp', hk', hcl', hf, ?_⟩
          rw [hbit x (by omega), hb]
          simp
    · constructor
      · rintro ⟨q', hq', h4, hd, hx, hbx⟩
        obtain ⟨q, hq⟩ := (hpg j e).2 q' hq'
        obtain ⟨q'', hq'', hs⟩ := (hpg j e).1 q hq
        obtain rfl : q' = q'' := Option.some.inj (hq'.symm.trans hq'')
        rcases hs with ⟨h4', hs⟩ | ⟨h4', hs⟩
        · refine .inl ⟨q, hq, h4', hs.kind.2.symm.trans hd, hx, ?_⟩
          unfold SameBut at hs
          rw [hs] at hbx
          exact hbx
        · rw [hs] at h4
          exact (h4' h4).elim
      · rintro (⟨q, hq, h4, hd, hx, hbx⟩ | ⟨h, _⟩)
        · obtain ⟨q', hq', hs⟩ := (hpg j e).1 q hq
          rcases hs with ⟨_, hs⟩ | ⟨h4', _⟩
          · refine ⟨q', hq', hs.kind.1.trans h4, hs.kind.2.trans hd, hx, ?_⟩
            unfold SameBut at hs
            rw [hs]
            exact hbx
          · exact (h4' h4).elim
        · exact (e h).elim
  refine ⟨by rw [hσ], ho, by rw [hσ], fun P S => ?_, ?_, fun _ _ _ _ _ _ => by rw [hσ]⟩
  · constructor
    · rintro (⟨a, k, hk', hb', rfl, rfl⟩ | ⟨j, d, x, hd, h, rfl, rfl⟩)
      · exact .inl (.inl ⟨a, k, by omega, (hblk a k).1 hb', ha a, rfl⟩)
      · rcases (hcell j d x).1 h with h | ⟨rfl, rfl, rfl⟩
        · exact .inl (.inr ⟨j, d, x, hd, h, by rw [ha], rfl⟩)
        · exact .inr ⟨by rw [ha], rfl⟩
    · rintro ((⟨a, k, hk', hb', rfl, rfl⟩ | ⟨j, d, x, hd, h, rfl, rfl⟩) | ⟨rfl, rfl⟩)
      · exact .inl ⟨a, k, by omega, (hblk a k).2 hb', (ha a).symm, rfl⟩
      · exact .inr ⟨j, d, x, hd, (hcell j d x).2 (.inl h), by rw [ha], rfl⟩
      · exact .inr ⟨i, c, f, hc, (hcell i c f).2 (.inr ⟨rfl, rfl, rfl⟩), by rw [ha], rfl⟩
  · have w1 := wdOf_pos hc
    have w2 := cell_lt hc hf
    rintro (⟨a, k, hk', hb', e, e2⟩ | ⟨j, d, x, hd, ⟨q, hq, h4, hdl, hx, hbx⟩, e, e2⟩)
    · have := pow0 k
      omega
    · have := wdOf_inj e2
      subst this
      have w3 := cell_lt hd hx
      unfold Bu.addr at e
      have : j = i := by omega
      subst this
      obtain rfl : p = q := Option.some.inj (hp.symm.trans hq)
      have : x * wdOf c = f * wdOf c := by omega
      have : x = f := Nat.eq_of_mul_eq_mul_right (by omega) this
      subst this
      rw [hb] at hbx
      simp at hbx

end Go.Proofs.YtnjcmcnjgdjbiaaGreatDoor
