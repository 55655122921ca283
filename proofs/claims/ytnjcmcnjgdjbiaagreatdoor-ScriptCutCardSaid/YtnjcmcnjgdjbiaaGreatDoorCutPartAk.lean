/- Plain law: the live blocks of a heap; a block taken. Conditions: as each theorem states. -/
import Derived.Test.YtnjcmcnjgdjbiaaGreatDoorCutPartAj
import Derived.Test.YtnjcmcnjgdjbiaaGreatDoorCutPartAg
import Derived.Test.YtnjcmcnjgdjbiaaGreatDoorCutPartAi
import Derived.Deep.DeepCutAuto
import Derived.ScopeJumps
set_option maxRecDepth 100000
set_option maxHeartbeats 4000000
namespace Go.Proofs.YtnjcmcnjgdjbiaaGreatDoor
def Cell (β : Bu) (i c x : Nat) : Prop := ∃ p, β.μ.pages[i]? = some p ∧ p.kind = 4 ∧ p.cls = (c : Int) ∧ x < cellsN c ∧ p.bit x = true
def Live (β : Bu) (P S : Nat) : Prop :=
 (∃ a k, k ≤ β.μ.order ∧ BlkAt β.μ.pages a k 2 ∧ P = β.addr a ∧ S = 4096 * 2 ^ k) ∨ ∃ i c x, c < 8 ∧ Cell β i c x ∧ P = β.addr i + x * wdOf c ∧ S = wdOf c
structure More (β β' : Bu) (p r : Nat) : Prop where
 base : β'.σ.base = β.σ.base
 order : β'.μ.order = β.μ.order
 limit : β'.σ.limit = β.σ.limit
 live : ∀ P S, Live β' P S ↔ Live β P S ∨ (P = p ∧ S = r)
 new : ¬ Live β p r
 byte : ∀ P S, Live β P S → ∀ q, P ≤ q → q < P + S → β'.σ.mem q = β.σ.mem q
theorem cell_lt {c x : Nat} (hc : c < 8) (hx : x < cellsN c) : x * wdOf c + wdOf c ≤ 4096 := by
 have := cell_in c (by omega) hx
 simpa using this
theorem wdOf_pos {c : Nat} (hc : c < 8) : 16 ≤ wdOf c ∧ wdOf c ≤ 2048 := by
 obtain ⟨u1, u2, _⟩ := wd_facts hc
 exact ⟨u1, u2⟩
theorem wdOf_inj {c c' : Nat} (h : wdOf c = wdOf c') : c = c' := by
 unfold wdOf at h
 exact (Nat.pow_right_inj (by omega)).1 (Nat.eq_of_mul_eq_mul_left (by omega) h)
theorem Live.pages {β : Bu} {P S : Nat} (h : Live β P S) {q : Nat} (h1 : P ≤ q) (h2 : q < P + S) :
  ∃ x off p, q = β.σ.base + 4096 * x + off ∧ off < 4096 ∧ β.μ.pages[x]? = some p ∧ (p.kind = 2 ∨ p.kind = 3 ∨ p.kind = 4) := by
 rcases h with ⟨a, k, hk, hb, rfl, rfl⟩ | ⟨i, c, x, hc, ⟨p, hp, h4, hcl, hx, hbit⟩, rfl, rfl⟩
 ·unfold Bu.addr at h1 h2
  have hin : Inb a k (a + (q - (β.σ.base + 4096 * a)) / 4096) := by
   refine ⟨by omega, ?_⟩
   have : (q - (β.σ.base + 4096 * a)) / 4096 < 2 ^ k := by rw [Nat.div_lt_iff_lt_mul (by omega)]; omega
   omega
  refine ⟨a + (q - (β.σ.base + 4096 * a)) / 4096, (q - (β.σ.base + 4096 * a)) % 4096, _, by omega, by omega, hb.page hin, ?_⟩
  simp only [runPg, plainPg]
  split <;> simp
 ·have := cell_lt hc hx
  unfold Bu.addr at h1 h2
  exact ⟨i, q - (β.σ.base + 4096 * i), p, by omega, by omega, hp, .inr (.inr h4)⟩
theorem BInv.notOpen {β : Bu} {F : Nat → List Nat} (I : BInv β F NoHole) {x : Nat} {p : Pg} (hp : β.μ.pages[x]? = some p) (h : p.kind = 2 ∨ p.kind = 3 ∨ p.kind = 4) : ¬ Upen β.μ.order F NoHole x := by
 intro e
 have := (I.isFree hp).1 e
 omega
theorem Kept.bytes {β β' : Bu} {F : Nat → List Nat} (I : BInv β F NoHole) (K : Kept β β' (Upen β.μ.order F NoHole)) {P S : Nat} (h : Live β P S) {q : Nat} (h1 : P ≤ q) (h2 : q < P + S) : β'.σ.mem q = β.σ.mem q := by
 obtain ⟨x, off, p, rfl, ho, hp, hk⟩ := h.pages h1 h2
 exact K.byte x off (List.getElem?_eq_some_iff.1 hp).1 (I.notOpen hp hk) ho
theorem BlkAt.notOpen {β : Bu} {F : Nat → List Nat} (I : BInv β F NoHole) {a k x : Nat} (hb : BlkAt β.μ.pages a k 2) (hx : Inb a k x) : ¬ Upen β.μ.order F NoHole x := by
 refine I.notOpen (hb.page hx) ?_
 simp only [runPg, plainPg]
 split <;> simp
theorem BlkAt.kept {β β' : Bu} {F : Nat → List Nat} (I : BInv β F NoHole) (K : Kept β β' (Upen β.μ.order F NoHole)) {a k : Nat} (hb : BlkAt β.μ.pages a k 2) : BlkAt β'.μ.pages a k 2 := by
 refine hb.far (fun x hx => K.page x ?_ (hb.notOpen I hx))
 have := hb.le
 have := hx.2
 omega
theorem Needs.more {β β1 : Bu} {F F1 : Nat → List Nat} {i o : Nat} (I : BInv β F NoHole) (N : Needs β β1 F F1 i o) (ho : o ≤ β.μ.order) : More β β1 (β.addr i) (4096 * 2 ^ o) := by
 have ha : ∀ j, β1.addr j = β.addr j := fun j => by unfold Bu.addr; rw [N.kept.base]
 have hord := N.kept.order
 have p0 := pow0 o
 have hinlt : ∀ x, Inb i o x → x < β1.μ.pages.length := fun x hx => by have := N.blk.le; have := hx.2; omega
 have hnb : ∀ a k, BlkAt β.μ.pages a k 2 → ∀ x, Inb a k x → ¬ Inb i o x := by
  intro a k hb x hx hi
  rcases N.new x hi with h | h
  ·exact hb.notOpen I hx h
  ·have := hb.le; have := hx.2; omega
 have hbig : ∀ a k, BlkAt β1.μ.pages a k 2 → BlkAt β.μ.pages a k 2 ∨ (a = i ∧ k = o) := by
  intro a k hb
  by_cases hc : ∃ x, Inb a k x ∧ Inb i o x
  ·obtain ⟨x, h1, h2⟩ := hc
   have := hb.same N.blk h1 h2
   exact .inr ⟨this.1, this.2.1⟩
  ·left
   have hno : ∀ x, Inb a k x → x < β1.μ.pages.length := fun x hx => by have := hb.le; have := hx.2; omega
   have hop : ∀ x, Inb a k x → ¬ (Upen β.μ.order F NoHole x ∨ β.μ.pages.length ≤ x) := by
    intro x hx h
    have := (N.open_ x (hno x hx)).2 ⟨h, fun e => hc ⟨x, hx, e⟩⟩
    rw [← hord] at this
    exact hb.notOpen N.inv hx this
   refine hb.far (fun x hx => ?_)
   have h := hop x hx
   exact (N.kept.page x (by have := fun e => h (.inr e); omega) (fun e => h (.inl e))).symm
 have hcell : ∀ j c x, Cell β1 j c x ↔ Cell β j c x := by
  intro j c x
  constructor
  ·rintro ⟨p, hp, h4, h⟩
   exact ⟨p, N.kept.slab j p hp h4, h4, h⟩
  ·rintro ⟨p, hp, h4, h⟩
   exact ⟨p, (N.kept.page j (List.getElem?_eq_some_iff.1 hp).1 (I.notOpen hp (.inr (.inr h4)))).trans hp, h4, h⟩
 refine ⟨N.kept.base, hord, N.kept.limit, fun P S => ?_, ?_, fun P S h q h1 h2 => N.kept.bytes I h h1 h2⟩
 ·constructor
  ·rintro (⟨a, k, hk, hb, rfl, rfl⟩ | ⟨j, c, x, hc, h, rfl, rfl⟩)
   ·rcases hbig a k hb with h | ⟨rfl, rfl⟩
    ·exact .inl (.inl ⟨a, k, by omega, h, ha a, rfl⟩)
    ·exact .inr ⟨ha a, rfl⟩
   ·exact .inl (.inr ⟨j, c, x, hc, (hcell j c x).1 h, by rw [ha], rfl⟩)
  ·rintro ((⟨a, k, hk, hb, rfl, rfl⟩ | ⟨j, c, x, hc, h, rfl, rfl⟩) | ⟨rfl, rfl⟩)
   ·exact .inl ⟨a, k, by omega, hb.kept I N.kept, (ha a).symm, rfl⟩
   ·exact .inr ⟨j, c, x, hc, (hcell j c x).2 h, by rw [ha], rfl⟩
   ·exact .inl ⟨i, o, by omega, N.blk, (ha i).symm, rfl⟩
 ·rintro (⟨a, k, hk, hb, e, e2⟩ | ⟨j, c, x, hc, ⟨p, hp, h4, hcl, hx, hbit⟩, e, e2⟩)
  ·unfold Bu.addr at e
   have : a = i := by omega
   subst this
   exact hnb a k hb a (inb_self _ _) (inb_self _ _)
  ·have := wdOf_pos hc
   have := cell_lt hc hx
   omega
theorem more_cell {β β' : Bu} {i c f : Nat} {p p' : Pg} (hc : c < 8) (hp : β.μ.pages[i]? = some p) (hk : p.kind = 4) (hcl : p.cls = c) (hf : f < cellsN c) (hb : p.bit f = false)
  (hp' : β'.μ.pages[i]? = some p') (hk' : p'.kind = 4) (hcl' : p'.cls = c) (hbit : ∀ x, x < 256 → p'.bit x = (p.bit x != decide (x = f)))
  (ho : β'.μ.order = β.μ.order) (hσ : β'.σ = β.σ)
  (hpg : ∀ j, j ≠ i → (∀ q, β.μ.pages[j]? = some q → ∃ q', β'.μ.pages[j]? = some q' ∧ (q.kind = 4 ∧ SameBut q' q ∨ q.kind ≠ 4 ∧ q' = q)) ∧ (∀ q', β'.μ.pages[j]? = some q' → ∃ q, β.μ.pages[j]? = some q)) :
  More β β' (β.addr i + f * wdOf c) (wdOf c) := by
 have ha : ∀ j, β'.addr j = β.addr j := fun j => by unfold Bu.addr; rw [hσ]
 have hle : cellsN c ≤ 256 := (wdOf_cells c (by omega)).2.2.2.2
 have hblk : ∀ a k, BlkAt β'.μ.pages a k 2 ↔ BlkAt β.μ.pages a k 2 := by
  have key : ∀ {q : Pg} {k j : Nat}, q = runPg 2 k j → q.kind ≠ 4 := by
   rintro q k j rfl
   simp only [runPg, plainPg]
   split <;> decide
  intro a k
  constructor
  ·intro h
   refine h.far (fun x hx => ?_)
   have hx' := h.page hx
   have hxi : x ≠ i := by
    rintro rfl
    exact key (Option.some.inj (hp'.symm.trans hx')) hk'
   obtain ⟨q, hq⟩ := (hpg x hxi).2 _ hx'
   obtain ⟨q', hq', hs⟩ := (hpg x hxi).1 q hq
   have e := Option.some.inj (hq'.symm.trans hx')
   rcases hs with ⟨h4, hs⟩ | ⟨h4, hs⟩
   ·exact (key e (hs.kind.1.trans h4)).elim
   ·rw [hq, hq', hs]
  ·intro h
   refine h.far (fun x hx => ?_)
   have hx' := h.page hx
   have hxi : x ≠ i := by
    rintro rfl
    exact key (Option.some.inj (hp.symm.trans hx')) hk
   obtain ⟨q', hq', hs⟩ := (hpg x hxi).1 _ hx'
   rcases hs with ⟨h4, hs⟩ | ⟨h4, hs⟩
   ·exact (key rfl h4).elim
   ·rw [hq', hs, hx']
 have hcell : ∀ j d x, Cell β' j d x ↔ Cell β j d x ∨ (j = i ∧ d = c ∧ x = f) := by
  intro j d x
  by_cases e : j = i
  ·subst e
   constructor
   ·rintro ⟨q, hq, h4, hd, hx, hbx⟩
    obtain rfl : p' = q := Option.some.inj (hp'.symm.trans hq)
    have : d = c := by omega
    subst this
    rw [hbit x (by omega)] at hbx
    by_cases ex : x = f
    ·exact .inr ⟨rfl, rfl, ex⟩
    ·rw [decide_eq_false ex] at hbx
     exact .inl ⟨p, hp, hk, hcl, hx, by simpa using hbx⟩
   ·rintro (⟨q, hq, h4, hd, hx, hbx⟩ | ⟨_, rfl, rfl⟩)
    ·obtain rfl : p = q := Option.some.inj (hp.symm.trans hq)
     have : d = c := by omega
     subst this
     refine ⟨p', hp', hk', hcl', hx, ?_⟩
     rw [hbit x (by omega), hbx, decide_eq_false (by rintro rfl; rw [hb] at hbx; simp at hbx)]
     rfl
    ·refine ⟨p', hp', hk', hcl', hf, ?_⟩
     rw [hbit x (by omega), hb]
     simp
  ·constructor
   ·rintro ⟨q', hq', h4, hd, hx, hbx⟩
    obtain ⟨q, hq⟩ := (hpg j e).2 q' hq'
    obtain ⟨q'', hq'', hs⟩ := (hpg j e).1 q hq
    obtain rfl : q' = q'' := Option.some.inj (hq'.symm.trans hq'')
    rcases hs with ⟨h4', hs⟩ | ⟨h4', hs⟩
    ·refine .inl ⟨q, hq, h4', hs.kind.2.symm.trans hd, hx, ?_⟩
     unfold SameBut at hs
     rw [hs] at hbx
     exact hbx
    ·rw [hs] at h4
     exact (h4' h4).elim
   ·rintro (⟨q, hq, h4, hd, hx, hbx⟩ | ⟨h, _⟩)
    ·obtain ⟨q', hq', hs⟩ := (hpg j e).1 q hq
     rcases hs with ⟨_, hs⟩ | ⟨h4', _⟩
     ·refine ⟨q', hq', hs.kind.1.trans h4, hs.kind.2.trans hd, hx, ?_⟩
      unfold SameBut at hs
      rw [hs]
      exact hbx
     ·exact (h4' h4).elim
    ·exact (e h).elim
 refine ⟨by rw [hσ], ho, by rw [hσ], fun P S => ?_, ?_, fun _ _ _ _ _ _ => by rw [hσ]⟩
 ·constructor
  ·rintro (⟨a, k, hk', hb', rfl, rfl⟩ | ⟨j, d, x, hd, h, rfl, rfl⟩)
   ·exact .inl (.inl ⟨a, k, by omega, (hblk a k).1 hb', ha a, rfl⟩)
   ·rcases (hcell j d x).1 h with h | ⟨rfl, rfl, rfl⟩
    ·exact .inl (.inr ⟨j, d, x, hd, h, by rw [ha], rfl⟩)
    ·exact .inr ⟨by rw [ha], rfl⟩
  ·rintro ((⟨a, k, hk', hb', rfl, rfl⟩ | ⟨j, d, x, hd, h, rfl, rfl⟩) | ⟨rfl, rfl⟩)
   ·exact .inl ⟨a, k, by omega, (hblk a k).2 hb', (ha a).symm, rfl⟩
   ·exact .inr ⟨j, d, x, hd, (hcell j d x).2 (.inl h), by rw [ha], rfl⟩
   ·exact .inr ⟨i, c, f, hc, (hcell i c f).2 (.inr ⟨rfl, rfl, rfl⟩), by rw [ha], rfl⟩
 ·have w1 := wdOf_pos hc
  have w2 := cell_lt hc hf
  rintro (⟨a, k, hk', hb', e, e2⟩ | ⟨j, d, x, hd, ⟨q, hq, h4, hdl, hx, hbx⟩, e, e2⟩)
  ·have := pow0 k
   omega
  ·have := wdOf_inj e2
   subst this
   have w3 := cell_lt hd hx
   unfold Bu.addr at e
   have : j = i := by omega
   subst this
   obtain rfl : p = q := Option.some.inj (hp.symm.trans hq)
   have : x * wdOf c = f * wdOf c := by omega
   have : x = f := Nat.eq_of_mul_eq_mul_right (by omega) this
   subst this
   rw [hb] at hbx
   simp at hbx
theorem runPg_kind (k j : Nat) : (runPg 2 k j).kind = 2 ∨ (runPg 2 k j).kind = 3 := by
 simp only [runPg, plainPg]
 split <;> simp
theorem Live.meet {β : Bu} {P S P' S' q : Nat} (h : Live β P S) (h' : Live β P' S') (h1 : P ≤ q) (h2 : q < P + S) (h3 : P' ≤ q) (h4 : q < P' + S') : P = P' ∧ S = S' := by
 have key : ∀ {a k i c x P S P' S' : Nat}, BlkAt β.μ.pages a k 2 → P = β.addr a → S = 4096 * 2 ^ k → c < 8 → Cell β i c x → P' = β.addr i + x * wdOf c → S' = wdOf c → P ≤ q → q < P + S → P' ≤ q → q < P' + S' → False := by
  rintro a k i c x P S P' S' hb rfl rfl hc ⟨p, hp, hp4, hcl, hx, hbit⟩ rfl rfl h1 h2 h3 h4
  have := cell_lt hc hx
  unfold Bu.addr at h1 h2 h3 h4
  have hin : Inb a k i := ⟨by omega, by omega⟩
  have e := Option.some.inj (hp.symm.trans (hb.page hin))
  have := runPg_kind k (i - a)
  rw [← e] at this
  omega
 rcases h with ⟨a, k, hk, hb, e1, e2⟩ | ⟨i, c, x, hc, hx, e1, e2⟩
 ·rcases h' with ⟨a', k', hk', hb', e3, e4⟩ | ⟨i', c', x', hc', hx', e3, e4⟩
  ·subst e1 e2 e3 e4
   unfold Bu.addr at *
   have i1 : Inb a k ((q - β.σ.base) / 4096) := ⟨by omega, by omega⟩
   have i2 : Inb a' k' ((q - β.σ.base) / 4096) := ⟨by omega, by omega⟩
   obtain ⟨rfl, rfl, _⟩ := hb.same hb' i1 i2
   exact ⟨rfl, rfl⟩
  ·exact (key hb e1 e2 hc' hx' e3 e4 h1 h2 h3 h4).elim
 ·rcases h' with ⟨a', k', hk', hb', e3, e4⟩ | ⟨i', c', x', hc', hx', e3, e4⟩
  ·exact (key hb' e3 e4 hc hx e1 e2 h3 h4 h1 h2).elim
  ·subst e1 e2 e3 e4
   obtain ⟨p, hp, hp4, hcl, hxl, hbit⟩ := hx
   obtain ⟨p', hp', hp4', hcl', hxl', hbit'⟩ := hx'
   have l1 := cell_lt hc hxl
   have l2 := cell_lt hc' hxl'
   unfold Bu.addr at *
   have : i = i' := by omega
   subst this
   obtain rfl : p = p' := Option.some.inj (hp.symm.trans hp')
   have : c = c' := by omega
   subst this
   have h5 : x * wdOf c < x' * wdOf c + wdOf c := by omega
   have h6 : x' * wdOf c < x * wdOf c + wdOf c := by omega
   rw [← Nat.succ_mul] at h5 h6
   have h7 := Nat.lt_of_mul_lt_mul_right h5
   have h8 := Nat.lt_of_mul_lt_mul_right h6
   have : x = x' := by omega
   subst this
   exact ⟨rfl, rfl⟩
structure Gone (β β' : Bu) (p : Nat) : Prop where
 base : β'.σ.base = β.σ.base
 order : β'.μ.order = β.μ.order
 limit : β'.σ.limit = β.σ.limit
 n : β'.σ.n = β.σ.n
 live : ∀ P S, Live β' P S ↔ Live β P S ∧ P ≠ p
 byte : ∀ P S, Live β P S → P ≠ p → ∀ q, P ≤ q → q < P + S → β'.σ.mem q = β.σ.mem q
theorem Keeps.gone {β β' : Bu} {F G : Nat → List Nat} {a k : Nat} (I : BInv β F NoHole) (hk : k ≤ β.μ.order) (hB : BlkAt β.μ.pages a k 2) (I' : BInv β' G NoHole) (K : Keeps β β' (Upen β.μ.order F (Inb a k)))
  (U : ∀ y, Upen β.μ.order G NoHole y ↔ Upen β.μ.order F (Inb a k) y) : Gone β β' (β.addr a) := by
 have ha : ∀ j, β'.addr j = β.addr j := fun j => by unfold Bu.addr; rw [K.base]
 have hb0 := hB.page (inb_self a k)
 have hup : ∀ {x : Nat} {p : Pg}, β.μ.pages[x]? = some p → p.kind = 2 ∨ p.kind = 3 ∨ p.kind = 4 → ¬ Inb a k x → ¬ Upen β.μ.order F (Inb a k) x := by
  rintro x p hp hkd hx (h | h)
  ·exact hx h
  ·exact I.notOpen hp hkd (.inr h)
 have hup' : ∀ {x : Nat} {p : Pg}, β'.μ.pages[x]? = some p → p.kind = 2 ∨ p.kind = 3 ∨ p.kind = 4 → β'.μ.pages[x]? = β.μ.pages[x]? ∧ ¬ Inb a k x := by
  intro x p hp hkd
  have h1 := I'.notOpen hp hkd
  rw [K.order] at h1
  have h2 : ¬ Upen β.μ.order F (Inb a k) x := fun h => h1 ((U x).2 h)
  exact ⟨K.page x h2, fun h => h2 (.inl h)⟩
 have hbig : ∀ b m, BlkAt β'.μ.pages b m 2 ↔ BlkAt β.μ.pages b m 2 ∧ b ≠ a := by
  intro b m
  constructor
  ·intro h
   have hx : ∀ x, Inb b m x → β'.μ.pages[x]? = β.μ.pages[x]? ∧ ¬ Inb a k x := fun x hx => hup' (h.page hx) (by have := runPg_kind m (x - b); omega)
   refine ⟨h.far (fun x hxb => (hx x hxb).1.symm), ?_⟩
   rintro rfl
   exact (hx b (inb_self b m)).2 (inb_self b k)
  ·rintro ⟨h, hne⟩
   refine h.far (fun x hx => K.page x (hup (h.page hx) (by have := runPg_kind m (x - b); omega) ?_))
   intro hx'
   exact hne (h.same hB hx hx').1
 have hkd : ∀ {i : Nat} {p : Pg}, β.μ.pages[i]? = some p → p.kind = 4 → ¬ Inb a k i := by
  intro i p hp h4 hi
  have e := Option.some.inj (hp.symm.trans (hB.page hi))
  have := runPg_kind k (i - a)
  rw [← e] at this
  omega
 have hcell : ∀ i c x, Cell β' i c x ↔ Cell β i c x := by
  intro i c x
  constructor
  ·rintro ⟨p, hp, h4, h⟩
   exact ⟨p, K.slab i p hp h4, h4, h⟩
  ·rintro ⟨p, hp, h4, h⟩
   exact ⟨p, (K.page i (hup hp (.inr (.inr h4)) (hkd hp h4))).trans hp, h4, h⟩
 refine ⟨K.base, K.order, K.limit, K.n, fun P S => ?_, fun P S h hne q h1 h2 => ?_⟩
 ·constructor
  ·rintro (⟨b, m, hm, hb, rfl, rfl⟩ | ⟨i, c, x, hc, hx, rfl, rfl⟩)
   ·obtain ⟨h1, h2⟩ := (hbig b m).1 hb
    refine ⟨.inl ⟨b, m, by rw [← K.order]; exact hm, h1, ha b, rfl⟩, ?_⟩
    rw [ha]
    unfold Bu.addr
    omega
   ·have hx' := (hcell i c x).1 hx
    refine ⟨.inr ⟨i, c, x, hc, hx', by rw [ha], rfl⟩, ?_⟩
    obtain ⟨p, hp, h4, hcl, hxl, _⟩ := hx'
    rw [ha]
    intro e
    have := cell_lt hc hxl
    have := (wdOf_pos hc).1
    unfold Bu.addr at e
    have : i = a := by omega
    subst this
    exact hkd hp h4 (inb_self i k)
  ·rintro ⟨⟨b, m, hm, hb, rfl, rfl⟩ | ⟨i, c, x, hc, hx, rfl, rfl⟩, hne⟩
   ·exact .inl ⟨b, m, by rw [K.order]; exact hm, (hbig b m).2 ⟨hb, by rintro rfl; exact hne rfl⟩, (ha b).symm, rfl⟩
   ·exact .inr ⟨i, c, x, hc, (hcell i c x).2 hx, by rw [ha], rfl⟩
 ·obtain ⟨x, off, p, rfl, ho, hp, hkd'⟩ := h.pages h1 h2
  refine K.byte x off (hup hp hkd' (fun hx => ?_)) ho
  have hL : Live β (β.addr a) (4096 * 2 ^ k) := .inl ⟨a, k, hk, hB, rfl, rfl⟩
  have := hx.1
  have := hx.2
  exact hne (h.meet hL h1 h2 (by unfold Bu.addr; omega) (by unfold Bu.addr; omega)).1
theorem HS.giveBig {β : Bu} {ps : List Int} {F C L : Nat → List Nat} (I : HS β ps F C L) {a k : Nat} (hk : k ≤ β.μ.order) (hB : BlkAt β.μ.pages a k 2) :
  HS (β.given F a k) ps (Bu.giveF (β.μ.order - k) β F a k).2 C L ∧ Gone β (β.given F a k) (β.addr a) := by
 have I1 := I.inv.openLive hB
 obtain ⟨I2, K2, U2⟩ := I1.given (a := a) (k := k) (fun y => ⟨fun h => h.resolve_left id, .inr⟩) hk hB.al
 have hH : (fun y => NoHole y ∨ Inb a k y) = Inb a k := funext fun y => propext ⟨fun h => h.resolve_left id, .inr⟩
 rw [hH] at K2 U2
 refine ⟨⟨I2, I.slab.keeps K2 ?_, K2.nums I.nums⟩, K2.gone I.inv hk hB I2 U2⟩
 rintro i p hp h4 (h | h)
 ·have e := Option.some.inj (hp.symm.trans (hB.page h))
  have := runPg_kind k (i - a)
  rw [← e] at this
  omega
 ·exact I.inv.notOpen hp (.inr (.inr h4)) (.inr h)
theorem CL_range {σ : Sp} {at_ wd : Nat} : ∀ (m a : Nat), (∀ j, a ≤ j → j < a + m → σ.word (at_ + j * wd) = if j + 1 = a + m then 0 else at_ + (j + 1) * wd) → CL σ at_ wd (List.range' a m)
 | 0, _, _ => trivial
 | m + 1, a, H => by
  rw [List.range'_succ]
  refine ⟨?_, CL_range m (a + 1) (fun j h1 h2 => by rw [H j (by omega) (by omega), show a + (m + 1) = a + 1 + m by omega])⟩
  rw [H a (Nat.le_refl _) (by omega)]
  cases m with
  | zero => rw [if_pos rfl]; rfl
  | succ m =>
   rw [if_neg (by omega), List.range'_succ]
   rfl
theorem bornPg_bits (c : Nat) (x : Nat) : (bornPg c).bit x = false := by
 unfold Pg.bit
 have : (bornPg c).word (x / 64) = 0 := by
  unfold Pg.word
  split <;> rfl
 rw [this]
 exact Nat.zero_testBit _
theorem bornK_mem (σ : Sp) (at_ wd n : Nat) (a : Nat) : ∀ k, (∀ j, j < k → a < at_ + j * wd ∨ at_ + j * wd + 8 ≤ a) → (bornK σ at_ wd n k).mem a = σ.mem a
 | 0, _ => rfl
 | k + 1, H => by
  unfold bornK
  rw [put_mem _ _ _ _ (H k (by omega))]
  exact bornK_mem σ at_ wd n a k (fun j hj => H j (by omega))
theorem born_far (σ : Sp) (b i c x off : Nat) (hc : c < 8) (hx : x ≠ i) (ho : off < 4096) : (bornK σ (b + 4096 * i) (wdOf c) (4096 / wdOf c) (4096 / wdOf c)).mem (b + 4096 * x + off) = σ.mem (b + 4096 * x + off) := by
 refine bornK_mem _ _ _ _ _ _ (fun j hj => ?_)
 obtain ⟨u1, u2, u3, u4, u5, u6⟩ := wd_facts hc
 have : (j + 1) * wdOf c ≤ 4096 / wdOf c * wdOf c := Nat.mul_le_mul_right _ hj
 rw [u3, Nat.succ_mul] at this
 omega
def cellPg (c : Nat) : Pg := (bornPg c).take 0 1
theorem newCell_eq (β : Bu) (i c : Nat) : β.newCell i c = ⟨bornK β.σ (β.addr i) (wdOf c) (4096 / wdOf c) (4096 / wdOf c), β.μ.setPage i (cellPg c), β.heads⟩ := by
 unfold Bu.newCell Bu.born SlRep.hung cellPg
 simp only [Mp.setPage_set]
theorem cellPg_ok (σ : Sp) (b i c : Nat) (hc : c < 8) (h64 : b + 4096 * i + 4096 < 18446744073709551616) :
  CellsOk (bornK σ (b + 4096 * i) (wdOf c) (4096 / wdOf c) (4096 / wdOf c)) (b + 4096 * i) (cellPg c) (List.range' 1 (cellsN c - 1)) := by
 obtain ⟨u1, u2, u3, u4, u5, u6⟩ := wd_facts hc
 have hcls : (cellPg c).cls = (c : Int) := rfl
 have hbit : ∀ x, x < 256 → (cellPg c).bit x = decide (x = 0) := by
  intro x hx
  have h : (cellPg c).bit x = ((bornPg c).bit x != decide (x = 0)) := own_bit (bornPg c) 0 x true (by omega) hx
  rw [h, bornPg_bits]
  cases decide (x = 0) <;> rfl
 rw [u6] at u3 u4 u5 ⊢
 refine ⟨rfl, ⟨by rw [hcls]; omega, by rw [hcls]; omega⟩, List.nodup_range' .., fun x => ?_, fun x h1 h2 => ?_, ?_, ?_, ?_, ?_⟩
 ·rw [hcls, List.mem_range'_1]
  constructor
  ·intro h
   refine ⟨by omega, ?_⟩
   rw [hbit x (by omega), decide_eq_false (by omega)]
  ·rintro ⟨h1, h2⟩
   rw [hbit x (by omega)] at h2
   have := of_decide_eq_false h2
   omega
 ·rw [hcls] at h1
  rw [hbit x h2, decide_eq_false (by omega)]
 ·rw [hcls, List.length_range']
  show (0 : Int) + 1 = _
  omega
 ·show (0 : Int) < 0 + 1
  decide
 ·obtain ⟨m, hm⟩ : ∃ m, cellsN c - 1 = m + 1 := ⟨cellsN c - 2, by omega⟩
  rw [hm, List.range'_succ]
  rfl
 ·rw [hcls, Int.toNat_natCast]
  refine CL_range _ _ (fun j h1 h2 => ?_)
  rw [bornK_word (by omega) (by rw [u3]; omega) (cellsN c) j (Nat.le_refl _) (by omega)]
  unfold bornW
  by_cases e : j + 1 = cellsN c
  ·rw [if_pos e, if_pos (by omega)]
  ·rw [if_neg e, if_neg (by omega)]
theorem HS.newCell {β β1 : Bu} {ps : List Int} {F F1 C L : Nat → List Nat} (I : HS β ps F C L) {i c : Nat} (hc : c < 8) (he : ps.getD c 0 = -1) (N : Needs β β1 F F1 i 0) :
  HS (β1.newCell i c) (ps.set c i) F1 (upd C i (List.range' 1 (cellsN c - 1))) (upd L c (i :: L c)) ∧ More β (β1.newCell i c) (β1.addr i) (wdOf c) ∧ (β1.newCell i c).σ.n = β1.σ.n := by
 obtain ⟨u1, u2, u3, u4, u5, u6⟩ := wd_facts hc
 have hpi := N.blk.page (inb_self i 0)
 have hil := (List.getElem?_eq_some_iff.1 hpi).1
 have htop := N.inv.top
 have S1 : SInv β1 ps C L := I.slab.kept N.kept (fun j p hp h4 => I.inv.notOpen hp (.inr (.inr h4)))
 have h2i : ∀ y, Inb i 0 y ↔ y = i := fun y => by unfold Inb; omega
 have hni : ∀ q, β1.μ.pages[i]? = some q → q.kind = 2 := by
  intro q hq
  rw [← Option.some.inj (hpi.symm.trans hq)]
  simp [runPg, plainPg]
 obtain ⟨bs1, bs2, bs3, bs4, bs5⟩ := bornK_same β1.σ (β1.addr i) (wdOf c) (4096 / wdOf c) (4096 / wdOf c)
 -- the buddy
 have I1 := N.inv.openLive N.blk
 have hfar : ∀ x off, x ≠ i → off < 4096 → (bornK β1.σ (β1.addr i) (wdOf c) (4096 / wdOf c) (4096 / wdOf c)).mem (β1.σ.base + 4096 * x + off) = β1.σ.mem (β1.σ.base + 4096 * x + off) := fun x off hx ho => born_far β1.σ β1.σ.base i c x off hc hx ho
 have I2 := I1.write' bs1 (fun k hk x hx off ho => hfar x off (by
  rintro rfl
  exact I1.apart k hk x hx x (.inr (inb_self _ _)) (inb_self _ _)) (by omega))
 have I3 := I2.slab (i := i) (p := cellPg c) (.inr (inb_self _ _)) rfl rfl
 have hH : (fun y => (NoHole y ∨ Inb i 0 y) ∧ y ≠ i) = NoHole := funext fun y => propext ⟨fun h => by
  rcases h.1 with h' | h'
  ·exact h'
  ·exact h.2 ((h2i y).1 h'), fun h => h.elim⟩
 rw [hH] at I3
 have hLc : L c = [] := by
  have := (S1.lists c hc).head
  rw [he] at this
  cases hL : L c with
  | nil => rfl
  | cons y t => rw [hL] at this; simp only [hdI] at this; omega
 have hnot : ∀ d, d < 8 → i ∉ L d := by
  intro d hd hm
  obtain ⟨q, hq, h4, _⟩ := S1.cls_of hd hm
  have := hni q hq
  omega
 have hset : (β1.μ.setPage i (cellPg c)).pages[i]? = some (cellPg c) := List.getElem?_set_self hil
 have hne : ∀ x, x ≠ i → (β1.μ.setPage i (cellPg c)).pages[x]? = β1.μ.pages[x]? := fun x h => List.getElem?_set_ne (fun e => h e.symm)
 have hu : List.range' 1 (cellsN c - 1) ≠ [] := by
  rw [u6] at u4
  intro e
  have := congrArg List.length e
  rw [List.length_range'] at this
  simp at this
  omega
 have S2 : SInv (β1.newCell i c) (ps.set c i) (upd C i (List.range' 1 (cellsN c - 1))) (upd L c (i :: L c)) := by
  rw [newCell_eq]
  refine S1.hang (p' := cellPg c) hc hnot bs1 (fun j q0 hj _ _ off ho => hfar j off hj ho) (fun x hx => ?_) hset rfl rfl ⟨?_, rfl⟩ hu (cellPg_ok _ _ _ _ hc (by omega))
  ·show (β1.μ.setPage i (cellPg c)).pages[x]? = _
   rw [hne x hx]
   have : ∀ q : Pg, ({ q with prev := if (x : Int) = ps.getD c 0 then (i : Int) else q.prev } : Pg) = q := fun q => by rw [if_neg (by rw [he]; omega)]
   simp only [this]
   simp
  ·rw [he]; rfl
 have ho' : (β1.newCell i c).μ.order = β1.μ.order := by rw [newCell_eq]; rfl
 have hl' : (β1.newCell i c).μ.pages.length = β1.μ.pages.length := by rw [newCell_eq]; exact List.length_set ..
 have hn' : (β1.newCell i c).σ.n = β1.σ.n := by rw [newCell_eq]; exact bs5
 refine ⟨⟨?_, S2, ?_⟩, ?_, hn'⟩
 ·rw [newCell_eq]
  exact I3
 ·have M := N.nums
  refine ⟨?_, ?_, ?_, ?_, ?_, ?_, ?_⟩
  ·rw [hl', hn', ho']; exact M.full
  ·rw [ho', newCell_eq]; show (bornK _ _ _ _ _).size = _; rw [bs4]; exact M.size
  ·rw [hn', newCell_eq]; show _ ≤ (bornK _ _ _ _ _).limit; rw [bs2]; exact M.le
  ·rw [ho', newCell_eq]; show (bornK _ _ _ _ _).limit * _ ≤ _; rw [bs2]; exact M.pages
  ·rw [ho', newCell_eq]; show (bornK _ _ _ _ _).base + 4096 * ((bornK _ _ _ _ _).limit * _) ≤ _; rw [bs1, bs2]; exact M.top
  ·rw [ho', newCell_eq]; show (bornK _ _ _ _ _).order = _; rw [bs3]; exact M.so
  ·rw [ho', newCell_eq]; show (bornK _ _ _ _ _).base % _ = _; rw [bs1]; exact M.al
 ·-- the live blocks
  have M1 := N.more I.inv (Nat.zero_le _)
  have ha1 : ∀ j, β1.addr j = β.addr j := fun j => by unfold Bu.addr; rw [N.kept.base]
  have ha2 : ∀ j, (β1.newCell i c).addr j = β1.addr j := fun j => by unfold Bu.addr; rw [newCell_eq]; rw [bs1]
  have hpages : (β1.newCell i c).μ.pages = (β1.μ.setPage i (cellPg c)).pages := by rw [newCell_eq]
  have hpi' : ∀ {a k : Nat}, BlkAt β.μ.pages a k 2 → ¬ Inb a k i := by
   intro a k hb hx
   rcases N.new i (inb_self _ _) with h | h
   ·exact hb.notOpen I.inv hx h
   ·have := hb.le; have := hx.2; omega
  have hc4 : ∀ {j : Nat} {q : Pg}, β.μ.pages[j]? = some q → q.kind = 4 → j ≠ i := by
   rintro j q hq h4 rfl
   have h1 := N.kept.page j (List.getElem?_eq_some_iff.1 hq).1 (I.inv.notOpen hq (.inr (.inr h4)))
   have := hni q (h1.trans hq)
   omega
  refine ⟨by rw [newCell_eq]; exact bs1.trans N.kept.base, ho'.trans N.kept.order, by rw [newCell_eq]; exact bs2.trans N.kept.limit, fun P S => ?_, ?_, fun P S h q h1 h2 => ?_⟩
  ·constructor
   ·rintro (⟨a, k, hk, hb, rfl, rfl⟩ | ⟨j, d, x, hd, ⟨q, hq, h4, hdl, hx, hbx⟩, rfl, rfl⟩)
    ·rw [hpages] at hb
     have hia : ¬ Inb a k i := by
      intro hx
      have e := Option.some.inj (hset.symm.trans (hb.page hx))
      have : (cellPg c).kind = 4 := rfl
      rw [e] at this
      simp only [runPg, plainPg] at this
      split at this <;> omega
     have hb1 : BlkAt β1.μ.pages a k 2 := hb.far (fun x hx => (hne x (by rintro rfl; exact hia hx)).symm)
     rcases (M1.live _ _).1 (.inl ⟨a, k, by rw [← ho']; exact hk, hb1, rfl, rfl⟩) with h | ⟨h1, h2⟩
     ·left; rw [ha2]; exact h
     ·have : a = i := by unfold Bu.addr at h1; have := N.kept.base; omega
      subst this
      exact (hia (inb_self _ _)).elim
    ·rw [hpages] at hq
     by_cases e : j = i
     ·subst e
      obtain rfl : cellPg c = q := Option.some.inj (hset.symm.trans hq)
      have hdc : d = c := by
       have : ((c : Nat) : Int) = d := hdl
       omega
      subst hdc
      have hb0 : (cellPg d).bit x = decide (x = 0) := by
       have hle : cellsN d ≤ 256 := by omega
       have h : (cellPg d).bit x = ((bornPg d).bit x != decide (x = 0)) := own_bit (bornPg d) 0 x true (by omega) (by omega)
       rw [h, bornPg_bits]
       cases decide (x = 0) <;> rfl
      rw [hb0] at hbx
      have : x = 0 := of_decide_eq_true hbx
      subst this
      right
      rw [ha2]
      exact ⟨by omega, rfl⟩
     ·rw [hne j e] at hq
      have hq0 := N.kept.slab j q hq h4
      left
      right
      exact ⟨j, d, x, hd, ⟨q, hq0, h4, hdl, hx, hbx⟩, by rw [ha2, ha1], rfl⟩
   ·rintro ((⟨a, k, hk, hb, rfl, rfl⟩ | ⟨j, d, x, hd, ⟨q, hq, h4, hdl, hx, hbx⟩, rfl, rfl⟩) | ⟨rfl, rfl⟩)
    ·have hia := hpi' hb
     refine .inl ⟨a, k, by rw [ho', N.kept.order]; exact hk, ?_, by rw [ha2, ha1], rfl⟩
     rw [hpages]
     exact (hb.kept I.inv N.kept).far (fun x hx => hne x (by rintro rfl; exact hia hx))
    ·have hji := hc4 hq h4
     refine .inr ⟨j, d, x, hd, ⟨q, ?_, h4, hdl, hx, hbx⟩, by rw [ha2, ha1], rfl⟩
     rw [hpages, hne j hji]
     exact (N.kept.page j (List.getElem?_eq_some_iff.1 hq).1 (I.inv.notOpen hq (.inr (.inr h4)))).trans hq
    ·refine .inr ⟨i, c, 0, hc, ⟨cellPg c, by rw [hpages]; exact hset, rfl, rfl, by omega, ?_⟩, by rw [ha2]; omega, rfl⟩
     have h : (cellPg c).bit 0 = ((bornPg c).bit 0 != decide (0 = 0)) := own_bit (bornPg c) 0 0 true (by omega) (by omega)
     rw [h, bornPg_bits]
     rfl
  ·rintro (⟨a, k, hk, hb, e, e2⟩ | ⟨j, d, x, hd, ⟨q, hq, h4, hdl, hx, hbx⟩, e, e2⟩)
   ·have := pow0 k
    have := wdOf_pos hc
    omega
   ·have := cell_lt hd hx
    have := wdOf_pos hd
    rw [ha1] at e
    unfold Bu.addr at e
    have : j = i := by omega
    exact hc4 hq h4 this
  ·obtain ⟨x, off, q', rfl, ho, hp, hk⟩ := h.pages h1 h2
   rw [← N.kept.bytes I.inv h h1 h2, newCell_eq, ← N.kept.base]
   refine hfar x off ?_ ho
   rintro rfl
   rcases N.new x (inb_self _ _) with h' | h'
   ·exact I.inv.notOpen hp hk h'
   ·have := (List.getElem?_eq_some_iff.1 hp).1
    omega
end Go.Proofs.YtnjcmcnjgdjbiaaGreatDoor
namespace Go.Proofs.YtnjcmcnjgdjbiaaGreatDoor
open Go.RowKit
theorem take_same (p : Pg) (f : Nat) (n : Int) : (p.take f n).kind = p.kind ∧ (p.take f n).order = p.order ∧ (p.take f n).cls = p.cls ∧ (p.take f n).next = p.next ∧ (p.take f n).prev = p.prev := by
 obtain ⟨s1, s2, s3, s4, s5, s6⟩ := own_same p f true
 exact ⟨s1, s2, s3, s4, s5⟩
theorem Nums.pages' {β : Bu} {μ' : Mp} (N : Nums β) (ho : μ'.order = β.μ.order) (hl : μ'.pages.length = β.μ.pages.length) : Nums { β with μ := μ' } := by
 refine ⟨?_, ?_, N.le, ?_, ?_, ?_, ?_⟩
 ·show μ'.pages.length = β.σ.n * 2 ^ μ'.order; rw [ho, hl]; exact N.full
 ·show _ = 4096 * 2 ^ μ'.order; rw [ho]; exact N.size
 ·show _ * 2 ^ μ'.order ≤ _; rw [ho]; exact N.pages
 ·show _ + 4096 * (_ * 2 ^ μ'.order) ≤ _; rw [ho]; exact N.top
 ·show _ = μ'.order; rw [ho]; exact N.so
 ·show _ % (4096 * 2 ^ μ'.order) = _; rw [ho]; exact N.al
theorem BInv.slabs {β : Bu} {F : Nat → List Nat} (I : BInv β F NoHole) {μ' : Mp} (ho : μ'.order = β.μ.order) (hp : μ'.pairs = β.μ.pairs) (hl : μ'.pages.length = β.μ.pages.length)
  (hpg : ∀ (x : Nat) (q : Pg), β.μ.pages[x]? = some q → ∃ q' : Pg, μ'.pages[x]? = some q' ∧ (q.kind = 4 ∧ q'.kind = 4 ∧ q'.order = 0 ∨ q.kind ≠ 4 ∧ q' = q)) : BInv { β with μ := μ' } F NoHole := by
 -- all slab pages in hand, then put back
 have hsl : ∀ x, (∃ q, β.μ.pages[x]? = some q ∧ q.kind = 4) → x < β.μ.pages.length := fun x ⟨q, hq, _⟩ => (List.getElem?_eq_some_iff.1 hq).1
 have hkd : ∀ {kd : Int} {k j : Nat}, (runPg kd k j).kind = 4 → kd = 4 ∨ kd = 3 := by
  intro kd k j h
  simp only [runPg, plainPg] at h
  split at h <;> omega
 have I1 : BInv β F (fun x => ∃ q, β.μ.pages[x]? = some q ∧ q.kind = 4) := by
  refine I.open_ (fun x h => h.elim) hsl (fun k hk i hi x ⟨q, hq, h4⟩ hx => ?_) (fun a k hk hb _ y ⟨q, hq, h4⟩ hy => ?_)
  ·have e := Option.some.inj (hq.symm.trans ((I.free k hk i hi).page hx))
   rw [e] at h4
   have := hkd h4
   omega
  ·have e := Option.some.inj (hq.symm.trans (hb.page hy))
   rw [e] at h4
   have := hkd h4
   omega
 refine I1.pages ho hp hl (fun x h => h.elim) (fun x hx => ?_) (fun x ⟨q, hq, h4⟩ _ => ?_)
 ·cases h : β.μ.pages[x]? with
  | none => rw [List.getElem?_eq_none_iff] at h ⊢; omega
  | some q =>
   obtain ⟨q', hq', hs⟩ := hpg x q h
   rcases hs with ⟨h4, _⟩ | ⟨_, e⟩
   ·exact (hx ⟨q, h, h4⟩).elim
   ·rw [hq', e]
 ·obtain ⟨q', hq', hs⟩ := hpg x q hq
  rcases hs with ⟨_, h4', h0⟩ | ⟨h4', _⟩
  ·exact .inr ⟨q', hq', h4', h0⟩
  ·exact (h4' h4).elim
structure CellTook (β : Bu) (ps : List Int) (F L : Nat → List Nat) (c : Nat) (β' : Bu) (p : Nat) : Prop where
 more : More β β' p (wdOf c)
 at_ : ∃ i x, i < β'.μ.pages.length ∧ x < cellsN c ∧ p = β.addr i + x * wdOf c
 grew : (β'.σ.n = β.σ.n ∧ (L c ≠ [] ∨ ∃ k, k ≤ β.μ.order ∧ F k ≠ [])) ∨ (β'.σ.n = β.σ.n + 1 ∧ β.σ.n < β.σ.limit ∧ L c = [] ∧ ∀ k, k ≤ β.μ.order → F k = [])
theorem HS.takeCell {β : Bu} {ps : List Int} {F C L : Nat → List Nat} (I : HS β ps F C L) (c : Nat) (deny : Bool) (hc : c < 8) :
  (∃ β' ps' F' C' L' p g, HS β' ps' F' C' L' ∧ CellTook β ps F L c β' p ∧ (deny = true → β'.σ.n = β.σ.n) ∧
   ∀ (w : World) (s pb : Nat) (K : BuL), SlRep w s pb K β ps → Glob w → (∀ k ∈ s :: pb :: K.fp, 9 ≤ k) → Calls Tryz.prog 191 #[.pointer (some ⟨s, 0, none⟩), .int .i64 c, .bool deny] w (Taken w s pb K β' ps' (.tuple #[.int .u64 (p : Nat), .bool g, .int .i64 0]))) ∨
  (L c = [] ∧ (∀ k, k ≤ β.μ.order → F k = []) ∧ (deny = true ∨ β.σ.n = β.σ.limit) ∧
   ∀ (w : World) (s pb : Nat) (K : BuL), SlRep w s pb K β ps → Calls Tryz.prog 191 #[.pointer (some ⟨s, 0, none⟩), .int .i64 c, .bool deny] w (Taken w s pb K β ps (.tuple #[.int .u64 0, .bool false, .int .i64 2]))) := by
 have hh := (I.slab.lists c hc).head
 cases hL : L c with
 | nil =>
  rw [hL] at hh
  have he : ps.getD c 0 = -1 := hh
  rcases I.need 0 deny (Nat.zero_le _) with ⟨i, β1, F1, g, N, hdn, HC⟩ | ⟨hno, hd, HC⟩
  ·left
   obtain ⟨H, M, hn⟩ := I.newCell hc he N
   have hpi := N.blk.page (inb_self i 0)
   refine ⟨β1.newCell i c, _, _, _, _, β1.addr i, g, H, ⟨M, ⟨i, 0, ?_, by have := wd_facts hc; omega, ?_⟩, ?_⟩, fun h => hn.trans (hdn h), ?_⟩
   ·rw [newCell_eq]
    show i < (β1.μ.pages.set _ _).length
    rw [List.length_set]
    exact (List.getElem?_eq_some_iff.1 hpi).1
   ·unfold Bu.addr
    rw [N.kept.base]
    omega
   ·rw [hn]
    rcases N.grew with ⟨h1, k, _, h2, h3⟩ | ⟨h1, h2, h3⟩
    ·exact .inl ⟨h1, .inr ⟨k, h2, h3⟩⟩
    ·exact .inr ⟨h1, h2, hL, fun k hk => h3 k (Nat.zero_le _) hk⟩
   ·intro w s pb K R G far
    exact R.take_page G far c i g deny hc he (HC w pb K R.po) hpi N.nums.full
  ·right
   exact ⟨rfl, fun k hk => hno k (Nat.zero_le _) hk, hd, fun w s pb K R => R.take_none c deny hc he (HC w pb K R.po)⟩
 | cons i t =>
  left
  rw [hL] at hh
  have he : ps.getD c 0 = (i : Int) := hh
  have him : i ∈ L c := by rw [hL]; simp
  obtain ⟨p, hp, h4, hcl, hne⟩ := I.slab.cls_of hc him
  have hcn : p.cls.toNat = c := by rw [hcl]; rfl
  have hlt := (List.getElem?_eq_some_iff.1 hp).1
  have D := I.slab.pages i p hp h4
  have hle := (wdOf_cells p.cls D.cls).2.2.2.2
  obtain ⟨f, u, hC⟩ := List.exists_cons_of_ne_nil hne
  rw [hC] at D
  have hfm := (D.mem f).1 (by simp)
  rw [hcl] at hfm
  have hf256 := (D.lt (f := f) (by simp)).2
  have hlv : 0 ≤ p.live + 1 ∧ p.live + 1 ≤ 256 := by
   have h1 := D.live
   have h2 := D.some_
   simp only [List.length_cons] at h1
   omega
  have hch := D.chain
  rw [hcn] at hch
  have D' := D.take
  obtain ⟨q1, q2, q3, q4, q5⟩ := take_same p f (hdI u)
  have hbit : ∀ x, x < 256 → (p.take f (hdI u)).bit x = (p.bit x != decide (x = f)) := fun x hx => own_bit p f x true hf256 hx
  have hset : (β.μ.setPage i (p.take f (hdI u))).pages[i]? = some (p.take f (hdI u)) := List.getElem?_set_self hlt
  have hnei : ∀ x, x ≠ i → (β.μ.setPage i (p.take f (hdI u))).pages[x]? = β.μ.pages[x]? := fun x h => List.getElem?_set_ne (fun e => h e.symm)
  have hgrew : (β.σ.n = β.σ.n ∧ (i :: t ≠ [] ∨ ∃ k, k ≤ β.μ.order ∧ F k ≠ [])) ∨ (β.σ.n = β.σ.n + 1 ∧ β.σ.n < β.σ.limit ∧ i :: t = [] ∧ ∀ k, k ≤ β.μ.order → F k = []) := .inl ⟨rfl, .inl (by simp)⟩
  cases u with
  | nil =>
   -- the page is full from now on
   obtain ⟨nb1, nb2, nb3⟩ := I.slab.nb hc him hp
   have hU := unhung_get (β.μ.setPage i (p.take f (-1))) i (p.take f (-1))
   have hpi : (p.take f (-1)).prev ≠ i ∧ (p.take f (-1)).next ≠ i := by
    rw [(take_same p f (-1)).2.2.2.2, (take_same p f (-1)).2.2.2.1]
    constructor
    ·rcases nb1 with h | ⟨j, q, e, hji, _⟩ <;> omega
    ·rcases nb2 with h | ⟨j, q, e, hji, _⟩ <;> omega
   have hU' := fun x => hU x hpi.1 hpi.2
   obtain ⟨us1, us2, us3⟩ := unhung_same (β.μ.setPage i (p.take f (-1))) i (p.take f (-1))
   have hlen : ((β.μ.setPage i (p.take f (-1))).unhung i (p.take f (-1))).pages.length = β.μ.pages.length := us3.trans (List.length_set ..)
   have hUi := hU' i
   rw [show (β.μ.setPage i (p.take f (-1))).pages[i]? = some (p.take f (-1)) from hset] at hUi
   have hpgx : ∀ x, x ≠ i → ∀ q, β.μ.pages[x]? = some q → ∃ q', ((β.μ.setPage i (p.take f (-1))).unhung i (p.take f (-1))).pages[x]? = some q' ∧ (q.kind = 4 ∧ SameBut q' q ∨ q.kind ≠ 4 ∧ q' = q) := by
    intro x hx q hq
    rw [hU' x, show (β.μ.setPage i (p.take f (-1))).pages[x]? = β.μ.pages[x]? from hnei x hx, hq]
    refine ⟨_, rfl, ?_⟩
    by_cases hk : q.kind = 4
    ·exact .inl ⟨hk, sameBut_mk q _ _⟩
    ·refine .inr ⟨hk, ?_⟩
     have n1 : ¬ ((x : Int) = (p.take f (-1)).prev) := by
      rw [(take_same p f (-1)).2.2.2.2]
      intro e
      rcases nb1 with h | ⟨j, q2, e2, _, hq2, hk2, _⟩
      ·omega
      ·have : j = x := by omega
       subst this
       obtain rfl : q = q2 := Option.some.inj (hq.symm.trans hq2)
       exact hk hk2
     have n2 : ¬ ((x : Int) = (p.take f (-1)).next) := by
      rw [(take_same p f (-1)).2.2.2.1]
      intro e
      rcases nb2 with h | ⟨j, q2, e2, _, hq2, hk2, _⟩
      ·omega
      ·have : j = x := by omega
       subst this
       obtain rfl : q = q2 := Option.some.inj (hq.symm.trans hq2)
       exact hk hk2
     simp only [if_neg hx, if_neg n1, if_neg n2]
   have S' := I.slab.unhang (β' := { β with μ := (β.μ.setPage i (p.take f (-1))).unhung i (p.take f (-1)) }) (p' := p.take f (-1)) hc him hp ⟨(take_same p f (-1)).2.2.2.1, (take_same p f (-1)).2.2.2.2⟩ rfl (fun _ _ _ _ _ _ _ => rfl) (fun x _ => rfl) (fun q hq h4q => by
    have hq : ((β.μ.setPage i (p.take f (-1))).unhung i (p.take f (-1))).pages[i]? = some q := hq
    rw [hUi] at hq
    have e := Option.some.inj hq
    rw [← e]
    exact ((sameBut_mk (p.take f (-1)) _ _).cells D').1)
   refine ⟨{ β with μ := (β.μ.setPage i (p.take f (-1))).unhung i (p.take f (-1)) }, unps ps c (p.take f (-1)), F, _, _, β.addr i + f * wdOf c, false, ⟨?_, S', I.nums.pages' us1 hlen⟩, ⟨?_, ⟨i, f, by show i < ((β.μ.setPage i (p.take f (-1))).unhung i (p.take f (-1))).pages.length; rw [hlen]; exact hlt, hfm.1, rfl⟩, by rw [hL]; exact hgrew⟩, fun _ => rfl, ?_⟩
   ·refine I.inv.slabs us1 us2 hlen (fun x q hq => ?_)
    by_cases hx : x = i
    ·subst hx
     obtain rfl : p = q := Option.some.inj (hp.symm.trans hq)
     exact ⟨_, hUi, .inl ⟨h4, (take_same p f (-1)).1.trans h4, (take_same p f (-1)).2.1.trans D.order⟩⟩
    ·obtain ⟨q', hq', hs⟩ := hpgx x hx q hq
     refine ⟨q', hq', ?_⟩
     rcases hs with ⟨hk, hs⟩ | ⟨hk, hs⟩
     ·left
      refine ⟨hk, hs.kind.1.trans hk, ?_⟩
      have := (I.slab.pages x q hq hk).order
      unfold SameBut at hs
      rw [hs]
      exact this
     ·exact .inr ⟨hk, hs⟩
   ·refine more_cell (p' := _) hc hp h4 hcl hfm.1 hfm.2 hUi ((take_same p f (-1)).1.trans h4) ((take_same p f (-1)).2.2.1.trans hcl) hbit us1 rfl (fun j hj => ⟨fun q hq => hpgx j hj q hq, fun q' hq' => ?_⟩)
    have hq' : ((β.μ.setPage i (p.take f (-1))).unhung i (p.take f (-1))).pages[j]? = some q' := hq'
    cases h : β.μ.pages[j]? with
    | none =>
     rw [hU' j, show (β.μ.setPage i (p.take f (-1))).pages[j]? = β.μ.pages[j]? from hnei j hj, h] at hq'
     simp at hq'
    | some q => exact ⟨q, rfl⟩
   ·intro w s pb K R G far
    exact R.take_last G c i f deny hc he I.nums.full hp h4 hcl (by rw [D.first]; rfl) hfm.1 hfm.2 hlv hch.1 nb1 nb2 nb3
  | cons f2 u =>
   have hf2 := (D.lt (f := f2) (by simp)).1
   rw [hcl] at hf2
   have S' := I.slab.cell (σ' := β.σ) (p' := p.take f (hdI (f2 :: u))) (u := f2 :: u) hp h4 rfl (q1.trans h4) q3 ⟨q4, q5⟩ (by rw [hC]; simp) D' (fun _ _ _ _ => rfl)
   have hlen : (β.μ.setPage i (p.take f (hdI (f2 :: u)))).pages.length = β.μ.pages.length := List.length_set ..
   refine ⟨{ β with μ := β.μ.setPage i (p.take f (f2 : Int)) }, ps, F, _, L, β.addr i + f * wdOf c, false, ⟨?_, S', I.nums.pages' rfl hlen⟩, ⟨?_, ⟨i, f, by show i < (β.μ.pages.set _ _).length; rw [List.length_set]; exact hlt, hfm.1, rfl⟩, by rw [hL]; exact hgrew⟩, fun _ => rfl, ?_⟩
   ·refine I.inv.slabs rfl rfl hlen (fun x q hq => ?_)
    by_cases hx : x = i
    ·subst hx
     obtain rfl : p = q := Option.some.inj (hp.symm.trans hq)
     exact ⟨_, hset, .inl ⟨h4, q1.trans h4, q2.trans D.order⟩⟩
    ·refine ⟨q, (hnei x hx).trans hq, ?_⟩
     by_cases hk : q.kind = 4
     ·exact .inl ⟨hk, hk, (I.slab.pages x q hq hk).order⟩
     ·exact .inr ⟨hk, rfl⟩
   ·refine more_cell (p' := p.take f (hdI (f2 :: u))) hc hp h4 hcl hfm.1 hfm.2 hset (q1.trans h4) (q3.trans hcl) hbit rfl rfl (fun j hj => ⟨fun q hq => ⟨q, (hnei j hj).trans hq, ?_⟩, fun q' hq' => ⟨q', (hnei j hj).symm.trans hq'⟩⟩)
    by_cases hk : q.kind = 4
    ·exact .inl ⟨hk, SameBut.refl _⟩
    ·exact .inr ⟨hk, rfl⟩
   ·intro w s pb K R G far
    exact R.take_old G c i f f2 deny hc he I.nums.full hp h4 hcl (by rw [D.first]; rfl) hfm.1 hfm.2 hlv hf2 hch.1
theorem find_cells (s pb mb base p i c wd d n off cell q r x : Nat) (b : Bool) (pg : Pg) (w : World)
  (c0 : w.cell? ⟨s, 0, none⟩ = some (.pointer (some ⟨pb, 0, none⟩))) (ls : s < w.heap.size) (cw : w.cell? ⟨1, c, none⟩ = some (.int .u64 wd)) (h1 : ¬ (p < base))
  (hM : ∀ W, Touch Nothing w W → Calls Tryz.prog 63 #[.pointer (some ⟨pb, 0, none⟩)] W fun e w' => e = .returned (.pointer (some ⟨mb, 0, none⟩)) ∧ W = w')
  (hB : ∀ W, Touch Nothing w W → Calls Tryz.prog 243 #[.pointer (some ⟨s, 0, none⟩)] W fun e w' => e = .returned (.int .u64 base) ∧ ∃ k, w' = W.drewN k)
  (hP : ∀ W, Touch Nothing w W → Calls Tryz.prog 64 #[.pointer (some ⟨mb, 0, none⟩)] W fun e w' => e = .returned (.int .i64 n) ∧ W = w')
  (hA : ∀ W, Touch Nothing w W → Calls Tryz.prog 65 #[.pointer (some ⟨mb, 0, none⟩), .int .i64 i] W fun e w' => e = .returned (.tuple #[pg.val, .bool true]) ∧ Touch Nothing W w')
  (hk : pg.kind = 4) (hc : pg.cls = c) (hc8 : (c : Int) < 8) (hwd0 : ¬ (wd : Int) = 0) (_hwd : (wd : Int) ≤ 2048)
  (e1 : (p : Int) - base = (d : Nat)) (e1' : (d : Int) / 4096 = i) (hi : i < n) (hn : n ≤ 1024) (hp : p ≤ 18446744073709551615)
  (e2 : (d : Int) % 4096 = off) (_ho : (off : Int) ≤ 4095) (e3 : (off : Int) % wd = 0) (e4 : (off : Int) / wd = cell) (hcell : (cell : Int) < 256)
  (r1 : (cell : Int) / 64 = q) (r1' : (cell : Int).tdiv 64 = q) (r2 : (cell : Int) % 64 = r) (r3 : (cell : Int).tmod 64 = r) (hq : (q : Int) < 4) (_hr : (r : Int) < 64) (hx : pg.word q = x) (hbt : (bits .and .u64 ((x : Int) / 2 ^ r) 1 == 1) = b) :
  Calls Tryz.prog 251 #[.pointer (some ⟨s, 0, none⟩), .int .u64 p] w fun e w' => e = .returned (.tuple #[.int .i64 i, .int .i64 cell, pg.val, .bool b]) ∧ Touch Nothing w w' := by
 have T0 := Hd (show Touch Nothing w (w.alloc (.cells #[.int .i64 0, .int .i64 0, .int .i64 0, .int .i64 0, .int .i64 0, .int .i64 0, .int .i64 0, .int .u64 0, .int .u64 0, .int .u64 0, .int .u64 0] 128)) from (Touch.refl _ _).alloc _)
 have HM := Hd hM
 have HB := Hd hB
 have HP := Hd hP
 have HA := Hd hA
 have HCW := Hd cw
 clear hM hB hP hA cw
 go_enter Tryz.func251, Tryz.ntmps251
 go_wp2_with fail
 refine (HM.out _ T0.out).mono ?_
 rintro e w1 ⟨rfl, rfl⟩
 go_wp2_with fail
 refine (HB.out _ T0.out).mono ?_
 rintro e w1 ⟨rfl, k1, rfl⟩
 go_wp2_with fail
 have T1 : Touch Nothing w ((w.alloc (.cells #[.int .i64 0, .int .i64 0, .int .i64 0, .int .i64 0, .int .i64 0, .int .i64 0, .int .i64 0, .int .u64 0, .int .u64 0, .int .u64 0, .int .u64 0] 128)).drewN k1) := T0.out.drewN k1
 have B1 := (Blk.new w #[.int .i64 0, .int .i64 0, .int .i64 0, .int .i64 0, .int .i64 0, .int .i64 0, .int .i64 0, .int .u64 0, .int .u64 0, .int .u64 0, .int .u64 0] 128).drewN k1
 generalize (w.alloc (.cells #[.int .i64 0, .int .i64 0, .int .i64 0, .int .i64 0, .int .i64 0, .int .i64 0, .int .i64 0, .int .u64 0, .int .u64 0, .int .u64 0, .int .u64 0] 128)).drewN k1 = w1 at *
 refine (HP.out _ T1).mono ?_
 rintro e w2 ⟨rfl, rfl⟩
 have hX : w.heap.size < w1.heap.size := B1.lt
 have hsx : s ≠ w.heap.size := by omega
 have HX := Hd (show ∀ k, k < w.heap.size → ¬ k = w.heap.size from fun k h e => by omega)
 generalize hXe : w.heap.size = X at *
 have HT1 := Hd T1
 have HB1 := Hd B1
 clear T1 B1
 have hin : ¬ ((n : Int) ≤ i) := by omega
 go_wp2_with fail
 refine (HA.out _ HT1.out).mono ?_
 rintro e w2 ⟨rfl, T2⟩
 have B2 := HB1.out.touch T2 (fun h => h)
 have f0 := B2.free 0
 have z0 := B2.cell 0
 have f1 := B2.free 1
 have z1 := B2.cell 1
 have f2 := B2.free 2
 have z2 := B2.cell 2
 have f3 := B2.free 3
 have z3 := B2.cell 3
 have f4 := B2.free 4
 have z4 := B2.cell 4
 have f5 := B2.free 5
 have z5 := B2.cell 5
 have f6 := B2.free 6
 have z6 := B2.cell 6
 have f7 := B2.free 7
 have z7 := B2.cell 7
 have f8 := B2.free 8
 have z8 := B2.cell 8
 have f9 := B2.free 9
 have z9 := B2.cell 9
 have f10 := B2.free 10
 have z10 := B2.cell 10
 simp at z0 z1 z2 z3 z4 z5 z6 z7 z8 z9 z10
 have hX2 : X < w2.heap.size := B2.lt
 have HB2 := Hd B2
 have HT2 := Hd (HT1.out.trans T2)
 clear B2 T2 hX
 unfold Pg.val
 rw [hk, hc]
 go_upto_region 6 with fail
 have HB3 := Hd (((((((((((HB2.out.set 0 (.int .i64 4)).set 1 (.int .i64 pg.order)).set 2 (.int .i64 c)).set 3 (.int .i64 pg.live)).set 4 (.int .i64 pg.next)).set 5 (.int .i64 pg.prev)).set 6 (.int .i64 pg.first)).set 7 (.int .u64 pg.b0)).set 8 (.int .u64 pg.b1)).set 9 (.int .u64 pg.b2)).set 10 (.int .u64 pg.b3))
 have HT3 := Hd (((((((((((Touch.cellAt (w2) X 0 (.int .i64 4)).trans (Touch.cellAt (w2.setCell ⟨X, 0, none⟩ (.int .i64 4)) X 1 (.int .i64 pg.order))).trans (Touch.cellAt ((w2.setCell ⟨X, 0, none⟩ (.int .i64 4)).setCell ⟨X, 1, none⟩ (.int .i64 pg.order)) X 2 (.int .i64 c))).trans (Touch.cellAt (((w2.setCell ⟨X, 0, none⟩ (.int .i64 4)).setCell ⟨X, 1, none⟩ (.int .i64 pg.order)).setCell ⟨X, 2, none⟩ (.int .i64 c)) X 3 (.int .i64 pg.live))).trans (Touch.cellAt ((((w2.setCell ⟨X, 0, none⟩ (.int .i64 4)).setCell ⟨X, 1, none⟩ (.int .i64 pg.order)).setCell ⟨X, 2, none⟩ (.int .i64 c)).setCell ⟨X, 3, none⟩ (.int .i64 pg.live)) X 4 (.int .i64 pg.next))).trans (Touch.cellAt (((((w2.setCell ⟨X, 0, none⟩ (.int .i64 4)).setCell ⟨X, 1, none⟩ (.int .i64 pg.order)).setCell ⟨X, 2, none⟩ (.int .i64 c)).setCell ⟨X, 3, none⟩ (.int .i64 pg.live)).setCell ⟨X, 4, none⟩ (.int .i64 pg.next)) X 5 (.int .i64 pg.prev))).trans (Touch.cellAt ((((((w2.setCell ⟨X, 0, none⟩ (.int .i64 4)).setCell ⟨X, 1, none⟩ (.int .i64 pg.order)).setCell ⟨X, 2, none⟩ (.int .i64 c)).setCell ⟨X, 3, none⟩ (.int .i64 pg.live)).setCell ⟨X, 4, none⟩ (.int .i64 pg.next)).setCell ⟨X, 5, none⟩ (.int .i64 pg.prev)) X 6 (.int .i64 pg.first))).trans (Touch.cellAt (((((((w2.setCell ⟨X, 0, none⟩ (.int .i64 4)).setCell ⟨X, 1, none⟩ (.int .i64 pg.order)).setCell ⟨X, 2, none⟩ (.int .i64 c)).setCell ⟨X, 3, none⟩ (.int .i64 pg.live)).setCell ⟨X, 4, none⟩ (.int .i64 pg.next)).setCell ⟨X, 5, none⟩ (.int .i64 pg.prev)).setCell ⟨X, 6, none⟩ (.int .i64 pg.first)) X 7 (.int .u64 pg.b0))).trans (Touch.cellAt ((((((((w2.setCell ⟨X, 0, none⟩ (.int .i64 4)).setCell ⟨X, 1, none⟩ (.int .i64 pg.order)).setCell ⟨X, 2, none⟩ (.int .i64 c)).setCell ⟨X, 3, none⟩ (.int .i64 pg.live)).setCell ⟨X, 4, none⟩ (.int .i64 pg.next)).setCell ⟨X, 5, none⟩ (.int .i64 pg.prev)).setCell ⟨X, 6, none⟩ (.int .i64 pg.first)).setCell ⟨X, 7, none⟩ (.int .u64 pg.b0)) X 8 (.int .u64 pg.b1))).trans (Touch.cellAt (((((((((w2.setCell ⟨X, 0, none⟩ (.int .i64 4)).setCell ⟨X, 1, none⟩ (.int .i64 pg.order)).setCell ⟨X, 2, none⟩ (.int .i64 c)).setCell ⟨X, 3, none⟩ (.int .i64 pg.live)).setCell ⟨X, 4, none⟩ (.int .i64 pg.next)).setCell ⟨X, 5, none⟩ (.int .i64 pg.prev)).setCell ⟨X, 6, none⟩ (.int .i64 pg.first)).setCell ⟨X, 7, none⟩ (.int .u64 pg.b0)).setCell ⟨X, 8, none⟩ (.int .u64 pg.b1)) X 9 (.int .u64 pg.b2))).trans (Touch.cellAt ((((((((((w2.setCell ⟨X, 0, none⟩ (.int .i64 4)).setCell ⟨X, 1, none⟩ (.int .i64 pg.order)).setCell ⟨X, 2, none⟩ (.int .i64 c)).setCell ⟨X, 3, none⟩ (.int .i64 pg.live)).setCell ⟨X, 4, none⟩ (.int .i64 pg.next)).setCell ⟨X, 5, none⟩ (.int .i64 pg.prev)).setCell ⟨X, 6, none⟩ (.int .i64 pg.first)).setCell ⟨X, 7, none⟩ (.int .u64 pg.b0)).setCell ⟨X, 8, none⟩ (.int .u64 pg.b1)).setCell ⟨X, 9, none⟩ (.int .u64 pg.b2)) X 10 (.int .u64 pg.b3)))
 generalize (((((((((((w2.setCell ⟨X, 0, none⟩ (.int .i64 4)).setCell ⟨X, 1, none⟩ (.int .i64 pg.order)).setCell ⟨X, 2, none⟩ (.int .i64 c)).setCell ⟨X, 3, none⟩ (.int .i64 pg.live)).setCell ⟨X, 4, none⟩ (.int .i64 pg.next)).setCell ⟨X, 5, none⟩ (.int .i64 pg.prev)).setCell ⟨X, 6, none⟩ (.int .i64 pg.first)).setCell ⟨X, 7, none⟩ (.int .u64 pg.b0)).setCell ⟨X, 8, none⟩ (.int .u64 pg.b1)).setCell ⟨X, 9, none⟩ (.int .u64 pg.b2)).setCell ⟨X, 10, none⟩ (.int .u64 pg.b3)) = w3 at *
 have b0 := HB3.out.cell 0
 have g0 := HB3.out.free 0
 have b1 := HB3.out.cell 1
 have g1 := HB3.out.free 1
 have b2 := HB3.out.cell 2
 have g2 := HB3.out.free 2
 have b3 := HB3.out.cell 3
 have g3 := HB3.out.free 3
 have b4 := HB3.out.cell 4
 have g4 := HB3.out.free 4
 have b5 := HB3.out.cell 5
 have g5 := HB3.out.free 5
 have b6 := HB3.out.cell 6
 have g6 := HB3.out.free 6
 have b7 := HB3.out.cell 7
 have g7 := HB3.out.free 7
 have b8 := HB3.out.cell 8
 have g8 := HB3.out.free 8
 have b9 := HB3.out.cell 9
 have g9 := HB3.out.free 9
 have b10 := HB3.out.cell 10
 have g10 := HB3.out.free 10
 simp at b0 b1 b2 b3 b4 b5 b6 b7 b8 b9 b10
 have cw : w3.cell? ⟨1, c, none⟩ = some (.int .u64 wd) := by
  have h1 : 1 < X := by rw [← hXe]; exact World.block_lt_of_cell? _ _ HCW.out
  refine (HT3.out.cell (p := ⟨1, c, none⟩) (Nat.lt_trans h1 hX2) (fun e => by simp at e; omega)).trans ?_
  exact (HT2.out.cell (p := ⟨1, c, none⟩) (by rw [hXe]; exact h1) (fun h => h)).trans HCW.out
 have hxc : w3.cell? ⟨X, 7 + q, none⟩ = some (.int .u64 x) := by
  rw [HB3.out.cell]
  have := pg.word_cell q (by omega)
  rw [hx] at this
  simpa [Pg.cells, hk, hc] using this
 clear f0 z0 f1 z1 f2 z2 f3 z3 f4 z4 f5 z5 f6 z6 f7 z7 f8 z8 f9 z9 f10 z10 c0
 go_upto_region 10 with fail
 go_region
 all_goals
  have HB4 := Hd (((((((((((HB3.out.set 0 (.int .i64 4)).set 1 (.int .i64 pg.order)).set 2 (.int .i64 c)).set 3 (.int .i64 pg.live)).set 4 (.int .i64 pg.next)).set 5 (.int .i64 pg.prev)).set 6 (.int .i64 pg.first)).set 7 (.int .u64 pg.b0)).set 8 (.int .u64 pg.b1)).set 9 (.int .u64 pg.b2)).set 10 (.int .u64 pg.b3))
  have HT4 := Hd (((((((((((Touch.cellAt (w3) X 0 (.int .i64 4)).trans (Touch.cellAt (w3.setCell ⟨X, 0, none⟩ (.int .i64 4)) X 1 (.int .i64 pg.order))).trans (Touch.cellAt ((w3.setCell ⟨X, 0, none⟩ (.int .i64 4)).setCell ⟨X, 1, none⟩ (.int .i64 pg.order)) X 2 (.int .i64 c))).trans (Touch.cellAt (((w3.setCell ⟨X, 0, none⟩ (.int .i64 4)).setCell ⟨X, 1, none⟩ (.int .i64 pg.order)).setCell ⟨X, 2, none⟩ (.int .i64 c)) X 3 (.int .i64 pg.live))).trans (Touch.cellAt ((((w3.setCell ⟨X, 0, none⟩ (.int .i64 4)).setCell ⟨X, 1, none⟩ (.int .i64 pg.order)).setCell ⟨X, 2, none⟩ (.int .i64 c)).setCell ⟨X, 3, none⟩ (.int .i64 pg.live)) X 4 (.int .i64 pg.next))).trans (Touch.cellAt (((((w3.setCell ⟨X, 0, none⟩ (.int .i64 4)).setCell ⟨X, 1, none⟩ (.int .i64 pg.order)).setCell ⟨X, 2, none⟩ (.int .i64 c)).setCell ⟨X, 3, none⟩ (.int .i64 pg.live)).setCell ⟨X, 4, none⟩ (.int .i64 pg.next)) X 5 (.int .i64 pg.prev))).trans (Touch.cellAt ((((((w3.setCell ⟨X, 0, none⟩ (.int .i64 4)).setCell ⟨X, 1, none⟩ (.int .i64 pg.order)).setCell ⟨X, 2, none⟩ (.int .i64 c)).setCell ⟨X, 3, none⟩ (.int .i64 pg.live)).setCell ⟨X, 4, none⟩ (.int .i64 pg.next)).setCell ⟨X, 5, none⟩ (.int .i64 pg.prev)) X 6 (.int .i64 pg.first))).trans (Touch.cellAt (((((((w3.setCell ⟨X, 0, none⟩ (.int .i64 4)).setCell ⟨X, 1, none⟩ (.int .i64 pg.order)).setCell ⟨X, 2, none⟩ (.int .i64 c)).setCell ⟨X, 3, none⟩ (.int .i64 pg.live)).setCell ⟨X, 4, none⟩ (.int .i64 pg.next)).setCell ⟨X, 5, none⟩ (.int .i64 pg.prev)).setCell ⟨X, 6, none⟩ (.int .i64 pg.first)) X 7 (.int .u64 pg.b0))).trans (Touch.cellAt ((((((((w3.setCell ⟨X, 0, none⟩ (.int .i64 4)).setCell ⟨X, 1, none⟩ (.int .i64 pg.order)).setCell ⟨X, 2, none⟩ (.int .i64 c)).setCell ⟨X, 3, none⟩ (.int .i64 pg.live)).setCell ⟨X, 4, none⟩ (.int .i64 pg.next)).setCell ⟨X, 5, none⟩ (.int .i64 pg.prev)).setCell ⟨X, 6, none⟩ (.int .i64 pg.first)).setCell ⟨X, 7, none⟩ (.int .u64 pg.b0)) X 8 (.int .u64 pg.b1))).trans (Touch.cellAt (((((((((w3.setCell ⟨X, 0, none⟩ (.int .i64 4)).setCell ⟨X, 1, none⟩ (.int .i64 pg.order)).setCell ⟨X, 2, none⟩ (.int .i64 c)).setCell ⟨X, 3, none⟩ (.int .i64 pg.live)).setCell ⟨X, 4, none⟩ (.int .i64 pg.next)).setCell ⟨X, 5, none⟩ (.int .i64 pg.prev)).setCell ⟨X, 6, none⟩ (.int .i64 pg.first)).setCell ⟨X, 7, none⟩ (.int .u64 pg.b0)).setCell ⟨X, 8, none⟩ (.int .u64 pg.b1)) X 9 (.int .u64 pg.b2))).trans (Touch.cellAt ((((((((((w3.setCell ⟨X, 0, none⟩ (.int .i64 4)).setCell ⟨X, 1, none⟩ (.int .i64 pg.order)).setCell ⟨X, 2, none⟩ (.int .i64 c)).setCell ⟨X, 3, none⟩ (.int .i64 pg.live)).setCell ⟨X, 4, none⟩ (.int .i64 pg.next)).setCell ⟨X, 5, none⟩ (.int .i64 pg.prev)).setCell ⟨X, 6, none⟩ (.int .i64 pg.first)).setCell ⟨X, 7, none⟩ (.int .u64 pg.b0)).setCell ⟨X, 8, none⟩ (.int .u64 pg.b1)).setCell ⟨X, 9, none⟩ (.int .u64 pg.b2)) X 10 (.int .u64 pg.b3)))
  generalize (((((((((((w3.setCell ⟨X, 0, none⟩ (.int .i64 4)).setCell ⟨X, 1, none⟩ (.int .i64 pg.order)).setCell ⟨X, 2, none⟩ (.int .i64 c)).setCell ⟨X, 3, none⟩ (.int .i64 pg.live)).setCell ⟨X, 4, none⟩ (.int .i64 pg.next)).setCell ⟨X, 5, none⟩ (.int .i64 pg.prev)).setCell ⟨X, 6, none⟩ (.int .i64 pg.first)).setCell ⟨X, 7, none⟩ (.int .u64 pg.b0)).setCell ⟨X, 8, none⟩ (.int .u64 pg.b1)).setCell ⟨X, 9, none⟩ (.int .u64 pg.b2)).setCell ⟨X, 10, none⟩ (.int .u64 pg.b3)) = w4 at *
  go_wp2_with fail
  have d0 := HB4.out.drew.cell 0
  have d1 := HB4.out.drew.cell 1
  have d2 := HB4.out.drew.cell 2
  have d3 := HB4.out.drew.cell 3
  have d4 := HB4.out.drew.cell 4
  have d5 := HB4.out.drew.cell 5
  have d6 := HB4.out.drew.cell 6
  have d7 := HB4.out.drew.cell 7
  have d8 := HB4.out.drew.cell 8
  have d9 := HB4.out.drew.cell 9
  have d10 := HB4.out.drew.cell 10
  simp at d0 d1 d2 d3 d4 d5 d6 d7 d8 d9 d10
  have hv : pg.val = .agg #[.int .i64 4, .int .i64 pg.order, .int .i64 c, .int .i64 pg.live, .int .i64 pg.next, .int .i64 pg.prev, .int .i64 pg.first, .int .u64 pg.b0, .int .u64 pg.b1, .int .u64 pg.b2, .int .u64 pg.b3] := by unfold Pg.val; rw [hk, hc]
  rw [hv]
  exact bodyPost_ret (v := .tuple #[.int .i64 i, .int .i64 cell, .agg #[.int .i64 4, .int .i64 pg.order, .int .i64 c, .int .i64 pg.live, .int .i64 pg.next, .int .i64 pg.prev, .int .i64 pg.first, .int .u64 pg.b0, .int .u64 pg.b1, .int .u64 pg.b2, .int .u64 pg.b3], .bool b]) (by simp [results, Tryz.results251, go_sem, d0, d1, d2, d3, d4, d5, d6, d7, d8, d9, d10]) rfl ⟨rfl, (HT2.out.trans' HT3.out (fun i hi e => by rw [hXe] at hi; omega)).trans' HT4.out.drew (fun i hi e => by rw [hXe] at hi; omega)⟩
theorem SlRep.find_ {w : World} {s pb : Nat} {K : BuL} {β : Bu} {ps : List Int} (R : SlRep w s pb K β ps) (G : Glob w) (i c x : Nat) {pg : Pg} (hi : β.μ.pages[i]? = some pg) (hk : pg.kind = 4) (hcl : pg.cls = c) (hc : c < 8) (hx : x < cellsN c) (hl : β.μ.pages.length = β.σ.n * 2 ^ β.μ.order) :
  Calls Tryz.prog 251 #[.pointer (some ⟨s, 0, none⟩), .int .u64 (β.addr i + x * wdOf c : Nat)] w fun e w' => e = .returned (.tuple #[.int .i64 i, .int .i64 x, pg.val, .bool (pg.bit x)]) ∧ Touch Nothing w w' := by
 have hlt := (List.getElem?_eq_some_iff.1 hi).1
 have hlen := R.po.bu.mp.ok.len
 have htop : β.σ.base + 4096 * i + 4096 ≤ 18446744073709551615 := R.po.bu.ok.addr_top R.po.bu.sp.ok hlt
 obtain ⟨u1, u2, u3, u4, u5, u6⟩ := wd_facts hc
 have hin : x * wdOf c + wdOf c ≤ 4096 := by
  have := cell_in c (by omega) hx
  simpa using this
 have po := R.po.bu.mp.ok.page pg (List.mem_of_getElem? hi)
 have hx256 : x < 256 := by omega
 have hq : x / 64 < 4 := by omega
 have hdm : x * wdOf c % wdOf c = 0 := Nat.mul_mod_left _ _
 have hdv : x * wdOf c / wdOf c = x := Nat.mul_div_cancel _ (by omega)
 unfold Bu.addr
 refine find_cells s pb K.M.mb β.σ.base _ i c (wdOf c) (4096 * i + x * wdOf c) β.μ.pages.length (x * wdOf c) x (x / 64) (x % 64) (pg.word (x / 64)) (pg.bit x) pg w R.pool (R.lt s (by simp)) (G.widths c hc) (by omega)
  (fun W T => (R.touch0 T).po.map_) (fun W T => (R.touch0 T).base_ hl) (fun W T => (R.touch0 T).po.bu.mp.pages_) (fun W T => (R.touch0 T).po.bu.mp.at_ hi) hk hcl (by omega) (by omega) (by omega)
  ?_ ?_ hlt (by omega) (by omega) ?_ (by omega) ?_ ?_ (by omega) (by omega) ?_ (by omega) ?_ (by omega) (by omega) rfl ?_
 ·generalize x * wdOf c = y at *; omega
 ·generalize x * wdOf c = y at *; omega
 ·generalize x * wdOf c = y at *; omega
 ·exact_mod_cast hdm
 ·exact_mod_cast hdv
 ·rw [Int.ofNat_tdiv]; rfl
 ·rw [Int.ofNat_tmod]; rfl
 ·exact bit_test _ _ (po.word_lt _ hq)
theorem SlRep.hang2_ {w : World} {s pb : Nat} {K : BuL} {β : Bu} {ps : List Int} (R : SlRep w s pb K β ps) (i c j : Nat) {p q : Pg} (hi : β.μ.pages[i]? = some p) (hk : p.kind = 4) (hc : c < 8) (he : ps.getD c 0 = j)
  (hji : j ≠ i) (hj : β.μ.pages[j]? = some q) (hqk : q.kind = 4) (hqn : q.next < β.μ.pages.length) :
  Calls Tryz.prog 252 #[.pointer (some ⟨s, 0, none⟩), .int .i64 i, .int .i64 c] w fun e w' => e = .returned (.tuple #[]) ∧ SlRep w' s pb K { β with μ := β.μ.hung2 i j } (ps.set c i) ∧ Touch (· ∈ s :: K.fp) w w' := by
 have hjg : (β.μ.setPage i { p with next := (j : Int), prev := -1 }).pages[j]? = some q := (List.getElem?_set_ne (fun e => hji e.symm)).trans hj
 have hU : β.μ.hung2 i j = (β.μ.setPage i { p with next := (j : Int), prev := -1 }).setPage j { q with next := q.next, prev := (i : Int) } := by
  unfold Mp.hung2
  have h2 : ¬ ((j : Int) < 0) := by omega
  simp only [if_neg h2, Int.toNat_natCast]
  rw [modPage_of (j := i) (q := p) _ hi, modPage_of (j := j) (q := q) _ hjg]
 rw [hU]
 have c0 := R.pool
 have c1 := R.part c hc
 rw [he] at c1
 have HM := Hd (fun k => ((R.drewN k).po.map_).mono (fun e w' (h : e = _ ∧ w.drewN k = w') => (⟨h.1, h.2.symm⟩ : e = _ ∧ w' = w.drewN k)))
 have hlt := (List.getElem?_eq_some_iff.1 hi).1
 have hlj := (List.getElem?_eq_some_iff.1 hj).1
 have hlen := R.po.bu.mp.ok.len
 have hq1 : -1 ≤ q.next := (R.po.bu.mp.ok.page q (List.mem_of_getElem? hj)).next.1
 have HCh := Hd (fun k => (R.drewN k).po.bu.mp.chain_ hi hk (j : Int) (-1) (by omega) (by omega) (by omega) (by omega))
 have HR := Hd R
 have HJ := Hd hjg
 have HQk := Hd hqk
 have HQn := Hd (And.intro hq1 hqn)
 clear R hi hk he hU hj hjg hqk hqn hq1
 go_enter Tryz.func252, Tryz.ntmps252
 go_wp2_with fail
 go_quiet (first | (go_at_call 63; refine Calls.quiet_of_same (HM.out _)))
 go_wp2_with fail
 refine (HCh.out _).mono ?_
 rintro e w1 ⟨rfl, r1, t1⟩
 have R1 := (HR.out.drewN nq).po.bu.paged r1 t1 rfl (List.length_set ..)
 have S1 := (HR.out.drewN nq).next R1.2 (BuL.Next.refl _ _) R1.1
 have HAt := Hd (S1.po.bu.mp.at_ HJ.out)
 have hS := Hd S1
 have hT := Hd (((Touch.refl _ w).drewN nq).trans R1.2)
 clear r1 t1 R1 c0 c1 S1 HCh HM
 go_wp2_with fail
 refine HAt.out.mono ?_
 rintro e w2 ⟨rfl, T2⟩
 have HS2 := Hd (hS.out.touch0 T2)
 have HT2 := Hd T2
 clear T2 HAt
 unfold Pg.val
 go_wp2_with fail
 have T3 := (Touch.refl Nothing w2).alloc (.cells #[.int .i64 q.kind, .int .i64 q.order, .int .i64 q.cls, .int .i64 q.live, .int .i64 q.next, .int .i64 q.prev, .int .i64 q.first, .int .u64 q.b0, .int .u64 q.b1, .int .u64 q.b2, .int .u64 q.b3] 128)
 have B3 := Blk.new w2 #[.int .i64 q.kind, .int .i64 q.order, .int .i64 q.cls, .int .i64 q.live, .int .i64 q.next, .int .i64 q.prev, .int .i64 q.first, .int .u64 q.b0, .int .u64 q.b1, .int .u64 q.b2, .int .u64 q.b3] 128
 have b4 := B3.cell 4
 generalize w2.alloc (.cells #[.int .i64 q.kind, .int .i64 q.order, .int .i64 q.cls, .int .i64 q.live, .int .i64 q.next, .int .i64 q.prev, .int .i64 q.first, .int .u64 q.b0, .int .u64 q.b1, .int .u64 q.b2, .int .u64 q.b3] 128) = w3 at *
 simp at b4
 have S3 := HS2.out.touch0 T3
 have HC2 := Hd (S3.po.bu.mp.chain_ HJ.out HQk.out q.next (i : Int) HQn.out.1 (by rw [show (β.μ.setPage i { p with next := (j : Int), prev := -1 }).pages.length = β.μ.pages.length from List.length_set ..]; exact HQn.out.2) (by omega) (by rw [show (β.μ.setPage i { p with next := (j : Int), prev := -1 }).pages.length = β.μ.pages.length from List.length_set ..]; omega))
 have HS3 := Hd S3
 have HT3 := Hd ((hT.out.trans (HT2.out.none_)).trans T3.none_)
 clear S3 T3 B3
 go_wp2_with fail
 refine HC2.out.mono ?_
 rintro e w4 ⟨rfl, r4, t4⟩
 have R4 := HS3.out.paged r4 t4 rfl (List.length_set ..)
 have d1 := R4.1.part c hc
 have f1 := R4.1.blk.free (1 + c)
 have hS4 := Hd (R4.1.setPart c i)
 have hT4 := Hd (HT3.out.trans R4.2)
 clear r4 t4 R4 b4
 go_wp2_with fail
 go_end0
 refine ⟨rfl, hS4.out, ?_⟩
 exact (hT4.out.mono (fun k _ h => List.mem_cons_of_mem _ h)).trans ((Touch.cellAt w4 s (1 + c) _).mono (fun k _ h => by simp [h]))
theorem xor_mate : ∀ a, a < 1024 → ∀ k, k < 8 → 2 ^ k ∣ a → bits .xor .i64 (a : Nat) ((2 ^ k : Nat) : Int) = (mate a k : Nat) := by decide +kernel
theorem andNot_low : ∀ a, a < 1024 → ∀ k, k < 8 → 2 ^ k ∣ a → bits .andNot .i64 (a : Nat) ((2 ^ k : Nat) : Int) = (low a k : Nat) := by decide +kernel
theorem BInv.bit_mate {β : Bu} {F : Nat → List Nat} {H : Nat → Prop} (I : BInv β F H) {a k : Nat} (hk : k < β.μ.order) (al : 2 ^ k ∣ a) (hn : a ∉ F k) : β.μ.bit k a = decide (mate a k ∈ F k) := by
 unfold Mp.bit
 rw [I.pair k hk]
 rcases half_form al with ⟨e, _⟩ | ⟨e, _⟩
 ·generalize a / 2 ^ (k + 1) = q at *
  subst e
  rw [mate_lo, decide_eq_false hn]
  simp
 ·generalize a / 2 ^ (k + 1) = q at *
  subst e
  rw [mate_hi, decide_eq_false hn]
  simp
theorem BuRep.turn_mate {w : World} {K : BuL} {β : Bu} {F : Nat → List Nat} {H : Nat → Prop} (R : BuRep w K β) (I : BInv β F H) {a k : Nat} (hk : k ≤ β.μ.order) (al : 2 ^ k ∣ a) (ha : a < β.μ.pages.length) (hn : a ∉ F k) :
  Calls Tryz.prog 239 #[.pointer (some ⟨K.bb, 0, none⟩), .int .i64 a, .int .i64 k] w (Turned w K (β.turned a k) (.bool (!(decide (k < β.μ.order ∧ mate a k ∈ F k))))) := by
 by_cases h : k < β.μ.order
 ·have := R.turn_ (List.getElem?_eq_getElem ha) h (I.pair_lt h ha)
  rw [I.bit_mate h al hn] at this
  have e : β.turned a k = { β with μ := β.μ.flip k a } := by
   unfold Bu.turned
   rw [if_neg (by omega)]
  rw [e]
  simpa [h] using this
 ·obtain rfl : k = β.μ.order := by omega
  rw [turned_top]
  refine (R.turn_top a).mono ?_
  rintro e w' ⟨rfl, rfl⟩
  refine ⟨by simp, R, Touch.refl _ _⟩
theorem BuRep.remove_ {w : World} {K : BuL} {β β2 : Bu} {F : Nat → List Nat} {H : Nat → Prop} (R : BuRep w K β2) (hσ : β2.σ = β.σ) (hh : β2.heads = β.heads) (I : BInv β F H) {k x lb : Nat} (hl : β2.μ.pages.length = β.μ.pages.length) (hk : k ≤ β.μ.order) (hx : x ∈ F k) (hlb : K.lbs[k]? = some lb) (hhd : β2.heads[k]? = some (β2.heads.getD k 0)) :
  Calls Tryz.prog 255 #[.pointer (some ⟨lb, 0, none⟩), .int .u64 (β2.addr x : Nat)] w (Turned w K (β2.detach k x) (.int .i64 0)) := by
 have hlk := I.links hk hx
 rw [← hσ, ← hh] at hlk
 have h64 : ∀ i, β2.σ.word i < 18446744073709551616 := fun i => R.sp.ok.word_lt i
 have hHas : ∀ y, y < β2.μ.pages.length → β2.σ.has (β2.σ.base + 4096 * y) 16 := by
  intro y hy
  have := R.ok.has (i := y) (off := 0) (n := 16) hy (by omega) (by omega)
  rw [Nat.add_zero] at this
  exact this
 have hlt : ∀ y ∈ F k, y < β.μ.pages.length := fun y hy => (I.lt hk hy).2
 have hb := I.base
 rw [← hσ] at hb
 have S := (R.ls hlb hhd).remove_go (p := β2.addr x) (next := nx β2.σ β2.σ.base x) (prev := pv β2.σ β2.σ.base x) (hHas x (by rw [hl]; exact hlt x hx)) rfl rfl ?_ (h64 _) (h64 _)
 ·refine S.mono ?_
  rintro e w1 ⟨rfl, S1⟩
  refine ⟨rfl, ?_, ?_⟩
  ·have := R.listed hlb S1 ?_ ?_
   ·exact this
   ·obtain ⟨f1, f2, f3, f4, f5⟩ := removed_fields β2.σ (nx β2.σ β2.σ.base x) (pv β2.σ β2.σ.base x)
    exact ⟨f1, f3, f5, f4, f2⟩
   ·split
    ·exact h64 _
    ·exact R.ok.head _ (List.mem_of_getElem? hhd)
  ·refine S1.touch.mono (fun b _ hb => ?_)
   rcases hb with hb | hb
   ·simp [BuL.fp, SpL.fp, hb]
   ·simp [BuL.fp, BuL.own, hb, List.mem_of_getElem? hlb]
 ·refine ⟨hlk.2.2, fun ne => ?_, fun ne => ?_⟩
  ·rcases hlk.2.1 with h | ⟨y, hy, _, e, e2⟩
   ·exact (ne h).elim
   ·rw [e]
    exact ⟨hHas y (by rw [hl]; exact hlt y hy), e2⟩
  ·rcases hlk.1 with h | ⟨y, hy, _, e, e2⟩
   ·exact (ne h).elim
   ·rw [e]
    exact ⟨hHas y (by rw [hl]; exact hlt y hy), e2⟩
theorem jump_ret (l : Nat) (J : Act → World → Prop) (Q : Exit → Act → World → Prop) (a : Act) (w : World) : Exit.jump l J Q .ret a w = Q .ret a w := rfl
structure UpRel (w : World) (K : BuL) (β0 : Bu) (F0 : Nat → List Nat) (a0 k0 : Nat) (β : Bu) (F : Nat → List Nat) (a k : Nat) (wr : World) : Prop where
 rep : BuRep wr K β
 inv : BInv β F (Inb a k)
 le : k ≤ β.μ.order
 al : 2 ^ k ∣ a
 same : Bu.giveF (β.μ.order - k) β F a k = Bu.giveF (β0.μ.order - k0) β0 F0 a0 k0
 ord : β.μ.order = β0.μ.order
 touch : Touch (· ∈ K.fp) w wr
theorem UpRel.facts {w wr : World} {K : BuL} {β0 β : Bu} {F0 F : Nat → List Nat} {a0 k0 a k : Nat} (R : UpRel w K β0 F0 a0 k0 β F a k wr) : a < β.μ.pages.length ∧ a + 2 ^ k ≤ β.μ.pages.length ∧ a ∉ F k :=
 ⟨R.inv.hole a (inb_self _ _), inb_lt (fun y hy => R.inv.hole y hy), fun h => R.inv.apart k R.le a h a (inb_self _ _) (inb_self _ _)⟩
theorem UpRel.last {w wr w1 w2 : World} {K : BuL} {β0 β : Bu} {F0 F : Nat → List Nat} {a0 k0 a k : Nat} (R : UpRel w K β0 F0 a0 k0 β F a k wr) (hm : ¬ (k < β.μ.order ∧ mate a k ∈ F k)) (T1 : Touch (· ∈ K.fp) wr w1) (R2 : BuRep w2 K ((β.turned a k).enter a k)) (T2 : Touch (· ∈ K.fp) w1 w2) :
  BuRep w2 K (β0.given F0 a0 k0) ∧ Touch (· ∈ K.fp) w w2 := by
 refine ⟨?_, (R.touch.trans T1).trans T2⟩
 have e : (β.turned a k).enter a k = (β.enter a k).turned a k := by
  have ho : (β.enter a k).μ.order = β.μ.order := by rw [enter_μ]; exact (run_same _ _ _ _).1
  unfold Bu.turned
  by_cases h : k = β.μ.order
  ·rw [if_pos h, if_pos (h.trans ho.symm)]
  ·rw [if_neg h, if_neg (fun e => h (e.trans ho))]
   unfold Bu.enter Mp.flip Mp.run Mp.runK
   rfl
 unfold Bu.given
 rw [← R.same]
 rw [e] at R2
 have hle := R.le
 obtain ⟨f, hf⟩ : ∃ f, f = β.μ.order - k := ⟨_, rfl⟩
 rw [← hf]
 cases f with
 | zero => exact R2
 | succ f =>
  unfold Bu.giveF
  rw [if_neg (fun h => hm ⟨by omega, h⟩)]
  exact R2
theorem UpRel.up {w wr w1 w2 : World} {K : BuL} {β0 β : Bu} {F0 F : Nat → List Nat} {a0 k0 a k : Nat} (R : UpRel w K β0 F0 a0 k0 β F a k wr) (hm : k < β.μ.order ∧ mate a k ∈ F k) (T1 : Touch (· ∈ K.fp) wr w1) (R2 : BuRep w2 K ((β.turned a k).detach k (mate a k))) (T2 : Touch (· ∈ K.fp) w1 w2) :
  UpRel w K β0 F0 a0 k0 ((β.detach k (mate a k)).turned (mate a k) k) (upd F k ((F k).erase (mate a k))) (low a k) (k + 1) w2 := by
 obtain ⟨I1, K1, U1⟩ := R.inv.up hm.1 R.al hm.2
 have ho := K1.order
 have hj := low_join R.al
 have e : (β.turned a k).detach k (mate a k) = (β.detach k (mate a k)).turned (mate a k) k := by
  unfold Bu.turned
  rw [if_neg (by omega), if_neg (by rw [detach_μ]; omega)]
  unfold Bu.detach Mp.flip
  rw [hj.2.2.2.1]
 rw [e] at R2
 refine ⟨R2, I1, by omega, hj.2.1, ?_, ho.trans R.ord, (R.touch.trans T1).trans T2⟩
 rw [← R.same, ho]
 obtain ⟨f, hf⟩ : ∃ f, f + 1 = β.μ.order - k := ⟨β.μ.order - k - 1, by omega⟩
 rw [← hf, show β.μ.order - (k + 1) = f by omega]
 conv => rhs; unfold Bu.giveF
 rw [if_pos hm.2]
theorem BuRep.give_ {w : World} {K : BuL} {β : Bu} {F : Nat → List Nat} (R : BuRep w K β) (I : BInv β F NoHole) {a k : Nat} (hk : k ≤ β.μ.order) (hB : BlkAt β.μ.pages a k 2) :
  Calls Tryz.prog 253 #[.pointer (some ⟨K.bb, 0, none⟩), .int .u64 (β.addr a : Nat), .int .i64 k] w (Turned w K (β.given F a k) (.int .i64 0)) := by
 have I0 := I.openLive hB
 have hH : (fun y => NoHole y ∨ Inb a k y) = Inb a k := funext fun y => propext ⟨fun h => h.resolve_left id, .inr⟩
 rw [hH] at I0
 have p0 := pow0 k
 have hp := hB.at_ 0 p0
 rw [Nat.add_zero] at hp
 have HL := Hd (R.live_ a k hp (by simp [runPg, plainPg]) rfl)
 have HU0 := Hd (show ∀ w1, Touch Nothing w w1 → UpRel w K β F a k β F a k w1 from fun w1 T => ⟨R.touch0 T, I0, hk, hB.al, rfl, rfl, T.none_⟩)
 clear R I I0 hk hB hH p0 hp
 go_enter Tryz.func253, Tryz.ntmps253
 go_wp2_with fail
 refine wp_scope_jumps 0 (fun a' wr => ∃ (β1 : Bu) (F1 : Nat → List Nat) (a1 k1 : Nat) (u1 u2 u3 u4 u5 u6 u8 u10 u11 u12 u13 u14 u15 u16 u17 u18 u19 u20 u21 u22 u23 u24 u25 u26 u27 u28 u29 u30 u31 u32 u33 u34 u35 u36 u37 u38 u39 u40 u41 u42 u43 u44 u45 u46 u47 u48 u49 u50 u51 u52 : Value), a' = { tmps := #[.pointer (some ⟨K.bb, 0, none⟩), u1, u2, u3, u4, u5, u6, .int .i64 (a1 : Nat), u8, .int .i64 (k1 : Nat), u10, u11, u12, u13, u14, u15, u16, u17, u18, u19, u20, u21, u22, u23, u24, u25, u26, u27, u28, u29, u30, u31, u32, u33, u34, u35, u36, u37, u38, u39, u40, u41, u42, u43, u44, u45, u46, u47, u48, u49, u50, u51, u52], defers := [] } ∧ UpRel w K β F a k β1 F1 a1 k1 wr) (fun a' _ => β.μ.order - (intOf (a'.tmps.getD 9 undef)).toNat) rfl ?first ?pass
 case first =>
  go_wp2_with fail
  refine HL.out.mono ?_
  rintro e wr ⟨rfl, T1⟩
  have HU := Hd (HU0.out _ T1)
  clear T1 HU0 HL
  go_wp2_with fail
  go_step3
  have hf := HU.out.facts
  have hle := HU.out.le
  have hT := HU.out.rep.turn_mate HU.out.inv HU.out.le HU.out.al hf.1 hf.2.2
  by_cases hm : k < β.μ.order ∧ mate a k ∈ F k
  ·rw [decide_eq_true hm] at hT
   have HTu := Hd hT
   have HM := Hd hm
   clear hT hm hf hle
   go_wp2_with fail
   refine HTu.out.mono ?_
   rintro e w2 ⟨rfl, r2, t2⟩
   have hord := HU.out.rep.mp.ok.order
   have hk8 : k < 8 := by have := HM.out.1; omega
   have hlen := HU.out.rep.mp.ok.len
   have hf := HU.out.facts
   obtain ⟨ts, th, tp, to_, tl⟩ := turned_same β a k
   have hlt := HM.out.1
   obtain ⟨g, cap, lb, hv, hc, hlb, hcell, hhd⟩ := r2.listAt (k := k) (by rw [to_]; omega)
   obtain ⟨-, -, -, -, -, c5⟩ := r2.cells
   rw [hv] at c5
   rw [th] at c5 hc hhd
   have hml := (HU.out.inv.lt (Nat.le_of_lt hlt) HM.out.2).2
   have hp8 := pow_le8' (o := k) (by omega)
   have hpc : ((2 : Int) ^ k) = ((2 ^ k : Nat) : Int) := by simp
   have hwi : IntKind.i64.wrap (2 ^ k) = ((2 ^ k : Nat) : Int) := by rw [hpc]; exact IntWalk.i64_in _ (by omega)
   have hx := xor_mate a (by omega) k hk8 HU.out.al
   have hn := andNot_low a (by omega) k hk8 HU.out.al
   rw [← hwi] at hx
   rw [← wrap64_pow (o := k) (by omega)] at hn
   have HX := Hd hx
   have HN := Hd hn
   have hadd : (β.turned a k).addr (mate a k) + 4096 ≤ 18446744073709551615 := r2.ok.addr_top r2.sp.ok (by rw [tp]; exact hml)
   have HA := Hd (fun W (T : Touch Nothing w2 W) => (r2.touch0 T).address_ (mate a k) (by omega))
   have HRm := Hd (fun W (T : Touch Nothing w2 W) => BuRep.remove_ (r2.touch0 T) ts th HU.out.inv (by rw [tp]) HU.out.le HM.out.2 hlb (by rw [th]; exact hhd))
   have hkl : (k : Int) < (β.heads.length : Int) := by have := HU.out.inv.heads; omega
   have hlg := World.block_lt_of_cell? _ _ hcell
   have HT2 := Hd t2
   have hk63 : min k 64 = k := by omega
   clear r2 t2 ts th tp to_ tl hv hc hlb hhd hml hlen hf hlt hadd hord hx hn hwi hpc hp8
   go_wp2_with fail
   refine wp_region_still_tail 13 (by kernel_rfl) (by kernel_rfl) ?_
   simp only [List.take_succ_cons, List.take_zero, List.drop_succ_cons, List.drop_zero, World.drew_eq]
   repeat still_step
   rw [HX.out]
   still_call ((HA.out _ ((Touch.refl Nothing w2).drew)).mono fun _ _ h => ⟨h.1, h.2.symm⟩)
   refine wpStill_nil ?_
   go_wp2_with fail
   refine (HRm.out _ ((Touch.refl Nothing w2).drew)).mono ?_
   rintro e w3 ⟨rfl, r3, t3⟩
   have HR3 := Hd r3
   have HT3 := Hd t3
   clear r3 t3
   go_wp2_with fail
   go_step3
   rw [HN.out]
   have hUp := HU.out.up HM.out HT2.out.drew HR3.out HT3.out
   refine ⟨rfl, _, _, _, _, _, _, _, _, _, _, _, _, _, _, _, _, _, _, _, _, _, _, _, _, _, _, _, _, _, _, _, _, _, _, _, _, _, _, _, _, _, _, _, _, _, _, _, _, _, _, _, _, _, _, rfl, hUp⟩
  ·rw [decide_eq_false hm] at hT
   have HTu := Hd hT
   have HM := Hd hm
   clear hT hm hf hle
   go_wp2_with fail
   refine HTu.out.mono ?_
   rintro e w2 ⟨rfl, r2, t2⟩
   obtain ⟨ts, th, tp, to_, tl⟩ := turned_same β a k
   have hhd := HU.out.inv.hd HU.out.rep.ok.has' HU.out.le
   have HE := Hd (r2.enter_ a k (by rw [to_]; exact HU.out.le) (tmod_dvd HU.out.al) (by rw [tp]; exact HU.out.facts.2.1) (by rw [ts, th]; exact hhd))
   have HT2 := Hd t2
   clear r2 t2 ts th tp to_ tl hhd
   go_wp2_with fail
   refine HE.out.mono ?_
   rintro e w3 ⟨rfl, r3, t3⟩
   have HR3 := Hd r3
   have HT3 := Hd t3
   clear r3 t3
   go_wp2_with fail
   rw [jump_ret]
   go_ret
   have hL := HU.out.last HM.out HT2.out HR3.out HT3.out
   exact ⟨rfl, hL.1, hL.2⟩
 case pass =>
  rintro a' wr ⟨β1, F1, a1, k1, u1, u2, u3, u4, u5, u6, u8, u10, u11, u12, u13, u14, u15, u16, u17, u18, u19, u20, u21, u22, u23, u24, u25, u26, u27, u28, u29, u30, u31, u32, u33, u34, u35, u36, u37, u38, u39, u40, u41, u42, u43, u44, u45, u46, u47, u48, u49, u50, u51, u52, rfl, hU⟩
  have HU := Hd hU
  clear hU HU0 HL
  have hf := HU.out.facts
  have hle := HU.out.le
  have hT := HU.out.rep.turn_mate HU.out.inv HU.out.le HU.out.al hf.1 hf.2.2
  by_cases hm : k1 < β1.μ.order ∧ mate a1 k1 ∈ F1 k1
  ·rw [decide_eq_true hm] at hT
   have HTu := Hd hT
   have HM := Hd hm
   clear hT hm hf hle
   go_wp2_with fail
   refine HTu.out.mono ?_
   rintro e w2 ⟨rfl, r2, t2⟩
   have hord := HU.out.rep.mp.ok.order
   have hk8 : k1 < 8 := by have := HM.out.1; omega
   have hlen := HU.out.rep.mp.ok.len
   have hf := HU.out.facts
   obtain ⟨ts, th, tp, to_, tl⟩ := turned_same β1 a1 k1
   have hlt := HM.out.1
   obtain ⟨g, cap, lb, hv, hc, hlb, hcell, hhd⟩ := r2.listAt (k := k1) (by rw [to_]; omega)
   obtain ⟨-, -, -, -, -, c5⟩ := r2.cells
   rw [hv] at c5
   rw [th] at c5 hc hhd
   have hml := (HU.out.inv.lt (Nat.le_of_lt hlt) HM.out.2).2
   have hp8 := pow_le8' (o := k1) (by omega)
   have hpc : ((2 : Int) ^ k1) = ((2 ^ k1 : Nat) : Int) := by simp
   have hwi : IntKind.i64.wrap (2 ^ k1) = ((2 ^ k1 : Nat) : Int) := by rw [hpc]; exact IntWalk.i64_in _ (by omega)
   have hx := xor_mate a1 (by omega) k1 hk8 HU.out.al
   have hn := andNot_low a1 (by omega) k1 hk8 HU.out.al
   rw [← hwi] at hx
   rw [← wrap64_pow (o := k1) (by omega)] at hn
   have HX := Hd hx
   have HN := Hd hn
   have hadd : (β1.turned a1 k1).addr (mate a1 k1) + 4096 ≤ 18446744073709551615 := r2.ok.addr_top r2.sp.ok (by rw [tp]; exact hml)
   have HA := Hd (fun W (T : Touch Nothing w2 W) => (r2.touch0 T).address_ (mate a1 k1) (by omega))
   have HRm := Hd (fun W (T : Touch Nothing w2 W) => BuRep.remove_ (r2.touch0 T) ts th HU.out.inv (by rw [tp]) HU.out.le HM.out.2 hlb (by rw [th]; exact hhd))
   have hkl : (k1 : Int) < (β1.heads.length : Int) := by have := HU.out.inv.heads; omega
   have hlg := World.block_lt_of_cell? _ _ hcell
   have HT2 := Hd t2
   have hk63 : min k1 64 = k1 := by omega
   clear r2 t2 ts th tp to_ tl hv hc hlb hhd hml hlen hf hlt hadd hord hx hn hwi hpc hp8
   go_wp2_with fail
   refine wp_region_still_tail 13 (by kernel_rfl) (by kernel_rfl) ?_
   simp only [List.take_succ_cons, List.take_zero, List.drop_succ_cons, List.drop_zero, World.drew_eq]
   repeat still_step
   rw [HX.out]
   still_call ((HA.out _ ((Touch.refl Nothing w2).drew)).mono fun _ _ h => ⟨h.1, h.2.symm⟩)
   refine wpStill_nil ?_
   go_wp2_with fail
   refine (HRm.out _ ((Touch.refl Nothing w2).drew)).mono ?_
   rintro e w3 ⟨rfl, r3, t3⟩
   have HR3 := Hd r3
   have HT3 := Hd t3
   clear r3 t3
   go_wp2_with fail
   go_step3
   rw [HN.out]
   have hUp := HU.out.up HM.out HT2.out.drew HR3.out HT3.out
   have ho := HU.out.ord
   have hlt := HM.out.1
   refine ⟨rfl, ⟨_, _, _, _, _, _, _, _, _, _, _, _, _, _, _, _, _, _, _, _, _, _, _, _, _, _, _, _, _, _, _, _, _, _, _, _, _, _, _, _, _, _, _, _, _, _, _, _, _, _, _, _, _, _, rfl, hUp⟩, ?_⟩
   show β.μ.order - ((k1 : Int) + 1).toNat < β.μ.order - ((k1 : Int)).toNat
   omega
  ·rw [decide_eq_false hm] at hT
   have HTu := Hd hT
   have HM := Hd hm
   clear hT hm hf hle
   go_wp2_with fail
   refine HTu.out.mono ?_
   rintro e w2 ⟨rfl, r2, t2⟩
   obtain ⟨ts, th, tp, to_, tl⟩ := turned_same β1 a1 k1
   have hhd := HU.out.inv.hd HU.out.rep.ok.has' HU.out.le
   have HE := Hd (r2.enter_ a1 k1 (by rw [to_]; exact HU.out.le) (tmod_dvd HU.out.al) (by rw [tp]; exact HU.out.facts.2.1) (by rw [ts, th]; exact hhd))
   have HT2 := Hd t2
   clear r2 t2 ts th tp to_ tl hhd
   go_wp2_with fail
   refine HE.out.mono ?_
   rintro e w3 ⟨rfl, r3, t3⟩
   have HR3 := Hd r3
   have HT3 := Hd t3
   clear r3 t3
   go_wp2_with fail
   rw [jump_ret]
   go_ret
   have hL := HU.out.last HM.out HT2.out HR3.out HT3.out
   exact ⟨rfl, hL.1, hL.2⟩
end Go.Proofs.YtnjcmcnjgdjbiaaGreatDoor
