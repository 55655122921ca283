/- Plain law of the buddy, fifth part: Give, Shrink, Pull, a region fewer. Conditions: none; no program in sight. -/
import Derived.Test.YtnjcmcnjgdjbiaaGreatDoorLgBind
namespace Go.Proofs.YtnjcmcnjgdjbiaaGreatDoor

/-- where a block and its other half begin -/
def low (a k : Nat) : Nat := a / 2 ^ (k + 1) * 2 ^ (k + 1)

theorem low_join {a k : Nat} (h : 2 ^ k ∣ a) : (∀ y, (Inb a k y ∨ Inb (mate a k) k y) ↔ Inb (low a k) (k + 1) y) ∧ 2 ^ (k + 1) ∣ low a k ∧ 2 ^ k ∣ mate a k ∧ mate a k / 2 ^ (k + 1) = a / 2 ^ (k + 1) ∧ mate a k ≠ a := by
  have hd := half_div k (a / 2 ^ (k + 1))
  have hp : 2 ^ (k + 1) = 2 * 2 ^ k := by rw [Nat.pow_succ, Nat.mul_comm]
  have hl : low a k = 2 * (a / 2 ^ (k + 1)) * 2 ^ k := by
    unfold low
    conv => lhs; rw [show a / 2 ^ (k + 1) * 2 ^ (k + 1) = a / 2 ^ (k + 1) * (2 * 2 ^ k) by rw [← hp]]
    rw [← Nat.mul_assoc, Nat.mul_comm _ 2]
  have hne := half_ne k (a / 2 ^ (k + 1))
  have p0 := pow0 k
  rcases half_form h with ⟨e, _⟩ | ⟨e, _⟩
  · generalize a / 2 ^ (k + 1) = q at *
    subst e
    rw [mate_lo]
    refine ⟨fun y => ?_, Nat.dvd_mul_left _ _, Nat.dvd_mul_left _ _, hd.2, fun x => hne x.symm⟩
    rw [hl]
    unfold Inb
    rw [hp, Nat.add_mul, Nat.one_mul]
    omega
  · generalize a / 2 ^ (k + 1) = q at *
    subst e
    rw [mate_hi]
    refine ⟨fun y => ?_, Nat.dvd_mul_left _ _, Nat.dvd_mul_left _ _, hd.1, hne⟩
    rw [hl]
    unfold Inb
    rw [hp, Nat.add_mul, Nat.one_mul]
    omega

/-- Give: how the buddy and its lists turn -/
def Bu.giveF : Nat → Bu → (Nat → List Nat) → Nat → Nat → Bu × (Nat → List Nat)
  | 0, β, F, a, k => ((β.enter a k).turned a k, upd F k (a :: F k))
  | f + 1, β, F, a, k =>
    if mate a k ∈ F k then Bu.giveF f ((β.detach k (mate a k)).turned (mate a k) k) (upd F k ((F k).erase (mate a k))) (low a k) (k + 1)
    else ((β.enter a k).turned a k, upd F k (a :: F k))

/-- one step up -/
theorem BInv.up {β : Bu} {F : Nat → List Nat} {a k : Nat} (I : BInv β F (Inb a k)) (hk : k < β.μ.order) (al : 2 ^ k ∣ a) (hm : mate a k ∈ F k) :
    BInv ((β.detach k (mate a k)).turned (mate a k) k) (upd F k ((F k).erase (mate a k))) (Inb (low a k) (k + 1)) ∧
    Keeps β ((β.detach k (mate a k)).turned (mate a k) k) (Upen β.μ.order F (Inb a k)) ∧
    ∀ y, Upen β.μ.order (upd F k ((F k).erase (mate a k))) (Inb (low a k) (k + 1)) y ↔ Upen β.μ.order F (Inb a k) y := by
  obtain ⟨I1, K1, U1⟩ := I.detach (by omega) hm
  have hj := (low_join al).1
  have hfun : (fun y => Inb a k y ∨ Inb (mate a k) k y) = Inb (low a k) (k + 1) := funext fun y => propext (hj y)
  rw [hfun] at I1 U1
  exact ⟨I1, K1, U1⟩

theorem BInv.give : ∀ (f : Nat) {β : Bu} {F : Nat → List Nat} {a k : Nat}, BInv β F (Inb a k) → k + f = β.μ.order → 2 ^ k ∣ a →
    BInv (Bu.giveF f β F a k).1 (Bu.giveF f β F a k).2 NoHole ∧ Keeps β (Bu.giveF f β F a k).1 (Upen β.μ.order F (Inb a k)) ∧
    ∀ y, Upen β.μ.order (Bu.giveF f β F a k).2 NoHole y ↔ Upen β.μ.order F (Inb a k) y := by
  intro f
  have last : ∀ {β : Bu} {F : Nat → List Nat} {a k : Nat}, BInv β F (Inb a k) → k ≤ β.μ.order → 2 ^ k ∣ a → (k < β.μ.order → mate a k ∉ F k) →
      BInv ((β.enter a k).turned a k) (upd F k (a :: F k)) NoHole ∧ Keeps β ((β.enter a k).turned a k) (Upen β.μ.order F (Inb a k)) ∧ ∀ y, Upen β.μ.order (upd F k (a :: F k)) NoHole y ↔ Upen β.μ.order F (Inb a k) y := by
    intro β F a k I hk al hm
    obtain ⟨I1, K1, U1⟩ := I.attach hk al (fun _ h => h) hm
    have hfun : (fun y => Inb a k y ∧ ¬ Inb a k y) = NoHole := funext fun y => propext ⟨fun h => h.2 h.1, fun h => h.elim⟩
    rw [hfun] at I1 U1
    exact ⟨I1, K1, U1⟩
  induction f with
  | zero =>
    intro β F a k I hf al
    exact last I (by omega) al (fun h => by omega)
  | succ f ih =>
    intro β F a k I hf al
    unfold Bu.giveF
    split
    · next hm =>
      obtain ⟨I1, K1, U1⟩ := I.up (by omega) al hm
      obtain ⟨I2, K2, U2⟩ := ih I1 (by rw [K1.order]; omega) (low_join al).2.1
      rw [K1.order] at K2 U2
      exact ⟨I2, K1.trans K2 (fun x hx => (U1 x).1 hx), fun y => (U2 y).trans (U1 y)⟩
    · next hm => exact last I (by omega) al (fun _ => hm)

/-- a live block is given back -/
def Bu.given (β : Bu) (F : Nat → List Nat) (a k : Nat) : Bu := (Bu.giveF (β.μ.order - k) β F a k).1

theorem BInv.given {β : Bu} {F : Nat → List Nat} {H : Nat → Prop} {a k : Nat} (I : BInv β F H) (hH : ∀ y, H y ↔ Inb a k y) (hk : k ≤ β.μ.order) (al : 2 ^ k ∣ a) :
    BInv (β.given F a k) (Bu.giveF (β.μ.order - k) β F a k).2 NoHole ∧ Keeps β (β.given F a k) (Upen β.μ.order F H) ∧ ∀ y, Upen β.μ.order (Bu.giveF (β.μ.order - k) β F a k).2 NoHole y ↔ Upen β.μ.order F H y := by
  obtain rfl : H = Inb a k := funext fun y => propext (hH y)
  exact BInv.give _ I (by omega) al

/-- a live block is cut down -/
theorem BInv.shrink {β : Bu} {F : Nat → List Nat} (I : BInv β F NoHole) (hs : β.Has) {i j o : Nat} (lo : o ≤ j) (hj : j ≤ β.μ.order) (hB : BlkAt β.μ.pages i j 2) :
    (∀ m', m' < j - o → CutOk (β.cutN i j m') (i + 2 ^ (j - 1 - m')) (j - 1 - m')) ∧ BInv (β.cut i j o) (cutF F i j (j - o)) NoHole ∧ Keeps β (β.cut i j o) (Upen β.μ.order F (Inb i j)) ∧
    BlkAt (β.cut i j o).μ.pages i o 2 ∧ (∀ y, Upen β.μ.order (cutF F i j (j - o)) NoHole y ↔ Upen β.μ.order F (Inb i j) y ∧ ¬ Inb i o y) ∧ (∀ y, Inb i j y → ¬ Upen β.μ.order F NoHole y) := by
  have I1 := I.openLive hB
  have hH : (fun y => NoHole y ∨ Inb i j y) = Inb i j := funext fun y => propext ⟨fun h => h.resolve_left id, .inr⟩
  rw [hH] at I1
  obtain ⟨I2, K2, U2, C2⟩ := I1.cutN hj hB.al hs (j - o) (by omega)
  rw [show j - (j - o) = o by omega] at I2 U2
  have alo : 2 ^ o ∣ i := Nat.dvd_trans (Nat.pow_dvd_pow 2 lo) hB.al
  have ho2 := K2.order
  obtain ⟨I3, K3, B3⟩ := I2.live (a := i) (k := o) (by rw [ho2]; omega) alo (fun _ h => h)
  have hH3 : (fun y => Inb i o y ∧ ¬ Inb i o y) = NoHole := funext fun y => propext ⟨fun h => h.2 h.1, fun h => h.elim⟩
  rw [hH3] at I3
  refine ⟨C2, I3, K2.trans K3 (fun x hx => (U2 x).1 (.inl hx)), B3, ?_, ?_⟩
  · intro y
    have h2 := U2 y
    constructor
    · rintro (h | h)
      · exact h.elim
      · refine ⟨h2.1 (.inr h), fun hy => ?_⟩
        obtain ⟨k, hk, x, hx, hxy⟩ := h
        exact I2.apart k (by rw [ho2]; exact hk) x hx y hy hxy
    · rintro ⟨h, hy⟩
      rcases h2.2 h with h | h
      · exact (hy h).elim
      · exact .inr h
  · rintro y hy (h | ⟨k, hk, x, hx, hxy⟩)
    · exact h
    · have := (I.free k hk x hx).same hB hxy hy
      omega

/-- a page that is free is of a free block -/
theorem BInv.isFree {β : Bu} {F : Nat → List Nat} (I : BInv β F NoHole) {x : Nat} {p : Pg} (hx : β.μ.pages[x]? = some p) : (Upen β.μ.order F NoHole x ↔ p.kind = 0 ∨ p.kind = 1) := by
  have hl := (List.getElem?_eq_some_iff.1 hx).1
  constructor
  · rintro (h | ⟨k, hk, h, hh, hxh⟩)
    · exact h.elim
    · have e := Option.some.inj (hx.symm.trans ((I.free k hk h hh).page hxh))
      rw [e]
      simp only [runPg, plainPg]
      split <;> simp
  · intro hp
    rcases I.tile x hl id with h | ⟨a, k, hk, hb, hy, _⟩ | ⟨q, hq, hq4, _⟩
    · exact .inr h
    · have e := Option.some.inj (hx.symm.trans (hb.page hy))
      rw [e] at hp
      simp only [runPg, plainPg] at hp
      split at hp <;> omega
    · have e := Option.some.inj (hx.symm.trans hq)
      rw [e] at hp
      omega

theorem BInv.headFree {β : Bu} {F : Nat → List Nat} (I : BInv β F NoHole) {x : Nat} {p : Pg} (hx : β.μ.pages[x]? = some p) (hp : p.kind = 0) : ∃ k, k ≤ β.μ.order ∧ x ∈ F k ∧ p.order = k := by
  rcases (I.isFree hx).2 (.inl hp) with h | ⟨k, hk, h, hh, hxh⟩
  · exact h.elim
  · have e := Option.some.inj (hx.symm.trans ((I.free k hk h hh).page hxh))
    have e0 : x - h = 0 := by
      rw [e] at hp
      simp only [runPg, plainPg] at hp
      split at hp <;> omega
    have : x = h := by have := hxh.1; omega
    subst this
    exact ⟨k, hk, hh, by rw [e]; rfl⟩

/-- .. and one that is not stands in a live block or is a slab's -/
theorem BInv.isLive {β : Bu} {F : Nat → List Nat} (I : BInv β F NoHole) {x : Nat} {p : Pg} (hx : β.μ.pages[x]? = some p) (hp : p.kind = 2 ∨ p.kind = 3) : ∃ a k, k ≤ β.μ.order ∧ BlkAt β.μ.pages a k 2 ∧ Inb a k x ∧ p.order = k ∧ a = x / 2 ^ k * 2 ^ k ∧ (p.kind = 2 ↔ x = a) := by
  have hl := (List.getElem?_eq_some_iff.1 hx).1
  rcases I.tile x hl id with h | ⟨a, k, hk, hb, hy, _⟩ | ⟨q, hq, hq4, _⟩
  · have := (I.isFree hx).1 (.inr h)
    omega
  · have e := Option.some.inj (hx.symm.trans (hb.page hy))
    refine ⟨a, k, hk, hb, hy, by rw [e]; rfl, al_eq hb.al hy, ?_⟩
    rw [e]
    have := hy.1
    simp only [runPg, plainPg]
    split <;> omega
  · have e := Option.some.inj (hx.symm.trans hq)
    rw [e] at hp
    omega

/-- the top region taken off the lists and made a live block -/
def Bu.pulled (β : Bu) (x : Nat) : Bu := { β.detach β.μ.order x with μ := β.μ.run x β.μ.order 2 }

theorem BInv.pull {β : Bu} {F : Nat → List Nat} (I : BInv β F NoHole) {x : Nat} (hx : x ∈ F β.μ.order) :
    BInv (β.pulled x) (upd F β.μ.order ((F β.μ.order).erase x)) NoHole ∧
    Keeps β (β.pulled x) (Upen β.μ.order F NoHole) ∧ BlkAt (β.μ.run x β.μ.order 2).pages x β.μ.order 2 ∧
    (∀ y, Upen β.μ.order (upd F β.μ.order ((F β.μ.order).erase x)) NoHole y ↔ Upen β.μ.order F NoHole y ∧ ¬ Inb x β.μ.order y) := by
  obtain ⟨I1, K1, U1⟩ := I.detach (Nat.le_refl _) hx
  have ht : (β.detach β.μ.order x).turned x β.μ.order = β.detach β.μ.order x := by
    have := turned_top (β.detach β.μ.order x) x
    rwa [detach_μ] at this
  rw [ht] at I1 K1
  have hH : (fun y => NoHole y ∨ Inb x β.μ.order y) = Inb x β.μ.order := funext fun y => propext ⟨fun h => h.resolve_left id, .inr⟩
  rw [hH] at I1 U1
  have al := (I.free _ (Nat.le_refl _) x hx).al
  obtain ⟨I3, K3, B3⟩ := I1.live (a := x) (k := β.μ.order) (by rw [detach_μ]; exact Nat.le_refl _) al (fun _ h => h)
  rw [detach_μ] at I3 K3 B3
  have hH3 : (fun y => Inb x β.μ.order y ∧ ¬ Inb x β.μ.order y) = NoHole := funext fun y => propext ⟨fun h => h.2 h.1, fun h => h.elim⟩
  rw [hH3] at I3
  refine ⟨I3, K1.trans K3 (fun y hy => (U1 y).1 (.inl hy)), B3, fun y => ?_⟩
  have h2 := U1 y
  constructor
  · rintro (h | h)
    · exact h.elim
    · refine ⟨h2.1 (.inr h), fun hy => ?_⟩
      obtain ⟨k, hk, z, hz, hzy⟩ := h
      exact I1.apart k (by rw [detach_μ]; exact hk) z hz y hy hzy
  · rintro ⟨h, hy⟩
    rcases h2.2 h with h | h
    · exact (hy h).elim
    · exact .inr h

/-- a map without its top region -/
def Mp.shrink (μ : Mp) : Mp := Mp.paired { μ with pages := μ.pages.take (μ.pages.length - 2 ^ μ.order) }

theorem shrink_old (μ : Mp) {x : Nat} (h : x < μ.pages.length - 2 ^ μ.order) : μ.shrink.pages[x]? = μ.pages[x]? := by
  unfold Mp.shrink
  rw [(Mp.paired_pages _).1]
  exact List.getElem?_take_of_lt h

theorem shrink_len (μ : Mp) : μ.shrink.pages.length = μ.pages.length - 2 ^ μ.order ∧ μ.shrink.order = μ.order := by
  unfold Mp.shrink
  rw [(Mp.paired_pages _).1, (Mp.paired_pages _).2]
  exact ⟨by simp, rfl⟩

theorem BInv.drop {β : Bu} {F : Nat → List Nat} (I : BInv β F NoHole) (hB : BlkAt β.μ.pages (β.μ.pages.length - 2 ^ β.μ.order) β.μ.order 2) : BInv { β with σ := β.σ.less, μ := β.μ.shrink } F NoHole := by
  obtain ⟨hl, ho⟩ := shrink_len β.μ
  have hle := hB.le
  have p0 := pow0 β.μ.order
  have hge : 2 ^ β.μ.order ≤ β.μ.pages.length := Nat.le_of_dvd (by omega) I.full
  have hfull : 2 ^ β.μ.order ∣ β.μ.pages.length - 2 ^ β.μ.order := Nat.dvd_sub I.full (Nat.dvd_refl _)
  -- what is not the top region lies below it
  have hbel : ∀ {a k : Nat} {kd : Int}, BlkAt β.μ.pages a k kd → (a ≠ β.μ.pages.length - 2 ^ β.μ.order ∨ k ≠ β.μ.order ∨ kd ≠ 2) → a + 2 ^ k ≤ β.μ.pages.length - 2 ^ β.μ.order := by
    intro a k kd hb hne
    have h1 := hb.le
    have p1 := pow0 k
    refine Classical.byContradiction (fun hc => ?_)
    have := hb.same hB (x := a + 2 ^ k - 1) ⟨by omega, by omega⟩ ⟨by omega, by omega⟩
    omega
  have hfr : ∀ k, k ≤ β.μ.order → ∀ i ∈ F k, i + 2 ^ k ≤ β.μ.pages.length - 2 ^ β.μ.order := fun k hk i hi => hbel (I.free k hk i hi) (.inr (.inr (by omega)))
  have hpair : ∀ k, k < β.μ.order → β.μ.shrink.pairs.getD k ⟨0, []⟩ = reset (β.μ.pages.length - 2 ^ β.μ.order) k (β.μ.pairs.getD k ⟨0, []⟩) := by
    intro k hk
    have := paired_pair { β.μ with pages := β.μ.pages.take (β.μ.pages.length - 2 ^ β.μ.order) } k hk I.prl
    unfold Mp.shrink
    rw [this]
    simp
  constructor
  · show β.μ.shrink.order ≤ 8; rw [ho]; exact I.ord
  · show β.heads.length = β.μ.shrink.order + 1; rw [ho]; exact I.heads
  · show β.μ.shrink.pairs.length = β.μ.shrink.order
    rw [ho]
    unfold Mp.shrink
    rw [paired_len]
    exact I.prl
  · exact I.base
  · show β.σ.base + 4096 * β.μ.shrink.pages.length < _; rw [hl]; have := I.top; omega
  · show 2 ^ β.μ.shrink.order ∣ β.μ.shrink.pages.length; rw [ho, hl]; exact hfull
  · intro x hx; exact hx.elim
  · show ∀ k, k ≤ β.μ.shrink.order → DL β.σ.less β.σ.base 0 _ _
    rw [ho]
    exact fun k hk => DL.congr (σ := β.σ) (fun i hi => ⟨rfl, rfl⟩) (I.lists k hk)
  · show ∀ k, k ≤ β.μ.shrink.order → _; rw [ho]; exact I.nodup
  · show ∀ k, k ≤ β.μ.shrink.order → ∀ i ∈ F k, BlkAt β.μ.shrink.pages i k 0
    rw [ho]
    exact fun k hk i hi => (I.free k hk i hi).far (fun x hx => shrink_old β.μ (by have := hfr k hk i hi; have := hx.2; omega))
  · intro k _ i _ x hx; exact hx.elim
  · show ∀ x, x < β.μ.shrink.pages.length → ¬ NoHole x → (∃ k, k ≤ β.μ.shrink.order ∧ _) ∨ LiveAt β.μ.shrink.order β.μ.shrink.pages NoHole x
    rw [ho, hl]
    intro x hx hnx
    rcases I.tile x (by omega) hnx with h1 | ⟨a, k, hk, hb, hy, hap⟩ | ⟨p, hp1, hp2⟩
    · exact .inl h1
    · refine .inr (.inl ⟨a, k, hk, hb.far (fun y hy' => shrink_old β.μ ?_), hy, hap⟩)
      have : a + 2 ^ k ≤ β.μ.pages.length - 2 ^ β.μ.order := by
        refine hbel hb ?_
        have := hy.1
        omega
      have := hy'.2
      omega
    · exact .inr (.inr ⟨p, (shrink_old β.μ hx).trans hp1, hp2⟩)
  · show ∀ k, k < β.μ.shrink.order → (β.μ.shrink.pairs.getD k _).n = β.μ.shrink.pages.length / _
    rw [ho, hl]
    intro k hk
    rw [hpair k hk]
    rfl
  · show ∀ k, k < β.μ.shrink.order → (β.μ.shrink.pairs.getD k _).ws.length = ((β.μ.shrink.pairs.getD k _).n + 63) / 64
    rw [ho]
    intro k hk
    rw [hpair k hk]
    exact ofW_length _ _
  · show ∀ k, k < β.μ.shrink.order → ∀ q, bitOf (β.μ.shrink.pairs.getD k _).ws q = _
    rw [ho]
    intro k hk q
    rw [hpair k hk]
    exact I.fit hfull (fun k hk i hi => by have := hfr k hk i hi; have := pow0 k; omega) k hk q
  · show ∀ k, k < β.μ.shrink.order → _; rw [ho]; exact I.merged

/-- a new heap's lists -/
theorem fresh_inv {base limit order : Nat} (hb : 0 < base) (ho : order ≤ 8) (ht : base < 18446744073709551616) : BInv (Bu.fresh base limit order) (fun _ => []) NoHole := by
  have hpr : ∀ k, k < order → (List.replicate order emptySet).getD k ⟨0, []⟩ = emptySet := by
    intro k hk
    rw [List.getD_eq_getElem?_getD, List.getElem?_replicate, if_pos hk]
    rfl
  refine ⟨ho, by simp [Bu.fresh, newMp], by simp [Bu.fresh, newMp], hb, ?_, ⟨0, rfl⟩, fun _ h => h.elim, ?_, fun _ _ => List.nodup_nil, fun _ _ _ h => by simp at h, fun _ _ _ h => by simp at h, ?_, ?_, ?_, ?_, fun _ _ _ h => by simp at h⟩
  · show base + 4096 * 0 < _; omega
  · intro k hk
    show (List.replicate (order + 1) 0).getD k 0 = 0
    rw [List.getD_eq_getElem?_getD, List.getElem?_replicate]
    split <;> rfl
  · intro x hx
    exact absurd hx (Nat.not_lt_zero _)
  · intro k hk
    show ((List.replicate order emptySet).getD k ⟨0, []⟩).n = 0 / _
    rw [hpr k hk]
    simp [emptySet]
  · intro k hk
    show ((List.replicate order emptySet).getD k ⟨0, []⟩).ws.length = (((List.replicate order emptySet).getD k ⟨0, []⟩).n + 63) / 64
    rw [hpr k hk]
    exact ofW_length [] 0
  · intro k hk q
    show bitOf ((List.replicate order emptySet).getD k ⟨0, []⟩).ws q = _
    rw [hpr k hk]
    show bitOf (ofW [] 0) q = _
    rw [bitOf_ofW]
    simp

end Go.Proofs.YtnjcmcnjgdjbiaaGreatDoor
