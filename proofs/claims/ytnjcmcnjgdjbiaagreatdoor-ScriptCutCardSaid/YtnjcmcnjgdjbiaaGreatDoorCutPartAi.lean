/- Plain law of the buddy, fourth part: a region more, a region fewer, Give, Shrink, Pull. Conditions: as each theorem states. -/
import Derived.Test.YtnjcmcnjgdjbiaaGreatDoorCutPartAh
set_option maxRecDepth 100000
set_option maxHeartbeats 1000000
namespace Go.Proofs.YtnjcmcnjgdjbiaaGreatDoor
theorem bitOf_ofW (cs : List Nat) (n q : Nat) : bitOf (ofW cs n) q = (decide (q < n) && bitOf cs q) := by
 obtain ⟨K, hK⟩ : ∃ K, K = (n + 63) / 64 := ⟨_, rfl⟩
 have hg : ∀ i, ((cs ++ List.replicate K 0).take K).getD i 0 = if i < K then cs.getD i 0 else 0 := by
  intro i
  simp only [List.getD_eq_getElem?_getD, List.getElem?_take]
  split
  ·next h =>
   rw [List.getElem?_append]
   split
   ·rfl
   ·next h2 =>
    rw [List.getElem?_replicate]
    rw [List.getElem?_eq_none (by omega : cs.length ≤ i)]
    split <;> rfl
  ·rfl
 have hl : ((cs ++ List.replicate K 0).take K).length = K := by simp
 unfold ofW
 rw [← hK]
 generalize hw : (cs ++ List.replicate K 0).take K = ws at hg hl
 unfold cutW
 split
 ·next h0 =>
  unfold bitOf
  rw [hg]
  by_cases h : q < n
  ·rw [if_pos (by omega)]; simp [h]
  ·rw [if_neg (by omega)]; simp [h]
 ·next h0 =>
  have hK1 : K = n / 64 + 1 := by omega
  unfold bitOf
  rw [hl]
  by_cases e : q / 64 = K - 1
  ·rw [← e, getD_set_self _ _ _ (by omega), Nat.testBit_and, Nat.testBit_two_pow_sub_one, hg, if_pos (by omega), Bool.and_comm]
   congr 1
   exact decide_eq_decide.2 (by omega)
  ·rw [getD_set_ne _ _ _ _ e, hg]
   by_cases h : q < n
   ·rw [if_pos (by omega)]; simp [h]
   ·rw [if_neg (by omega)]; simp [h]
theorem pairedK_pair (μ : Mp) : ∀ (m k : Nat), k < m → m ≤ μ.pairs.length → (μ.pairedK m).pairs.getD k ⟨0, []⟩ = reset μ.pages.length k (μ.pairs.getD k ⟨0, []⟩)
 | 0, k, h, _ => by omega
 | m + 1, k, h, hm => by
  show ((μ.pairedK m).setPair m _).pairs.getD k _ = _
  simp only [Mp.setPair]
  have hl := (Mp.pairedK_pages μ m).2.2
  by_cases e : k = m
  ·subst e
   rw [List.getD_eq_getElem?_getD, List.getElem?_set_self (by omega)]
   rfl
  ·rw [List.getD_eq_getElem?_getD, List.getElem?_set_ne (fun x => e x.symm), ← List.getD_eq_getElem?_getD]
   exact pairedK_pair μ m k (by omega) (by omega)
theorem paired_pair (μ : Mp) (k : Nat) (hk : k < μ.order) (hl : μ.pairs.length = μ.order) : μ.paired.pairs.getD k ⟨0, []⟩ = reset μ.pages.length k (μ.pairs.getD k ⟨0, []⟩) := pairedK_pair μ μ.order k hk (by omega)
theorem paired_len (μ : Mp) : μ.paired.pairs.length = μ.pairs.length := (Mp.pairedK_pages μ _).2.2
theorem ofW_length (cs : List Nat) (n : Nat) : (ofW cs n).length = (n + 63) / 64 := by
 unfold ofW cutW
 split <;> simp
theorem BInv.fit {β : Bu} {F : Nat → List Nat} {H : Nat → Prop} (I : BInv β F H) {N' : Nat} (hd : 2 ^ β.μ.order ∣ N') (hF : ∀ k, k ≤ β.μ.order → ∀ i ∈ F k, i < N') (k : Nat) (hk : k < β.μ.order) (q : Nat) :
  bitOf (reset N' k (β.μ.pairs.getD k ⟨0, []⟩)).ws q = (decide (2 * q * 2 ^ k ∈ F k) != decide ((2 * q + 1) * 2 ^ k ∈ F k)) := by
 show bitOf (ofW _ _) q = _
 rw [bitOf_ofW, I.pair k hk]
 by_cases h : q < N' / 2 ^ (k + 1)
 ·simp [h]
 ·have hd' : 2 ^ (k + 1) ∣ N' := Nat.dvd_trans (Nat.pow_dvd_pow 2 (by omega)) hd
  have hno : ∀ i, i / 2 ^ (k + 1) = q → i ∉ F k := by
   intro i hi hm
   have := hF k (by omega) i hm
   apply h
   rw [← hi, Nat.div_lt_iff_lt_mul (pow0 _), Nat.div_mul_cancel hd']
   exact this
  have hq := half_div k q
  simp [h, hno _ hq.1, hno _ hq.2]
theorem grow_old (μ : Mp) {x : Nat} (h : x < μ.pages.length) : μ.grow.pages[x]? = μ.pages[x]? := by
 unfold Mp.grow
 rw [run_out (by unfold Inb; omega), (Mp.paired_pages _).1]
 exact List.getElem?_append_left h
theorem grow_pairs (μ : Mp) : μ.grow.pairs = μ.more.paired.pairs := rfl
theorem BInv.grow {β : Bu} {F : Nat → List Nat} (I : BInv β F NoHole) (hn : β.μ.pages.length = β.σ.n * 2 ^ β.μ.order) (hsz : β.σ.size = 4096 * 2 ^ β.μ.order) (top' : β.σ.base + 4096 * (β.μ.pages.length + 2 ^ β.μ.order) < 18446744073709551616) :
  BInv { β with σ := β.σ.grow, μ := β.μ.grow } F NoHole ∧ BlkAt β.μ.grow.pages β.μ.pages.length β.μ.order 2 ∧
  ∀ x off, x < β.μ.pages.length → off < 4096 → β.σ.grow.mem (β.σ.base + 4096 * x + off) = β.σ.mem (β.σ.base + 4096 * x + off) := by
 have ho := Mp.grow_order β.μ
 have hl := Mp.grow_len β.μ
 have hm : β.μ.more.order = β.μ.order := rfl
 have hmp : β.μ.more.pairs = β.μ.pairs := rfl
 have hml : β.μ.more.pages.length = β.μ.pages.length + 2 ^ β.μ.order := by simp [Mp.more]
 have hmem : ∀ x off, x < β.μ.pages.length → off < 4096 → β.σ.grow.mem (β.σ.base + 4096 * x + off) = β.σ.mem (β.σ.base + 4096 * x + off) := by
  intro x off hx hoff
  unfold Sp.grow
  simp only
  rw [if_neg]
  have e : β.σ.n * β.σ.size = 4096 * β.μ.pages.length := by rw [hsz, hn]; rw [Nat.mul_left_comm]
  rw [e]
  omega
 have hfull : 2 ^ β.μ.order ∣ β.μ.pages.length + 2 ^ β.μ.order := Nat.dvd_add I.full (Nat.dvd_refl _)
 have hB : BlkAt β.μ.grow.pages β.μ.pages.length β.μ.order 2 := by
  have hh : β.μ.more.paired.pages.length = β.μ.pages.length + 2 ^ β.μ.order := by rw [(Mp.paired_pages _).1, hml]
  exact run_blk (μ := β.μ.more.paired) (kd := 2) I.full (by rw [hh]; exact Nat.le_refl _)
 have hpair : ∀ k, k < β.μ.order → β.μ.grow.pairs.getD k ⟨0, []⟩ = reset (β.μ.pages.length + 2 ^ β.μ.order) k (β.μ.pairs.getD k ⟨0, []⟩) := by
  intro k hk
  rw [grow_pairs, paired_pair β.μ.more k hk I.prl, hml, hmp]
 refine ⟨?_, hB, hmem⟩
 constructor
 ·show β.μ.grow.order ≤ 8; rw [ho]; exact I.ord
 ·show β.heads.length = β.μ.grow.order + 1; rw [ho]; exact I.heads
 ·show β.μ.grow.pairs.length = β.μ.grow.order; rw [ho, grow_pairs, paired_len, hmp]; exact I.prl
 ·exact I.base
 ·show β.σ.base + 4096 * β.μ.grow.pages.length < _; rw [hl]; exact top'
 ·show 2 ^ β.μ.grow.order ∣ β.μ.grow.pages.length; rw [ho, hl]; exact hfull
 ·intro x hx; exact hx.elim
 ·show ∀ k, k ≤ β.μ.grow.order → DL β.σ.grow β.σ.base 0 _ _
  rw [ho]
  refine fun k hk => DL.congr (fun i hi => ?_) (I.lists k hk)
  have hlt := (I.lt hk hi).2
  constructor
  ·refine leBytes_congr (fun a h1 h2 => ?_)
   have := hmem i (a - (β.σ.base + 4096 * i)) hlt (by omega)
   rwa [show β.σ.base + 4096 * i + (a - (β.σ.base + 4096 * i)) = a by omega] at this
  ·refine leBytes_congr (fun a h1 h2 => ?_)
   have := hmem i (a - (β.σ.base + 4096 * i)) hlt (by omega)
   rwa [show β.σ.base + 4096 * i + (a - (β.σ.base + 4096 * i)) = a by omega] at this
 ·show ∀ k, k ≤ β.μ.grow.order → _; rw [ho]; exact I.nodup
 ·show ∀ k, k ≤ β.μ.grow.order → ∀ i ∈ F k, BlkAt β.μ.grow.pages i k 0
  rw [ho]
  exact fun k hk i hi => (I.free k hk i hi).far (fun x hx => grow_old β.μ (by have := (I.lt hk hi).1; have := hx.2; omega))
 ·intro k _ i _ x hx; exact hx.elim
 ·show ∀ x, x < β.μ.grow.pages.length → ¬ NoHole x → (∃ k, k ≤ β.μ.grow.order ∧ _) ∨ LiveAt β.μ.grow.order β.μ.grow.pages NoHole x
  rw [ho, hl]
  intro x hx hnx
  by_cases h : x < β.μ.pages.length
  ·rcases I.tile x h hnx with h1 | ⟨a, k, hk, hb, hy, hap⟩ | ⟨p, hp1, hp2⟩
   ·exact .inl h1
   ·exact .inr (.inl ⟨a, k, hk, hb.far (fun y hy => grow_old β.μ (by have := hb.le; have := hy.2; omega)), hy, hap⟩)
   ·exact .inr (.inr ⟨p, (grow_old β.μ h).trans hp1, hp2⟩)
  ·exact .inr (.inl ⟨_, _, Nat.le_refl _, hB, ⟨by omega, by omega⟩, fun y hy => hy.elim⟩)
 ·show ∀ k, k < β.μ.grow.order → (β.μ.grow.pairs.getD k _).n = β.μ.grow.pages.length / _
  rw [ho, hl]
  intro k hk
  rw [hpair k hk]
  rfl
 ·show ∀ k, k < β.μ.grow.order → (β.μ.grow.pairs.getD k _).ws.length = ((β.μ.grow.pairs.getD k _).n + 63) / 64
  rw [ho]
  intro k hk
  rw [hpair k hk]
  exact ofW_length _ _
 ·show ∀ k, k < β.μ.grow.order → ∀ q, bitOf (β.μ.grow.pairs.getD k _).ws q = _
  rw [ho]
  intro k hk q
  rw [hpair k hk]
  exact I.fit hfull (fun k hk i hi => by have := (I.lt hk hi).2; omega) k hk q
 ·show ∀ k, k < β.μ.grow.order → _; rw [ho]; exact I.merged
theorem BInv.fed {β : Bu} {F : Nat → List Nat} (I : BInv β F NoHole) (hn : β.μ.pages.length = β.σ.n * 2 ^ β.μ.order) (hsz : β.σ.size = 4096 * 2 ^ β.μ.order) (top' : β.σ.base + 4096 * (β.μ.pages.length + 2 ^ β.μ.order) < 18446744073709551616) :
  BInv β.fed (upd F β.μ.order (β.μ.pages.length :: F β.μ.order)) NoHole ∧
  (∀ x, x < β.μ.pages.length → ¬ Upen β.μ.order F NoHole x → β.fed.μ.pages[x]? = β.μ.pages[x]?) ∧
  (∀ x off, x < β.μ.pages.length → ¬ Upen β.μ.order F NoHole x → off < 4096 → β.fed.σ.mem (β.σ.base + 4096 * x + off) = β.σ.mem (β.σ.base + 4096 * x + off)) ∧
  (∀ y, Upen β.μ.order (upd F β.μ.order (β.μ.pages.length :: F β.μ.order)) NoHole y ↔ Upen β.μ.order F NoHole y ∨ Inb β.μ.pages.length β.μ.order y) := by
 obtain ⟨I1, B1, M1⟩ := I.grow hn hsz top'
 have ho := Mp.grow_order β.μ
 have I2 := I1.openLive B1
 have hH : (fun y => NoHole y ∨ Inb β.μ.pages.length β.μ.order y) = Inb β.μ.pages.length β.μ.order := funext fun y => propext ⟨fun h => h.resolve_left id, .inr⟩
 rw [hH] at I2
 have hk : β.μ.order ≤ β.μ.grow.order := by omega
 obtain ⟨I3, K3, U3⟩ := I2.attach (a := β.μ.pages.length) (k := β.μ.order) hk I.full (fun y h => h) (fun h => by
  have h : β.μ.order < β.μ.grow.order := h
  omega)
 have hH3 : (fun y => Inb β.μ.pages.length β.μ.order y ∧ ¬ Inb β.μ.pages.length β.μ.order y) = NoHole := funext fun y => propext ⟨fun h => h.2 h.1, fun h => h.elim⟩
 have het : (Bu.enter { β with σ := β.σ.grow, μ := β.μ.grow } β.μ.pages.length β.μ.order).turned β.μ.pages.length β.μ.order = β.fed := by
  have := turned_top β.fed β.μ.pages.length
  rwa [show β.fed.μ.order = β.μ.order from ho] at this
 rw [hH3] at I3 U3
 rw [het] at I3 K3
 have hU3 : ∀ y, Upen β.μ.order (upd F β.μ.order (β.μ.pages.length :: F β.μ.order)) NoHole y ↔ Upen β.μ.order F (Inb β.μ.pages.length β.μ.order) y := by
  intro y
  have := U3 y
  rwa [show ({ β with σ := β.σ.grow, μ := β.μ.grow } : Bu).μ.order = β.μ.order from ho] at this
 have hno : ∀ x, x < β.μ.pages.length → ¬ Upen β.μ.order F NoHole x → ¬ Upen ({ β with σ := β.σ.grow, μ := β.μ.grow } : Bu).μ.order F (Inb β.μ.pages.length β.μ.order) x := by
  intro x hx h e
  rw [show ({ β with σ := β.σ.grow, μ := β.μ.grow } : Bu).μ.order = β.μ.order from ho] at e
  rcases e with e | e
  ·have := e.1; omega
  ·exact h (.inr e)
 refine ⟨I3, fun x hx h => (K3.page x (hno x hx h)).trans (grow_old β.μ hx), fun x off hx h ho => (K3.byte x off (hno x hx h) ho).trans (M1 x off hx ho), fun y => (hU3 y).trans ?_⟩
 unfold Upen
 constructor
 ·rintro (h | h)
  ·exact .inr h
  ·exact .inl (.inr h)
 ·rintro ((h | h) | h)
  ·exact h.elim
  ·exact .inr h
  ·exact .inl h
def low (a k : Nat) : Nat := a / 2 ^ (k + 1) * 2 ^ (k + 1)
theorem low_join {a k : Nat} (h : 2 ^ k ∣ a) : (∀ y, (Inb a k y ∨ Inb (mate a k) k y) ↔ Inb (low a k) (k + 1) y) ∧ 2 ^ (k + 1) ∣ low a k ∧ 2 ^ k ∣ mate a k ∧ mate a k / 2 ^ (k + 1) = a / 2 ^ (k + 1) ∧ mate a k ≠ a := by
 have hd := half_div k (a / 2 ^ (k + 1))
 have hp : 2 ^ (k + 1) = 2 * 2 ^ k := by rw [Nat.pow_succ, Nat.mul_comm]
 have hl : low a k = 2 * (a / 2 ^ (k + 1)) * 2 ^ k := by
  unfold low
  conv => lhs; rw [show a / 2 ^ (k + 1) * 2 ^ (k + 1) = a / 2 ^ (k + 1) * (2 * 2 ^ k) by rw [← hp]]
  rw [← Nat.mul_assoc, Nat.mul_comm _ 2]
 have hne := half_ne k (a / 2 ^ (k + 1))
 have p0 := pow0 k
 rcases half_form h with ⟨e, _⟩ | ⟨e, _⟩
 ·generalize a / 2 ^ (k + 1) = q at *
  subst e
  rw [mate_lo]
  refine ⟨fun y => ?_, Nat.dvd_mul_left _ _, Nat.dvd_mul_left _ _, hd.2, fun x => hne x.symm⟩
  rw [hl]
  unfold Inb
  rw [hp, Nat.add_mul, Nat.one_mul]
  omega
 ·generalize a / 2 ^ (k + 1) = q at *
  subst e
  rw [mate_hi]
  refine ⟨fun y => ?_, Nat.dvd_mul_left _ _, Nat.dvd_mul_left _ _, hd.1, hne⟩
  rw [hl]
  unfold Inb
  rw [hp, Nat.add_mul, Nat.one_mul]
  omega
def Bu.giveF : Nat → Bu → (Nat → List Nat) → Nat → Nat → Bu × (Nat → List Nat)
 | 0, β, F, a, k => ((β.enter a k).turned a k, upd F k (a :: F k))
 | f + 1, β, F, a, k =>
  if mate a k ∈ F k then Bu.giveF f ((β.detach k (mate a k)).turned (mate a k) k) (upd F k ((F k).erase (mate a k))) (low a k) (k + 1)
  else ((β.enter a k).turned a k, upd F k (a :: F k))
theorem BInv.up {β : Bu} {F : Nat → List Nat} {a k : Nat} (I : BInv β F (Inb a k)) (hk : k < β.μ.order) (al : 2 ^ k ∣ a) (hm : mate a k ∈ F k) :
  BInv ((β.detach k (mate a k)).turned (mate a k) k) (upd F k ((F k).erase (mate a k))) (Inb (low a k) (k + 1)) ∧
  Keeps β ((β.detach k (mate a k)).turned (mate a k) k) (Upen β.μ.order F (Inb a k)) ∧
  ∀ y, Upen β.μ.order (upd F k ((F k).erase (mate a k))) (Inb (low a k) (k + 1)) y ↔ Upen β.μ.order F (Inb a k) y := by
 obtain ⟨I1, K1, U1⟩ := I.detach (by omega) hm
 have hj := (low_join al).1
 have hfun : (fun y => Inb a k y ∨ Inb (mate a k) k y) = Inb (low a k) (k + 1) := funext fun y => propext (hj y)
 rw [hfun] at I1 U1
 exact ⟨I1, K1, U1⟩
theorem BInv.give : ∀ (f : Nat) {β : Bu} {F : Nat → List Nat} {a k : Nat}, BInv β F (Inb a k) → k + f = β.μ.order → 2 ^ k ∣ a →
  BInv (Bu.giveF f β F a k).1 (Bu.giveF f β F a k).2 NoHole ∧ Keeps β (Bu.giveF f β F a k).1 (Upen β.μ.order F (Inb a k)) ∧
  ∀ y, Upen β.μ.order (Bu.giveF f β F a k).2 NoHole y ↔ Upen β.μ.order F (Inb a k) y := by
 intro f
 have last : ∀ {β : Bu} {F : Nat → List Nat} {a k : Nat}, BInv β F (Inb a k) → k ≤ β.μ.order → 2 ^ k ∣ a → (k < β.μ.order → mate a k ∉ F k) →
   BInv ((β.enter a k).turned a k) (upd F k (a :: F k)) NoHole ∧ Keeps β ((β.enter a k).turned a k) (Upen β.μ.order F (Inb a k)) ∧ ∀ y, Upen β.μ.order (upd F k (a :: F k)) NoHole y ↔ Upen β.μ.order F (Inb a k) y := by
  intro β F a k I hk al hm
  obtain ⟨I1, K1, U1⟩ := I.attach hk al (fun _ h => h) hm
  have hfun : (fun y => Inb a k y ∧ ¬ Inb a k y) = NoHole := funext fun y => propext ⟨fun h => h.2 h.1, fun h => h.elim⟩
  rw [hfun] at I1 U1
  exact ⟨I1, K1, U1⟩
 induction f with
 | zero =>
  intro β F a k I hf al
  exact last I (by omega) al (fun h => by omega)
 | succ f ih =>
  intro β F a k I hf al
  unfold Bu.giveF
  split
  ·next hm =>
   obtain ⟨I1, K1, U1⟩ := I.up (by omega) al hm
   obtain ⟨I2, K2, U2⟩ := ih I1 (by rw [K1.order]; omega) (low_join al).2.1
   rw [K1.order] at K2 U2
   exact ⟨I2, K1.trans K2 (fun x hx => (U1 x).1 hx), fun y => (U2 y).trans (U1 y)⟩
  ·next hm => exact last I (by omega) al (fun _ => hm)
def Bu.given (β : Bu) (F : Nat → List Nat) (a k : Nat) : Bu := (Bu.giveF (β.μ.order - k) β F a k).1
theorem BInv.given {β : Bu} {F : Nat → List Nat} {H : Nat → Prop} {a k : Nat} (I : BInv β F H) (hH : ∀ y, H y ↔ Inb a k y) (hk : k ≤ β.μ.order) (al : 2 ^ k ∣ a) :
  BInv (β.given F a k) (Bu.giveF (β.μ.order - k) β F a k).2 NoHole ∧ Keeps β (β.given F a k) (Upen β.μ.order F H) ∧ ∀ y, Upen β.μ.order (Bu.giveF (β.μ.order - k) β F a k).2 NoHole y ↔ Upen β.μ.order F H y := by
 obtain rfl : H = Inb a k := funext fun y => propext (hH y)
 exact BInv.give _ I (by omega) al
theorem BInv.shrink {β : Bu} {F : Nat → List Nat} (I : BInv β F NoHole) (hs : β.Has) {i j o : Nat} (lo : o ≤ j) (hj : j ≤ β.μ.order) (hB : BlkAt β.μ.pages i j 2) :
  (∀ m', m' < j - o → CutOk (β.cutN i j m') (i + 2 ^ (j - 1 - m')) (j - 1 - m')) ∧ BInv (β.cut i j o) (cutF F i j (j - o)) NoHole ∧ Keeps β (β.cut i j o) (Upen β.μ.order F (Inb i j)) ∧
  BlkAt (β.cut i j o).μ.pages i o 2 ∧ (∀ y, Upen β.μ.order (cutF F i j (j - o)) NoHole y ↔ Upen β.μ.order F (Inb i j) y ∧ ¬ Inb i o y) ∧ (∀ y, Inb i j y → ¬ Upen β.μ.order F NoHole y) := by
 have I1 := I.openLive hB
 have hH : (fun y => NoHole y ∨ Inb i j y) = Inb i j := funext fun y => propext ⟨fun h => h.resolve_left id, .inr⟩
 rw [hH] at I1
 obtain ⟨I2, K2, U2, C2⟩ := I1.cutN hj hB.al hs (j - o) (by omega)
 rw [show j - (j - o) = o by omega] at I2 U2
 have alo : 2 ^ o ∣ i := Nat.dvd_trans (Nat.pow_dvd_pow 2 lo) hB.al
 have ho2 := K2.order
 obtain ⟨I3, K3, B3⟩ := I2.live (a := i) (k := o) (by rw [ho2]; omega) alo (fun _ h => h)
 have hH3 : (fun y => Inb i o y ∧ ¬ Inb i o y) = NoHole := funext fun y => propext ⟨fun h => h.2 h.1, fun h => h.elim⟩
 rw [hH3] at I3
 refine ⟨C2, I3, K2.trans K3 (fun x hx => (U2 x).1 (.inl hx)), B3, ?_, ?_⟩
 ·intro y
  have h2 := U2 y
  constructor
  ·rintro (h | h)
   ·exact h.elim
   ·refine ⟨h2.1 (.inr h), fun hy => ?_⟩
    obtain ⟨k, hk, x, hx, hxy⟩ := h
    exact I2.apart k (by rw [ho2]; exact hk) x hx y hy hxy
  ·rintro ⟨h, hy⟩
   rcases h2.2 h with h | h
   ·exact (hy h).elim
   ·exact .inr h
 ·rintro y hy (h | ⟨k, hk, x, hx, hxy⟩)
  ·exact h
  ·have := (I.free k hk x hx).same hB hxy hy
   omega
theorem BInv.isFree {β : Bu} {F : Nat → List Nat} (I : BInv β F NoHole) {x : Nat} {p : Pg} (hx : β.μ.pages[x]? = some p) : (Upen β.μ.order F NoHole x ↔ p.kind = 0 ∨ p.kind = 1) := by
 have hl := (List.getElem?_eq_some_iff.1 hx).1
 constructor
 ·rintro (h | ⟨k, hk, h, hh, hxh⟩)
  ·exact h.elim
  ·have e := Option.some.inj (hx.symm.trans ((I.free k hk h hh).page hxh))
   rw [e]
   simp only [runPg, plainPg]
   split <;> simp
 ·intro hp
  rcases I.tile x hl id with h | ⟨a, k, hk, hb, hy, _⟩ | ⟨q, hq, hq4, _⟩
  ·exact .inr h
  ·have e := Option.some.inj (hx.symm.trans (hb.page hy))
   rw [e] at hp
   simp only [runPg, plainPg] at hp
   split at hp <;> omega
  ·have e := Option.some.inj (hx.symm.trans hq)
   rw [e] at hp
   omega
theorem BInv.headFree {β : Bu} {F : Nat → List Nat} (I : BInv β F NoHole) {x : Nat} {p : Pg} (hx : β.μ.pages[x]? = some p) (hp : p.kind = 0) : ∃ k, k ≤ β.μ.order ∧ x ∈ F k ∧ p.order = k := by
 rcases (I.isFree hx).2 (.inl hp) with h | ⟨k, hk, h, hh, hxh⟩
 ·exact h.elim
 ·have e := Option.some.inj (hx.symm.trans ((I.free k hk h hh).page hxh))
  have e0 : x - h = 0 := by
   rw [e] at hp
   simp only [runPg, plainPg] at hp
   split at hp <;> omega
  have : x = h := by have := hxh.1; omega
  subst this
  exact ⟨k, hk, hh, by rw [e]; rfl⟩
theorem BInv.isLive {β : Bu} {F : Nat → List Nat} (I : BInv β F NoHole) {x : Nat} {p : Pg} (hx : β.μ.pages[x]? = some p) (hp : p.kind = 2 ∨ p.kind = 3) : ∃ a k, k ≤ β.μ.order ∧ BlkAt β.μ.pages a k 2 ∧ Inb a k x ∧ p.order = k ∧ a = x / 2 ^ k * 2 ^ k ∧ (p.kind = 2 ↔ x = a) := by
 have hl := (List.getElem?_eq_some_iff.1 hx).1
 rcases I.tile x hl id with h | ⟨a, k, hk, hb, hy, _⟩ | ⟨q, hq, hq4, _⟩
 ·have := (I.isFree hx).1 (.inr h)
  omega
 ·have e := Option.some.inj (hx.symm.trans (hb.page hy))
  refine ⟨a, k, hk, hb, hy, by rw [e]; rfl, al_eq hb.al hy, ?_⟩
  rw [e]
  have := hy.1
  simp only [runPg, plainPg]
  split <;> omega
 ·have e := Option.some.inj (hx.symm.trans hq)
  rw [e] at hp
  omega
def Bu.pulled (β : Bu) (x : Nat) : Bu := { β.detach β.μ.order x with μ := β.μ.run x β.μ.order 2 }
theorem BInv.pull {β : Bu} {F : Nat → List Nat} (I : BInv β F NoHole) {x : Nat} (hx : x ∈ F β.μ.order) :
  BInv (β.pulled x) (upd F β.μ.order ((F β.μ.order).erase x)) NoHole ∧
  Keeps β (β.pulled x) (Upen β.μ.order F NoHole) ∧ BlkAt (β.μ.run x β.μ.order 2).pages x β.μ.order 2 ∧
  (∀ y, Upen β.μ.order (upd F β.μ.order ((F β.μ.order).erase x)) NoHole y ↔ Upen β.μ.order F NoHole y ∧ ¬ Inb x β.μ.order y) := by
 obtain ⟨I1, K1, U1⟩ := I.detach (Nat.le_refl _) hx
 have ht : (β.detach β.μ.order x).turned x β.μ.order = β.detach β.μ.order x := by
  have := turned_top (β.detach β.μ.order x) x
  rwa [detach_μ] at this
 rw [ht] at I1 K1
 have hH : (fun y => NoHole y ∨ Inb x β.μ.order y) = Inb x β.μ.order := funext fun y => propext ⟨fun h => h.resolve_left id, .inr⟩
 rw [hH] at I1 U1
 have al := (I.free _ (Nat.le_refl _) x hx).al
 obtain ⟨I3, K3, B3⟩ := I1.live (a := x) (k := β.μ.order) (by rw [detach_μ]; exact Nat.le_refl _) al (fun _ h => h)
 rw [detach_μ] at I3 K3 B3
 have hH3 : (fun y => Inb x β.μ.order y ∧ ¬ Inb x β.μ.order y) = NoHole := funext fun y => propext ⟨fun h => h.2 h.1, fun h => h.elim⟩
 rw [hH3] at I3
 refine ⟨I3, K1.trans K3 (fun y hy => (U1 y).1 (.inl hy)), B3, fun y => ?_⟩
 have h2 := U1 y
 constructor
 ·rintro (h | h)
  ·exact h.elim
  ·refine ⟨h2.1 (.inr h), fun hy => ?_⟩
   obtain ⟨k, hk, z, hz, hzy⟩ := h
   exact I1.apart k (by rw [detach_μ]; exact hk) z hz y hy hzy
 ·rintro ⟨h, hy⟩
  rcases h2.2 h with h | h
  ·exact (hy h).elim
  ·exact .inr h
def Mp.shrink (μ : Mp) : Mp := Mp.paired { μ with pages := μ.pages.take (μ.pages.length - 2 ^ μ.order) }
theorem shrink_old (μ : Mp) {x : Nat} (h : x < μ.pages.length - 2 ^ μ.order) : μ.shrink.pages[x]? = μ.pages[x]? := by
 unfold Mp.shrink
 rw [(Mp.paired_pages _).1]
 exact List.getElem?_take_of_lt h
theorem shrink_len (μ : Mp) : μ.shrink.pages.length = μ.pages.length - 2 ^ μ.order ∧ μ.shrink.order = μ.order := by
 unfold Mp.shrink
 rw [(Mp.paired_pages _).1, (Mp.paired_pages _).2]
 exact ⟨by simp, rfl⟩
theorem BInv.drop {β : Bu} {F : Nat → List Nat} (I : BInv β F NoHole) (hB : BlkAt β.μ.pages (β.μ.pages.length - 2 ^ β.μ.order) β.μ.order 2) : BInv { β with σ := β.σ.less, μ := β.μ.shrink } F NoHole := by
 obtain ⟨hl, ho⟩ := shrink_len β.μ
 have hle := hB.le
 have p0 := pow0 β.μ.order
 have hge : 2 ^ β.μ.order ≤ β.μ.pages.length := Nat.le_of_dvd (by omega) I.full
 have hfull : 2 ^ β.μ.order ∣ β.μ.pages.length - 2 ^ β.μ.order := Nat.dvd_sub I.full (Nat.dvd_refl _)
 -- what is not the top region lies below it
 have hbel : ∀ {a k : Nat} {kd : Int}, BlkAt β.μ.pages a k kd → (a ≠ β.μ.pages.length - 2 ^ β.μ.order ∨ k ≠ β.μ.order ∨ kd ≠ 2) → a + 2 ^ k ≤ β.μ.pages.length - 2 ^ β.μ.order := by
  intro a k kd hb hne
  have h1 := hb.le
  have p1 := pow0 k
  refine Classical.byContradiction (fun hc => ?_)
  have := hb.same hB (x := a + 2 ^ k - 1) ⟨by omega, by omega⟩ ⟨by omega, by omega⟩
  omega
 have hfr : ∀ k, k ≤ β.μ.order → ∀ i ∈ F k, i + 2 ^ k ≤ β.μ.pages.length - 2 ^ β.μ.order := fun k hk i hi => hbel (I.free k hk i hi) (.inr (.inr (by omega)))
 have hpair : ∀ k, k < β.μ.order → β.μ.shrink.pairs.getD k ⟨0, []⟩ = reset (β.μ.pages.length - 2 ^ β.μ.order) k (β.μ.pairs.getD k ⟨0, []⟩) := by
  intro k hk
  have := paired_pair { β.μ with pages := β.μ.pages.take (β.μ.pages.length - 2 ^ β.μ.order) } k hk I.prl
  unfold Mp.shrink
  rw [this]
  simp
 constructor
 ·show β.μ.shrink.order ≤ 8; rw [ho]; exact I.ord
 ·show β.heads.length = β.μ.shrink.order + 1; rw [ho]; exact I.heads
 ·show β.μ.shrink.pairs.length = β.μ.shrink.order
  rw [ho]
  unfold Mp.shrink
  rw [paired_len]
  exact I.prl
 ·exact I.base
 ·show β.σ.base + 4096 * β.μ.shrink.pages.length < _; rw [hl]; have := I.top; omega
 ·show 2 ^ β.μ.shrink.order ∣ β.μ.shrink.pages.length; rw [ho, hl]; exact hfull
 ·intro x hx; exact hx.elim
 ·show ∀ k, k ≤ β.μ.shrink.order → DL β.σ.less β.σ.base 0 _ _
  rw [ho]
  exact fun k hk => DL.congr (σ := β.σ) (fun i hi => ⟨rfl, rfl⟩) (I.lists k hk)
 ·show ∀ k, k ≤ β.μ.shrink.order → _; rw [ho]; exact I.nodup
 ·show ∀ k, k ≤ β.μ.shrink.order → ∀ i ∈ F k, BlkAt β.μ.shrink.pages i k 0
  rw [ho]
  exact fun k hk i hi => (I.free k hk i hi).far (fun x hx => shrink_old β.μ (by have := hfr k hk i hi; have := hx.2; omega))
 ·intro k _ i _ x hx; exact hx.elim
 ·show ∀ x, x < β.μ.shrink.pages.length → ¬ NoHole x → (∃ k, k ≤ β.μ.shrink.order ∧ _) ∨ LiveAt β.μ.shrink.order β.μ.shrink.pages NoHole x
  rw [ho, hl]
  intro x hx hnx
  rcases I.tile x (by omega) hnx with h1 | ⟨a, k, hk, hb, hy, hap⟩ | ⟨p, hp1, hp2⟩
  ·exact .inl h1
  ·refine .inr (.inl ⟨a, k, hk, hb.far (fun y hy' => shrink_old β.μ ?_), hy, hap⟩)
   have : a + 2 ^ k ≤ β.μ.pages.length - 2 ^ β.μ.order := by
    refine hbel hb ?_
    have := hy.1
    omega
   have := hy'.2
   omega
  ·exact .inr (.inr ⟨p, (shrink_old β.μ hx).trans hp1, hp2⟩)
 ·show ∀ k, k < β.μ.shrink.order → (β.μ.shrink.pairs.getD k _).n = β.μ.shrink.pages.length / _
  rw [ho, hl]
  intro k hk
  rw [hpair k hk]
  rfl
 ·show ∀ k, k < β.μ.shrink.order → (β.μ.shrink.pairs.getD k _).ws.length = ((β.μ.shrink.pairs.getD k _).n + 63) / 64
  rw [ho]
  intro k hk
  rw [hpair k hk]
  exact ofW_length _ _
 ·show ∀ k, k < β.μ.shrink.order → ∀ q, bitOf (β.μ.shrink.pairs.getD k _).ws q = _
  rw [ho]
  intro k hk q
  rw [hpair k hk]
  exact I.fit hfull (fun k hk i hi => by have := hfr k hk i hi; have := pow0 k; omega) k hk q
 ·show ∀ k, k < β.μ.shrink.order → _; rw [ho]; exact I.merged
theorem fresh_inv {base limit order : Nat} (hb : 0 < base) (ho : order ≤ 8) (ht : base < 18446744073709551616) : BInv (Bu.fresh base limit order) (fun _ => []) NoHole := by
 have hpr : ∀ k, k < order → (List.replicate order emptySet).getD k ⟨0, []⟩ = emptySet := by
  intro k hk
  rw [List.getD_eq_getElem?_getD, List.getElem?_replicate, if_pos hk]
  rfl
 refine ⟨ho, by simp [Bu.fresh, newMp], by simp [Bu.fresh, newMp], hb, ?_, ⟨0, rfl⟩, fun _ h => h.elim, ?_, fun _ _ => List.nodup_nil, fun _ _ _ h => by simp at h, fun _ _ _ h => by simp at h, ?_, ?_, ?_, ?_, fun _ _ _ h => by simp at h⟩
 ·show base + 4096 * 0 < _; omega
 ·intro k hk
  show (List.replicate (order + 1) 0).getD k 0 = 0
  rw [List.getD_eq_getElem?_getD, List.getElem?_replicate]
  split <;> rfl
 ·intro x hx
  exact absurd hx (Nat.not_lt_zero _)
 ·intro k hk
  show ((List.replicate order emptySet).getD k ⟨0, []⟩).n = 0 / _
  rw [hpr k hk]
  simp [emptySet]
 ·intro k hk
  show ((List.replicate order emptySet).getD k ⟨0, []⟩).ws.length = (((List.replicate order emptySet).getD k ⟨0, []⟩).n + 63) / 64
  rw [hpr k hk]
  exact ofW_length [] 0
 ·intro k hk q
  show bitOf ((List.replicate order emptySet).getD k ⟨0, []⟩).ws q = _
  rw [hpr k hk]
  show bitOf (ofW [] 0) q = _
  rw [bitOf_ofW]
  simp
def PL (N P : Nat → Int) : Int → Int → List Nat → Prop
 | _, h, [] => h = -1
 | pr, h, i :: t => h = i ∧ P i = pr ∧ PL N P i (N i) t
theorem PL.congr {N P N' P' : Nat → Int} : ∀ {l : List Nat} {pr h : Int}, (∀ i ∈ l, N' i = N i ∧ P' i = P i) → PL N P pr h l → PL N' P' pr h l
 | [], _, _, _, D => D
 | i :: t, pr, h, H, D => by
  obtain ⟨h1, h2⟩ := H i (by simp)
  refine ⟨D.1, h2.trans D.2.1, ?_⟩
  rw [h1]
  exact PL.congr (fun j hj => H j (by simp [hj])) D.2.2
theorem PL.congr1 {N P N' P' : Nat → Int} {pr pr' h : Int} : ∀ {l : List Nat}, (∀ i ∈ l, N' i = N i) → (∀ i ∈ l.tail, P' i = P i) → (∀ i ∈ l.head?, P' i = pr') → PL N P pr h l → PL N' P' pr' h l
 | [], _, _, _, D => D
 | i :: t, hn, hp, hh, D => by
  refine ⟨D.1, hh i (by simp), ?_⟩
  rw [hn i (by simp)]
  exact PL.congr (fun j hj => ⟨hn j (by simp [hj]), hp j (by simpa using hj)⟩) D.2.2
def hdI : List Nat → Int
 | [] => -1
 | f :: _ => f
def lsI (pr : Int) (l : List Nat) : Int := match l.getLast? with | none => pr | some y => (y : Int)
theorem lsI_some {pr : Int} {y : Nat} {l : List Nat} (h : l.getLast? = some y) : lsI pr l = y := by unfold lsI; rw [h]
theorem PL.prevOf {N P : Nat → Int} {x : Nat} {t : List Nat} : ∀ {a : List Nat} {pr h : Int}, PL N P pr h (a ++ x :: t) → P x = lsI pr a
 | [], _, _, D => D.2.1
 | [y], _, _, D => D.2.2.2.1
 | y :: z :: a, pr, h, D => by
  have := PL.prevOf (a := z :: a) D.2.2
  obtain ⟨u, hu⟩ := last_some (l := z :: a) (by simp)
  rw [this, lsI_some hu, lsI_some ((List.getLast?_cons_cons).trans hu)]
theorem PL.nextIs {N P : Nat → Int} {x : Nat} {t : List Nat} : ∀ {a : List Nat} {pr h : Int}, PL N P pr h (a ++ x :: t) → N x = hdI t
 | [], _, _, D => by
  have D := D.2.2
  cases t with
  | nil => exact D
  | cons y t => exact D.1
 | _ :: a, _, _, D => PL.nextIs (a := a) D.2.2
theorem PL.remove {N P N' P' : Nat → Int} {x : Nat} {t : List Nat} : ∀ {a : List Nat} {pr h : Int}, PL N P pr h (a ++ x :: t) → (a ++ x :: t).Nodup → (pr = -1 ∨ ∃ q : Nat, pr = q ∧ q ∉ a ++ x :: t) →
  (∀ j ∈ a ++ t, N' j = if (j : Int) = P x then N x else N j) → (∀ j ∈ a ++ t, P' j = if (j : Int) = N x then P x else P j) → PL N' P' pr (if a = [] then N x else h) (a ++ t)
 | [], pr, h, D, M, hq, hN, hP => by
  have hn := D.nextIs (a := [])
  have hp : P x = pr := D.2.1
  simp only [if_true, List.nil_append] at *
  simp only [List.nodup_cons] at M
  refine PL.congr1 (fun i hi => ?_) (fun i hi => ?_) (fun i hi => ?_) D.2.2
  ·rw [hN i hi, if_neg]
   intro e
   rcases hq with e0 | ⟨q, eq, hq⟩
   ·omega
   ·have : q = i := by omega
    exact hq (by simp [this, hi])
  ·cases t with
   | nil => simp at hi
   | cons y t =>
    have hi' : i ∈ t := by simpa using hi
    rw [hP i (by simp [hi']), if_neg]
    intro e
    have hn : N x = (y : Int) := hn
    have : y = i := by omega
    subst this
    simp only [List.nodup_cons] at M
    exact M.2.1 hi'
  ·cases t with
   | nil => simp at hi
   | cons y t =>
    obtain rfl : y = i := by simpa using hi
    have hn : N x = (y : Int) := hn
    rw [hP y (by simp), if_pos hn.symm, hp]
 | y :: a, pr, h, D, M, hq, hN, hP => by
  have hM := M
  simp only [List.cons_append, List.nodup_cons] at M
  have ih := PL.remove (a := a) D.2.2 M.2 (.inr ⟨y, rfl, M.1⟩) (fun j hj => hN j (by rcases List.mem_append.1 hj with h | h <;> simp [h])) (fun j hj => hP j (by rcases List.mem_append.1 hj with h | h <;> simp [h]))
  have hn := PL.nextIs (a := y :: a) D
  have hp := PL.prevOf (a := y :: a) D
  have hyx : y ≠ x := fun e => M.1 (by simp [e])
  have hyt : y ∉ t := fun e => M.1 (by simp [e])
  refine ⟨by simpa using D.1, ?_, ?_⟩
  ·rw [hP y (by simp), if_neg, D.2.1]
   intro e
   cases t with
   | nil => have hn : N x = -1 := hn; omega
   | cons z t =>
    have hn : N x = (z : Int) := hn
    have : z = y := by omega
    exact hyt (by simp [this])
  ·rw [hN y (by simp)]
   cases a with
   | nil =>
    have hp1 : P x = (y : Int) := hp
    rw [if_pos hp1.symm]
    simpa using ih
   | cons z a =>
    rw [if_neg]
    ·simpa using ih
    intro e
    obtain ⟨u, hu⟩ := last_some (l := z :: a) (by simp)
    rw [lsI_some ((List.getLast?_cons_cons).trans hu)] at hp
    have hm : u ∈ z :: a := List.mem_of_getLast? hu
    have : u = y := by omega
    rw [this] at hm
    exact M.1 (List.mem_append_left _ hm)
theorem PL.push {N P N' P' : Nat → Int} {h : Int} {i : Nat} {l : List Nat} (D : PL N P (-1) h l) (M : l.Nodup) (hN : ∀ j ∈ l, N' j = N j) (hP : ∀ j ∈ l, P' j = if (j : Int) = h then (i : Int) else P j) (ni : N' i = h) (pi : P' i = -1) : PL N' P' (-1) i (i :: l) := by
 refine ⟨rfl, pi, ?_⟩
 rw [ni]
 cases l with
 | nil => exact D
 | cons y t =>
  simp only [List.nodup_cons] at M
  have hh : h = (y : Int) := D.1
  refine PL.congr1 hN (fun j hj => ?_) (fun j hj => ?_) D
  ·have hj' : j ∈ t := by simpa using hj
   rw [hP j (by simp [hj']), if_neg]
   intro e
   have : y = j := by omega
   subst this
   exact M.1 hj'
  ·obtain rfl : y = j := by simpa using hj
   rw [hP y (by simp), if_pos hh.symm]
theorem PL.head {N P : Nat → Int} {pr h : Int} {l : List Nat} (D : PL N P pr h l) : h = hdI l := by
 cases l with
 | nil => exact D
 | cons i t => exact D.1
def hdA (at_ wd : Nat) : List Nat → Nat
 | [] => 0
 | f :: _ => at_ + f * wd
def CL (σ : Sp) (at_ wd : Nat) : List Nat → Prop
 | [] => True
 | f :: t => σ.word (at_ + f * wd) = hdA at_ wd t ∧ CL σ at_ wd t
theorem CL.congr {σ σ' : Sp} {at_ wd : Nat} : ∀ {l : List Nat}, (∀ f ∈ l, σ'.word (at_ + f * wd) = σ.word (at_ + f * wd)) → CL σ at_ wd l → CL σ' at_ wd l
 | [], _, _ => trivial
 | f :: t, H, D => ⟨(H f (by simp)).trans D.1, CL.congr (fun g hg => H g (by simp [hg])) D.2⟩
theorem word_setWord (p : Pg) (q q' v : Nat) (h : q < 4) (h' : q' < 4) : (p.setWord q v).word q' = if q' = q then v else p.word q' := by
 have : q = 0 ∨ q = 1 ∨ q = 2 ∨ q = 3 := by omega
 have : q' = 0 ∨ q' = 1 ∨ q' = 2 ∨ q' = 3 := by omega
 rcases ‹q = 0 ∨ _› with rfl | rfl | rfl | rfl <;> rcases ‹q' = 0 ∨ _› with rfl | rfl | rfl | rfl <;> rfl
theorem own_bit (p : Pg) (c x : Nat) (live : Bool) (hc : c < 256) (hx : x < 256) : (p.own c live).bit x = (p.bit x != decide (x = c)) := by
 have e : (p.own c live).bit x = (p.flipBit c).bit x := by
  unfold Pg.bit
  have : ∀ q, (p.own c live).word q = (p.flipBit c).word q := fun q => by
   unfold Pg.own Pg.word
   rfl
  exact congrArg (fun v : Nat => v.testBit (x % 64)) (this (x / 64))
 rw [e]
 unfold Pg.flipBit Pg.bit
 rw [word_setWord _ _ _ _ (by omega) (by omega)]
 by_cases h : x / 64 = c / 64
 ·rw [if_pos h, Nat.testBit_xor, Nat.testBit_two_pow, h]
  have : (decide (c % 64 = x % 64)) = decide (x = c) := decide_eq_decide.2 (by omega)
  rw [this]
 ·rw [if_neg h]
  have : decide (x = c) = false := decide_eq_false (by rintro rfl; exact h rfl)
  rw [this]
  simp
theorem own_same (p : Pg) (c : Nat) (live : Bool) : (p.own c live).kind = p.kind ∧ (p.own c live).order = p.order ∧ (p.own c live).cls = p.cls ∧ (p.own c live).next = p.next ∧ (p.own c live).prev = p.prev ∧ (p.own c live).first = p.first := by
 unfold Pg.own Pg.flipBit
 have : c / 64 = 0 ∨ c / 64 = 1 ∨ c / 64 = 2 ∨ 3 ≤ c / 64 := by omega
 rcases this with h | h | h | h
 ·rw [h]; exact ⟨rfl, rfl, rfl, rfl, rfl, rfl⟩
 ·rw [h]; exact ⟨rfl, rfl, rfl, rfl, rfl, rfl⟩
 ·rw [h]; exact ⟨rfl, rfl, rfl, rfl, rfl, rfl⟩
 ·obtain ⟨n, hn⟩ : ∃ n, c / 64 = n + 3 := ⟨c / 64 - 3, by omega⟩
  rw [hn]; exact ⟨rfl, rfl, rfl, rfl, rfl, rfl⟩
structure CellsOk (σ : Sp) (at_ : Nat) (p : Pg) (fc : List Nat) : Prop where
 order : p.order = 0
 cls : 0 ≤ p.cls ∧ p.cls < 8
 nodup : fc.Nodup
 mem : ∀ x, x ∈ fc ↔ x < cellsN p.cls ∧ p.bit x = false
 high : ∀ x, cellsN p.cls ≤ x → x < 256 → p.bit x = false
 live : p.live = (cellsN p.cls : Int) - fc.length
 some_ : 0 < p.live
 first : p.first = hdI fc
 chain : CL σ at_ (wdOf p.cls.toNat) fc
def nextF (ps : List Pg) (i : Nat) : Int := (ps.getD i zeroPg).next
def prevF (ps : List Pg) (i : Nat) : Int := (ps.getD i zeroPg).prev
theorem nextF_of {ps : List Pg} {i : Nat} {p : Pg} (h : ps[i]? = some p) : nextF ps i = p.next := by unfold nextF; rw [List.getD_eq_getElem?_getD, h]; rfl
theorem prevF_of {ps : List Pg} {i : Nat} {p : Pg} (h : ps[i]? = some p) : prevF ps i = p.prev := by unfold prevF; rw [List.getD_eq_getElem?_getD, h]; rfl
structure SInv (β : Bu) (ps : List Int) (C : Nat → List Nat) (L : Nat → List Nat) : Prop where
 len : ps.length = 8
 pages : ∀ i p, β.μ.pages[i]? = some p → p.kind = 4 → CellsOk β.σ (β.addr i) p (C i)
 lists : ∀ c, c < 8 → PL (nextF β.μ.pages) (prevF β.μ.pages) (-1) (ps.getD c 0) (L c)
 nodup : ∀ c, c < 8 → (L c).Nodup
 mem : ∀ c, c < 8 → ∀ i, i ∈ L c ↔ ∃ p, β.μ.pages[i]? = some p ∧ p.kind = 4 ∧ p.cls = c ∧ C i ≠ []
theorem CellsOk.bytes {σ σ' : Sp} {at_ : Nat} {p : Pg} {fc : List Nat} (h : CellsOk σ at_ p fc) (hw : ∀ f ∈ fc, σ'.word (at_ + f * wdOf p.cls.toNat) = σ.word (at_ + f * wdOf p.cls.toNat)) : CellsOk σ' at_ p fc :=
 ⟨h.order, h.cls, h.nodup, h.mem, h.high, h.live, h.some_, h.first, CL.congr hw h.chain⟩
theorem wdOf_cells (c : Int) (h : 0 ≤ c ∧ c < 8) : cellsN c * wdOf c.toNat = 4096 ∧ 16 ≤ wdOf c.toNat ∧ wdOf c.toNat ≤ 2048 ∧ 2 ≤ cellsN c ∧ cellsN c ≤ 256 := by
 obtain ⟨n, rfl⟩ := Int.eq_ofNat_of_zero_le h.1
 have hn : n < 8 := by omega
 obtain ⟨u1, u2, u3, u4, u5, u6⟩ := wd_facts hn
 simp only [Int.toNat_natCast]
 rw [← u6]
 exact ⟨u3, u1, u2, u4, u5⟩
theorem cell_in (c : Int) (h : 0 ≤ c ∧ c < 8) {x : Nat} (hx : x < cellsN c) : x * wdOf c.toNat + wdOf c.toNat ≤ 4096 := by
 obtain ⟨h1, _⟩ := wdOf_cells c h
 have : (x + 1) * wdOf c.toNat ≤ cellsN c * wdOf c.toNat := Nat.mul_le_mul_right _ hx
 rw [Nat.succ_mul, h1] at this
 exact this
theorem CellsOk.page_bytes {σ σ' : Sp} {b i : Nat} {p : Pg} {fc : List Nat} (h : CellsOk σ (b + 4096 * i) p fc) (hb : ∀ off, off < 4096 → σ'.mem (b + 4096 * i + off) = σ.mem (b + 4096 * i + off)) : CellsOk σ' (b + 4096 * i) p fc := by
 refine h.bytes (fun f hf => leBytes_congr (fun a h1 h2 => ?_))
 have := cell_in p.cls h.cls ((h.mem f).1 hf).1
 have := wdOf_cells p.cls h.cls
 have := hb (a - (b + 4096 * i)) (by omega)
 rwa [show b + 4096 * i + (a - (b + 4096 * i)) = a by omega] at this
theorem SInv.keeps {β β' : Bu} {ps : List Int} {C L : Nat → List Nat} {O : Nat → Prop} (S : SInv β ps C L) (K : Keeps β β' O) (hO : ∀ i p, β.μ.pages[i]? = some p → p.kind = 4 → ¬ O i) : SInv β' ps C L := by
 have hpg : ∀ (i : Nat) (p : Pg), p.kind = 4 → (β'.μ.pages[i]? = some p ↔ β.μ.pages[i]? = some p) := by
  intro i p h4
  constructor
  ·exact fun h => K.slab i p h h4
  ·intro h
   rw [K.page i (hO i p h h4)]
   exact h
 refine ⟨S.len, fun i p hp h4 => ?_, fun c hc => ?_, S.nodup, fun c hc i => ?_⟩
 ·have hp0 := (hpg i p h4).1 hp
  have := S.pages i p hp0 h4
  unfold Bu.addr at this ⊢
  rw [K.base]
  exact this.page_bytes (fun off ho => K.byte i off (hO i p hp0 h4) ho)
 ·refine PL.congr (fun i hi => ?_) (S.lists c hc)
  obtain ⟨p, hp, h4, _⟩ := (S.mem c hc i).1 hi
  have hp' := (hpg i p h4).2 hp
  rw [nextF_of hp, nextF_of hp', prevF_of hp, prevF_of hp']
  exact ⟨rfl, rfl⟩
 ·rw [S.mem c hc i]
  constructor
  ·rintro ⟨p, hp, h4, h⟩
   exact ⟨p, (hpg i p h4).2 hp, h4, h⟩
  ·rintro ⟨p, hp, h4, h⟩
   exact ⟨p, (hpg i p h4).1 hp, h4, h⟩
theorem CellsOk.lt {σ : Sp} {at_ : Nat} {p : Pg} {fc : List Nat} (h : CellsOk σ at_ p fc) {f : Nat} (hf : f ∈ fc) : f < cellsN p.cls ∧ f < 256 := by
 have := ((h.mem f).1 hf).1
 have := (wdOf_cells p.cls h.cls).2.2.2.2
 omega
theorem CellsOk.take {σ : Sp} {at_ f : Nat} {p : Pg} {u : List Nat} (h : CellsOk σ at_ p (f :: u)) : CellsOk σ at_ (p.take f (hdI u)) u := by
 obtain ⟨h1, h256⟩ := h.lt (List.mem_cons_self)
 obtain ⟨s1, s2, s3, s4, s5, s6⟩ := own_same p f true
 have hc : (p.take f (hdI u)).cls = p.cls := s3
 have hbit : ∀ x, x < 256 → (p.take f (hdI u)).bit x = (p.bit x != decide (x = f)) := fun x hx => own_bit p f x true h256 hx
 have hn := h.nodup
 simp only [List.nodup_cons] at hn
 have hle := (wdOf_cells p.cls h.cls).2.2.2.2
 have hfb := ((h.mem f).1 (by simp)).2
 refine ⟨s2.trans h.order, by rw [hc]; exact h.cls, hn.2, fun x => ?_, fun x h1' h2 => ?_, ?_, ?_, rfl, by rw [hc]; exact h.chain.2⟩
 ·rw [hc]
  have hm := h.mem x
  constructor
  ·intro hx
   have := hm.1 (by simp [hx])
   refine ⟨this.1, ?_⟩
   rw [hbit x (by omega), this.2, decide_eq_false (by rintro rfl; exact hn.1 hx)]
   rfl
  ·rintro ⟨hx, hb⟩
   rw [hbit x (by omega)] at hb
   by_cases e : x = f
   ·subst e
    rw [hfb] at hb
    simp at hb
   ·rw [decide_eq_false e] at hb
    have := hm.2 ⟨hx, by simpa using hb⟩
    simpa [e] using this
 ·rw [hc] at h1'
  rw [hbit x h2, h.high x h1' h2, decide_eq_false (by omega)]
  rfl
 ·show p.live + 1 = _
  rw [hc, h.live]
  simp
  omega
 ·show 0 < p.live + 1
  have := h.some_
  omega
def Pg.give (p : Pg) (x : Nat) : Pg := { p.own x false with first := x }
theorem CellsOk.give {σ : Sp} {at_ x : Nat} {p : Pg} {fc : List Nat} (h : CellsOk σ at_ p fc) (hx : x < cellsN p.cls) (hb : p.bit x = true) (h1 : 1 < p.live) (h64 : at_ + 4096 < 18446744073709551616) (σ' : Sp)
  (hσ : σ' = σ.setWord (at_ + x * wdOf p.cls.toNat) (hdA at_ (wdOf p.cls.toNat) fc)) : CellsOk σ' at_ (p.give x) (x :: fc) := by
 obtain ⟨w1, w2, w3, w4, w5⟩ := wdOf_cells p.cls h.cls
 obtain ⟨s1, s2, s3, s4, s5, s6⟩ := own_same p x false
 have hc : (p.give x).cls = p.cls := s3
 have hbit : ∀ y, y < 256 → (p.give x).bit y = (p.bit y != decide (y = x)) := fun y hy => own_bit p x y false (by omega) hy
 have hxn : x ∉ fc := fun e => by
  have := ((h.mem x).1 e).2
  rw [hb] at this
  simp at this
 have hlt : ∀ f ∈ fc, f * wdOf p.cls.toNat + wdOf p.cls.toNat ≤ 4096 := fun f hf => cell_in p.cls h.cls (h.lt hf).1
 have hhd : hdA at_ (wdOf p.cls.toNat) fc < 18446744073709551616 := by
  cases fc with
  | nil => show 0 < _; omega
  | cons f t => have := hlt f (by simp); show at_ + f * _ < _; omega
 refine ⟨s2.trans h.order, by rw [hc]; exact h.cls, List.nodup_cons.2 ⟨hxn, h.nodup⟩, fun y => ?_, fun y h1' h2 => ?_, ?_, ?_, rfl, ?_⟩
 ·rw [hc]
  have hm := h.mem y
  constructor
  ·intro hy
   rcases List.mem_cons.1 hy with rfl | hy
   ·refine ⟨hx, ?_⟩
    rw [hbit y (by omega), hb]
    simp
   ·have := hm.1 hy
    refine ⟨this.1, ?_⟩
    have hyx : y ≠ x := fun e => hxn (e ▸ hy)
    rw [hbit y (by omega), this.2, decide_eq_false hyx]
    rfl
  ·rintro ⟨hy, hyb⟩
   by_cases e : y = x
   ·simp [e]
   ·rw [hbit y (by omega), decide_eq_false e] at hyb
    have := hm.2 ⟨hy, by simpa using hyb⟩
    simp [this]
 ·rw [hc] at h1'
  rw [hbit y h2, h.high y h1' h2, decide_eq_false (by omega)]
  rfl
 ·show p.live - 1 = _
  rw [hc, h.live]
  simp
  omega
 ·show 0 < p.live - 1
  omega
 ·rw [hc, hσ]
  refine ⟨setWord_at _ _ _ hhd, CL.congr (fun f hf => ?_) h.chain⟩
  refine setWord_off _ _ _ _ ?_
  have hfx : f ≠ x := by rintro rfl; exact hxn hf
  rcases Nat.lt_or_gt_of_ne hfx with h' | h'
  ·have : (f + 1) * wdOf p.cls.toNat ≤ x * wdOf p.cls.toNat := Nat.mul_le_mul_right _ h'
   rw [Nat.succ_mul] at this
   omega
  ·have : (x + 1) * wdOf p.cls.toNat ≤ f * wdOf p.cls.toNat := Nat.mul_le_mul_right _ h'
   rw [Nat.succ_mul] at this
   omega
def SameBut (q q0 : Pg) : Prop := q = { q0 with next := q.next, prev := q.prev }
theorem sameBut_mk (q0 : Pg) (n p : Int) : SameBut { q0 with next := n, prev := p } q0 := rfl
theorem SameBut.refl (q : Pg) : SameBut q q := rfl
theorem SameBut.cells {σ : Sp} {at_ : Nat} {q q0 : Pg} {fc : List Nat} (h : SameBut q q0) (D : CellsOk σ at_ q0 fc) : CellsOk σ at_ q fc ∧ q.kind = q0.kind ∧ q.cls = q0.cls := by
 unfold SameBut at h
 rw [h]
 exact ⟨⟨D.order, D.cls, D.nodup, D.mem, D.high, D.live, D.some_, D.first, D.chain⟩, rfl, rfl⟩
theorem SameBut.kind {q q0 : Pg} (h : SameBut q q0) : q.kind = q0.kind ∧ q.cls = q0.cls := by
 unfold SameBut at h
 rw [h]
 exact ⟨rfl, rfl⟩
theorem SInv.turn {β β' : Bu} {ps ps' : List Int} {C L L' : Nat → List Nat} (S : SInv β ps C L) (i : Nat) (u : List Nat) (hb : β'.σ.base = β.σ.base) (hlen : ps'.length = 8)
  (hpg : ∀ j, j ≠ i → (∀ q0, β.μ.pages[j]? = some q0 → ∃ q, β'.μ.pages[j]? = some q ∧ SameBut q q0) ∧ (∀ q, β'.μ.pages[j]? = some q → ∃ q0, β.μ.pages[j]? = some q0))
  (hby : ∀ j q0, j ≠ i → β.μ.pages[j]? = some q0 → q0.kind = 4 → ∀ off, off < 4096 → β'.σ.mem (β.σ.base + 4096 * j + off) = β.σ.mem (β.σ.base + 4096 * j + off))
  (hi : ∀ p, β'.μ.pages[i]? = some p → p.kind = 4 → CellsOk β'.σ (β.addr i) p u)
  (hl : ∀ c, c < 8 → PL (nextF β'.μ.pages) (prevF β'.μ.pages) (-1) (ps'.getD c 0) (L' c)) (hn : ∀ c, c < 8 → (L' c).Nodup)
  (hm : ∀ c, c < 8 → (i ∈ L' c ↔ ∃ p, β'.μ.pages[i]? = some p ∧ p.kind = 4 ∧ p.cls = c ∧ u ≠ []) ∧ ∀ j, j ≠ i → (j ∈ L' c ↔ j ∈ L c)) : SInv β' ps' (upd C i u) L' := by
 have ha : ∀ j, β'.addr j = β.addr j := fun j => by unfold Bu.addr; rw [hb]
 refine ⟨hlen, fun j p hp h4 => ?_, hl, hn, fun c hc j => ?_⟩
 ·rw [ha]
  by_cases e : j = i
  ·subst e
   rw [upd_self]
   exact hi p hp h4
  ·rw [upd_ne _ _ e]
   obtain ⟨q0, hq0⟩ := (hpg j e).2 p hp
   obtain ⟨q, hq, hs⟩ := (hpg j e).1 q0 hq0
   obtain rfl : p = q := Option.some.inj (hp.symm.trans hq)
   have h40 : q0.kind = 4 := hs.kind.1.symm.trans h4
   exact (hs.cells (CellsOk.page_bytes (S.pages j q0 hq0 h40) (hby j q0 e hq0 h40))).1
 ·by_cases e : j = i
  ·subst e
   rw [upd_self]
   exact (hm c hc).1
  ·rw [upd_ne _ _ e, (hm c hc).2 j e, S.mem c hc j]
   constructor
   ·rintro ⟨p, hp, h4, hcl, hne⟩
    obtain ⟨q, hq, hs⟩ := (hpg j e).1 p hp
    exact ⟨q, hq, hs.kind.1.trans h4, hs.kind.2.trans hcl, hne⟩
   ·rintro ⟨q, hq, h4, hcl, hne⟩
    obtain ⟨q0, hq0⟩ := (hpg j e).2 q hq
    obtain ⟨q', hq', hs⟩ := (hpg j e).1 q0 hq0
    obtain rfl : q = q' := Option.some.inj (hq.symm.trans hq')
    exact ⟨q0, hq0, hs.kind.1.symm.trans h4, hs.kind.2.symm.trans hcl, hne⟩
theorem SInv.cls_of {β : Bu} {ps : List Int} {C L : Nat → List Nat} (S : SInv β ps C L) {c i : Nat} (hc : c < 8) (hi : i ∈ L c) : ∃ p, β.μ.pages[i]? = some p ∧ p.kind = 4 ∧ p.cls = c ∧ C i ≠ [] := (S.mem c hc i).1 hi
theorem SInv.one {β : Bu} {ps : List Int} {C L : Nat → List Nat} (S : SInv β ps C L) {c c' i : Nat} (hc : c < 8) (hc' : c' < 8) (hi : i ∈ L c) (hi' : i ∈ L c') : c = c' := by
 obtain ⟨p, hp, _, h1, _⟩ := S.cls_of hc hi
 obtain ⟨p', hp', _, h2, _⟩ := S.cls_of hc' hi'
 obtain rfl : p = p' := Option.some.inj (hp.symm.trans hp')
 omega
theorem SInv.cell {β : Bu} {σ' : Sp} {ps : List Int} {C L : Nat → List Nat} (S : SInv β ps C L) {i : Nat} {p p' : Pg} {u : List Nat} (hp : β.μ.pages[i]? = some p) (hk : p.kind = 4) (hb : σ'.base = β.σ.base)
  (hk' : p'.kind = 4) (hc' : p'.cls = p.cls) (hl' : p'.next = p.next ∧ p'.prev = p.prev) (hu : C i ≠ [] ↔ u ≠ []) (D : CellsOk σ' (β.addr i) p' u)
  (hby : ∀ j, j ≠ i → ∀ off, off < 4096 → σ'.mem (β.σ.base + 4096 * j + off) = β.σ.mem (β.σ.base + 4096 * j + off)) :
  SInv { β with σ := σ', μ := β.μ.setPage i p' } ps (upd C i u) L := by
 have hlt := (List.getElem?_eq_some_iff.1 hp).1
 have hs : (β.μ.setPage i p').pages[i]? = some p' := List.getElem?_set_self hlt
 have hn : ∀ x, x ≠ i → (β.μ.setPage i p').pages[x]? = β.μ.pages[x]? := fun x h => List.getElem?_set_ne (fun e => h e.symm)
 refine S.turn i u hb S.len (fun j hj => ⟨fun q0 h => ⟨q0, (hn j hj).trans h, SameBut.refl _⟩, fun q h => ⟨q, (hn j hj).symm.trans h⟩⟩) (fun j _ hj _ _ => hby j hj) (fun q hq _ => ?_) (fun c hc => ?_) S.nodup (fun c hc => ⟨?_, fun j hj => Iff.rfl⟩)
 ·obtain rfl : p' = q := Option.some.inj (hs.symm.trans hq)
  exact D
 ·refine PL.congr (fun j hj => ?_) (S.lists c hc)
  by_cases e : j = i
  ·subst e
   show nextF (β.μ.setPage j p').pages j = _ ∧ prevF (β.μ.setPage j p').pages j = _
   rw [nextF_of hs, prevF_of hs, nextF_of hp, prevF_of hp]
   exact hl'
  ·show nextF (β.μ.setPage i p').pages j = _ ∧ prevF (β.μ.setPage i p').pages j = _
   unfold nextF prevF
   rw [List.getD_eq_getElem?_getD, List.getD_eq_getElem?_getD, hn j e]
   exact ⟨rfl, rfl⟩
 ·rw [S.mem c hc i]
  constructor
  ·rintro ⟨q, hq, h4, hcl, hne⟩
   obtain rfl : p = q := Option.some.inj (hp.symm.trans hq)
   exact ⟨p', hs, hk', hc'.trans hcl, hu.1 hne⟩
  ·rintro ⟨q, hq, h4, hcl, hne⟩
   obtain rfl : p' = q := Option.some.inj (hs.symm.trans hq)
   exact ⟨p, hp, hk, hc'.symm.trans hcl, hu.2 hne⟩
def Mp.modPage (μ : Mp) (j : Nat) (f : Pg → Pg) : Mp := match μ.pages[j]? with | some q => μ.setPage j (f q) | none => μ
theorem modPage_get (μ : Mp) (j x : Nat) (f : Pg → Pg) : (μ.modPage j f).pages[x]? = if x = j then (μ.pages[x]?).map f else μ.pages[x]? := by
 unfold Mp.modPage
 split
 ·next q hq =>
  have hlt := (List.getElem?_eq_some_iff.1 hq).1
  split
  ·next e => subst e; rw [hq]; exact List.getElem?_set_self hlt
  ·next e => exact List.getElem?_set_ne (fun h => e h.symm)
 ·next hq =>
  split
  ·next e => subst e; rw [hq]; rfl
  ·rfl
theorem modPage_of {μ : Mp} {j : Nat} {q : Pg} (f : Pg → Pg) (h : μ.pages[j]? = some q) : μ.modPage j f = μ.setPage j (f q) := by
 unfold Mp.modPage
 rw [h]
theorem modPage_same (μ : Mp) (j : Nat) (f : Pg → Pg) : (μ.modPage j f).order = μ.order ∧ (μ.modPage j f).pairs = μ.pairs ∧ (μ.modPage j f).pages.length = μ.pages.length := by
 unfold Mp.modPage
 split
 ·exact ⟨rfl, rfl, List.length_set ..⟩
 ·exact ⟨rfl, rfl, rfl⟩
def Mp.unhung (μ : Mp) (i : Nat) (p : Pg) : Mp :=
 ((if p.prev < 0 then μ else μ.modPage p.prev.toNat (fun q => { q with next := p.next })) |> fun μ1 => if p.next < 0 then μ1 else μ1.modPage p.next.toNat (fun q => { q with prev := p.prev })).modPage i (fun q => { q with next := -1, prev := -1 })
def unps (ps : List Int) (c : Nat) (p : Pg) : List Int := if p.prev < 0 then ps.set c p.next else ps
theorem unhung_same (μ : Mp) (i : Nat) (p : Pg) : (μ.unhung i p).order = μ.order ∧ (μ.unhung i p).pairs = μ.pairs ∧ (μ.unhung i p).pages.length = μ.pages.length := by
 unfold Mp.unhung
 simp only
 obtain ⟨a1, a2, a3⟩ := modPage_same (if p.next < 0 then (if p.prev < 0 then μ else μ.modPage p.prev.toNat (fun q => { q with next := p.next })) else (if p.prev < 0 then μ else μ.modPage p.prev.toNat (fun q => { q with next := p.next })).modPage p.next.toNat (fun q => { q with prev := p.prev })) i (fun q => { q with next := -1, prev := -1 })
 rw [a1, a2, a3]
 have h1 : ∀ (b : Prop) [Decidable b] (ν : Mp) (j : Nat) (f : Pg → Pg), (if b then ν else ν.modPage j f).order = ν.order ∧ (if b then ν else ν.modPage j f).pairs = ν.pairs ∧ (if b then ν else ν.modPage j f).pages.length = ν.pages.length := by
  intro b _ ν j f
  split
  ·exact ⟨rfl, rfl, rfl⟩
  ·exact modPage_same ν j f
 obtain ⟨b1, b2, b3⟩ := h1 (p.next < 0) (if p.prev < 0 then μ else μ.modPage p.prev.toNat (fun q => { q with next := p.next })) p.next.toNat (fun q => { q with prev := p.prev })
 obtain ⟨c1, c2, c3⟩ := h1 (p.prev < 0) μ p.prev.toNat (fun q => { q with next := p.next })
 exact ⟨b1.trans c1, b2.trans c2, b3.trans c3⟩
theorem unhung_get (μ : Mp) (i : Nat) (p : Pg) (x : Nat) (h1 : p.prev ≠ i) (h2 : p.next ≠ i) :
  (μ.unhung i p).pages[x]? = (μ.pages[x]?).map (fun q => { q with next := if x = i then -1 else if (x : Int) = p.prev then p.next else q.next, prev := if x = i then -1 else if (x : Int) = p.next then p.prev else q.prev }) := by
 unfold Mp.unhung
 simp only
 rw [modPage_get]
 have e1 : ∀ ν : Mp, (if p.next < 0 then ν else ν.modPage p.next.toNat (fun q => { q with prev := p.prev })).pages[x]? = (ν.pages[x]?).map (fun q => { q with prev := if (x : Int) = p.next then p.prev else q.prev }) := by
  intro ν
  split
  ·have hx : ¬ ((x : Int) = p.next) := by omega
   simp [hx]
  ·rw [modPage_get]
   by_cases e : x = p.next.toNat
   ·have hx : ((x : Int) = p.next) := by omega
    rw [if_pos e]
    simp only [if_pos hx]
   ·have hx : ¬ ((x : Int) = p.next) := by omega
    rw [if_neg e]
    simp only [if_neg hx]
    simp
 have e2 : (if p.prev < 0 then μ else μ.modPage p.prev.toNat (fun q => { q with next := p.next })).pages[x]? = (μ.pages[x]?).map (fun q => { q with next := if (x : Int) = p.prev then p.next else q.next }) := by
  split
  ·have hx : ¬ ((x : Int) = p.prev) := by omega
   simp [hx]
  ·rw [modPage_get]
   by_cases e : x = p.prev.toNat
   ·have hx : ((x : Int) = p.prev) := by omega
    rw [if_pos e]
    simp only [if_pos hx]
   ·have hx : ¬ ((x : Int) = p.prev) := by omega
    rw [if_neg e]
    simp only [if_neg hx]
    simp
 rw [e1, e2]
 split
 ·next e =>
  subst e
  simp only [Option.map_map]
  congr 1
 ·next e =>
  simp only [Option.map_map]
  congr 1
theorem SInv.unhang {β β' : Bu} {ps : List Int} {C L : Nat → List Nat} (S : SInv β ps C L) {c i : Nat} {p p' : Pg} (hc : c < 8) (hi : i ∈ L c) (hp : β.μ.pages[i]? = some p) (hl' : p'.next = p.next ∧ p'.prev = p.prev)
  (hb : β'.σ.base = β.σ.base) (hby : ∀ j q0, j ≠ i → β.μ.pages[j]? = some q0 → q0.kind = 4 → ∀ off, off < 4096 → β'.σ.mem (β.σ.base + 4096 * j + off) = β.σ.mem (β.σ.base + 4096 * j + off))
  (hpg : ∀ x, x ≠ i → β'.μ.pages[x]? = ((β.μ.setPage i p').unhung i p').pages[x]?) (hD : ∀ q, β'.μ.pages[i]? = some q → q.kind = 4 → CellsOk β'.σ (β.addr i) q []) :
  SInv β' (unps ps c p') (upd C i []) (upd L c ((L c).erase i)) := by
 obtain ⟨a, t, hL⟩ := List.append_of_mem hi
 have D := S.lists c hc
 have M := S.nodup c hc
 have hE : (L c).erase i = a ++ t := by
  rw [hL] at M ⊢
  have : i ∉ a := by
   intro h
   rw [List.nodup_append] at M
   exact M.2.2 i h i (by simp) rfl
  rw [List.erase_append_right _ this]
  simp
 have hNx : nextF β.μ.pages i = p'.next := (nextF_of hp).trans hl'.1.symm
 have hPv : prevF β.μ.pages i = p'.prev := (prevF_of hp).trans hl'.2.symm
 rw [hL] at D M
 have hprev := D.prevOf
 have hnext := D.nextIs
 rw [hPv] at hprev
 rw [hNx] at hnext
 have hia : i ∉ a ∧ i ∉ t := by
  rw [List.nodup_append] at M
  refine ⟨fun h => M.2.2 i h i (by simp) rfl, fun h => ?_⟩
  have := M.2.1
  simp only [List.nodup_cons] at this
  exact this.1 h
 have hpin : ∀ y : Nat, (y : Int) = p'.prev → y ∈ a := by
  intro y hy
  cases hg : a.getLast? with
  | none => unfold lsI at hprev; rw [hg] at hprev; have hprev : p'.prev = -1 := hprev; omega
  | some z =>
   rw [lsI_some hg] at hprev
   have : y = z := by omega
   subst this
   exact List.mem_of_getLast? hg
 have hnin : ∀ y : Nat, (y : Int) = p'.next → y ∈ t := by
  intro y hy
  cases t with
  | nil => have hnext : p'.next = -1 := hnext; omega
  | cons z t =>
   have hnext : p'.next = (z : Int) := hnext
   have : y = z := by omega
   subst this
   simp
 have hpi : p'.prev ≠ i := fun e => hia.1 (hpin i e.symm)
 have hni : p'.next ≠ i := fun e => hia.2 (hnin i e.symm)
 have hlt := (List.getElem?_eq_some_iff.1 hp).1
 have hget : ∀ x, x ≠ i → β'.μ.pages[x]? = (β.μ.pages[x]?).map (fun q => { q with next := if (x : Int) = p'.prev then p'.next else q.next, prev := if (x : Int) = p'.next then p'.prev else q.prev }) := by
  intro x hx
  rw [hpg x hx, unhung_get _ _ _ _ hpi hni]
  rw [show (β.μ.setPage i p').pages[x]? = β.μ.pages[x]? from List.getElem?_set_ne (fun e => hx e.symm)]
  simp only [hx, if_false]
 have hNF : ∀ j ∈ a ++ t, nextF β'.μ.pages j = if (j : Int) = p'.prev then p'.next else nextF β.μ.pages j := by
  intro j hj
  have hji : j ≠ i := by rintro rfl; rcases List.mem_append.1 hj with h | h; exact hia.1 h; exact hia.2 h
  obtain ⟨q, hq, _⟩ := S.cls_of hc (show j ∈ L c by rw [hL]; rcases List.mem_append.1 hj with h | h <;> simp [h])
  have := hget j hji
  rw [hq] at this
  rw [nextF_of this, nextF_of hq]
 have hPF : ∀ j ∈ a ++ t, prevF β'.μ.pages j = if (j : Int) = p'.next then p'.prev else prevF β.μ.pages j := by
  intro j hj
  have hji : j ≠ i := by rintro rfl; rcases List.mem_append.1 hj with h | h; exact hia.1 h; exact hia.2 h
  obtain ⟨q, hq, _⟩ := S.cls_of hc (show j ∈ L c by rw [hL]; rcases List.mem_append.1 hj with h | h <;> simp [h])
  have := hget j hji
  rw [hq] at this
  rw [prevF_of this, prevF_of hq]
 refine S.turn i [] hb ?_ (fun j hj => ⟨fun q0 h => ⟨_, by rw [hget j hj, h]; rfl, sameBut_mk q0 _ _⟩, fun q h => ?_⟩) hby hD (fun d hd => ?_) (fun d hd => ?_) (fun d hd => ⟨?_, fun j hj => ?_⟩)
 ·unfold unps
  split
  ·rw [List.length_set]; exact S.len
  ·exact S.len
 ·rw [hget j hj] at h
  cases h0 : β.μ.pages[j]? with
  | none => rw [h0] at h; simp at h
  | some q0 => exact ⟨q0, rfl⟩
 ·by_cases e : d = c
  ·subst e
   rw [upd_self, hE]
   have R := PL.remove (N' := nextF β'.μ.pages) (P' := prevF β'.μ.pages) D M (.inl rfl) (fun j hj => by rw [hNF j hj, hPv, hNx]) (fun j hj => by rw [hPF j hj, hPv, hNx])
   rw [hNx] at R
   have hneg : p'.prev < 0 ↔ a = [] := by
    cases a with
    | nil => have hprev : p'.prev = -1 := hprev; simp; omega
    | cons y a =>
     obtain ⟨z, hz⟩ := last_some (l := y :: a) (by simp)
     rw [lsI_some hz] at hprev
     simp
     omega
   unfold unps
   by_cases ha : a = []
   ·rw [if_pos (hneg.2 ha)]
    rw [if_pos ha] at R
    rw [List.getD_eq_getElem?_getD, List.getElem?_set_self (by rw [S.len]; omega)]
    exact R
   ·rw [if_neg (fun h => ha (hneg.1 h))]
    rw [if_neg ha] at R
    exact R
  ·rw [upd_ne _ _ e]
   have hpd : (unps ps c p').getD d 0 = ps.getD d 0 := by
    unfold unps
    split
    ·rw [List.getD_eq_getElem?_getD, List.getD_eq_getElem?_getD, List.getElem?_set_ne (fun h => e h.symm)]
    ·rfl
   rw [hpd]
   refine PL.congr (fun j hj => ?_) (S.lists d hd)
   obtain ⟨q, hq, _⟩ := S.cls_of hd hj
   have hji : j ≠ i := by rintro rfl; exact e (S.one hd hc hj hi)
   have h := hget j hji
   rw [hq] at h
   have hjp : ¬ ((j : Int) = p'.prev) := fun h => e (S.one hd hc hj (by rw [hL]; simp [hpin j h]))
   have hjn : ¬ ((j : Int) = p'.next) := fun h => e (S.one hd hc hj (by rw [hL]; simp [hnin j h]))
   rw [nextF_of h, prevF_of h, nextF_of hq, prevF_of hq]
   exact ⟨if_neg hjp, if_neg hjn⟩
 ·by_cases e : d = c
  ·subst e
   rw [upd_self]
   exact (S.nodup d hd).erase i
  ·rw [upd_ne _ _ e]
   exact S.nodup d hd
 ·constructor
  ·intro h
   exfalso
   by_cases e : d = c
   ·subst e
    rw [upd_self] at h
    exact ((S.nodup d hd).mem_erase_iff.1 h).1 rfl
   ·rw [upd_ne _ _ e] at h
    exact e (S.one hd hc h hi)
  ·rintro ⟨_, _, _, _, h⟩
   exact (h rfl).elim
 ·by_cases e : d = c
  ·subst e
   rw [upd_self, (S.nodup d hd).mem_erase_iff]
   simp [hj]
  ·rw [upd_ne _ _ e]
def Mp.hung2 (μ : Mp) (i : Nat) (h : Int) : Mp :=
 (fun μ1 : Mp => if h < 0 then μ1 else μ1.modPage h.toNat (fun q => { q with prev := (i : Int) })) (μ.modPage i (fun q => { q with next := h, prev := -1 }))
theorem hung2_same (μ : Mp) (i : Nat) (h : Int) : (μ.hung2 i h).order = μ.order ∧ (μ.hung2 i h).pairs = μ.pairs ∧ (μ.hung2 i h).pages.length = μ.pages.length := by
 unfold Mp.hung2
 obtain ⟨c1, c2, c3⟩ := modPage_same μ i (fun q => { q with next := h, prev := -1 })
 simp only
 split
 ·exact ⟨c1, c2, c3⟩
 ·obtain ⟨b1, b2, b3⟩ := modPage_same (μ.modPage i (fun q => { q with next := h, prev := -1 })) h.toNat (fun q => { q with prev := (i : Int) })
  exact ⟨b1.trans c1, b2.trans c2, b3.trans c3⟩
theorem hung2_get (μ : Mp) (i : Nat) (h : Int) (x : Nat) (hi : h ≠ i) :
  (μ.hung2 i h).pages[x]? = (μ.pages[x]?).map (fun q => { q with next := if x = i then h else q.next, prev := if x = i then -1 else if (x : Int) = h then (i : Int) else q.prev }) := by
 unfold Mp.hung2
 simp only
 have e1 : (μ.modPage i (fun q => { q with next := h, prev := -1 })).pages[x]? = (μ.pages[x]?).map (fun q => { q with next := if x = i then h else q.next, prev := if x = i then -1 else q.prev }) := by
  rw [modPage_get]
  by_cases e : x = i
  ·simp [e]
  ·simp [e]
 split
 ·have hx : ¬ ((x : Int) = h) := by omega
  rw [e1]
  simp [hx]
 ·rw [modPage_get, e1]
  by_cases e : x = h.toNat
  ·have hx : ((x : Int) = h) := by omega
   have : ¬ x = i := by omega
   rw [if_pos e]
   simp only [if_pos hx, if_neg this]
   simp
  ·have hx : ¬ ((x : Int) = h) := by omega
   rw [if_neg e]
   simp only [if_neg hx]
theorem SInv.hang {β β' : Bu} {ps : List Int} {C L : Nat → List Nat} (S : SInv β ps C L) {c i : Nat} {p' : Pg} {u : List Nat} (hc : c < 8) (hi : ∀ d, d < 8 → i ∉ L d)
  (hb : β'.σ.base = β.σ.base) (hby : ∀ j q0, j ≠ i → β.μ.pages[j]? = some q0 → q0.kind = 4 → ∀ off, off < 4096 → β'.σ.mem (β.σ.base + 4096 * j + off) = β.σ.mem (β.σ.base + 4096 * j + off))
  (hpg : ∀ x, x ≠ i → β'.μ.pages[x]? = (β.μ.pages[x]?).map (fun q => { q with prev := if (x : Int) = ps.getD c 0 then (i : Int) else q.prev }))
  (hp' : β'.μ.pages[i]? = some p') (hk : p'.kind = 4) (hcl : p'.cls = c) (hl : p'.next = ps.getD c 0 ∧ p'.prev = -1) (hu : u ≠ []) (hD : CellsOk β'.σ (β.addr i) p' u) :
  SInv β' (ps.set c i) (upd C i u) (upd L c (i :: L c)) := by
 have D := S.lists c hc
 have hh := D.head
 have hhin : ∀ y : Nat, (y : Int) = ps.getD c 0 → y ∈ L c := by
  intro y hy
  cases hL : L c with
  | nil => rw [hL] at hh; have hh : ps.getD c 0 = -1 := hh; omega
  | cons z t =>
   rw [hL] at hh
   have hh : ps.getD c 0 = (z : Int) := hh
   have : y = z := by omega
   simp [this]
 have hNP : ∀ d, d < 8 → ∀ j ∈ L d, nextF β'.μ.pages j = nextF β.μ.pages j ∧ prevF β'.μ.pages j = if (j : Int) = ps.getD c 0 then (i : Int) else prevF β.μ.pages j := by
  intro d hd j hj
  obtain ⟨q, hq, _⟩ := S.cls_of hd hj
  have h := hpg j (by rintro rfl; exact hi d hd hj)
  rw [hq] at h
  rw [nextF_of h, prevF_of h, nextF_of hq, prevF_of hq]
  exact ⟨rfl, rfl⟩
 refine S.turn i u hb (by rw [List.length_set]; exact S.len) (fun j hj => ⟨fun q0 h => ⟨_, by rw [hpg j hj, h]; rfl, sameBut_mk q0 q0.next _⟩, fun q h => ?_⟩) hby (fun q hq _ => ?_) (fun d hd => ?_) (fun d hd => ?_) (fun d hd => ⟨?_, fun j hj => ?_⟩)
 ·rw [hpg j hj] at h
  cases h0 : β.μ.pages[j]? with
  | none => rw [h0] at h; simp at h
  | some q0 => exact ⟨q0, rfl⟩
 ·obtain rfl : p' = q := Option.some.inj (hp'.symm.trans hq)
  exact hD
 ·by_cases e : d = c
  ·subst e
   rw [upd_self, List.getD_eq_getElem?_getD, List.getElem?_set_self (by rw [S.len]; omega)]
   exact PL.push D (S.nodup d hd) (fun j hj => (hNP d hd j hj).1) (fun j hj => (hNP d hd j hj).2) ((nextF_of hp').trans hl.1) ((prevF_of hp').trans hl.2)
  ·rw [upd_ne _ _ e, List.getD_eq_getElem?_getD, List.getElem?_set_ne (fun h => e h.symm), ← List.getD_eq_getElem?_getD]
   refine PL.congr (fun j hj => ?_) (S.lists d hd)
   obtain ⟨h1, h2⟩ := hNP d hd j hj
   refine ⟨h1, h2.trans (if_neg fun h => ?_)⟩
   exact e (S.one hd hc hj (hhin j h))
 ·by_cases e : d = c
  ·subst e
   rw [upd_self]
   exact List.nodup_cons.2 ⟨hi d hd, S.nodup d hd⟩
  ·rw [upd_ne _ _ e]
   exact S.nodup d hd
 ·by_cases e : d = c
  ·subst e
   rw [upd_self]
   simp only [List.mem_cons, true_or, true_iff]
   exact ⟨p', hp', hk, hcl, hu⟩
  ·rw [upd_ne _ _ e]
   constructor
   ·exact fun h => (hi d hd h).elim
   ·rintro ⟨q, hq, _, h, _⟩
    obtain rfl : p' = q := Option.some.inj (hp'.symm.trans hq)
    omega
 ·by_cases e : d = c
  ·subst e
   rw [upd_self]
   simp [hj]
  ·rw [upd_ne _ _ e]
end Go.Proofs.YtnjcmcnjgdjbiaaGreatDoor
