/- Plain law of the buddy, fourth part: a region more, a region fewer, Give, Shrink, Pull. Conditions: none; no program in sight. -/
import Derived.Test.YtnjcmcnjgdjbiaaGreatDoorLgBinc
namespace Go.Proofs.YtnjcmcnjgdjbiaaGreatDoor

theorem bitOf_ofW (cs : List Nat) (n q : Nat) : bitOf (ofW cs n) q = (decide (q < n) && bitOf cs q) := by
  obtain ⟨K, hK⟩ : ∃ K, K = (n + 63) / 64 := ⟨_, rfl⟩
  have hg : ∀ i, ((cs ++ List.replicate K 0).take K).getD i 0 = if i < K then cs.getD i 0 else 0 := by
    intro i
    simp only [List.getD_eq_getElem?_getD, List.getElem?_take]
    split
    · next h =>
      rw [List.getElem?_append]
      split
      · rfl
      · next h2 =>
        rw [List.getElem?_replicate]
        rw [List.getElem?_eq_none (by omega : cs.length ≤ i)]
        split <;> rfl
    · rfl
  have hl : ((cs ++ List.replicate K 0).take K).length = K := by simp
  unfold ofW
  rw [← hK]
  generalize hw : (cs ++ List.replicate K 0).take K = ws at hg hl
  unfold cutW
  split
  · next h0 =>
    unfold bitOf
    rw [hg]
    by_cases h : q < n
    · rw [if_pos (by omega)]; simp [h]
    · rw [if_neg (by omega)]; simp [h]
  · next h0 =>
    have hK1 : K = n / 64 + 1 := by omega
    unfold bitOf
    rw [hl]
    by_cases e : q / 64 = K - 1
    · rw [← e, getD_set_self _ _ _ (by omega), Nat.testBit_and, Nat.testBit_two_pow_sub_one, hg, if_pos (by omega), Bool.and_comm]
      congr 1
      exact decide_eq_decide.2 (by omega)
    · rw [getD_set_ne _ _ _ _ e, hg]
      by_cases h : q < n
      · rw [if_pos (by omega)]; simp [h]
      · rw [if_neg (by omega)]; simp [h]

theorem pairedK_pair (μ : Mp) : ∀ (m k : Nat), k < m → m ≤ μ.pairs.length → (μ.pairedK m).pairs.getD k ⟨0, []⟩ = reset μ.pages.length k (μ.pairs.getD k ⟨0, []⟩)
  | 0, k, h, _ => by omega
  | m + 1, k, h, hm => by
    show ((μ.pairedK m).setPair m _).pairs.getD k _ = _
    simp only [Mp.setPair]
    have hl := (Mp.pairedK_pages μ m).2.2
    by_cases e : k = m
    · subst e
      rw [List.getD_eq_getElem?_getD, List.getElem?_set_self (by omega)]
      rfl
    · rw [List.getD_eq_getElem?_getD, List.getElem?_set_ne (fun x => e x.symm), ← List.getD_eq_getElem?_getD]
      exact pairedK_pair μ m k (by omega) (by omega)

theorem paired_pair (μ : Mp) (k : Nat) (hk : k < μ.order) (hl : μ.pairs.length = μ.order) : μ.paired.pairs.getD k ⟨0, []⟩ = reset μ.pages.length k (μ.pairs.getD k ⟨0, []⟩) := pairedK_pair μ μ.order k hk (by omega)

theorem paired_len (μ : Mp) : μ.paired.pairs.length = μ.pairs.length := (Mp.pairedK_pages μ _).2.2

theorem ofW_length (cs : List Nat) (n : Nat) : (ofW cs n).length = (n + 63) / 64 := by
  unfold ofW cutW
  split <;> simp

/-- the pairs, fitted to another number of pages that holds all free blocks -/
theorem BInv.fit {β : Bu} {F : Nat → List Nat} {H : Nat → Prop} (I : BInv β F H) {N' : Nat} (hd : 2 ^ β.μ.order ∣ N') (hF : ∀ k, k ≤ β.μ.order → ∀ i ∈ F k, i < N') (k : Nat) (hk : k < β.μ.order) (q : Nat) :
    bitOf (reset N' k (β.μ.pairs.getD k ⟨0, []⟩)).ws q = (decide (2 * q * 2 ^ k ∈ F k) != decide ((2 * q + 1) * 2 ^ k ∈ F k)) := by
  show bitOf (ofW _ _) q = _
  rw [bitOf_ofW, I.pair k hk]
  by_cases h : q < N' / 2 ^ (k + 1)
  · simp [h]
  · have hd' : 2 ^ (k + 1) ∣ N' := Nat.dvd_trans (Nat.pow_dvd_pow 2 (by omega)) hd
    have hno : ∀ i, i / 2 ^ (k + 1) = q → i ∉ F k := by
      intro i hi hm
      have := hF k (by omega) i hm
      apply h
      rw [← hi, Nat.div_lt_iff_lt_mul (pow0 _), Nat.div_mul_cancel hd']
      exact this
    have hq := half_div k q
    simp [h, hno _ hq.1, hno _ hq.2]

theorem grow_old (μ : Mp) {x : Nat} (h : x < μ.pages.length) : μ.grow.pages[x]? = μ.pages[x]? := by
  unfold Mp.grow
  rw [run_out (by unfold Inb; omega), (Mp.paired_pages _).1]
  exact List.getElem?_append_left h

theorem grow_pairs (μ : Mp) : μ.grow.pairs = μ.more.paired.pairs := rfl

theorem BInv.grow {β : Bu} {F : Nat → List Nat} (I : BInv β F NoHole) (hn : β.μ.pages.length = β.σ.n * 2 ^ β.μ.order) (hsz : β.σ.size = 4096 * 2 ^ β.μ.order) (top' : β.σ.base + 4096 * (β.μ.pages.length + 2 ^ β.μ.order) < 18446744073709551616) :
    BInv { β with σ := β.σ.grow, μ := β.μ.grow } F NoHole ∧ BlkAt β.μ.grow.pages β.μ.pages.length β.μ.order 2 ∧
    ∀ x off, x < β.μ.pages.length → off < 4096 → β.σ.grow.mem (β.σ.base + 4096 * x + off) = β.σ.mem (β.σ.base + 4096 * x + off) := by
  have ho := Mp.grow_order β.μ
  have hl := Mp.grow_len β.μ
  have hm : β.μ.more.order = β.μ.order := rfl
  have hmp : β.μ.more.pairs = β.μ.pairs := rfl
  have hml : β.μ.more.pages.length = β.μ.pages.length + 2 ^ β.μ.order := by simp [Mp.more]
  have hmem : ∀ x off, x < β.μ.pages.length → off < 4096 → β.σ.grow.mem (β.σ.base + 4096 * x + off) = β.σ.mem (β.σ.base + 4096 * x + off) := by
    intro x off hx hoff
    unfold Sp.grow
    simp only
    rw [if_neg]
    have e : β.σ.n * β.σ.size = 4096 * β.μ.pages.length := by rw [hsz, hn]; rw [Nat.mul_left_comm]
    rw [e]
    omega
  have hfull : 2 ^ β.μ.order ∣ β.μ.pages.length + 2 ^ β.μ.order := Nat.dvd_add I.full (Nat.dvd_refl _)
  have hB : BlkAt β.μ.grow.pages β.μ.pages.length β.μ.order 2 := by
    have hh : β.μ.more.paired.pages.length = β.μ.pages.length + 2 ^ β.μ.order := by rw [(Mp.paired_pages _).1, hml]
    exact run_blk (μ := β.μ.more.paired) (kd := 2) I.full (by rw [hh]; exact Nat.le_refl _)
  have hpair : ∀ k, k < β.μ.order → β.μ.grow.pairs.getD k ⟨0, []⟩ = reset (β.μ.pages.length + 2 ^ β.μ.order) k (β.μ.pairs.getD k ⟨0, []⟩) := by
    intro k hk
    rw [grow_pairs, paired_pair β.μ.more k hk I.prl, hml, hmp]
  refine ⟨?_, hB, hmem⟩
  constructor
  · show β.μ.grow.order ≤ 8; rw [ho]; exact I.ord
  · show β.heads.length = β.μ.grow.order + 1; rw [ho]; exact I.heads
  · show β.μ.grow.pairs.length = β.μ.grow.order; rw [ho, grow_pairs, paired_len, hmp]; exact I.prl
  · exact I.base
  · show β.σ.base + 4096 * β.μ.grow.pages.length < _; rw [hl]; exact top'
  · show 2 ^ β.μ.grow.order ∣ β.μ.grow.pages.length; rw [ho, hl]; exact hfull
  · intro x hx; exact hx.elim
  · show ∀ k, k ≤ β.μ.grow.order → DL β.σ.grow β.σ.base 0 _ _
    rw [ho]
    refine fun k hk => DL.congr (fun i hi => ?_) (I.lists k hk)
    have hlt := (I.lt hk hi).2
    constructor
    · refine leBytes_congr (fun a h1 h2 => ?_)
      have := hmem i (a - (β.σ.base + 4096 * i)) hlt (by omega)
      rwa [show β.σ.base + 4096 * i + (a - (β.σ.base + 4096 * i)) = a by omega] at this
    · refine leBytes_congr (fun a h1 h2 => ?_)
      have := hmem i (a - (β.σ.base + 4096 * i)) hlt (by omega)
      rwa [show β.σ.base + 4096 * i + (a - (β.σ.base + 4096 * i)) = a by omega] at this
  · show ∀ k, k ≤ β.μ.grow.order → _; rw [ho]; exact I.nodup
  · show ∀ k, k ≤ β.μ.grow.order → ∀ i ∈ F k, BlkAt β.μ.grow.pages i k 0
    rw [ho]
    exact fun k hk i hi => (I.free k hk i hi).far (fun x hx => grow_old β.μ (by have := (I.lt hk hi).1; have := hx.2; omega))
  · intro k _ i _ x hx; exact hx.elim
  · show ∀ x, x < β.μ.grow.pages.length → ¬ NoHole x → (∃ k, k ≤ β.μ.grow.order ∧ _) ∨ LiveAt β.μ.grow.order β.μ.grow.pages NoHole x
    rw [ho, hl]
    intro x hx hnx
    by_cases h : x < β.μ.pages.length
    · rcases I.tile x h hnx with h1 | ⟨a, k, hk, hb, hy, hap⟩ | ⟨p, hp1, hp2⟩
      · exact .inl h1
      · exact .inr (.inl ⟨a, k, hk, hb.far (fun y hy => grow_old β.μ (by have := hb.le; have := hy.2; omega)), hy, hap⟩)
      · exact .inr (.inr ⟨p, (grow_old β.μ h).trans hp1, hp2⟩)
    · exact .inr (.inl ⟨_, _, Nat.le_refl _, hB, ⟨by omega, by omega⟩, fun y hy => hy.elim⟩)
  · show ∀ k, k < β.μ.grow.order → (β.μ.grow.pairs.getD k _).n = β.μ.grow.pages.length / _
    rw [ho, hl]
    intro k hk
    rw [hpair k hk]
    rfl
  · show ∀ k, k < β.μ.grow.order → (β.μ.grow.pairs.getD k _).ws.length = ((β.μ.grow.pairs.getD k _).n + 63) / 64
    rw [ho]
    intro k hk
    rw [hpair k hk]
    exact ofW_length _ _
  · show ∀ k, k < β.μ.grow.order → ∀ q, bitOf (β.μ.grow.pairs.getD k _).ws q = _
    rw [ho]
    intro k hk q
    rw [hpair k hk]
    exact I.fit hfull (fun k hk i hi => by have := (I.lt hk hi).2; omega) k hk q
  · show ∀ k, k < β.μ.grow.order → _; rw [ho]; exact I.merged

/-- a region more, fed to the lists -/
theorem BInv.fed {β : Bu} {F : Nat → List Nat} (I : BInv β F NoHole) (hn : β.μ.pages.length = β.σ.n * 2 ^ β.μ.order) (hsz : β.σ.size = 4096 * 2 ^ β.μ.order) (top' : β.σ.base + 4096 * (β.μ.pages.length + 2 ^ β.μ.order) < 18446744073709551616) :
    BInv β.fed (upd F β.μ.order (β.μ.pages.length :: F β.μ.order)) NoHole ∧
    (∀ x, x < β.μ.pages.length → ¬ Upen β.μ.order F NoHole x → β.fed.μ.pages[x]? = β.μ.pages[x]?) ∧
    (∀ x off, x < β.μ.pages.length → ¬ Upen β.μ.order F NoHole x → off < 4096 → β.fed.σ.mem (β.σ.base + 4096 * x + off) = β.σ.mem (β.σ.base + 4096 * x + off)) ∧
    (∀ y, Upen β.μ.order (upd F β.μ.order (β.μ.pages.length :: F β.μ.order)) NoHole y ↔ Upen β.μ.order F NoHole y ∨ Inb β.μ.pages.length β.μ.order y) := by
  obtain ⟨I1, B1, M1⟩ := I.grow hn hsz top'
  have ho := Mp.grow_order β.μ
  have I2 := I1.openLive B1
  have hH : (fun y => NoHole y ∨ Inb β.μ.pages.length β.μ.order y) = Inb β.μ.pages.length β.μ.order := funext fun y => propext ⟨fun h => h.resolve_left id, .inr⟩
  rw [hH] at I2
  have hk : β.μ.order ≤ β.μ.grow.order := by omega
  obtain ⟨I3, K3, U3⟩ := I2.attach (a := β.μ.pages.length) (k := β.μ.order) hk I.full (fun y h => h) (fun h => by
    have h : β.μ.order < β.μ.grow.order := h
    omega)
  have hH3 : (fun y => Inb β.μ.pages.length β.μ.order y ∧ ¬ Inb β.μ.pages.length β.μ.order y) = NoHole := funext fun y => propext ⟨fun h => h.2 h.1, fun h => h.elim⟩
  have het : (Bu.enter { β with σ := β.σ.grow, μ := β.μ.grow } β.μ.pages.length β.μ.order).turned β.μ.pages.length β.μ.order = β.fed := by
    have := turned_top β.fed β.μ.pages.length
    rwa [show β.fed.μ.order = β.μ.order from ho] at this
  rw [hH3] at I3 U3
  rw [het] at I3 K3
  have hU3 : ∀ y, Upen β.μ.order (upd F β.μ.order (β.μ.pages.length :: F β.μ.order)) NoHole y ↔ Upen β.μ.order F (Inb β.μ.pages.length β.μ.order) y := by
    intro y
    have := U3 y
    rwa [show ({ β with σ := β.σ.grow, μ := β.μ.grow } : Bu).μ.order = β.μ.order from ho] at this
  have hno : ∀ x, x < β.μ.pages.length → ¬ Upen β.μ.order F NoHole x → ¬ Upen ({ β with σ := β.σ.grow, μ := β.μ.grow } : Bu).μ.order F (Inb β.μ.pages.length β.μ.order) x := by
    intro x hx h e
    rw [show ({ β with σ := β.σ.grow, μ := β.μ.grow } : Bu).μ.order = β.μ.order from ho] at e
    rcases e with e | e
    · have := e.1; omega
    · exact h (.inr e)
  refine ⟨I3, fun x hx h => (K3.page x (hno x hx h)).trans (grow_old β.μ hx), fun x off hx h ho => (K3.byte x off (hno x hx h) ho).trans (M1 x off hx ho), fun y => (hU3 y).trans ?_⟩
  unfold Upen
  constructor
  · rintro (h | h)
    · exact .inr h
    · exact .inl (.inr h)
  · rintro ((h | h) | h)
    · exact h.elim
    · exact .inr h
    · exact .inl h

end Go.Proofs.YtnjcmcnjgdjbiaaGreatDoor
