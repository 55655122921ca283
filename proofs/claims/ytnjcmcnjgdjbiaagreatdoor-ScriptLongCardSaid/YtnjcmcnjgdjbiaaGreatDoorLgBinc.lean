/- Plain law of the buddy, third part: Take, Give, Shrink and Pull as steps of the invariant. Conditions: none; no program in sight. -/
import Derived.Test.YtnjcmcnjgdjbiaaGreatDoorLgBinb
namespace Go.Proofs.YtnjcmcnjgdjbiaaGreatDoor

abbrev NoHole : Nat → Prop := fun _ => False

/-- bytes of one page lie in one region -/
def Bu.Has (β : Bu) : Prop := ∀ i off n, i < β.μ.pages.length → 0 < n → off + n ≤ 4096 → β.σ.has (β.σ.base + 4096 * i + off) n

theorem Keeps.has {β β' : Bu} {O : Nat → Prop} (h : Keeps β β' O) (H : β.Has) : β'.Has := by
  intro i off n hi hn ho
  rw [h.len] at hi
  have := H i off n hi hn ho
  rw [h.base]
  exact ⟨this.pos, by rw [h.base]; exact this.lo, by rw [h.base, h.size, h.n]; exact this.reg, by rw [h.base, h.size]; exact this.fit⟩

theorem Bu.ok.has' {β : Bu} (o : β.ok) : β.Has := fun _ _ _ hi hn hf => o.has hi hn hf

theorem popped_eq (β : Bu) (k x : Nat) (h : pv β.σ β.σ.base x = 0) : β.popped k (nx β.σ β.σ.base x) = β.detach k x := by
  unfold Bu.popped Bu.detach
  rw [h]
  simp

theorem cut1_eq (β : Bu) (s i : Nat) (h : i ≠ β.μ.order) : β.cut1 s i = (β.enter s i).turned s i := by
  unfold Bu.cut1 Bu.turned
  rw [if_neg]
  exact h

theorem turned_top (β : Bu) (a : Nat) : β.turned a β.μ.order = β := by
  unfold Bu.turned
  rw [if_pos rfl]

/-- the links of a list's head lie in the space -/
theorem BInv.hd {β : Bu} {F : Nat → List Nat} {H : Nat → Prop} (I : BInv β F H) (hs : β.Has) {k : Nat} (hk : k ≤ β.μ.order) : β.heads.getD k 0 ≠ 0 → β.σ.has (β.heads.getD k 0) 16 ∧ β.σ.word (β.heads.getD k 0 + 8) = 0 := by
  intro ne
  rcases I.head hk with ⟨h, _⟩ | ⟨y, t, e, h, hp⟩
  · exact (ne h).elim
  · rw [h]
    exact ⟨hs y 0 16 (I.lt hk (by rw [e]; simp)).2 (by omega) (by omega), hp⟩

theorem tmod_dvd {a k : Nat} (h : 2 ^ k ∣ a) : (a : Int).tmod (2 ^ k : Nat) = 0 := by
  obtain ⟨m, rfl⟩ := h
  exact (Int.ofNat_tmod _ _).symm.trans (by simp)

/-- the free lists behind m rounds of cut -/
def cutF (F : Nat → List Nat) (i j : Nat) : Nat → Nat → List Nat
  | 0 => F
  | m + 1 => upd (cutF F i j m) (j - 1 - m) ((i + 2 ^ (j - 1 - m)) :: cutF F i j m (j - 1 - m))

theorem half_up {i k : Nat} (h : 2 ^ (k + 1) ∣ i) : 2 ^ k ∣ i + 2 ^ k ∧ mate (i + 2 ^ k) k = i := by
  obtain ⟨q, rfl⟩ := h
  have e : 2 ^ (k + 1) * q = 2 * q * 2 ^ k := by rw [Nat.pow_succ, Nat.mul_assoc, Nat.mul_comm]
  have e2 : 2 ^ (k + 1) * q + 2 ^ k = (2 * q + 1) * 2 ^ k := by rw [e, Nat.add_mul, Nat.one_mul]
  rw [e2, mate_hi, e]
  exact ⟨Nat.dvd_mul_left _ _, rfl⟩

/-- one round of cut -/
theorem BInv.cut1 {β : Bu} {F : Nat → List Nat} {i k : Nat} (I : BInv β F (Inb i (k + 1))) (hk : k < β.μ.order) (al : 2 ^ (k + 1) ∣ i) (hs : β.Has) :
    CutOk β (i + 2 ^ k) k ∧ BInv (β.cut1 (i + 2 ^ k) k) (upd F k ((i + 2 ^ k) :: F k)) (Inb i k) ∧ Keeps β (β.cut1 (i + 2 ^ k) k) (Upen β.μ.order F (Inb i (k + 1))) ∧
    (∀ y, Upen β.μ.order (upd F k ((i + 2 ^ k) :: F k)) (Inb i k) y ↔ Upen β.μ.order F (Inb i (k + 1)) y) := by
  obtain ⟨al', hm⟩ := half_up al
  have hp : 2 ^ (k + 1) = 2 ^ k + 2 ^ k := by rw [Nat.pow_succ]; omega
  have p0 := pow0 k
  have hin : ∀ y, Inb (i + 2 ^ k) k y → Inb i (k + 1) y := fun y hy => ⟨by have := hy.1; omega, by have := hy.2; omega⟩
  have hle := inb_lt (fun y hy => I.hole y hy)
  have hHe : ∀ y, (Inb i (k + 1) y ∧ ¬ Inb (i + 2 ^ k) k y) ↔ Inb i k y := by
    intro y
    unfold Inb
    omega
  obtain ⟨I', K', U'⟩ := I.attach (a := i + 2 ^ k) (k := k) (by omega) al' hin (fun _ => by
    rw [hm]
    intro h
    exact I.apart k (by omega) i h i (inb_self _ _) (inb_self _ _))
  have hfun : (fun y => Inb i (k + 1) y ∧ ¬ Inb (i + 2 ^ k) k y) = Inb i k := funext fun y => propext (hHe y)
  rw [hfun] at I' U'
  rw [cut1_eq _ _ _ (by omega)]
  refine ⟨⟨hk, tmod_dvd al', by omega, I.hd hs (by omega), I.pair_lt hk (by omega)⟩, I', K', U'⟩

theorem BInv.cutN {β : Bu} {F : Nat → List Nat} {i j : Nat} (I : BInv β F (Inb i j)) (hj : j ≤ β.μ.order) (al : 2 ^ j ∣ i) (hs : β.Has) : ∀ m, m ≤ j →
    BInv (β.cutN i j m) (cutF F i j m) (Inb i (j - m)) ∧ Keeps β (β.cutN i j m) (Upen β.μ.order F (Inb i j)) ∧ (∀ y, Upen β.μ.order (cutF F i j m) (Inb i (j - m)) y ↔ Upen β.μ.order F (Inb i j) y) ∧
    (∀ m', m' < m → CutOk (β.cutN i j m') (i + 2 ^ (j - 1 - m')) (j - 1 - m'))
  | 0, _ => ⟨I, Keeps.refl _ _, fun _ => Iff.rfl, fun _ h => by omega⟩
  | m + 1, hm => by
    obtain ⟨I1, K1, U1, C1⟩ := BInv.cutN I hj al hs m (by omega)
    obtain ⟨k, hk⟩ : ∃ k, k = j - 1 - m := ⟨_, rfl⟩
    have e1 : j - m = k + 1 := by omega
    have e2 : j - (m + 1) = k := by omega
    rw [e1] at I1 U1
    have al' : 2 ^ (k + 1) ∣ i := Nat.dvd_trans (Nat.pow_dvd_pow 2 (by omega)) al
    obtain ⟨C, I2, K2, U2⟩ := I1.cut1 (by rw [K1.order]; omega) al' (K1.has hs)
    rw [K1.order] at K2 U2
    rw [e2]
    show BInv ((β.cutN i j m).cut1 (i + 2 ^ (j - 1 - m)) (j - 1 - m)) (upd (cutF F i j m) (j - 1 - m) _) _ ∧ Keeps β ((β.cutN i j m).cut1 (i + 2 ^ (j - 1 - m)) (j - 1 - m)) _ ∧ (∀ y, Upen β.μ.order (upd (cutF F i j m) (j - 1 - m) _) _ y ↔ _) ∧ _
    rw [← hk]
    refine ⟨I2, K1.trans K2 (fun x hx => (U1 x).1 hx), fun y => (U2 y).trans (U1 y), fun m' hm' => ?_⟩
    by_cases e : m' = m
    · subst e
      rw [← hk]
      exact C
    · exact C1 m' (by omega)

/-- Take finds block i of order j -/
theorem BInv.took {β : Bu} {F : Nat → List Nat} (I : BInv β F NoHole) (hs : β.Has) {i j o : Nat} {t : List Nat} (lo : o ≤ j) (hj : j ≤ β.μ.order) (hnone : ∀ k, o ≤ k → k < j → F k = []) (hF : F j = i :: t) :
    TakeOk β i j o (nx β.σ β.σ.base i) ∧ BInv (β.took i j o (nx β.σ β.σ.base i)) (cutF (upd F j t) i j (j - o)) NoHole ∧ Keeps β (β.took i j o (nx β.σ β.σ.base i)) (Upen β.μ.order F NoHole) ∧
    BlkAt (β.took i j o (nx β.σ β.σ.base i)).μ.pages i o 2 ∧ (∀ y, Upen β.μ.order (cutF (upd F j t) i j (j - o)) NoHole y ↔ Upen β.μ.order F NoHole y ∧ ¬ Inb i o y) ∧ (∀ y, Inb i o y → Upen β.μ.order F NoHole y) := by
  have hi : i ∈ F j := by rw [hF]; simp
  have hlt := I.lt hj hi
  have al := (I.free j hj i hi).al
  have D := I.lists j hj
  rw [hF] at D
  have hpv := D.2.1
  have her : (F j).erase i = t := by rw [hF]; simp
  obtain ⟨I1, K1, U1⟩ := I.detach hj hi
  rw [her] at I1 U1
  rw [← popped_eq _ _ _ hpv] at I1 K1
  generalize hβ1 : (β.popped j (nx β.σ β.σ.base i)).turned i j = β1 at I1 K1
  have hH : (fun y => NoHole y ∨ Inb i j y) = Inb i j := funext fun y => propext ⟨fun h => h.resolve_left id, .inr⟩
  rw [hH] at I1 U1
  have hs1 := K1.has hs
  obtain ⟨I2, K2, U2, C2⟩ := I1.cutN (by rw [K1.order]; exact hj) al hs1 (j - o) (by omega)
  rw [K1.order] at K2 U2
  rw [show j - (j - o) = o by omega] at I2 U2
  have alo : 2 ^ o ∣ i := Nat.dvd_trans (Nat.pow_dvd_pow 2 lo) al
  have ho2 : (β1.cutN i j (j - o)).μ.order = β.μ.order := K2.order.trans K1.order
  obtain ⟨I3, K3, B3⟩ := I2.live (a := i) (k := o) (by rw [ho2]; omega) alo (fun _ h => h)
  have hH3 : (fun y => Inb i o y ∧ ¬ Inb i o y) = NoHole := funext fun y => propext ⟨fun h => h.2 h.1, fun h => h.elim⟩
  rw [hH3] at I3
  have hU : ∀ y, Inb i o y → Upen β.μ.order F NoHole y := fun y hy => (U1 y).1 ((U2 y).1 (.inl hy))
  have htook : β.took i j o (nx β.σ β.σ.base i) = { β1.cutN i j (j - o) with μ := (β1.cutN i j (j - o)).μ.run i o 2 } := by
    unfold Bu.took Bu.cut
    rw [hβ1]
  rw [htook]
  have hl2 : (β1.cutN i j (j - o)).μ.pages.length = β.μ.pages.length := K2.len.trans K1.len
  refine ⟨⟨lo, hj, ?_, D.1, hlt.2, rfl, hpv, ?_, fun h => I.pair_lt h hlt.2, ?_, ?_, tmod_dvd alo, ?_⟩, I3, ?_, B3, ?_, hU⟩
  · intro k h1 h2
    rcases I.head (k := k) (by omega) with ⟨h, _⟩ | ⟨y, t', e, _⟩
    · exact h
    · rw [hnone k h1 h2] at e; simp at e
  · intro ne
    rcases (I.links hj hi).1 with h | ⟨y, hy, _, e1, e2⟩
    · exact (ne h).elim
    · rw [e1]
      exact ⟨hs y 0 16 (I.lt hj hy).2 (by omega) (by omega), e2⟩
  · rw [hβ1]
    exact C2
  · rw [hβ1, ho2]
    omega
  · rw [hβ1, hl2]
    have : 2 ^ o ≤ 2 ^ j := Nat.pow_le_pow_right (by omega) lo
    omega
  · exact (K1.trans K2 (fun x hx => (U1 x).1 hx)).trans K3 (fun x hx => hU x hx)
  · intro y
    have h2 := (U2 y).trans (U1 y)
    constructor
    · rintro (h | h)
      · exact h.elim
      · refine ⟨h2.1 (.inr h), fun hy => ?_⟩
        obtain ⟨k, hk, x, hx, hxy⟩ := h
        exact I2.apart k (by rw [ho2]; exact hk) x hx y hy hxy
    · rintro ⟨h, hy⟩
      rcases h2.2 h with h | h
      · exact (hy h).elim
      · exact .inr h

end Go.Proofs.YtnjcmcnjgdjbiaaGreatDoor
