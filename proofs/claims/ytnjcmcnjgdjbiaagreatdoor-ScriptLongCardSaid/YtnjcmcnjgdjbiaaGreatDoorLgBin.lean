/- Plain law: the buddy's invariant (free lists, pair bits, what the pages say, no two free halves), with a hole of pages that are in hand; what one step (detach, attach, live, slab, open, write) does to it. Conditions: none; no program in sight. -/
import Derived.Test.YtnjcmcnjgdjbiaaGreatDoorLgDl
namespace Go.Proofs.YtnjcmcnjgdjbiaaGreatDoor

/-- page x lies in the block of order k at page a -/
def Inb (a k x : Nat) : Prop := a ≤ x ∧ x < a + 2 ^ k

/-- at page a stands a block of order k, of a kind -/
structure BlkAt (ps : List Pg) (a k : Nat) (kd : Int) : Prop where
  al : 2 ^ k ∣ a
  at_ : ∀ j, j < 2 ^ k → ps[a + j]? = some (runPg kd k j)

theorem pow0 (k : Nat) : 0 < 2 ^ k := Nat.pow_pos (by omega)

theorem al_eq {a k x : Nat} (h : 2 ^ k ∣ a) (hx : Inb a k x) : a = x / 2 ^ k * 2 ^ k := by
  obtain ⟨m, rfl⟩ := h
  have h1 := hx.1
  have h2 := hx.2
  have : x / 2 ^ k = m := Nat.div_eq_of_lt_le (by rw [Nat.mul_comm]; exact h1) (by rw [Nat.succ_mul, Nat.mul_comm]; omega)
  rw [this, Nat.mul_comm]

theorem inb_self (a k : Nat) : Inb a k a := ⟨Nat.le_refl _, by have := pow0 k; omega⟩

theorem BlkAt.page {ps : List Pg} {a k : Nat} {kd : Int} (h : BlkAt ps a k kd) {x : Nat} (hx : Inb a k x) : ps[x]? = some (runPg kd k (x - a)) := by
  have := h.at_ (x - a) (by have := hx.1; have := hx.2; omega)
  rwa [show a + (x - a) = x by have := hx.1; omega] at this

theorem BlkAt.le {ps : List Pg} {a k : Nat} {kd : Int} (h : BlkAt ps a k kd) : a + 2 ^ k ≤ ps.length := by
  have := pow0 k
  have := (List.getElem?_eq_some_iff.1 (h.at_ (2 ^ k - 1) (by omega))).1
  omega

theorem BlkAt.same {ps : List Pg} {a k a' k' x : Nat} {kd kd' : Int} (h : BlkAt ps a k kd) (h' : BlkAt ps a' k' kd') (hx : Inb a k x) (hx' : Inb a' k' x) : a = a' ∧ k = k' ∧ kd = kd' := by
  have e := (h.page hx).symm.trans (h'.page hx')
  have e := Option.some.inj e
  have e1 : ((k : Nat) : Int) = k' := congrArg Pg.order e
  obtain rfl : k = k' := by omega
  have ea : a = a' := (al_eq h.al hx).trans (al_eq h'.al hx').symm
  subst ea
  refine ⟨rfl, rfl, ?_⟩
  have e2 : (runPg kd k (x - a)).kind = (runPg kd' k (x - a)).kind := congrArg Pg.kind e
  simp only [runPg, plainPg] at e2
  split at e2 <;> omega

theorem BlkAt.far {ps ps' : List Pg} {a k : Nat} {kd : Int} (h : BlkAt ps a k kd) (H : ∀ x, Inb a k x → ps'[x]? = ps[x]?) : BlkAt ps' a k kd :=
  ⟨h.al, fun j hj => (H (a + j) ⟨by omega, by omega⟩).trans (h.at_ j hj)⟩

/-- page x is live: of a live block, or a slab's -/
def LiveAt (o : Nat) (ps : List Pg) (H : Nat → Prop) (x : Nat) : Prop :=
  (∃ a k, k ≤ o ∧ BlkAt ps a k 2 ∧ Inb a k x ∧ ∀ y, H y → ¬ Inb a k y) ∨ ∃ p, ps[x]? = some p ∧ p.kind = 4 ∧ p.order = 0

/-- the buddy's invariant: F: the free lists, H: the pages in hand -/
structure BInv (β : Bu) (F : Nat → List Nat) (H : Nat → Prop) : Prop where
  ord : β.μ.order ≤ 8
  heads : β.heads.length = β.μ.order + 1
  prl : β.μ.pairs.length = β.μ.order
  base : 0 < β.σ.base
  top : β.σ.base + 4096 * β.μ.pages.length < 18446744073709551616
  full : 2 ^ β.μ.order ∣ β.μ.pages.length
  hole : ∀ x, H x → x < β.μ.pages.length
  lists : ∀ k, k ≤ β.μ.order → DL β.σ β.σ.base 0 (β.heads.getD k 0) (F k)
  nodup : ∀ k, k ≤ β.μ.order → (F k).Nodup
  free : ∀ k, k ≤ β.μ.order → ∀ i ∈ F k, BlkAt β.μ.pages i k 0
  apart : ∀ k, k ≤ β.μ.order → ∀ i ∈ F k, ∀ x, H x → ¬ Inb i k x
  tile : ∀ x, x < β.μ.pages.length → ¬ H x → (∃ k, k ≤ β.μ.order ∧ ∃ h ∈ F k, Inb h k x) ∨ LiveAt β.μ.order β.μ.pages H x
  pairN : ∀ k, k < β.μ.order → (β.μ.pairs.getD k ⟨0, []⟩).n = β.μ.pages.length / 2 ^ (k + 1)
  pairW : ∀ k, k < β.μ.order → (β.μ.pairs.getD k ⟨0, []⟩).ws.length = ((β.μ.pairs.getD k ⟨0, []⟩).n + 63) / 64
  pair : ∀ k, k < β.μ.order → ∀ q, bitOf (β.μ.pairs.getD k ⟨0, []⟩).ws q = (decide (2 * q * 2 ^ k ∈ F k) != decide ((2 * q + 1) * 2 ^ k ∈ F k))
  merged : ∀ k, k < β.μ.order → ∀ q, ¬ (2 * q * 2 ^ k ∈ F k ∧ (2 * q + 1) * 2 ^ k ∈ F k)

/-- page x is free or in hand -/
def Upen (o : Nat) (F : Nat → List Nat) (H : Nat → Prop) (x : Nat) : Prop := H x ∨ ∃ k, k ≤ o ∧ ∃ h ∈ F k, Inb h k x

/-- what is neither free nor in hand is left as it is -/
structure Keeps (β β' : Bu) (O : Nat → Prop) : Prop where
  base : β'.σ.base = β.σ.base
  len : β'.μ.pages.length = β.μ.pages.length
  order : β'.μ.order = β.μ.order
  n : β'.σ.n = β.σ.n
  limit : β'.σ.limit = β.σ.limit
  size : β'.σ.size = β.σ.size
  so : β'.σ.order = β.σ.order
  page : ∀ x, ¬ O x → β'.μ.pages[x]? = β.μ.pages[x]?
  byte : ∀ x off, ¬ O x → off < 4096 → β'.σ.mem (β.σ.base + 4096 * x + off) = β.σ.mem (β.σ.base + 4096 * x + off)
  slab : ∀ (x : Nat) (p : Pg), β'.μ.pages[x]? = some p → p.kind = 4 → β.μ.pages[x]? = some p

theorem Keeps.refl (β : Bu) (O : Nat → Prop) : Keeps β β O := ⟨rfl, rfl, rfl, rfl, rfl, rfl, rfl, fun _ _ => rfl, fun _ _ _ _ => rfl, fun _ _ h _ => h⟩
theorem Keeps.trans {β β' β'' : Bu} {O O' : Nat → Prop} (h : Keeps β β' O) (k : Keeps β' β'' O') (hO : ∀ x, O' x → O x) : Keeps β β'' O :=
  ⟨k.base.trans h.base, k.len.trans h.len, k.order.trans h.order, k.n.trans h.n, k.limit.trans h.limit, k.size.trans h.size, k.so.trans h.so,
    fun x hx => (k.page x (fun e => hx (hO x e))).trans (h.page x hx),
    fun x off hx ho => by
      have := k.byte x off (fun e => hx (hO x e)) ho
      rw [h.base] at this
      exact this.trans (h.byte x off hx ho),
    fun x p hp hk => h.slab x p (k.slab x p hp hk) hk⟩
theorem Keeps.mono {β β' : Bu} {O O' : Nat → Prop} (h : Keeps β β' O) (hO : ∀ x, O x → O' x) : Keeps β β' O' :=
  ⟨h.base, h.len, h.order, h.n, h.limit, h.size, h.so, fun x hx => h.page x (fun e => hx (hO x e)), fun x off hx => h.byte x off (fun e => hx (hO x e)), h.slab⟩

def upd (F : Nat → List Nat) (k : Nat) (l : List Nat) : Nat → List Nat := fun j => if j = k then l else F j
theorem upd_self (F : Nat → List Nat) (k : Nat) (l : List Nat) : upd F k l k = l := by simp [upd]
theorem upd_ne (F : Nat → List Nat) {k j : Nat} (l : List Nat) (h : j ≠ k) : upd F k l j = F j := by simp [upd, h]

/-- the other half -/
def mate (a k : Nat) : Nat := if a / 2 ^ k % 2 = 0 then a + 2 ^ k else a - 2 ^ k

theorem half_form {k x : Nat} (h : 2 ^ k ∣ x) : x = 2 * (x / 2 ^ (k + 1)) * 2 ^ k ∧ x / 2 ^ k % 2 = 0 ∨ x = (2 * (x / 2 ^ (k + 1)) + 1) * 2 ^ k ∧ x / 2 ^ k % 2 = 1 := by
  obtain ⟨m, rfl⟩ := h
  have p := pow0 k
  have e1 : 2 ^ k * m / 2 ^ (k + 1) = m / 2 := by
    rw [Nat.pow_succ, Nat.mul_div_mul_left _ _ p]
  have e2 : 2 ^ k * m / 2 ^ k = m := Nat.mul_div_cancel_left _ p
  rw [e1, e2]
  rcases Nat.mod_two_eq_zero_or_one m with h | h
  · left
    refine ⟨?_, h⟩
    rw [Nat.mul_comm (2 ^ k)]
    congr 1
    omega
  · right
    refine ⟨?_, h⟩
    rw [Nat.mul_comm (2 ^ k)]
    congr 1
    omega

theorem half_div (k q : Nat) : 2 * q * 2 ^ k / 2 ^ (k + 1) = q ∧ (2 * q + 1) * 2 ^ k / 2 ^ (k + 1) = q := by
  have p := pow0 k
  rw [Nat.pow_succ, Nat.mul_comm _ (2 ^ k), Nat.mul_comm _ (2 ^ k), Nat.mul_div_mul_left _ _ p, Nat.mul_div_mul_left _ _ p]
  omega

theorem half_mod (k q : Nat) : 2 * q * 2 ^ k / 2 ^ k = 2 * q ∧ (2 * q + 1) * 2 ^ k / 2 ^ k = 2 * q + 1 :=
  ⟨Nat.mul_div_cancel _ (pow0 k), Nat.mul_div_cancel _ (pow0 k)⟩

theorem half_ne (k q : Nat) : 2 * q * 2 ^ k ≠ (2 * q + 1) * 2 ^ k := by
  intro e
  have := Nat.eq_of_mul_eq_mul_right (pow0 k) e
  omega

theorem mate_lo (k q : Nat) : mate (2 * q * 2 ^ k) k = (2 * q + 1) * 2 ^ k := by
  unfold mate
  rw [(half_mod k q).1, if_pos (by omega), Nat.add_mul, Nat.one_mul]
theorem mate_hi (k q : Nat) : mate ((2 * q + 1) * 2 ^ k) k = 2 * q * 2 ^ k := by
  unfold mate
  rw [(half_mod k q).2, if_neg (by omega), Nat.add_mul, Nat.one_mul]
  omega

/-- the pair's bits when one half comes or goes -/
theorem pair_turn {l l' : List Nat} {k x q : Nat} {b : Bool} (h : 2 ^ k ∣ x) (hx : (x ∈ l) = ¬ (x ∈ l')) (ho : ∀ y, y ≠ x → (y ∈ l' ↔ y ∈ l)) (hb : b = (decide (2 * q * 2 ^ k ∈ l) != decide ((2 * q + 1) * 2 ^ k ∈ l))) :
    (b != decide (q = x / 2 ^ (k + 1))) = (decide (2 * q * 2 ^ k ∈ l') != decide ((2 * q + 1) * 2 ^ k ∈ l')) := by
  subst hb
  have hd := half_div k q
  have hne := half_ne k q
  by_cases hq : q = x / 2 ^ (k + 1)
  · rcases half_form h with ⟨e, _⟩ | ⟨e, _⟩
    · rw [← hq] at e
      have h2 := ho ((2 * q + 1) * 2 ^ k) (by rw [e]; exact fun x => hne x.symm)
      rw [← e]
      have hx' : (x ∈ l) ↔ ¬ (x ∈ l') := iff_of_eq hx
      rw [show decide ((2 * q + 1) * 2 ^ k ∈ l') = decide ((2 * q + 1) * 2 ^ k ∈ l) from decide_eq_decide.2 h2, show decide (x ∈ l) = !decide (x ∈ l') by rw [← decide_not]; exact decide_eq_decide.2 hx', decide_eq_true hq]
      cases decide (x ∈ l') <;> cases decide ((2 * q + 1) * 2 ^ k ∈ l) <;> rfl
    · rw [← hq] at e
      have h2 := ho (2 * q * 2 ^ k) (by rw [e]; exact hne)
      rw [← e]
      have hx' : (x ∈ l) ↔ ¬ (x ∈ l') := iff_of_eq hx
      rw [show decide (2 * q * 2 ^ k ∈ l') = decide (2 * q * 2 ^ k ∈ l) from decide_eq_decide.2 h2, show decide (x ∈ l) = !decide (x ∈ l') by rw [← decide_not]; exact decide_eq_decide.2 hx', decide_eq_true hq]
      cases decide (x ∈ l') <;> cases decide (2 * q * 2 ^ k ∈ l) <;> rfl
  · rw [decide_eq_false hq]
    have h1 := ho (2 * q * 2 ^ k) (by rintro rfl; exact hq hd.1.symm)
    have h2 := ho ((2 * q + 1) * 2 ^ k) (by rintro rfl; exact hq hd.2.symm)
    have e1 : decide (2 * q * 2 ^ k ∈ l') = decide (2 * q * 2 ^ k ∈ l) := decide_eq_decide.2 h1
    have e2 : decide ((2 * q + 1) * 2 ^ k ∈ l') = decide ((2 * q + 1) * 2 ^ k ∈ l) := decide_eq_decide.2 h2
    rw [e1, e2, Bool.bne_false]

theorem turned_same (β : Bu) (i j : Nat) : (β.turned i j).σ = β.σ ∧ (β.turned i j).heads = β.heads ∧ (β.turned i j).μ.pages = β.μ.pages ∧ (β.turned i j).μ.order = β.μ.order ∧ (β.turned i j).μ.pairs.length = β.μ.pairs.length := by
  unfold Bu.turned
  split
  · exact ⟨rfl, rfl, rfl, rfl, rfl⟩
  · exact ⟨rfl, rfl, rfl, rfl, by simp [Mp.flip]⟩

theorem turned_pairs (β : Bu) (i j k : Nat) (hk : k < β.μ.order) (hl : β.μ.pairs.length = β.μ.order) : (β.turned i j).μ.pairs.getD k ⟨0, []⟩ = if k = j then (β.μ.pairs.getD k ⟨0, []⟩).flip (i / 2 ^ (k + 1)) else β.μ.pairs.getD k ⟨0, []⟩ := by
  unfold Bu.turned
  split
  · rw [if_neg (by omega)]
  · simp only [Mp.flip, List.getD_eq_getElem?_getD]
    split
    · next e => subst e; rw [List.getElem?_set_self (by omega)]; simp
    · next e => rw [List.getElem?_set_ne (fun x => e x.symm)]

theorem BInv.lt {β : Bu} {F : Nat → List Nat} {H : Nat → Prop} (I : BInv β F H) {k i : Nat} (hk : k ≤ β.μ.order) (hi : i ∈ F k) : i + 2 ^ k ≤ β.μ.pages.length ∧ i < β.μ.pages.length := by
  have := (I.free k hk i hi).le
  have := pow0 k
  omega

theorem BInv.one {β : Bu} {F : Nat → List Nat} {H : Nat → Prop} (I : BInv β F H) {k k' i i' x : Nat} (hk : k ≤ β.μ.order) (hi : i ∈ F k) (hk' : k' ≤ β.μ.order) (hi' : i' ∈ F k') (h : Inb i k x) (h' : Inb i' k' x) : i = i' ∧ k = k' := by
  have := (I.free k hk i hi).same (I.free k' hk' i' hi') h h'
  exact ⟨this.1, this.2.1⟩

theorem BInv.addr_lt {β : Bu} {F : Nat → List Nat} {H : Nat → Prop} (I : BInv β F H) {i : Nat} (h : i < β.μ.pages.length) : β.σ.base + 4096 * i < 18446744073709551616 := by
  have := I.top
  omega

/-- the pair's number is below the set's length -/
theorem BInv.pair_lt {β : Bu} {F : Nat → List Nat} {H : Nat → Prop} (I : BInv β F H) {k i : Nat} (hk : k < β.μ.order) (hi : i < β.μ.pages.length) : i / 2 ^ (k + 1) < (β.μ.pairs.getD k ⟨0, []⟩).n := by
  rw [I.pairN k hk]
  have hd : 2 ^ (k + 1) ∣ β.μ.pages.length := Nat.dvd_trans (Nat.pow_dvd_pow 2 (by omega)) I.full
  rw [Nat.div_lt_iff_lt_mul (pow0 _), Nat.div_mul_cancel hd]
  exact hi

theorem BInv.pair_ws {β : Bu} {F : Nat → List Nat} {H : Nat → Prop} (I : BInv β F H) {k i : Nat} (hk : k < β.μ.order) (hi : i < β.μ.pages.length) : i / 2 ^ (k + 1) / 64 < (β.μ.pairs.getD k ⟨0, []⟩).ws.length := by
  have := I.pair_lt hk hi
  rw [I.pairW k hk]
  omega

/-- the pairs behind a turn, when block x has come or gone -/
theorem BInv.pairs_turn {β β' : Bu} {F : Nat → List Nat} {H : Nat → Prop} (I : BInv β F H) (hp : β'.μ.pairs = β.μ.pairs) (ho : β'.μ.order = β.μ.order) {k x : Nat} {l' : List Nat} (hx : 2 ^ k ∣ x) (hxl : x < β.μ.pages.length) (hm : (x ∈ F k) = ¬ (x ∈ l')) (hl : ∀ y, y ≠ x → (y ∈ l' ↔ y ∈ F k)) :
    ∀ j, j < β.μ.order → (((β'.turned x k).μ.pairs.getD j ⟨0, []⟩).n = (β.μ.pairs.getD j ⟨0, []⟩).n ∧ ((β'.turned x k).μ.pairs.getD j ⟨0, []⟩).ws.length = (β.μ.pairs.getD j ⟨0, []⟩).ws.length ∧
      ∀ q, bitOf ((β'.turned x k).μ.pairs.getD j ⟨0, []⟩).ws q = (decide (2 * q * 2 ^ j ∈ upd F k l' j) != decide ((2 * q + 1) * 2 ^ j ∈ upd F k l' j))) := by
  intro j hj
  rw [turned_pairs β' x k j (by omega) (by rw [hp, ho]; exact I.prl), hp]
  split
  · next e =>
    subst e
    rw [upd_self]
    refine ⟨rfl, by simp [PSet.flip, flipW], fun q => ?_⟩
    rw [show ((β.μ.pairs.getD j ⟨0, []⟩).flip (x / 2 ^ (j + 1))).ws = flipW (β.μ.pairs.getD j ⟨0, []⟩).ws (x / 2 ^ (j + 1)) from rfl, bitOf_flip _ _ _ (I.pair_ws hj hxl)]
    exact pair_turn hx hm hl (I.pair j hj q)
  · next e =>
    rw [upd_ne _ _ e]
    exact ⟨rfl, rfl, I.pair j hj⟩

theorem removed_fields (σ : Sp) (next prev : Nat) : (removed σ next prev).base = σ.base ∧ (removed σ next prev).n = σ.n ∧ (removed σ next prev).limit = σ.limit ∧ (removed σ next prev).size = σ.size ∧ (removed σ next prev).order = σ.order := by
  have h1 : (removed1 σ next prev).base = σ.base ∧ (removed1 σ next prev).n = σ.n ∧ (removed1 σ next prev).limit = σ.limit ∧ (removed1 σ next prev).size = σ.size ∧ (removed1 σ next prev).order = σ.order := by
    unfold removed1
    split <;> exact ⟨rfl, rfl, rfl, rfl, rfl⟩
  unfold removed
  split
  · exact h1
  · exact h1

/-- a buddy whose list of order k has lost page x -/
def Bu.detach (β : Bu) (k x : Nat) : Bu :=
  { β with σ := removed β.σ (nx β.σ β.σ.base x) (pv β.σ β.σ.base x), heads := β.heads.set k (if pv β.σ β.σ.base x = 0 then nx β.σ β.σ.base x else β.heads.getD k 0) }

theorem detach_μ (β : Bu) (k x : Nat) : (β.detach k x).μ = β.μ := by unfold Bu.detach; rfl
theorem detach_σ (β : Bu) (k x : Nat) : (β.detach k x).σ = removed β.σ (nx β.σ β.σ.base x) (pv β.σ β.σ.base x) := by unfold Bu.detach; rfl
theorem detach_heads (β : Bu) (k x : Nat) : (β.detach k x).heads = β.heads.set k (if pv β.σ β.σ.base x = 0 then nx β.σ β.σ.base x else β.heads.getD k 0) := by unfold Bu.detach; rfl

theorem getD_set_self (l : List Nat) (k v : Nat) (h : k < l.length) : (l.set k v).getD k 0 = v := by
  rw [List.getD_eq_getElem?_getD, List.getElem?_set_self h]; rfl
theorem getD_set_ne (l : List Nat) (k j v : Nat) (h : j ≠ k) : (l.set k v).getD j 0 = l.getD j 0 := by
  rw [List.getD_eq_getElem?_getD, List.getD_eq_getElem?_getD, List.getElem?_set_ne (fun x => h x.symm)]

/-- the links of a page on a list -/
theorem BInv.links {β : Bu} {F : Nat → List Nat} {H : Nat → Prop} (I : BInv β F H) {k x : Nat} (hk : k ≤ β.μ.order) (hx : x ∈ F k) :
    (nx β.σ β.σ.base x = 0 ∨ ∃ y ∈ F k, y ≠ x ∧ nx β.σ β.σ.base x = β.σ.base + 4096 * y ∧ pv β.σ β.σ.base y = β.σ.base + 4096 * x) ∧
    (pv β.σ β.σ.base x = 0 ∨ ∃ y ∈ F k, y ≠ x ∧ pv β.σ β.σ.base x = β.σ.base + 4096 * y ∧ nx β.σ β.σ.base y = β.σ.base + 4096 * x) ∧
    (pv β.σ β.σ.base x = 0 ↔ β.σ.base + 4096 * x = β.heads.getD k 0) := by
  obtain ⟨a, t, hF⟩ := List.append_of_mem hx
  have D := I.lists k hk
  have N := I.nodup k hk
  rw [hF] at D N ⊢
  obtain ⟨h1, h2, h3, h4⟩ := D.neigh I.base N
  have N' := N
  rw [List.nodup_append] at N
  obtain ⟨_, N2, N3⟩ := N
  refine ⟨?_, ?_, h1⟩
  · by_cases e : nx β.σ β.σ.base x = 0
    · exact .inl e
    · obtain ⟨y, hy, e1, e2⟩ := h3 e
      refine .inr ⟨y, by simp [hy], ?_, e1, e2⟩
      rintro rfl
      simp only [List.nodup_cons] at N2
      exact N2.1 hy
  · by_cases e : pv β.σ β.σ.base x = 0
    · exact .inl e
    · obtain ⟨y, hy, e1, e2⟩ := h2 e
      refine .inr ⟨y, by simp [hy], ?_, e1, e2⟩
      rintro rfl
      exact N3 y hy y (by simp) rfl

theorem BInv.detach {β : Bu} {F : Nat → List Nat} {H : Nat → Prop} (I : BInv β F H) {k x : Nat} (hk : k ≤ β.μ.order) (hx : x ∈ F k) :
    BInv ((β.detach k x).turned x k) (upd F k ((F k).erase x)) (fun y => H y ∨ Inb x k y) ∧ Keeps β ((β.detach k x).turned x k) (Upen β.μ.order F H) ∧
    ∀ y, Upen β.μ.order (upd F k ((F k).erase x)) (fun y => H y ∨ Inb x k y) y ↔ Upen β.μ.order F H y := by
  have hB := I.free k hk x hx
  have hN := I.nodup k hk
  have hxl := (I.lt hk hx).2
  obtain ⟨tσ, th, tp, to_, tl⟩ := turned_same (β.detach k x) x k
  rw [detach_μ] at tp to_ tl
  rw [detach_σ] at tσ
  rw [detach_heads] at th
  have hlk := I.links hk hx
  have hn' : nx β.σ β.σ.base x = 0 ∨ ∃ y, nx β.σ β.σ.base x = β.σ.base + 4096 * y := hlk.1.imp id (fun ⟨y, _, _, e, _⟩ => ⟨y, e⟩)
  have hp' : pv β.σ β.σ.base x = 0 ∨ ∃ y, pv β.σ β.σ.base x = β.σ.base + 4096 * y := hlk.2.1.imp id (fun ⟨y, _, _, e, _⟩ => ⟨y, e⟩)
  have n64 : nx β.σ β.σ.base x < 18446744073709551616 := by
    rcases hlk.1 with e | ⟨y, hy, _, e, _⟩
    · omega
    · rw [e]; exact I.addr_lt (I.lt hk hy).2
  have p64 : pv β.σ β.σ.base x < 18446744073709551616 := by
    rcases hlk.2.1 with e | ⟨y, hy, _, e, _⟩
    · omega
    · rw [e]; exact I.addr_lt (I.lt hk hy).2
  have hme : ∀ y, y ∈ (F k).erase x ↔ y ≠ x ∧ y ∈ F k := fun y => hN.mem_erase_iff
  have hsub : ∀ j, ∀ y ∈ upd F k ((F k).erase x) j, y ∈ F j := by
    intro j y hy
    unfold upd at hy
    split at hy
    · next e => subst e; exact ((hme y).1 hy).2
    · exact hy
  have hback : ∀ j, ∀ y ∈ F j, (j = k → y ≠ x) → y ∈ upd F k ((F k).erase x) j := by
    intro j y hy hne
    unfold upd
    split
    · next e => subst e; exact (hme y).2 ⟨hne rfl, hy⟩
    · exact hy
  have hPT := I.pairs_turn (β' := β.detach k x) (by rw [detach_μ]) (by rw [detach_μ]) (x := x) (k := k) (l' := (F k).erase x) hB.al hxl (by simp [hme, hx]) (fun y hy => by rw [hme]; simp [hy])
  obtain ⟨hbase, hsame⟩ := removed_fields β.σ (nx β.σ β.σ.base x) (pv β.σ β.σ.base x)
  have hxu : ∀ y, Inb x k y → Upen β.μ.order F H y := fun y hy => .inr ⟨k, hk, x, hx, hy⟩
  refine ⟨?_, ?_, ?_⟩
  · constructor
    · rw [to_]; exact I.ord
    · rw [th, to_, List.length_set]; exact I.heads
    · rw [tl, to_]; exact I.prl
    · rw [tσ, hbase]; exact I.base
    · rw [tσ, hbase, tp]; exact I.top
    · rw [to_, tp]; exact I.full
    · rw [tp]
      rintro y (hy | hy)
      · exact I.hole y hy
      · have := (I.lt hk hx).1; have := hy.2; omega
    · rw [to_, tσ, th, hbase]
      intro j hj
      by_cases e : j = k
      · subst e
        rw [upd_self, getD_set_self _ _ _ (by rw [I.heads]; omega)]
        obtain ⟨a, t, hF⟩ := List.append_of_mem hx
        have D := I.lists j hk
        have N := hN
        rw [hF] at D N
        have h4 := (D.neigh I.base N).2.2.2
        have R := DL.remove I.base rfl rfl n64 p64 D N (.inl rfl)
        have hxa : x ∉ a := by
          intro h
          rw [List.nodup_append] at N
          exact N.2.2 x h x (by simp) rfl
        rw [hF, List.erase_append_right _ hxa]
        simp only [List.erase_cons_head]
        by_cases ha : a = []
        · rw [if_pos (h4.2 ha)]
          rw [if_pos ha] at R
          exact R
        · rw [if_neg (fun e => ha (h4.1 e))]
          rw [if_neg ha] at R
          exact R
      · rw [upd_ne _ _ e, getD_set_ne _ _ _ _ e]
        refine DL.congr (fun i hi => ?_) (I.lists j hj)
        have hne : ∀ y ∈ F k, y ≠ i := by
          rintro y hy rfl
          exact e (I.one hj hi hk hy (inb_self _ _) (inb_self _ _)).2
        refine ⟨?_, ?_⟩
        · rw [removed_nx _ _ _ _ _ n64 hn' hp', if_neg]
          rintro ⟨e1, e0⟩
          rcases hlk.2.1 with h | ⟨y, hy, _, e2, _⟩
          · exact e0 h
          · exact hne y hy (by omega)
        · rw [removed_pv _ _ _ _ _ p64 hn' hp', if_neg]
          rintro ⟨e1, e0⟩
          rcases hlk.1 with h | ⟨y, hy, _, e2, _⟩
          · exact e0 h
          · exact hne y hy (by omega)
    · rw [to_]
      intro j hj
      unfold upd
      split
      · exact hN.erase x
      · exact I.nodup j hj
    · rw [to_, tp]
      exact fun j hj y hy => I.free j hj y (hsub j y hy)
    · rw [to_]
      rintro j hj y hy z (hz | hz) hyz
      · exact I.apart j hj y (hsub j y hy) z hz hyz
      · obtain ⟨rfl, rfl⟩ := I.one hj (hsub j y hy) hk hx hyz hz
        rw [upd_self] at hy
        exact ((hme y).1 hy).1 rfl
    · rw [to_, tp]
      intro y hy hny
      rcases I.tile y hy (fun h => hny (.inl h)) with ⟨j, hj, h, hh, hyh⟩ | h
      · left
        refine ⟨j, hj, h, hback j h hh ?_, hyh⟩
        rintro rfl rfl
        exact hny (.inr hyh)
      · right
        rcases h with ⟨a, m, hm, hb, hy1, hap⟩ | h
        · refine .inl ⟨a, m, hm, hb, hy1, ?_⟩
          rintro z (hz | hz) hz1
          · exact hap z hz hz1
          · have := hb.same hB hz1 hz
            omega
        · exact .inr h
    · rw [to_, tp]
      intro j hj
      rw [(hPT j hj).1]
      exact I.pairN j hj
    · rw [to_]
      intro j hj
      rw [(hPT j hj).1, (hPT j hj).2.1]
      exact I.pairW j hj
    · rw [to_]
      exact fun j hj => (hPT j hj).2.2
    · rw [to_]
      exact fun j hj q h => I.merged j hj q ⟨hsub _ _ h.1, hsub _ _ h.2⟩
  · refine ⟨by rw [tσ, hbase], by rw [tp], by rw [to_], by rw [tσ, hsame.1], by rw [tσ, hsame.2.1], by rw [tσ, hsame.2.2.1], by rw [tσ, hsame.2.2.2], fun y _ => by rw [tp], fun y off hy ho => ?_, fun y p hp _ => by rw [tp] at hp; exact hp⟩
    rw [tσ]
    refine removed_mem _ _ _ _ _ _ ho ?_ ?_
    · rcases hlk.1 with e | ⟨z, hz, _, e, _⟩
      · exact .inl e
      · refine .inr ⟨z, ?_, e⟩
        rintro rfl
        exact hy (.inr ⟨k, hk, z, hz, inb_self _ _⟩)
    · rcases hlk.2.1 with e | ⟨z, hz, _, e, _⟩
      · exact .inl e
      · refine .inr ⟨z, ?_, e⟩
        rintro rfl
        exact hy (.inr ⟨k, hk, z, hz, inb_self _ _⟩)
  · intro y
    constructor
    · rintro ((h | h) | ⟨j, hj, h, hh, hy⟩)
      · exact .inl h
      · exact hxu y h
      · exact .inr ⟨j, hj, h, hsub j h hh, hy⟩
    · rintro (h | ⟨j, hj, h, hh, hy⟩)
      · exact .inl (.inl h)
      · by_cases e : j = k ∧ h = x
        · obtain ⟨rfl, rfl⟩ := e
          exact .inl (.inr hy)
        · exact .inr ⟨j, hj, h, hback j h hh (fun e1 e2 => e ⟨e1, e2⟩), hy⟩

end Go.Proofs.YtnjcmcnjgdjbiaaGreatDoor
