/- The heap's whole invariant; Need under it. Conditions: the invariant. -/
import Derived.Test.YtnjcmcnjgdjbiaaGreatDoorLgTakeb
namespace Go.Proofs.YtnjcmcnjgdjbiaaGreatDoor

/-- what is not open is left as it is; there may be more regions -/
structure Kept (β β' : Bu) (O : Nat → Prop) : Prop where
  base : β'.σ.base = β.σ.base
  order : β'.μ.order = β.μ.order
  limit : β'.σ.limit = β.σ.limit
  size : β'.σ.size = β.σ.size
  so : β'.σ.order = β.σ.order
  len : β.μ.pages.length ≤ β'.μ.pages.length
  page : ∀ x, x < β.μ.pages.length → ¬ O x → β'.μ.pages[x]? = β.μ.pages[x]?
  byte : ∀ x off, x < β.μ.pages.length → ¬ O x → off < 4096 → β'.σ.mem (β.σ.base + 4096 * x + off) = β.σ.mem (β.σ.base + 4096 * x + off)
  slab : ∀ (x : Nat) (p : Pg), β'.μ.pages[x]? = some p → p.kind = 4 → β.μ.pages[x]? = some p

theorem Keeps.kept {β β' : Bu} {O : Nat → Prop} (h : Keeps β β' O) : Kept β β' O :=
  ⟨h.base, h.order, h.limit, h.size, h.so, Nat.le_of_eq h.len.symm, fun x _ hx => h.page x hx, fun x off _ hx ho => h.byte x off hx ho, h.slab⟩

theorem Kept.trans {β β' β'' : Bu} {O O' : Nat → Prop} (h : Kept β β' O) (k : Kept β' β'' O') (hO : ∀ x, x < β.μ.pages.length → O' x → O x) : Kept β β'' O :=
  ⟨k.base.trans h.base, k.order.trans h.order, k.limit.trans h.limit, k.size.trans h.size, k.so.trans h.so, Nat.le_trans h.len k.len,
    fun x hl hx => (k.page x (Nat.lt_of_lt_of_le hl h.len) (fun e => hx (hO x hl e))).trans (h.page x hl hx),
    fun x off hl hx ho => by
      have := k.byte x off (Nat.lt_of_lt_of_le hl h.len) (fun e => hx (hO x hl e)) ho
      rw [h.base] at this
      exact this.trans (h.byte x off hl hx ho),
    fun x p hp hk => h.slab x p (k.slab x p hp hk) hk⟩

theorem SInv.kept {β β' : Bu} {ps : List Int} {C L : Nat → List Nat} {O : Nat → Prop} (S : SInv β ps C L) (K : Kept β β' O) (hO : ∀ i p, β.μ.pages[i]? = some p → p.kind = 4 → ¬ O i) : SInv β' ps C L := by
  have hlt : ∀ {i : Nat} {p : Pg}, β.μ.pages[i]? = some p → i < β.μ.pages.length := fun h => (List.getElem?_eq_some_iff.1 h).1
  have hpg : ∀ (i : Nat) (p : Pg), p.kind = 4 → (β'.μ.pages[i]? = some p ↔ β.μ.pages[i]? = some p) := by
    intro i p h4
    constructor
    · exact fun h => K.slab i p h h4
    · intro h
      rw [K.page i (hlt h) (hO i p h h4)]
      exact h
  refine ⟨S.len, fun i p hp h4 => ?_, fun c hc => ?_, S.nodup, fun c hc i => ?_⟩
  · have hp0 := (hpg i p h4).1 hp
    have := S.pages i p hp0 h4
    unfold Bu.addr at this ⊢
    rw [K.base]
    exact this.page_bytes (fun off ho => K.byte i off (hlt hp0) (hO i p hp0 h4) ho)
  · refine PL.congr (fun i hi => ?_) (S.lists c hc)
    obtain ⟨p, hp, h4, _⟩ := (S.mem c hc i).1 hi
    have hp' := (hpg i p h4).2 hp
    rw [nextF_of hp, nextF_of hp', prevF_of hp, prevF_of hp']
    exact ⟨rfl, rfl⟩
  · rw [S.mem c hc i]
    constructor
    · rintro ⟨p, hp, h4, h⟩
      exact ⟨p, (hpg i p h4).2 hp, h4, h⟩
    · rintro ⟨p, hp, h4, h⟩
      exact ⟨p, (hpg i p h4).1 hp, h4, h⟩

/-- a heap's numbers hang together -/
structure Nums (β : Bu) : Prop where
  full : β.μ.pages.length = β.σ.n * 2 ^ β.μ.order
  size : β.σ.size = 4096 * 2 ^ β.μ.order
  le : β.σ.n ≤ β.σ.limit
  pages : β.σ.limit * 2 ^ β.μ.order ≤ 1024
  top : β.σ.base + 4096 * (β.σ.limit * 2 ^ β.μ.order) ≤ 9223372036854775808
  so : β.σ.order = β.μ.order
  al : β.σ.base % (4096 * 2 ^ β.μ.order) = 0

/-- the heap's invariant: F: the free lists, C: the free cells of each slab page, L: the partial lists -/
structure HS (β : Bu) (ps : List Int) (F C L : Nat → List Nat) : Prop where
  inv : BInv β F NoHole
  slab : SInv β ps C L
  nums : Nums β

theorem least {P : Nat → Prop} : ∀ n, (∃ j, j < n ∧ P j) → ∃ j, j < n ∧ P j ∧ ∀ k, k < j → ¬ P k
  | 0, ⟨j, h, _⟩ => by omega
  | n + 1, ⟨j, h, hp⟩ => by
    by_cases hc : ∃ j, j < n ∧ P j
    · obtain ⟨i, h1, h2, h3⟩ := least n hc
      exact ⟨i, by omega, h2, h3⟩
    · have : j = n := Classical.byContradiction (fun e => hc ⟨j, by omega, hp⟩)
      subst this
      exact ⟨j, h, hp, fun k hk hpk => hc ⟨k, hk, hpk⟩⟩

theorem Nums.room {β : Bu} (N : Nums β) (h : β.σ.n < β.σ.limit) : β.μ.pages.length + 2 ^ β.μ.order ≤ 1024 ∧ β.σ.base + 4096 * (β.μ.pages.length + 2 ^ β.μ.order) ≤ 9223372036854775808 := by
  have h1 : (β.σ.n + 1) * 2 ^ β.μ.order ≤ β.σ.limit * 2 ^ β.μ.order := Nat.mul_le_mul_right _ h
  rw [Nat.succ_mul, ← N.full] at h1
  have := N.pages
  have := N.top
  omega

/-- a block that the pool tells -/
structure Needs (β β1 : Bu) (F F1 : Nat → List Nat) (i o : Nat) : Prop where
  inv : BInv β1 F1 NoHole
  nums : Nums β1
  kept : Kept β β1 (Upen β.μ.order F NoHole)
  blk : BlkAt β1.μ.pages i o 2
  open_ : ∀ y, y < β1.μ.pages.length → (Upen β.μ.order F1 NoHole y ↔ (Upen β.μ.order F NoHole y ∨ β.μ.pages.length ≤ y) ∧ ¬ Inb i o y)
  new : ∀ y, Inb i o y → Upen β.μ.order F NoHole y ∨ β.μ.pages.length ≤ y
  grew : (β1.σ.n = β.σ.n ∧ ∃ k, o ≤ k ∧ k ≤ β.μ.order ∧ F k ≠ []) ∨ (β1.σ.n = β.σ.n + 1 ∧ β.σ.n < β.σ.limit ∧ ∀ k, o ≤ k → k ≤ β.μ.order → F k = [])

theorem Keeps.nums {β β' : Bu} {O : Nat → Prop} (K : Keeps β β' O) (N : Nums β) : Nums β' := by
  refine ⟨?_, ?_, ?_, ?_, ?_, ?_, ?_⟩
  · rw [K.len, K.n, K.order]; exact N.full
  · rw [K.size, K.order]; exact N.size
  · rw [K.n, K.limit]; exact N.le
  · rw [K.limit, K.order]; exact N.pages
  · rw [K.base, K.limit, K.order]; exact N.top
  · rw [K.so, K.order]; exact N.so
  · rw [K.base, K.order]; exact N.al

theorem fed_fields (β : Bu) : β.fed.σ.base = β.σ.base ∧ β.fed.σ.n = β.σ.n + 1 ∧ β.fed.σ.limit = β.σ.limit ∧ β.fed.σ.size = β.σ.size ∧ β.fed.σ.order = β.σ.order ∧ β.fed.μ.order = β.μ.order ∧ β.fed.μ.pages.length = β.μ.pages.length + 2 ^ β.μ.order := by
  have hs := pushed_same β.σ.grow (β.heads.getD β.μ.order 0) (Bu.addr { β with σ := β.σ.grow, μ := β.μ.grow } β.μ.pages.length)
  refine ⟨hs.1, hs.2.2.2.2, hs.2.1, hs.2.2.2.1, hs.2.2.1, ?_, ?_⟩
  · unfold Bu.fed
    rw [enter_μ]
    exact (run_same _ _ _ _).1.trans (Mp.grow_order β.μ)
  · unfold Bu.fed
    rw [enter_μ, run_len]
    exact Mp.grow_len β.μ

theorem fed_slab {β : Bu} {x : Nat} {p : Pg} (hp : β.fed.μ.pages[x]? = some p) (h4 : p.kind = 4) : β.μ.pages[x]? = some p := by
  unfold Bu.fed at hp
  rw [enter_μ] at hp
  have h1 := run_slab (.inl rfl) (by rw [Mp.grow_len]; exact Nat.le_refl _) hp h4
  have h2 : β.μ.more.paired.pages[x]? = some p := by
    refine run_slab (.inr rfl) ?_ h1 h4
    rw [(Mp.paired_pages _).1]
    simp [Mp.more]
  rw [(Mp.paired_pages _).1] at h2
  simp only [Mp.more] at h2
  by_cases hx : x < β.μ.pages.length
  · rwa [List.getElem?_append_left hx] at h2
  · rw [List.getElem?_append_right (by omega), List.getElem?_replicate] at h2
    split at h2
    · have e := Option.some.inj h2
      rw [← e] at h4
      simp [zeroPg] at h4
    · simp at h2

/-- Need: a block of order o, or none -/
theorem HS.need {β : Bu} {ps : List Int} {F C L : Nat → List Nat} (I : HS β ps F C L) (o : Nat) (deny : Bool) (ho : o ≤ β.μ.order) :
    (∃ i β1 F1 g, Needs β β1 F F1 i o ∧ (deny = true → β1.σ.n = β.σ.n) ∧ ∀ (w : World) (pb : Nat) (K : BuL), PoRep w pb K β → Calls Tryz.prog 193 #[.pointer (some ⟨pb, 0, none⟩), .int .i64 o, .bool deny] w (Needed w pb K β1 (.tuple #[.int .u64 (β1.addr i : Nat), .bool g, .int .i64 0]))) ∨
    ((∀ k, o ≤ k → k ≤ β.μ.order → F k = []) ∧ (deny = true ∨ β.σ.n = β.σ.limit) ∧
      ∀ (w : World) (pb : Nat) (K : BuL), PoRep w pb K β → Calls Tryz.prog 193 #[.pointer (some ⟨pb, 0, none⟩), .int .i64 o, .bool deny] w fun e w' => e = .returned (.tuple #[.int .u64 0, .bool false, .int .i64 2]) ∧ Touch Nothing w w') := by
  have hz : (∀ k, o ≤ k → k ≤ β.μ.order → F k = []) → ∀ k, o ≤ k → k ≤ β.μ.order → β.heads.getD k 0 = 0 := by
    intro h k h1 h2
    rcases I.inv.head h2 with ⟨e, _⟩ | ⟨y, t, e, _⟩
    · exact e
    · rw [h k h1 h2] at e; simp at e
  have hHas : ∀ {β : Bu}, (∃ (w : World) (K : BuL), BuRep w K β) → β.Has := fun ⟨w, K, R⟩ => R.ok.has'
  have has0 : β.Has := by
    intro x off n hx hn hf
    have hs := I.nums.size
    have hfu := I.nums.full
    have p0 := pow0 β.μ.order
    have e : β.σ.base + 4096 * x + off - β.σ.base = 4096 * x + off := by omega
    have hq : (4096 * x + off) / β.σ.size = x / 2 ^ β.μ.order := by
      rw [hs, ← Nat.div_div_eq_div_mul, show (4096 * x + off) / 4096 = x by omega]
    have hr : (4096 * x + off) % β.σ.size = 4096 * (x % 2 ^ β.μ.order) + off := by
      have h1 := Nat.div_add_mod (4096 * x + off) β.σ.size
      rw [hq, hs] at h1
      have h2 := Nat.div_add_mod x (2 ^ β.μ.order)
      rw [hs]
      have h3 : 4096 * 2 ^ β.μ.order * (x / 2 ^ β.μ.order) = 4096 * (2 ^ β.μ.order * (x / 2 ^ β.μ.order)) := Nat.mul_assoc _ _ _
      omega
    refine ⟨hn, by omega, ?_, ?_⟩
    · rw [e, hq, Nat.div_lt_iff_lt_mul p0, ← hfu]
      exact hx
    · rw [e, hr, hs]
      have := Nat.mod_lt x p0
      omega
  by_cases hc : ∃ j, o ≤ j ∧ j ≤ β.μ.order ∧ F j ≠ []
  · left
    obtain ⟨j, _, ⟨h1, h2, h3⟩, hmin⟩ := least (P := fun j => o ≤ j ∧ j ≤ β.μ.order ∧ F j ≠ []) (β.μ.order + 1) (by
      obtain ⟨j, h1, h2, h3⟩ := hc
      exact ⟨j, by omega, h1, h2, h3⟩)
    have hnone : ∀ k, o ≤ k → k < j → F k = [] := fun k hk hkj => Classical.byContradiction (fun e => hmin k hkj ⟨hk, by omega, e⟩)
    obtain ⟨i, t, hF⟩ := List.exists_cons_of_ne_nil h3
    obtain ⟨T, I1, K1, B1, U1, N1⟩ := I.inv.took has0 h1 h2 hnone hF
    refine ⟨i, β.took i j o (nx β.σ β.σ.base i), _, false, ⟨I1, K1.nums I.nums, K1.kept, B1, ?_, fun y hy => .inl (N1 y hy), .inl ⟨K1.n, hc⟩⟩, fun _ => K1.n, ?_⟩
    · intro y hy
      rw [K1.len] at hy
      rw [U1 y]
      constructor
      · rintro ⟨h, h'⟩; exact ⟨.inl h, h'⟩
      · rintro ⟨h | h, h'⟩
        · exact ⟨h, h'⟩
        · omega
    · intro w pb K R
      have := R.need_old i j o (nx β.σ β.σ.base i) deny T
      rwa [show (β.took i j o (nx β.σ β.σ.base i)).addr i = β.addr i by unfold Bu.addr; rw [K1.base]]
  · have hno : ∀ k, o ≤ k → k ≤ β.μ.order → F k = [] := fun k h1 h2 => Classical.byContradiction (fun e => hc ⟨k, h1, h2, e⟩)
    have hz' := hz hno
    by_cases hd : deny = true ∨ β.σ.n = β.σ.limit
    · right
      exact ⟨hno, hd, fun w pb K R => R.need_no o deny ho hz' hd⟩
    · left
      have hd' : deny = false ∧ β.σ.n < β.σ.limit := by
        have := I.nums.le
        cases deny
        · exact ⟨rfl, by simp at hd; omega⟩
        · simp at hd
      obtain ⟨rfl, hn⟩ := hd'
      obtain ⟨r1, r2⟩ := I.nums.room hn
      obtain ⟨I1, P1, M1, U1⟩ := I.inv.fed I.nums.full I.nums.size (by omega)
      obtain ⟨f1, f2, f3, f4, f5, f6, f7⟩ := fed_fields β
      have N1 : Nums β.fed := by
        refine ⟨?_, ?_, ?_, ?_, ?_, ?_, ?_⟩
        · rw [f7, f2, f6, Nat.succ_mul, ← I.nums.full]
        · rw [f4, f6]; exact I.nums.size
        · rw [f2, f3]; omega
        · rw [f3, f6]; exact I.nums.pages
        · rw [f1, f3, f6]; exact I.nums.top
        · rw [f5, f6]; exact I.nums.so
        · rw [f1, f6]; exact I.nums.al
      have K0 : Kept β β.fed (Upen β.μ.order F NoHole) := ⟨f1, f6, f3, f4, f5, by rw [f7]; exact Nat.le_add_right _ _, P1, M1, fun x p hp h4 => fed_slab hp h4⟩
      have has1 : β.fed.Has := by
        intro x off n hx hn' hf
        rw [f7] at hx
        have hs := I.nums.size
        have hfu := I.nums.full
        have p0 := pow0 β.μ.order
        have e : β.σ.base + 4096 * x + off - β.σ.base = 4096 * x + off := by omega
        have hq : (4096 * x + off) / β.σ.size = x / 2 ^ β.μ.order := by
          rw [hs, ← Nat.div_div_eq_div_mul, show (4096 * x + off) / 4096 = x by omega]
        have hr : (4096 * x + off) % β.σ.size = 4096 * (x % 2 ^ β.μ.order) + off := by
          have h1 := Nat.div_add_mod (4096 * x + off) β.σ.size
          rw [hq, hs] at h1
          have h2 := Nat.div_add_mod x (2 ^ β.μ.order)
          rw [hs]
          have h3 : 4096 * 2 ^ β.μ.order * (x / 2 ^ β.μ.order) = 4096 * (2 ^ β.μ.order * (x / 2 ^ β.μ.order)) := Nat.mul_assoc _ _ _
          omega
        rw [f1]
        refine ⟨hn', by rw [f1]; omega, ?_, ?_⟩
        · rw [f1, f4, f2, e, hq, Nat.div_lt_iff_lt_mul p0, Nat.succ_mul, ← hfu]
          exact hx
        · rw [f1, f4, e, hr, hs]
          have := Nat.mod_lt x p0
          omega
      have hFo : F β.μ.order = [] := hno _ ho (Nat.le_refl _)
      rw [hFo] at I1 U1
      have hF1 : upd F β.μ.order [β.μ.pages.length] β.μ.order = [β.μ.pages.length] := upd_self _ _ _
      obtain ⟨T, I2, K2, B2, U2, N2⟩ := I1.took has1 (i := β.μ.pages.length) (j := β.μ.order) (o := o) (t := []) ho (by rw [f6]; exact Nat.le_refl _) (fun k h1 h2 => by rw [upd_ne _ _ (by omega)]; exact hno k h1 (by omega)) hF1
      rw [f6] at K2 U2 N2
      refine ⟨β.μ.pages.length, β.fed.took β.μ.pages.length β.μ.order o (nx β.fed.σ β.fed.σ.base β.μ.pages.length), _, true, ⟨I2, K2.nums N1, K0.trans K2.kept (fun x hx h => ?_), B2, fun y hy => ?_, fun y hy => .inr hy.1, .inr ⟨K2.n.trans f2, hn, hno⟩⟩, fun h => by simp at h, ?_⟩
      · rcases (U1 x).1 h with h | h
        · exact h
        · have := h.1; omega
      · rw [K2.len, f7] at hy
        rw [U2 y, U1 y]
        constructor
        · rintro ⟨h | h, h'⟩
          · exact ⟨.inl h, h'⟩
          · exact ⟨.inr h.1, h'⟩
        · rintro ⟨h | h, h'⟩
          · exact ⟨.inl h, h'⟩
          · exact ⟨.inr ⟨h, hy⟩, h'⟩
      · intro w pb K R
        have := R.need_new o (nx β.fed.σ β.fed.σ.base β.μ.pages.length) β.μ.pages.length β.μ.order ho hz' hn I.nums.full r1 T
        rwa [show (β.fed.took β.μ.pages.length β.μ.order o (nx β.fed.σ β.fed.σ.base β.μ.pages.length)).addr β.μ.pages.length = β.fed.addr β.μ.pages.length by unfold Bu.addr; rw [K2.base]]

end Go.Proofs.YtnjcmcnjgdjbiaaGreatDoor
