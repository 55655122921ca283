/- Plain law of the buddy, second part: what attach, live, slab, open and write do to the invariant. Conditions: none; no program in sight. -/
import Derived.Test.YtnjcmcnjgdjbiaaGreatDoorLgBin
namespace Go.Proofs.YtnjcmcnjgdjbiaaGreatDoor

theorem runIn {μ : Mp} {a k x : Nat} {kd : Int} (hx : Inb a k x) (hl : a + 2 ^ k ≤ μ.pages.length) : (μ.run a k kd).pages[x]? = some (runPg kd k (x - a)) := by
  have := hx.1
  have := hx.2
  have h := runL_get μ.pages a kd k (2 ^ k) (x - a) (by omega) (by omega)
  rwa [show a + (x - a) = x by omega] at h

theorem run_out {μ : Mp} {a k x : Nat} {kd : Int} (hx : ¬ Inb a k x) : (μ.run a k kd).pages[x]? = μ.pages[x]? := by
  refine runL_far μ.pages a kd k (2 ^ k) x ?_
  unfold Inb at hx
  omega

theorem run_slab {μ : Mp} {a k x : Nat} {kd : Int} {p : Pg} (hd : kd = 0 ∨ kd = 2) (hl : a + 2 ^ k ≤ μ.pages.length) (hp : (μ.run a k kd).pages[x]? = some p) (h4 : p.kind = 4) : μ.pages[x]? = some p := by
  by_cases hx : Inb a k x
  · rw [runIn hx hl] at hp
    have e := Option.some.inj hp
    rw [← e] at h4
    simp only [runPg, plainPg] at h4
    split at h4 <;> omega
  · rwa [run_out hx] at hp

theorem run_len (μ : Mp) (a k : Nat) (kd : Int) : (μ.run a k kd).pages.length = μ.pages.length := runL_len _ _ _ _ _

theorem run_blk {μ : Mp} {a k : Nat} {kd : Int} (al : 2 ^ k ∣ a) (hl : a + 2 ^ k ≤ μ.pages.length) : BlkAt (μ.run a k kd).pages a k kd :=
  ⟨al, fun j hj => by
    have := runIn (μ := μ) (kd := kd) (x := a + j) (a := a) (k := k) ⟨by omega, by omega⟩ hl
    rwa [show a + j - a = j by omega] at this⟩

theorem inb_lt {a k n : Nat} (h : ∀ y, Inb a k y → y < n) : a + 2 ^ k ≤ n := by
  have := pow0 k
  have := h (a + 2 ^ k - 1) ⟨by omega, by omega⟩
  omega

/-- nothing of the buddy has turned but the pages -/
theorem BInv.pages {β : Bu} {F : Nat → List Nat} {H H' : Nat → Prop} {μ' : Mp} (I : BInv β F H) (ho : μ'.order = β.μ.order) (hp : μ'.pairs = β.μ.pairs) (hl : μ'.pages.length = β.μ.pages.length)
    (hH : ∀ x, H' x → H x) (hpg : ∀ x, ¬ H x → μ'.pages[x]? = β.μ.pages[x]?) (hin : ∀ x, H x → ¬ H' x → LiveAt β.μ.order μ'.pages H' x) : BInv { β with μ := μ' } F H' := by
  have hfree : ∀ k, k ≤ β.μ.order → ∀ i ∈ F k, BlkAt μ'.pages i k 0 := fun k hk i hi => (I.free k hk i hi).far (fun x hx => hpg x (fun h => I.apart k hk i hi x h hx))
  constructor
  · show μ'.order ≤ 8; rw [ho]; exact I.ord
  · show β.heads.length = μ'.order + 1; rw [ho]; exact I.heads
  · show μ'.pairs.length = μ'.order; rw [ho, hp]; exact I.prl
  · exact I.base
  · show β.σ.base + 4096 * μ'.pages.length < _; rw [hl]; exact I.top
  · show 2 ^ μ'.order ∣ μ'.pages.length; rw [ho, hl]; exact I.full
  · intro x hx; show x < μ'.pages.length; rw [hl]; exact I.hole x (hH x hx)
  · show ∀ k, k ≤ μ'.order → _; rw [ho]; exact I.lists
  · show ∀ k, k ≤ μ'.order → _; rw [ho]; exact I.nodup
  · show ∀ k, k ≤ μ'.order → _; rw [ho]; exact hfree
  · show ∀ k, k ≤ μ'.order → _; rw [ho]; exact fun k hk i hi x hx => I.apart k hk i hi x (hH x hx)
  · show ∀ x, x < μ'.pages.length → ¬ H' x → (∃ k, k ≤ μ'.order ∧ _) ∨ LiveAt μ'.order μ'.pages H' x
    rw [ho, hl]
    intro x hx hn
    by_cases h : H x
    · exact .inr (hin x h hn)
    · rcases I.tile x hx h with h1 | ⟨a, k, hk, hb, hy, hap⟩ | ⟨p, hp1, hp2⟩
      · exact .inl h1
      · exact .inr (.inl ⟨a, k, hk, hb.far (fun y hy => hpg y (fun h => hap y h hy)), hy, fun y hy => hap y (hH y hy)⟩)
      · exact .inr (.inr ⟨p, (hpg x h).trans hp1, hp2⟩)
  · show ∀ k, k < μ'.order → (μ'.pairs.getD k _).n = μ'.pages.length / _; rw [ho, hp, hl]; exact I.pairN
  · show ∀ k, k < μ'.order → (μ'.pairs.getD k _).ws.length = ((μ'.pairs.getD k _).n + 63) / 64; rw [ho, hp]; exact I.pairW
  · show ∀ k, k < μ'.order → ∀ q, bitOf (μ'.pairs.getD k _).ws q = _; rw [ho, hp]; exact I.pair
  · show ∀ k, k < μ'.order → _; rw [ho]; exact I.merged

/-- a block in hand is made a live one -/
theorem BInv.live {β : Bu} {F : Nat → List Nat} {H : Nat → Prop} (I : BInv β F H) {a k : Nat} (hk : k ≤ β.μ.order) (al : 2 ^ k ∣ a) (hH : ∀ y, Inb a k y → H y) :
    BInv { β with μ := β.μ.run a k 2 } F (fun y => H y ∧ ¬ Inb a k y) ∧ Keeps β { β with μ := β.μ.run a k 2 } (Inb a k) ∧ BlkAt (β.μ.run a k 2).pages a k 2 := by
  have hl := inb_lt (fun y hy => I.hole y (hH y hy))
  have hb := run_blk (μ := β.μ) (kd := 2) al hl
  refine ⟨I.pages rfl rfl (run_len _ _ _ _) (fun x h => h.1) (fun x h => run_out (fun e => h (hH x e))) (fun x h hn => .inl ⟨a, k, hk, hb, ?_, fun y hy => hy.2⟩), ⟨rfl, run_len _ _ _ _, rfl, rfl, rfl, rfl, rfl, fun x h => run_out h, fun x off _ _ => rfl, fun x p hp h4 => run_slab (.inr rfl) hl hp h4⟩, hb⟩
  exact Classical.byContradiction (fun e => hn ⟨h, e⟩)

/-- a page in hand is made a slab's -/
theorem BInv.slab {β : Bu} {F : Nat → List Nat} {H : Nat → Prop} (I : BInv β F H) {i : Nat} {p : Pg} (hH : H i) (hk : p.kind = 4) (ho : p.order = 0) :
    BInv { β with μ := β.μ.setPage i p } F (fun y => H y ∧ y ≠ i) := by
  have hl := I.hole i hH
  have hs : (β.μ.setPage i p).pages[i]? = some p := List.getElem?_set_self hl
  have hn : ∀ x, x ≠ i → (β.μ.setPage i p).pages[x]? = β.μ.pages[x]? := fun x h => List.getElem?_set_ne (fun e => h e.symm)
  refine I.pages rfl rfl (List.length_set ..) (fun x h => h.1) (fun x h => hn x (by rintro rfl; exact h hH)) (fun x h hn' => ?_)
  have : x = i := Classical.byContradiction (fun e => hn' ⟨h, e⟩)
  subst this
  exact .inr ⟨p, hs, hk, ho⟩

/-- pages of live blocks and slabs are taken in hand -/
theorem BInv.open_ {β : Bu} {F : Nat → List Nat} {H H' : Nat → Prop} (I : BInv β F H) (hH : ∀ x, H x → H' x) (hl : ∀ x, H' x → x < β.μ.pages.length)
    (hf : ∀ k, k ≤ β.μ.order → ∀ i ∈ F k, ∀ x, H' x → ¬ Inb i k x)
    (ht : ∀ a k, k ≤ β.μ.order → BlkAt β.μ.pages a k 2 → (∀ y, H y → ¬ Inb a k y) → ∀ y, H' y → Inb a k y → ∀ x, Inb a k x → H' x) : BInv β F H' := by
  refine ⟨I.ord, I.heads, I.prl, I.base, I.top, I.full, hl, I.lists, I.nodup, I.free, hf, ?_, I.pairN, I.pairW, I.pair, I.merged⟩
  intro x hx hn
  rcases I.tile x hx (fun h => hn (hH x h)) with h1 | ⟨a, k, hk, hb, hy, hap⟩ | h
  · exact .inl h1
  · exact .inr (.inl ⟨a, k, hk, hb, hy, fun y hy1 hy2 => hn (ht a k hk hb hap y hy1 hy2 x hy)⟩)
  · exact .inr (.inr h)

theorem BInv.openLive {β : Bu} {F : Nat → List Nat} {H : Nat → Prop} (I : BInv β F H) {a k : Nat} (hb : BlkAt β.μ.pages a k 2) : BInv β F (fun y => H y ∨ Inb a k y) := by
  refine I.open_ (fun x h => .inl h) ?_ ?_ ?_
  · rintro x (h | h)
    · exact I.hole x h
    · have := hb.le; have := h.2; omega
  · rintro j hj i hi x (h | h) hx
    · exact I.apart j hj i hi x h hx
    · have := (I.free j hj i hi).same hb hx h
      omega
  · rintro a' k' hk' hb' hap y (h | h) hy x hx
    · exact (hap y h hy).elim
    · obtain ⟨rfl, rfl, -⟩ := hb'.same hb hy h
      exact .inr hx

theorem BInv.openSlab {β : Bu} {F : Nat → List Nat} {H : Nat → Prop} (I : BInv β F H) {i : Nat} {p : Pg} (hi : β.μ.pages[i]? = some p) (hk : p.kind = 4) : BInv β F (fun y => H y ∨ y = i) := by
  have hkind : ∀ {a k kd}, BlkAt β.μ.pages a k kd → Inb a k i → kd = 4 ∨ kd = 3 := by
    intro a k kd hb hx
    have e := Option.some.inj (hi.symm.trans (hb.page hx))
    rw [e] at hk
    simp only [runPg, plainPg] at hk
    split at hk <;> omega
  refine I.open_ (fun x h => .inl h) ?_ ?_ ?_
  · rintro x (h | rfl)
    · exact I.hole x h
    · exact (List.getElem?_eq_some_iff.1 hi).1
  · rintro j hj a ha x (h | rfl) hx
    · exact I.apart j hj a ha x h hx
    · have := hkind (I.free j hj a ha) hx
      omega
  · rintro a' k' hk' hb' hap y (h | rfl) hy x hx
    · exact (hap y h hy).elim
    · have := hkind hb' hy
      omega

/-- bytes written that are no free block's links -/
theorem BInv.write {β : Bu} {F : Nat → List Nat} {H : Nat → Prop} {σ' : Sp} (I : BInv β F H) (hb : σ'.base = β.σ.base) (hw : ∀ k, k ≤ β.μ.order → ∀ i ∈ F k, nx σ' β.σ.base i = nx β.σ β.σ.base i ∧ pv σ' β.σ.base i = pv β.σ β.σ.base i) : BInv { β with σ := σ' } F H := by
  refine ⟨I.ord, I.heads, I.prl, ?_, ?_, I.full, I.hole, ?_, I.nodup, I.free, I.apart, I.tile, I.pairN, I.pairW, I.pair, I.merged⟩
  · show 0 < σ'.base; rw [hb]; exact I.base
  · show σ'.base + _ < _; rw [hb]; exact I.top
  · show ∀ k, k ≤ β.μ.order → DL σ' σ'.base 0 _ _
    rw [hb]
    exact fun k hk => DL.congr (hw k hk) (I.lists k hk)

theorem BInv.congrH {β : Bu} {F : Nat → List Nat} {H H' : Nat → Prop} (I : BInv β F H) (h : ∀ x, H x ↔ H' x) : BInv β F H' := by
  have : H = H' := funext fun x => propext (h x)
  exact this ▸ I

/-- the like: what is not open is not turned -/
theorem BInv.write' {β : Bu} {F : Nat → List Nat} {H : Nat → Prop} {σ' : Sp} (I : BInv β F H) (hb : σ'.base = β.σ.base) (hw : ∀ k, k ≤ β.μ.order → ∀ i ∈ F k, ∀ off, off < 16 → σ'.mem (β.σ.base + 4096 * i + off) = β.σ.mem (β.σ.base + 4096 * i + off)) : BInv { β with σ := σ' } F H := by
  refine I.write hb (fun k hk i hi => ⟨?_, ?_⟩)
  · refine leBytes_congr (fun a h1 h2 => ?_)
    have := hw k hk i hi (a - (β.σ.base + 4096 * i)) (by omega)
    rwa [show β.σ.base + 4096 * i + (a - (β.σ.base + 4096 * i)) = a by omega] at this
  · refine leBytes_congr (fun a h1 h2 => ?_)
    have := hw k hk i hi (a - (β.σ.base + 4096 * i)) (by omega)
    rwa [show β.σ.base + 4096 * i + (a - (β.σ.base + 4096 * i)) = a by omega] at this

theorem BInv.head {β : Bu} {F : Nat → List Nat} {H : Nat → Prop} (I : BInv β F H) {k : Nat} (hk : k ≤ β.μ.order) :
    (β.heads.getD k 0 = 0 ∧ F k = []) ∨ ∃ y t, F k = y :: t ∧ β.heads.getD k 0 = β.σ.base + 4096 * y ∧ pv β.σ β.σ.base y = 0 := by
  have D := I.lists k hk
  cases h : F k with
  | nil => rw [h] at D; exact .inl ⟨D, rfl⟩
  | cons y t => rw [h] at D; exact .inr ⟨y, t, rfl, D.1, D.2.1⟩

theorem enter_μ (β : Bu) (a k : Nat) : (β.enter a k).μ = β.μ.run a k 0 := by unfold Bu.enter; rfl
theorem enter_σ (β : Bu) (a k : Nat) : (β.enter a k).σ = pushed β.σ (β.heads.getD k 0) (β.addr a) := by unfold Bu.enter; rfl
theorem enter_heads (β : Bu) (a k : Nat) : (β.enter a k).heads = β.heads.set k (β.addr a) := by unfold Bu.enter; rfl
theorem run_same (μ : Mp) (a k : Nat) (kd : Int) : (μ.run a k kd).order = μ.order ∧ (μ.run a k kd).pairs = μ.pairs := by unfold Mp.run Mp.runK; exact ⟨rfl, rfl⟩

/-- a block in hand is put on its list, its pair's bit turned -/
theorem BInv.attach {β : Bu} {F : Nat → List Nat} {H : Nat → Prop} (I : BInv β F H) {a k : Nat} (hk : k ≤ β.μ.order) (al : 2 ^ k ∣ a) (hH : ∀ y, Inb a k y → H y) (hm : k < β.μ.order → mate a k ∉ F k) :
    BInv ((β.enter a k).turned a k) (upd F k (a :: F k)) (fun y => H y ∧ ¬ Inb a k y) ∧ Keeps β ((β.enter a k).turned a k) (Upen β.μ.order F H) ∧
    (∀ y, Upen β.μ.order (upd F k (a :: F k)) (fun y => H y ∧ ¬ Inb a k y) y ↔ Upen β.μ.order F H y) := by
  have hl := inb_lt (fun y hy => I.hole y (hH y hy))
  have hal : a < β.μ.pages.length := I.hole a (hH a (inb_self a k))
  obtain ⟨tσ, th, tp, to_, tl⟩ := turned_same (β.enter a k) a k
  obtain ⟨ro, rp⟩ := run_same β.μ a k 0
  rw [enter_μ] at tp to_ tl
  rw [ro] at to_
  rw [rp] at tl
  rw [enter_σ] at tσ
  rw [enter_heads] at th
  have hna : ∀ j, j ≤ β.μ.order → a ∉ F j := fun j hj h => I.apart j hj a h a (hH a (inb_self a k)) (inb_self a j)
  have hpre : ∀ j, j ≤ β.μ.order → ∀ y ∈ F j, ∀ z, Inb y j z → ¬ H z := fun j hj y hy z hz h => I.apart j hj y hy z h hz
  have I1 : BInv { β with μ := β.μ.run a k 0 } F H := I.pages ro rp (run_len _ _ _ _) (fun _ h => h) (fun x h => run_out (fun e => h (hH x e))) (fun x h hn => (hn h).elim)
  have hPT := I.pairs_turn (β' := β.enter a k) (by rw [enter_μ, rp]) (by rw [enter_μ, ro]) (x := a) (k := k) (l' := a :: F k) al hal (by simp [hna k hk]) (fun y hy => by simp [hy])
  have hbase := (pushed_same β.σ (β.heads.getD k 0) (β.addr a)).1
  have hsub : ∀ j, ∀ y ∈ upd F k (a :: F k) j, y ∈ F j ∨ (j = k ∧ y = a) := by
    intro j y hy
    unfold upd at hy
    split at hy
    · next e =>
      subst e
      rcases List.mem_cons.1 hy with rfl | hy
      · exact .inr ⟨rfl, rfl⟩
      · exact .inl hy
    · exact .inl hy
  have hback : ∀ j, ∀ y ∈ F j, y ∈ upd F k (a :: F k) j := by
    intro j y hy
    unfold upd
    split
    · next e => subst e; exact List.mem_cons_of_mem _ hy
    · exact hy
  have hhd : β.heads.getD k 0 = 0 ∨ ∃ y, y ∈ F k ∧ β.heads.getD k 0 = β.σ.base + 4096 * y := by
    rcases I.head hk with ⟨h, _⟩ | ⟨y, t, e, h, _⟩
    · exact .inl h
    · exact .inr ⟨y, by simp [e], h⟩
  have hhd1 : β.heads.getD k 0 = 0 ∨ ∃ y, β.heads.getD k 0 = β.σ.base + 4096 * y := hhd.imp id (fun ⟨y, _, e⟩ => ⟨y, e⟩)
  have hhd2 : β.heads.getD k 0 = 0 ∨ ∃ y, y ≠ a ∧ β.heads.getD k 0 = β.σ.base + 4096 * y := hhd.imp id (fun ⟨y, hy, e⟩ => ⟨y, by rintro rfl; exact hna k hk hy, e⟩)
  have h64 : β.heads.getD k 0 < 18446744073709551616 := by
    rcases hhd with e | ⟨y, hy, e⟩
    · omega
    · rw [e]; exact I.addr_lt (I.lt hk hy).2
  refine ⟨?_, ?_, ?_⟩
  · constructor
    · rw [to_]; exact I.ord
    · rw [th, to_, List.length_set]; exact I.heads
    · rw [tl, to_]; exact I.prl
    · rw [tσ, hbase]; exact I.base
    · rw [tσ, hbase, tp, run_len]; exact I.top
    · rw [to_, tp, run_len]; exact I.full
    · rw [tp, run_len]
      exact fun x hx => I.hole x hx.1
    · rw [to_, tσ, th, hbase]
      intro j hj
      unfold Bu.addr
      by_cases e : j = k
      · subst e
        rw [upd_self, getD_set_self _ _ _ (by rw [I.heads]; omega)]
        refine DL.push I.base (hna j hk) ?_ (I.lists j hk)
        intro y hy
        rcases List.mem_cons.1 hy with rfl | hy
        · exact I.addr_lt hal
        · exact I.addr_lt (I.lt hk hy).2
      · rw [upd_ne _ _ e, getD_set_ne _ _ _ _ e]
        refine DL.congr (fun i hi => ?_) (I.lists j hj)
        have hia : i ≠ a := by rintro rfl; exact hna j hj hi
        refine ⟨?_, ?_⟩
        · rw [pushed_nx _ _ _ _ _ h64 hhd1, if_neg hia]
        · rw [pushed_pv _ _ _ _ _ (I.addr_lt hal) hhd2, if_neg hia, if_neg]
          rintro ⟨e1, e0⟩
          rcases hhd with h | ⟨y, hy, e2⟩
          · exact e0 h
          · have : y = i := by omega
            subst this
            exact e (I.one hj hi hk hy (inb_self _ _) (inb_self _ _)).2
    · rw [to_]
      intro j hj
      unfold upd
      split
      · exact List.nodup_cons.2 ⟨hna k hk, I.nodup k hk⟩
      · exact I.nodup j hj
    · rw [to_, tp]
      intro j hj y hy
      rcases hsub j y hy with h | ⟨rfl, rfl⟩
      · exact I1.free j hj y h
      · exact run_blk al hl
    · rw [to_]
      intro j hj y hy z hz hyz
      rcases hsub j y hy with h | ⟨rfl, rfl⟩
      · exact I.apart j hj y h z hz.1 hyz
      · exact hz.2 hyz
    · rw [to_, tp, run_len]
      intro y hy hny
      by_cases hya : Inb a k y
      · exact .inl ⟨k, hk, a, by rw [upd_self]; simp, hya⟩
      · rcases I1.tile y (by rw [run_len]; exact hy) (fun h => hny ⟨h, hya⟩) with ⟨j, hj, h, hh, hyh⟩ | ⟨b, m, hm', hb, hy1, hap⟩ | h
        · exact .inl ⟨j, hj, h, hback j h hh, hyh⟩
        · exact .inr (.inl ⟨b, m, hm', hb, hy1, fun z hz => hap z hz.1⟩)
        · exact .inr (.inr h)
    · rw [to_, tp, run_len]
      intro j hj
      rw [(hPT j hj).1]
      exact I.pairN j hj
    · rw [to_]
      intro j hj
      rw [(hPT j hj).1, (hPT j hj).2.1]
      exact I.pairW j hj
    · rw [to_]
      exact fun j hj => (hPT j hj).2.2
    · rw [to_]
      rintro j hj q ⟨h1, h2⟩
      rcases hsub _ _ h1 with g1 | ⟨rfl, e1⟩
      · rcases hsub _ _ h2 with g2 | ⟨rfl, e2⟩
        · exact I.merged j hj q ⟨g1, g2⟩
        · refine hm hj ?_
          rw [← e2, mate_hi]
          exact g1
      · rcases hsub _ _ h2 with g2 | ⟨_, e2⟩
        · refine hm hj ?_
          rw [← e1, mate_lo]
          exact g2
        · exact half_ne j q (e1.trans e2.symm)
  · have hs := pushed_same β.σ (β.heads.getD k 0) (β.addr a)
    refine ⟨by rw [tσ, hbase], by rw [tp, run_len], by rw [to_], by rw [tσ]; exact hs.2.2.2.2, by rw [tσ]; exact hs.2.1, by rw [tσ]; exact hs.2.2.2.1, by rw [tσ]; exact hs.2.2.1, fun y hy => by rw [tp]; exact run_out (fun e => hy (.inl (hH y e))), fun y off hy ho => ?_, fun y p hp h4 => by rw [tp] at hp; exact run_slab (.inl rfl) hl hp h4⟩
    rw [tσ]
    refine pushed_mem _ _ _ _ _ _ ho ?_ ?_
    · rintro rfl; exact hy (.inl (hH y (inb_self _ _)))
    · refine hhd.imp id (fun ⟨z, hz, e⟩ => ⟨z, ?_, e⟩)
      rintro rfl
      exact hy (.inr ⟨k, hk, z, hz, inb_self _ _⟩)
  · intro y
    constructor
    · rintro (h | ⟨j, hj, h, hh, hy⟩)
      · exact .inl h.1
      · rcases hsub j h hh with h' | ⟨rfl, rfl⟩
        · exact .inr ⟨j, hj, h, h', hy⟩
        · exact .inl (hH y hy)
    · rintro (h | ⟨j, hj, h, hh, hy⟩)
      · by_cases e : Inb a k y
        · exact .inr ⟨k, hk, a, by rw [upd_self]; simp, e⟩
        · exact .inl ⟨h, e⟩
      · exact .inr ⟨j, hj, h, hback j h hh, hy⟩

end Go.Proofs.YtnjcmcnjgdjbiaaGreatDoor
