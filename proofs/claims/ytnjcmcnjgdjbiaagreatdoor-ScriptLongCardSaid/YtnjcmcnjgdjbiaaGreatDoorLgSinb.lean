/- Plain law of the slab, second part: a cell taken, a cell given, a page born, a page gone. Conditions: none; no program in sight. -/
import Derived.Test.YtnjcmcnjgdjbiaaGreatDoorLgSin
namespace Go.Proofs.YtnjcmcnjgdjbiaaGreatDoor

theorem CellsOk.lt {σ : Sp} {at_ : Nat} {p : Pg} {fc : List Nat} (h : CellsOk σ at_ p fc) {f : Nat} (hf : f ∈ fc) : f < cellsN p.cls ∧ f < 256 := by
  have := ((h.mem f).1 hf).1
  have := (wdOf_cells p.cls h.cls).2.2.2.2
  omega

theorem CellsOk.take {σ : Sp} {at_ f : Nat} {p : Pg} {u : List Nat} (h : CellsOk σ at_ p (f :: u)) : CellsOk σ at_ (p.take f (hdI u)) u := by
  obtain ⟨h1, h256⟩ := h.lt (List.mem_cons_self)
  obtain ⟨s1, s2, s3, s4, s5, s6⟩ := own_same p f true
  have hc : (p.take f (hdI u)).cls = p.cls := s3
  have hbit : ∀ x, x < 256 → (p.take f (hdI u)).bit x = (p.bit x != decide (x = f)) := fun x hx => own_bit p f x true h256 hx
  have hn := h.nodup
  simp only [List.nodup_cons] at hn
  have hle := (wdOf_cells p.cls h.cls).2.2.2.2
  have hfb := ((h.mem f).1 (by simp)).2
  refine ⟨s2.trans h.order, by rw [hc]; exact h.cls, hn.2, fun x => ?_, fun x h1' h2 => ?_, ?_, ?_, rfl, by rw [hc]; exact h.chain.2⟩
  · rw [hc]
    have hm := h.mem x
    constructor
    · intro hx
      have := hm.1 (by simp [hx])
      refine ⟨this.1, ?_⟩
      rw [hbit x (by omega), this.2, decide_eq_false (by rintro rfl; exact hn.1 hx)]
      rfl
    · rintro ⟨hx, hb⟩
      rw [hbit x (by omega)] at hb
      by_cases e : x = f
      · subst e
        rw [hfb] at hb
        simp at hb
      · rw [decide_eq_false e] at hb
        have := hm.2 ⟨hx, by simpa using hb⟩
        simpa [e] using this
  · rw [hc] at h1'
    rw [hbit x h2, h.high x h1' h2, decide_eq_false (by omega)]
    rfl
  · show p.live + 1 = _
    rw [hc, h.live]
    simp
    omega
  · show 0 < p.live + 1
    have := h.some_
    omega

/-- the page behind a cell given back -/
def Pg.give (p : Pg) (x : Nat) : Pg := { p.own x false with first := x }

theorem CellsOk.give {σ : Sp} {at_ x : Nat} {p : Pg} {fc : List Nat} (h : CellsOk σ at_ p fc) (hx : x < cellsN p.cls) (hb : p.bit x = true) (h1 : 1 < p.live) (h64 : at_ + 4096 < 18446744073709551616) (σ' : Sp)
    (hσ : σ' = σ.setWord (at_ + x * wdOf p.cls.toNat) (hdA at_ (wdOf p.cls.toNat) fc)) : CellsOk σ' at_ (p.give x) (x :: fc) := by
  obtain ⟨w1, w2, w3, w4, w5⟩ := wdOf_cells p.cls h.cls
  obtain ⟨s1, s2, s3, s4, s5, s6⟩ := own_same p x false
  have hc : (p.give x).cls = p.cls := s3
  have hbit : ∀ y, y < 256 → (p.give x).bit y = (p.bit y != decide (y = x)) := fun y hy => own_bit p x y false (by omega) hy
  have hxn : x ∉ fc := fun e => by
    have := ((h.mem x).1 e).2
    rw [hb] at this
    simp at this
  have hlt : ∀ f ∈ fc, f * wdOf p.cls.toNat + wdOf p.cls.toNat ≤ 4096 := fun f hf => cell_in p.cls h.cls (h.lt hf).1
  have hhd : hdA at_ (wdOf p.cls.toNat) fc < 18446744073709551616 := by
    cases fc with
    | nil => show 0 < _; omega
    | cons f t => have := hlt f (by simp); show at_ + f * _ < _; omega
  refine ⟨s2.trans h.order, by rw [hc]; exact h.cls, List.nodup_cons.2 ⟨hxn, h.nodup⟩, fun y => ?_, fun y h1' h2 => ?_, ?_, ?_, rfl, ?_⟩
  · rw [hc]
    have hm := h.mem y
    constructor
    · intro hy
      rcases List.mem_cons.1 hy with rfl | hy
      · refine ⟨hx, ?_⟩
        rw [hbit y (by omega), hb]
        simp
      · have := hm.1 hy
        refine ⟨this.1, ?_⟩
        have hyx : y ≠ x := fun e => hxn (e ▸ hy)
        rw [hbit y (by omega), this.2, decide_eq_false hyx]
        rfl
    · rintro ⟨hy, hyb⟩
      by_cases e : y = x
      · simp [e]
      · rw [hbit y (by omega), decide_eq_false e] at hyb
        have := hm.2 ⟨hy, by simpa using hyb⟩
        simp [this]
  · rw [hc] at h1'
    rw [hbit y h2, h.high y h1' h2, decide_eq_false (by omega)]
    rfl
  · show p.live - 1 = _
    rw [hc, h.live]
    simp
    omega
  · show 0 < p.live - 1
    omega
  · rw [hc, hσ]
    refine ⟨setWord_at _ _ _ hhd, CL.congr (fun f hf => ?_) h.chain⟩
    refine setWord_off _ _ _ _ ?_
    have hfx : f ≠ x := by rintro rfl; exact hxn hf
    rcases Nat.lt_or_gt_of_ne hfx with h' | h'
    · have : (f + 1) * wdOf p.cls.toNat ≤ x * wdOf p.cls.toNat := Nat.mul_le_mul_right _ h'
      rw [Nat.succ_mul] at this
      omega
    · have : (x + 1) * wdOf p.cls.toNat ≤ f * wdOf p.cls.toNat := Nat.mul_le_mul_right _ h'
      rw [Nat.succ_mul] at this
      omega

/-- but for the links -/
def SameBut (q q0 : Pg) : Prop := q = { q0 with next := q.next, prev := q.prev }

theorem sameBut_mk (q0 : Pg) (n p : Int) : SameBut { q0 with next := n, prev := p } q0 := rfl
theorem SameBut.refl (q : Pg) : SameBut q q := rfl

theorem SameBut.cells {σ : Sp} {at_ : Nat} {q q0 : Pg} {fc : List Nat} (h : SameBut q q0) (D : CellsOk σ at_ q0 fc) : CellsOk σ at_ q fc ∧ q.kind = q0.kind ∧ q.cls = q0.cls := by
  unfold SameBut at h
  rw [h]
  exact ⟨⟨D.order, D.cls, D.nodup, D.mem, D.high, D.live, D.some_, D.first, D.chain⟩, rfl, rfl⟩

theorem SameBut.kind {q q0 : Pg} (h : SameBut q q0) : q.kind = q0.kind ∧ q.cls = q0.cls := by
  unfold SameBut at h
  rw [h]
  exact ⟨rfl, rfl⟩

/-- one slab page i turns, of the others only the links -/
theorem SInv.turn {β β' : Bu} {ps ps' : List Int} {C L L' : Nat → List Nat} (S : SInv β ps C L) (i : Nat) (u : List Nat) (hb : β'.σ.base = β.σ.base) (hlen : ps'.length = 8)
    (hpg : ∀ j, j ≠ i → (∀ q0, β.μ.pages[j]? = some q0 → ∃ q, β'.μ.pages[j]? = some q ∧ SameBut q q0) ∧ (∀ q, β'.μ.pages[j]? = some q → ∃ q0, β.μ.pages[j]? = some q0))
    (hby : ∀ j q0, j ≠ i → β.μ.pages[j]? = some q0 → q0.kind = 4 → ∀ off, off < 4096 → β'.σ.mem (β.σ.base + 4096 * j + off) = β.σ.mem (β.σ.base + 4096 * j + off))
    (hi : ∀ p, β'.μ.pages[i]? = some p → p.kind = 4 → CellsOk β'.σ (β.addr i) p u)
    (hl : ∀ c, c < 8 → PL (nextF β'.μ.pages) (prevF β'.μ.pages) (-1) (ps'.getD c 0) (L' c)) (hn : ∀ c, c < 8 → (L' c).Nodup)
    (hm : ∀ c, c < 8 → (i ∈ L' c ↔ ∃ p, β'.μ.pages[i]? = some p ∧ p.kind = 4 ∧ p.cls = c ∧ u ≠ []) ∧ ∀ j, j ≠ i → (j ∈ L' c ↔ j ∈ L c)) : SInv β' ps' (upd C i u) L' := by
  have ha : ∀ j, β'.addr j = β.addr j := fun j => by unfold Bu.addr; rw [hb]
  refine ⟨hlen, fun j p hp h4 => ?_, hl, hn, fun c hc j => ?_⟩
  · rw [ha]
    by_cases e : j = i
    · subst e
      rw [upd_self]
      exact hi p hp h4
    · rw [upd_ne _ _ e]
      obtain ⟨q0, hq0⟩ := (hpg j e).2 p hp
      obtain ⟨q, hq, hs⟩ := (hpg j e).1 q0 hq0
      obtain rfl : p = q := Option.some.inj (hp.symm.trans hq)
      have h40 : q0.kind = 4 := hs.kind.1.symm.trans h4
      exact (hs.cells (CellsOk.page_bytes (S.pages j q0 hq0 h40) (hby j q0 e hq0 h40))).1
  · by_cases e : j = i
    · subst e
      rw [upd_self]
      exact (hm c hc).1
    · rw [upd_ne _ _ e, (hm c hc).2 j e, S.mem c hc j]
      constructor
      · rintro ⟨p, hp, h4, hcl, hne⟩
        obtain ⟨q, hq, hs⟩ := (hpg j e).1 p hp
        exact ⟨q, hq, hs.kind.1.trans h4, hs.kind.2.trans hcl, hne⟩
      · rintro ⟨q, hq, h4, hcl, hne⟩
        obtain ⟨q0, hq0⟩ := (hpg j e).2 q hq
        obtain ⟨q', hq', hs⟩ := (hpg j e).1 q0 hq0
        obtain rfl : q = q' := Option.some.inj (hq.symm.trans hq')
        exact ⟨q0, hq0, hs.kind.1.symm.trans h4, hs.kind.2.symm.trans hcl, hne⟩

theorem SInv.cls_of {β : Bu} {ps : List Int} {C L : Nat → List Nat} (S : SInv β ps C L) {c i : Nat} (hc : c < 8) (hi : i ∈ L c) : ∃ p, β.μ.pages[i]? = some p ∧ p.kind = 4 ∧ p.cls = c ∧ C i ≠ [] := (S.mem c hc i).1 hi

theorem SInv.one {β : Bu} {ps : List Int} {C L : Nat → List Nat} (S : SInv β ps C L) {c c' i : Nat} (hc : c < 8) (hc' : c' < 8) (hi : i ∈ L c) (hi' : i ∈ L c') : c = c' := by
  obtain ⟨p, hp, _, h1, _⟩ := S.cls_of hc hi
  obtain ⟨p', hp', _, h2, _⟩ := S.cls_of hc' hi'
  obtain rfl : p = p' := Option.some.inj (hp.symm.trans hp')
  omega

/-- a slab page's cells turn, it stays on its list (or off it) -/
theorem SInv.cell {β : Bu} {σ' : Sp} {ps : List Int} {C L : Nat → List Nat} (S : SInv β ps C L) {i : Nat} {p p' : Pg} {u : List Nat} (hp : β.μ.pages[i]? = some p) (hk : p.kind = 4) (hb : σ'.base = β.σ.base)
    (hk' : p'.kind = 4) (hc' : p'.cls = p.cls) (hl' : p'.next = p.next ∧ p'.prev = p.prev) (hu : C i ≠ [] ↔ u ≠ []) (D : CellsOk σ' (β.addr i) p' u)
    (hby : ∀ j, j ≠ i → ∀ off, off < 4096 → σ'.mem (β.σ.base + 4096 * j + off) = β.σ.mem (β.σ.base + 4096 * j + off)) :
    SInv { β with σ := σ', μ := β.μ.setPage i p' } ps (upd C i u) L := by
  have hlt := (List.getElem?_eq_some_iff.1 hp).1
  have hs : (β.μ.setPage i p').pages[i]? = some p' := List.getElem?_set_self hlt
  have hn : ∀ x, x ≠ i → (β.μ.setPage i p').pages[x]? = β.μ.pages[x]? := fun x h => List.getElem?_set_ne (fun e => h e.symm)
  refine S.turn i u hb S.len (fun j hj => ⟨fun q0 h => ⟨q0, (hn j hj).trans h, SameBut.refl _⟩, fun q h => ⟨q, (hn j hj).symm.trans h⟩⟩) (fun j _ hj _ _ => hby j hj) (fun q hq _ => ?_) (fun c hc => ?_) S.nodup (fun c hc => ⟨?_, fun j hj => Iff.rfl⟩)
  · obtain rfl : p' = q := Option.some.inj (hs.symm.trans hq)
    exact D
  · refine PL.congr (fun j hj => ?_) (S.lists c hc)
    by_cases e : j = i
    · subst e
      show nextF (β.μ.setPage j p').pages j = _ ∧ prevF (β.μ.setPage j p').pages j = _
      rw [nextF_of hs, prevF_of hs, nextF_of hp, prevF_of hp]
      exact hl'
    · show nextF (β.μ.setPage i p').pages j = _ ∧ prevF (β.μ.setPage i p').pages j = _
      unfold nextF prevF
      rw [List.getD_eq_getElem?_getD, List.getD_eq_getElem?_getD, hn j e]
      exact ⟨rfl, rfl⟩
  · rw [S.mem c hc i]
    constructor
    · rintro ⟨q, hq, h4, hcl, hne⟩
      obtain rfl : p = q := Option.some.inj (hp.symm.trans hq)
      exact ⟨p', hs, hk', hc'.trans hcl, hu.1 hne⟩
    · rintro ⟨q, hq, h4, hcl, hne⟩
      obtain rfl : p' = q := Option.some.inj (hs.symm.trans hq)
      exact ⟨p, hp, hk, hc'.symm.trans hcl, hu.2 hne⟩

/-- one page turned in place -/
def Mp.modPage (μ : Mp) (j : Nat) (f : Pg → Pg) : Mp := match μ.pages[j]? with | some q => μ.setPage j (f q) | none => μ

theorem modPage_get (μ : Mp) (j x : Nat) (f : Pg → Pg) : (μ.modPage j f).pages[x]? = if x = j then (μ.pages[x]?).map f else μ.pages[x]? := by
  unfold Mp.modPage
  split
  · next q hq =>
    have hlt := (List.getElem?_eq_some_iff.1 hq).1
    split
    · next e => subst e; rw [hq]; exact List.getElem?_set_self hlt
    · next e => exact List.getElem?_set_ne (fun h => e h.symm)
  · next hq =>
    split
    · next e => subst e; rw [hq]; rfl
    · rfl

theorem modPage_of {μ : Mp} {j : Nat} {q : Pg} (f : Pg → Pg) (h : μ.pages[j]? = some q) : μ.modPage j f = μ.setPage j (f q) := by
  unfold Mp.modPage
  rw [h]

theorem modPage_same (μ : Mp) (j : Nat) (f : Pg → Pg) : (μ.modPage j f).order = μ.order ∧ (μ.modPage j f).pairs = μ.pairs ∧ (μ.modPage j f).pages.length = μ.pages.length := by
  unfold Mp.modPage
  split
  · exact ⟨rfl, rfl, List.length_set ..⟩
  · exact ⟨rfl, rfl, rfl⟩

/-- page i (which says p) is taken off its partial list -/
def Mp.unhung (μ : Mp) (i : Nat) (p : Pg) : Mp :=
  ((if p.prev < 0 then μ else μ.modPage p.prev.toNat (fun q => { q with next := p.next })) |> fun μ1 => if p.next < 0 then μ1 else μ1.modPage p.next.toNat (fun q => { q with prev := p.prev })).modPage i (fun q => { q with next := -1, prev := -1 })
def unps (ps : List Int) (c : Nat) (p : Pg) : List Int := if p.prev < 0 then ps.set c p.next else ps

theorem unhung_same (μ : Mp) (i : Nat) (p : Pg) : (μ.unhung i p).order = μ.order ∧ (μ.unhung i p).pairs = μ.pairs ∧ (μ.unhung i p).pages.length = μ.pages.length := by
  unfold Mp.unhung
  simp only
  obtain ⟨a1, a2, a3⟩ := modPage_same (if p.next < 0 then (if p.prev < 0 then μ else μ.modPage p.prev.toNat (fun q => { q with next := p.next })) else (if p.prev < 0 then μ else μ.modPage p.prev.toNat (fun q => { q with next := p.next })).modPage p.next.toNat (fun q => { q with prev := p.prev })) i (fun q => { q with next := -1, prev := -1 })
  rw [a1, a2, a3]
  have h1 : ∀ (b : Prop) [Decidable b] (ν : Mp) (j : Nat) (f : Pg → Pg), (if b then ν else ν.modPage j f).order = ν.order ∧ (if b then ν else ν.modPage j f).pairs = ν.pairs ∧ (if b then ν else ν.modPage j f).pages.length = ν.pages.length := by
    intro b _ ν j f
    split
    · exact ⟨rfl, rfl, rfl⟩
    · exact modPage_same ν j f
  obtain ⟨b1, b2, b3⟩ := h1 (p.next < 0) (if p.prev < 0 then μ else μ.modPage p.prev.toNat (fun q => { q with next := p.next })) p.next.toNat (fun q => { q with prev := p.prev })
  obtain ⟨c1, c2, c3⟩ := h1 (p.prev < 0) μ p.prev.toNat (fun q => { q with next := p.next })
  exact ⟨b1.trans c1, b2.trans c2, b3.trans c3⟩

theorem unhung_get (μ : Mp) (i : Nat) (p : Pg) (x : Nat) (h1 : p.prev ≠ i) (h2 : p.next ≠ i) :
    (μ.unhung i p).pages[x]? = (μ.pages[x]?).map (fun q => { q with next := if x = i then -1 else if (x : Int) = p.prev then p.next else q.next, prev := if x = i then -1 else if (x : Int) = p.next then p.prev else q.prev }) := by
  unfold Mp.unhung
  simp only
  rw [modPage_get]
  have e1 : ∀ ν : Mp, (if p.next < 0 then ν else ν.modPage p.next.toNat (fun q => { q with prev := p.prev })).pages[x]? = (ν.pages[x]?).map (fun q => { q with prev := if (x : Int) = p.next then p.prev else q.prev }) := by
    intro ν
    split
    · have hx : ¬ ((x : Int) = p.next) := by omega
      simp [hx]
    · rw [modPage_get]
      by_cases e : x = p.next.toNat
      · have hx : ((x : Int) = p.next) := by omega
        rw [if_pos e]
        simp only [if_pos hx]
      · have hx : ¬ ((x : Int) = p.next) := by omega
        rw [if_neg e]
        simp only [if_neg hx]
        simp
  have e2 : (if p.prev < 0 then μ else μ.modPage p.prev.toNat (fun q => { q with next := p.next })).pages[x]? = (μ.pages[x]?).map (fun q => { q with next := if (x : Int) = p.prev then p.next else q.next }) := by
    split
    · have hx : ¬ ((x : Int) = p.prev) := by omega
      simp [hx]
    · rw [modPage_get]
      by_cases e : x = p.prev.toNat
      · have hx : ((x : Int) = p.prev) := by omega
        rw [if_pos e]
        simp only [if_pos hx]
      · have hx : ¬ ((x : Int) = p.prev) := by omega
        rw [if_neg e]
        simp only [if_neg hx]
        simp
  rw [e1, e2]
  split
  · next e =>
    subst e
    simp only [Option.map_map]
    congr 1
  · next e =>
    simp only [Option.map_map]
    congr 1

/-- a slab page leaves its partial list: it is full, or is no slab page any more -/
theorem SInv.unhang {β β' : Bu} {ps : List Int} {C L : Nat → List Nat} (S : SInv β ps C L) {c i : Nat} {p p' : Pg} (hc : c < 8) (hi : i ∈ L c) (hp : β.μ.pages[i]? = some p) (hl' : p'.next = p.next ∧ p'.prev = p.prev)
    (hb : β'.σ.base = β.σ.base) (hby : ∀ j q0, j ≠ i → β.μ.pages[j]? = some q0 → q0.kind = 4 → ∀ off, off < 4096 → β'.σ.mem (β.σ.base + 4096 * j + off) = β.σ.mem (β.σ.base + 4096 * j + off))
    (hpg : ∀ x, x ≠ i → β'.μ.pages[x]? = ((β.μ.setPage i p').unhung i p').pages[x]?) (hD : ∀ q, β'.μ.pages[i]? = some q → q.kind = 4 → CellsOk β'.σ (β.addr i) q []) :
    SInv β' (unps ps c p') (upd C i []) (upd L c ((L c).erase i)) := by
  obtain ⟨a, t, hL⟩ := List.append_of_mem hi
  have D := S.lists c hc
  have M := S.nodup c hc
  have hE : (L c).erase i = a ++ t := by
    rw [hL] at M ⊢
    have : i ∉ a := by
      intro h
      rw [List.nodup_append] at M
      exact M.2.2 i h i (by simp) rfl
    rw [List.erase_append_right _ this]
    simp
  have hNx : nextF β.μ.pages i = p'.next := (nextF_of hp).trans hl'.1.symm
  have hPv : prevF β.μ.pages i = p'.prev := (prevF_of hp).trans hl'.2.symm
  rw [hL] at D M
  have hprev := D.prevOf
  have hnext := D.nextIs
  rw [hPv] at hprev
  rw [hNx] at hnext
  have hia : i ∉ a ∧ i ∉ t := by
    rw [List.nodup_append] at M
    refine ⟨fun h => M.2.2 i h i (by simp) rfl, fun h => ?_⟩
    have := M.2.1
    simp only [List.nodup_cons] at this
    exact this.1 h
  have hpin : ∀ y : Nat, (y : Int) = p'.prev → y ∈ a := by
    intro y hy
    cases hg : a.getLast? with
    | none => unfold lsI at hprev; rw [hg] at hprev; have hprev : p'.prev = -1 := hprev; omega
    | some z =>
      rw [lsI_some hg] at hprev
      have : y = z := by omega
      subst this
      exact List.mem_of_getLast? hg
  have hnin : ∀ y : Nat, (y : Int) = p'.next → y ∈ t := by
    intro y hy
    cases t with
    | nil => have hnext : p'.next = -1 := hnext; omega
    | cons z t =>
      have hnext : p'.next = (z : Int) := hnext
      have : y = z := by omega
      subst this
      simp
  have hpi : p'.prev ≠ i := fun e => hia.1 (hpin i e.symm)
  have hni : p'.next ≠ i := fun e => hia.2 (hnin i e.symm)
  have hlt := (List.getElem?_eq_some_iff.1 hp).1
  have hget : ∀ x, x ≠ i → β'.μ.pages[x]? = (β.μ.pages[x]?).map (fun q => { q with next := if (x : Int) = p'.prev then p'.next else q.next, prev := if (x : Int) = p'.next then p'.prev else q.prev }) := by
    intro x hx
    rw [hpg x hx, unhung_get _ _ _ _ hpi hni]
    rw [show (β.μ.setPage i p').pages[x]? = β.μ.pages[x]? from List.getElem?_set_ne (fun e => hx e.symm)]
    simp only [hx, if_false]
  have hNF : ∀ j ∈ a ++ t, nextF β'.μ.pages j = if (j : Int) = p'.prev then p'.next else nextF β.μ.pages j := by
    intro j hj
    have hji : j ≠ i := by rintro rfl; rcases List.mem_append.1 hj with h | h; exact hia.1 h; exact hia.2 h
    obtain ⟨q, hq, _⟩ := S.cls_of hc (show j ∈ L c by rw [hL]; rcases List.mem_append.1 hj with h | h <;> simp [h])
    have := hget j hji
    rw [hq] at this
    rw [nextF_of this, nextF_of hq]
  have hPF : ∀ j ∈ a ++ t, prevF β'.μ.pages j = if (j : Int) = p'.next then p'.prev else prevF β.μ.pages j := by
    intro j hj
    have hji : j ≠ i := by rintro rfl; rcases List.mem_append.1 hj with h | h; exact hia.1 h; exact hia.2 h
    obtain ⟨q, hq, _⟩ := S.cls_of hc (show j ∈ L c by rw [hL]; rcases List.mem_append.1 hj with h | h <;> simp [h])
    have := hget j hji
    rw [hq] at this
    rw [prevF_of this, prevF_of hq]
  refine S.turn i [] hb ?_ (fun j hj => ⟨fun q0 h => ⟨_, by rw [hget j hj, h]; rfl, sameBut_mk q0 _ _⟩, fun q h => ?_⟩) hby hD (fun d hd => ?_) (fun d hd => ?_) (fun d hd => ⟨?_, fun j hj => ?_⟩)
  · unfold unps
    split
    · rw [List.length_set]; exact S.len
    · exact S.len
  · rw [hget j hj] at h
    cases h0 : β.μ.pages[j]? with
    | none => rw [h0] at h; simp at h
    | some q0 => exact ⟨q0, rfl⟩
  · by_cases e : d = c
    · subst e
      rw [upd_self, hE]
      have R := PL.remove (N' := nextF β'.μ.pages) (P' := prevF β'.μ.pages) D M (.inl rfl) (fun j hj => by rw [hNF j hj, hPv, hNx]) (fun j hj => by rw [hPF j hj, hPv, hNx])
      rw [hNx] at R
      have hneg : p'.prev < 0 ↔ a = [] := by
        cases a with
        | nil => have hprev : p'.prev = -1 := hprev; simp; omega
        | cons y a =>
          obtain ⟨z, hz⟩ := last_some (l := y :: a) (by simp)
          rw [lsI_some hz] at hprev
          simp
          omega
      unfold unps
      by_cases ha : a = []
      · rw [if_pos (hneg.2 ha)]
        rw [if_pos ha] at R
        rw [List.getD_eq_getElem?_getD, List.getElem?_set_self (by rw [S.len]; omega)]
        exact R
      · rw [if_neg (fun h => ha (hneg.1 h))]
        rw [if_neg ha] at R
        exact R
    · rw [upd_ne _ _ e]
      have hpd : (unps ps c p').getD d 0 = ps.getD d 0 := by
        unfold unps
        split
        · rw [List.getD_eq_getElem?_getD, List.getD_eq_getElem?_getD, List.getElem?_set_ne (fun h => e h.symm)]
        · rfl
      rw [hpd]
      refine PL.congr (fun j hj => ?_) (S.lists d hd)
      obtain ⟨q, hq, _⟩ := S.cls_of hd hj
      have hji : j ≠ i := by rintro rfl; exact e (S.one hd hc hj hi)
      have h := hget j hji
      rw [hq] at h
      have hjp : ¬ ((j : Int) = p'.prev) := fun h => e (S.one hd hc hj (by rw [hL]; simp [hpin j h]))
      have hjn : ¬ ((j : Int) = p'.next) := fun h => e (S.one hd hc hj (by rw [hL]; simp [hnin j h]))
      rw [nextF_of h, prevF_of h, nextF_of hq, prevF_of hq]
      exact ⟨if_neg hjp, if_neg hjn⟩
  · by_cases e : d = c
    · subst e
      rw [upd_self]
      exact (S.nodup d hd).erase i
    · rw [upd_ne _ _ e]
      exact S.nodup d hd
  · constructor
    · intro h
      exfalso
      by_cases e : d = c
      · subst e
        rw [upd_self] at h
        exact ((S.nodup d hd).mem_erase_iff.1 h).1 rfl
      · rw [upd_ne _ _ e] at h
        exact e (S.one hd hc h hi)
    · rintro ⟨_, _, _, _, h⟩
      exact (h rfl).elim
  · by_cases e : d = c
    · subst e
      rw [upd_self, (S.nodup d hd).mem_erase_iff]
      simp [hj]
    · rw [upd_ne _ _ e]

/-- page i is put ahead of the partial list headed by h -/
def Mp.hung2 (μ : Mp) (i : Nat) (h : Int) : Mp :=
  (fun μ1 : Mp => if h < 0 then μ1 else μ1.modPage h.toNat (fun q => { q with prev := (i : Int) })) (μ.modPage i (fun q => { q with next := h, prev := -1 }))

theorem hung2_same (μ : Mp) (i : Nat) (h : Int) : (μ.hung2 i h).order = μ.order ∧ (μ.hung2 i h).pairs = μ.pairs ∧ (μ.hung2 i h).pages.length = μ.pages.length := by
  unfold Mp.hung2
  obtain ⟨c1, c2, c3⟩ := modPage_same μ i (fun q => { q with next := h, prev := -1 })
  simp only
  split
  · exact ⟨c1, c2, c3⟩
  · obtain ⟨b1, b2, b3⟩ := modPage_same (μ.modPage i (fun q => { q with next := h, prev := -1 })) h.toNat (fun q => { q with prev := (i : Int) })
    exact ⟨b1.trans c1, b2.trans c2, b3.trans c3⟩

theorem hung2_get (μ : Mp) (i : Nat) (h : Int) (x : Nat) (hi : h ≠ i) :
    (μ.hung2 i h).pages[x]? = (μ.pages[x]?).map (fun q => { q with next := if x = i then h else q.next, prev := if x = i then -1 else if (x : Int) = h then (i : Int) else q.prev }) := by
  unfold Mp.hung2
  simp only
  have e1 : (μ.modPage i (fun q => { q with next := h, prev := -1 })).pages[x]? = (μ.pages[x]?).map (fun q => { q with next := if x = i then h else q.next, prev := if x = i then -1 else q.prev }) := by
    rw [modPage_get]
    by_cases e : x = i
    · simp [e]
    · simp [e]
  split
  · have hx : ¬ ((x : Int) = h) := by omega
    rw [e1]
    simp [hx]
  · rw [modPage_get, e1]
    by_cases e : x = h.toNat
    · have hx : ((x : Int) = h) := by omega
      have : ¬ x = i := by omega
      rw [if_pos e]
      simp only [if_pos hx, if_neg this]
      simp
    · have hx : ¬ ((x : Int) = h) := by omega
      rw [if_neg e]
      simp only [if_neg hx]

/-- a slab page goes ahead of its partial list: it has a free cell again, or is new -/
theorem SInv.hang {β β' : Bu} {ps : List Int} {C L : Nat → List Nat} (S : SInv β ps C L) {c i : Nat} {p' : Pg} {u : List Nat} (hc : c < 8) (hi : ∀ d, d < 8 → i ∉ L d)
    (hb : β'.σ.base = β.σ.base) (hby : ∀ j q0, j ≠ i → β.μ.pages[j]? = some q0 → q0.kind = 4 → ∀ off, off < 4096 → β'.σ.mem (β.σ.base + 4096 * j + off) = β.σ.mem (β.σ.base + 4096 * j + off))
    (hpg : ∀ x, x ≠ i → β'.μ.pages[x]? = (β.μ.pages[x]?).map (fun q => { q with prev := if (x : Int) = ps.getD c 0 then (i : Int) else q.prev }))
    (hp' : β'.μ.pages[i]? = some p') (hk : p'.kind = 4) (hcl : p'.cls = c) (hl : p'.next = ps.getD c 0 ∧ p'.prev = -1) (hu : u ≠ []) (hD : CellsOk β'.σ (β.addr i) p' u) :
    SInv β' (ps.set c i) (upd C i u) (upd L c (i :: L c)) := by
  have D := S.lists c hc
  have hh := D.head
  have hhin : ∀ y : Nat, (y : Int) = ps.getD c 0 → y ∈ L c := by
    intro y hy
    cases hL : L c with
    | nil => rw [hL] at hh; have hh : ps.getD c 0 = -1 := hh; omega
    | cons z t =>
      rw [hL] at hh
      have hh : ps.getD c 0 = (z : Int) := hh
      have : y = z := by omega
      simp [this]
  have hNP : ∀ d, d < 8 → ∀ j ∈ L d, nextF β'.μ.pages j = nextF β.μ.pages j ∧ prevF β'.μ.pages j = if (j : Int) = ps.getD c 0 then (i : Int) else prevF β.μ.pages j := by
    intro d hd j hj
    obtain ⟨q, hq, _⟩ := S.cls_of hd hj
    have h := hpg j (by rintro rfl; exact hi d hd hj)
    rw [hq] at h
    rw [nextF_of h, prevF_of h, nextF_of hq, prevF_of hq]
    exact ⟨rfl, rfl⟩
  refine S.turn i u hb (by rw [List.length_set]; exact S.len) (fun j hj => ⟨fun q0 h => ⟨_, by rw [hpg j hj, h]; rfl, sameBut_mk q0 q0.next _⟩, fun q h => ?_⟩) hby (fun q hq _ => ?_) (fun d hd => ?_) (fun d hd => ?_) (fun d hd => ⟨?_, fun j hj => ?_⟩)
  · rw [hpg j hj] at h
    cases h0 : β.μ.pages[j]? with
    | none => rw [h0] at h; simp at h
    | some q0 => exact ⟨q0, rfl⟩
  · obtain rfl : p' = q := Option.some.inj (hp'.symm.trans hq)
    exact hD
  · by_cases e : d = c
    · subst e
      rw [upd_self, List.getD_eq_getElem?_getD, List.getElem?_set_self (by rw [S.len]; omega)]
      exact PL.push D (S.nodup d hd) (fun j hj => (hNP d hd j hj).1) (fun j hj => (hNP d hd j hj).2) ((nextF_of hp').trans hl.1) ((prevF_of hp').trans hl.2)
    · rw [upd_ne _ _ e, List.getD_eq_getElem?_getD, List.getElem?_set_ne (fun h => e h.symm), ← List.getD_eq_getElem?_getD]
      refine PL.congr (fun j hj => ?_) (S.lists d hd)
      obtain ⟨h1, h2⟩ := hNP d hd j hj
      refine ⟨h1, h2.trans (if_neg fun h => ?_)⟩
      exact e (S.one hd hc hj (hhin j h))
  · by_cases e : d = c
    · subst e
      rw [upd_self]
      exact List.nodup_cons.2 ⟨hi d hd, S.nodup d hd⟩
    · rw [upd_ne _ _ e]
      exact S.nodup d hd
  · by_cases e : d = c
    · subst e
      rw [upd_self]
      simp only [List.mem_cons, true_or, true_iff]
      exact ⟨p', hp', hk, hcl, hu⟩
    · rw [upd_ne _ _ e]
      constructor
      · exact fun h => (hi d hd h).elim
      · rintro ⟨q, hq, _, h, _⟩
        obtain rfl : p' = q := Option.some.inj (hp'.symm.trans hq)
        omega
  · by_cases e : d = c
    · subst e
      rw [upd_self]
      simp [hj]
    · rw [upd_ne _ _ e]

end Go.Proofs.YtnjcmcnjgdjbiaaGreatDoor
