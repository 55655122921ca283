/- Plain law of the slab: lists of pages by their descriptions, chains of free cells, the slab's invariant. Conditions: none; no program in sight. -/
import Derived.Test.YtnjcmcnjgdjbiaaGreatDoorLgBine
namespace Go.Proofs.YtnjcmcnjgdjbiaaGreatDoor

/-- from head h (behind pr) on hang the pages l, by their next and previous -/
def PL (N P : Nat → Int) : Int → Int → List Nat → Prop
  | _, h, [] => h = -1
  | pr, h, i :: t => h = i ∧ P i = pr ∧ PL N P i (N i) t

theorem PL.congr {N P N' P' : Nat → Int} : ∀ {l : List Nat} {pr h : Int}, (∀ i ∈ l, N' i = N i ∧ P' i = P i) → PL N P pr h l → PL N' P' pr h l
  | [], _, _, _, D => D
  | i :: t, pr, h, H, D => by
    obtain ⟨h1, h2⟩ := H i (by simp)
    refine ⟨D.1, h2.trans D.2.1, ?_⟩
    rw [h1]
    exact PL.congr (fun j hj => H j (by simp [hj])) D.2.2

theorem PL.congr1 {N P N' P' : Nat → Int} {pr pr' h : Int} : ∀ {l : List Nat}, (∀ i ∈ l, N' i = N i) → (∀ i ∈ l.tail, P' i = P i) → (∀ i ∈ l.head?, P' i = pr') → PL N P pr h l → PL N' P' pr' h l
  | [], _, _, _, D => D
  | i :: t, hn, hp, hh, D => by
    refine ⟨D.1, hh i (by simp), ?_⟩
    rw [hn i (by simp)]
    exact PL.congr (fun j hj => ⟨hn j (by simp [hj]), hp j (by simpa using hj)⟩) D.2.2

def hdI : List Nat → Int
  | [] => -1
  | f :: _ => f
def lsI (pr : Int) (l : List Nat) : Int := match l.getLast? with | none => pr | some y => (y : Int)
theorem lsI_some {pr : Int} {y : Nat} {l : List Nat} (h : l.getLast? = some y) : lsI pr l = y := by unfold lsI; rw [h]

theorem PL.prevOf {N P : Nat → Int} {x : Nat} {t : List Nat} : ∀ {a : List Nat} {pr h : Int}, PL N P pr h (a ++ x :: t) → P x = lsI pr a
  | [], _, _, D => D.2.1
  | [y], _, _, D => D.2.2.2.1
  | y :: z :: a, pr, h, D => by
    have := PL.prevOf (a := z :: a) D.2.2
    obtain ⟨u, hu⟩ := last_some (l := z :: a) (by simp)
    rw [this, lsI_some hu, lsI_some ((List.getLast?_cons_cons).trans hu)]

theorem PL.nextIs {N P : Nat → Int} {x : Nat} {t : List Nat} : ∀ {a : List Nat} {pr h : Int}, PL N P pr h (a ++ x :: t) → N x = hdI t
  | [], _, _, D => by
    have D := D.2.2
    cases t with
    | nil => exact D
    | cons y t => exact D.1
  | _ :: a, _, _, D => PL.nextIs (a := a) D.2.2

theorem PL.remove {N P N' P' : Nat → Int} {x : Nat} {t : List Nat} : ∀ {a : List Nat} {pr h : Int}, PL N P pr h (a ++ x :: t) → (a ++ x :: t).Nodup → (pr = -1 ∨ ∃ q : Nat, pr = q ∧ q ∉ a ++ x :: t) →
    (∀ j ∈ a ++ t, N' j = if (j : Int) = P x then N x else N j) → (∀ j ∈ a ++ t, P' j = if (j : Int) = N x then P x else P j) → PL N' P' pr (if a = [] then N x else h) (a ++ t)
  | [], pr, h, D, M, hq, hN, hP => by
    have hn := D.nextIs (a := [])
    have hp : P x = pr := D.2.1
    simp only [if_true, List.nil_append] at *
    simp only [List.nodup_cons] at M
    refine PL.congr1 (fun i hi => ?_) (fun i hi => ?_) (fun i hi => ?_) D.2.2
    · rw [hN i hi, if_neg]
      intro e
      rcases hq with e0 | ⟨q, eq, hq⟩
      · omega
      · have : q = i := by omega
        exact hq (by simp [this, hi])
    · cases t with
      | nil => simp at hi
      | cons y t =>
        have hi' : i ∈ t := by simpa using hi
        rw [hP i (by simp [hi']), if_neg]
        intro e
        have hn : N x = (y : Int) := hn
        have : y = i := by omega
        subst this
        simp only [List.nodup_cons] at M
        exact M.2.1 hi'
    · cases t with
      | nil => simp at hi
      | cons y t =>
        obtain rfl : y = i := by simpa using hi
        have hn : N x = (y : Int) := hn
        rw [hP y (by simp), if_pos hn.symm, hp]
  | y :: a, pr, h, D, M, hq, hN, hP => by
    have hM := M
    simp only [List.cons_append, List.nodup_cons] at M
    have ih := PL.remove (a := a) D.2.2 M.2 (.inr ⟨y, rfl, M.1⟩) (fun j hj => hN j (by rcases List.mem_append.1 hj with h | h <;> simp [h])) (fun j hj => hP j (by rcases List.mem_append.1 hj with h | h <;> simp [h]))
    have hn := PL.nextIs (a := y :: a) D
    have hp := PL.prevOf (a := y :: a) D
    have hyx : y ≠ x := fun e => M.1 (by simp [e])
    have hyt : y ∉ t := fun e => M.1 (by simp [e])
    refine ⟨by simpa using D.1, ?_, ?_⟩
    · rw [hP y (by simp), if_neg, D.2.1]
      intro e
      cases t with
      | nil => have hn : N x = -1 := hn; omega
      | cons z t =>
        have hn : N x = (z : Int) := hn
        have : z = y := by omega
        exact hyt (by simp [this])
    · rw [hN y (by simp)]
      cases a with
      | nil =>
        have hp1 : P x = (y : Int) := hp
        rw [if_pos hp1.symm]
        simpa using ih
      | cons z a =>
        rw [if_neg]
        · simpa using ih
        intro e
        obtain ⟨u, hu⟩ := last_some (l := z :: a) (by simp)
        rw [lsI_some ((List.getLast?_cons_cons).trans hu)] at hp
        have hm : u ∈ z :: a := List.mem_of_getLast? hu
        have : u = y := by omega
        rw [this] at hm
        exact M.1 (List.mem_append_left _ hm)

theorem PL.push {N P N' P' : Nat → Int} {h : Int} {i : Nat} {l : List Nat} (D : PL N P (-1) h l) (M : l.Nodup) (hN : ∀ j ∈ l, N' j = N j) (hP : ∀ j ∈ l, P' j = if (j : Int) = h then (i : Int) else P j) (ni : N' i = h) (pi : P' i = -1) : PL N' P' (-1) i (i :: l) := by
  refine ⟨rfl, pi, ?_⟩
  rw [ni]
  cases l with
  | nil => exact D
  | cons y t =>
    simp only [List.nodup_cons] at M
    have hh : h = (y : Int) := D.1
    refine PL.congr1 hN (fun j hj => ?_) (fun j hj => ?_) D
    · have hj' : j ∈ t := by simpa using hj
      rw [hP j (by simp [hj']), if_neg]
      intro e
      have : y = j := by omega
      subst this
      exact M.1 hj'
    · obtain rfl : y = j := by simpa using hj
      rw [hP y (by simp), if_pos hh.symm]

theorem PL.head {N P : Nat → Int} {pr h : Int} {l : List Nat} (D : PL N P pr h l) : h = hdI l := by
  cases l with
  | nil => exact D
  | cons i t => exact D.1

/-- the chain of free cells -/
def hdA (at_ wd : Nat) : List Nat → Nat
  | [] => 0
  | f :: _ => at_ + f * wd
def CL (σ : Sp) (at_ wd : Nat) : List Nat → Prop
  | [] => True
  | f :: t => σ.word (at_ + f * wd) = hdA at_ wd t ∧ CL σ at_ wd t

theorem CL.congr {σ σ' : Sp} {at_ wd : Nat} : ∀ {l : List Nat}, (∀ f ∈ l, σ'.word (at_ + f * wd) = σ.word (at_ + f * wd)) → CL σ at_ wd l → CL σ' at_ wd l
  | [], _, _ => trivial
  | f :: t, H, D => ⟨(H f (by simp)).trans D.1, CL.congr (fun g hg => H g (by simp [hg])) D.2⟩

theorem word_setWord (p : Pg) (q q' v : Nat) (h : q < 4) (h' : q' < 4) : (p.setWord q v).word q' = if q' = q then v else p.word q' := by
  have : q = 0 ∨ q = 1 ∨ q = 2 ∨ q = 3 := by omega
  have : q' = 0 ∨ q' = 1 ∨ q' = 2 ∨ q' = 3 := by omega
  rcases ‹q = 0 ∨ _› with rfl | rfl | rfl | rfl <;> rcases ‹q' = 0 ∨ _› with rfl | rfl | rfl | rfl <;> rfl

theorem own_bit (p : Pg) (c x : Nat) (live : Bool) (hc : c < 256) (hx : x < 256) : (p.own c live).bit x = (p.bit x != decide (x = c)) := by
  have e : (p.own c live).bit x = (p.flipBit c).bit x := by
    unfold Pg.bit
    have : ∀ q, (p.own c live).word q = (p.flipBit c).word q := fun q => by
      unfold Pg.own Pg.word
      rfl
    exact congrArg (fun v : Nat => v.testBit (x % 64)) (this (x / 64))
  rw [e]
  unfold Pg.flipBit Pg.bit
  rw [word_setWord _ _ _ _ (by omega) (by omega)]
  by_cases h : x / 64 = c / 64
  · rw [if_pos h, Nat.testBit_xor, Nat.testBit_two_pow, h]
    have : (decide (c % 64 = x % 64)) = decide (x = c) := decide_eq_decide.2 (by omega)
    rw [this]
  · rw [if_neg h]
    have : decide (x = c) = false := decide_eq_false (by rintro rfl; exact h rfl)
    rw [this]
    simp

theorem own_same (p : Pg) (c : Nat) (live : Bool) : (p.own c live).kind = p.kind ∧ (p.own c live).order = p.order ∧ (p.own c live).cls = p.cls ∧ (p.own c live).next = p.next ∧ (p.own c live).prev = p.prev ∧ (p.own c live).first = p.first := by
  unfold Pg.own Pg.flipBit
  have : c / 64 = 0 ∨ c / 64 = 1 ∨ c / 64 = 2 ∨ 3 ≤ c / 64 := by omega
  rcases this with h | h | h | h
  · rw [h]; exact ⟨rfl, rfl, rfl, rfl, rfl, rfl⟩
  · rw [h]; exact ⟨rfl, rfl, rfl, rfl, rfl, rfl⟩
  · rw [h]; exact ⟨rfl, rfl, rfl, rfl, rfl, rfl⟩
  · obtain ⟨n, hn⟩ : ∃ n, c / 64 = n + 3 := ⟨c / 64 - 3, by omega⟩
    rw [hn]; exact ⟨rfl, rfl, rfl, rfl, rfl, rfl⟩

/-- a slab page's cells: fc are the free ones, as their chain goes -/
structure CellsOk (σ : Sp) (at_ : Nat) (p : Pg) (fc : List Nat) : Prop where
  order : p.order = 0
  cls : 0 ≤ p.cls ∧ p.cls < 8
  nodup : fc.Nodup
  mem : ∀ x, x ∈ fc ↔ x < cellsN p.cls ∧ p.bit x = false
  high : ∀ x, cellsN p.cls ≤ x → x < 256 → p.bit x = false
  live : p.live = (cellsN p.cls : Int) - fc.length
  some_ : 0 < p.live
  first : p.first = hdI fc
  chain : CL σ at_ (wdOf p.cls.toNat) fc

def nextF (ps : List Pg) (i : Nat) : Int := (ps.getD i zeroPg).next
def prevF (ps : List Pg) (i : Nat) : Int := (ps.getD i zeroPg).prev
theorem nextF_of {ps : List Pg} {i : Nat} {p : Pg} (h : ps[i]? = some p) : nextF ps i = p.next := by unfold nextF; rw [List.getD_eq_getElem?_getD, h]; rfl
theorem prevF_of {ps : List Pg} {i : Nat} {p : Pg} (h : ps[i]? = some p) : prevF ps i = p.prev := by unfold prevF; rw [List.getD_eq_getElem?_getD, h]; rfl

/-- the slab's invariant: C: the free cells of each slab page, L: the partial lists -/
structure SInv (β : Bu) (ps : List Int) (C : Nat → List Nat) (L : Nat → List Nat) : Prop where
  len : ps.length = 8
  pages : ∀ i p, β.μ.pages[i]? = some p → p.kind = 4 → CellsOk β.σ (β.addr i) p (C i)
  lists : ∀ c, c < 8 → PL (nextF β.μ.pages) (prevF β.μ.pages) (-1) (ps.getD c 0) (L c)
  nodup : ∀ c, c < 8 → (L c).Nodup
  mem : ∀ c, c < 8 → ∀ i, i ∈ L c ↔ ∃ p, β.μ.pages[i]? = some p ∧ p.kind = 4 ∧ p.cls = c ∧ C i ≠ []

theorem CellsOk.bytes {σ σ' : Sp} {at_ : Nat} {p : Pg} {fc : List Nat} (h : CellsOk σ at_ p fc) (hw : ∀ f ∈ fc, σ'.word (at_ + f * wdOf p.cls.toNat) = σ.word (at_ + f * wdOf p.cls.toNat)) : CellsOk σ' at_ p fc :=
  ⟨h.order, h.cls, h.nodup, h.mem, h.high, h.live, h.some_, h.first, CL.congr hw h.chain⟩

theorem wdOf_cells (c : Int) (h : 0 ≤ c ∧ c < 8) : cellsN c * wdOf c.toNat = 4096 ∧ 16 ≤ wdOf c.toNat ∧ wdOf c.toNat ≤ 2048 ∧ 2 ≤ cellsN c ∧ cellsN c ≤ 256 := by
  obtain ⟨n, rfl⟩ := Int.eq_ofNat_of_zero_le h.1
  have hn : n < 8 := by omega
  obtain ⟨u1, u2, u3, u4, u5, u6⟩ := wd_facts hn
  simp only [Int.toNat_natCast]
  rw [← u6]
  exact ⟨u3, u1, u2, u4, u5⟩

/-- cell x of a page lies in the page -/
theorem cell_in (c : Int) (h : 0 ≤ c ∧ c < 8) {x : Nat} (hx : x < cellsN c) : x * wdOf c.toNat + wdOf c.toNat ≤ 4096 := by
  obtain ⟨h1, _⟩ := wdOf_cells c h
  have : (x + 1) * wdOf c.toNat ≤ cellsN c * wdOf c.toNat := Nat.mul_le_mul_right _ hx
  rw [Nat.succ_mul, h1] at this
  exact this

theorem CellsOk.page_bytes {σ σ' : Sp} {b i : Nat} {p : Pg} {fc : List Nat} (h : CellsOk σ (b + 4096 * i) p fc) (hb : ∀ off, off < 4096 → σ'.mem (b + 4096 * i + off) = σ.mem (b + 4096 * i + off)) : CellsOk σ' (b + 4096 * i) p fc := by
  refine h.bytes (fun f hf => leBytes_congr (fun a h1 h2 => ?_))
  have := cell_in p.cls h.cls ((h.mem f).1 hf).1
  have := wdOf_cells p.cls h.cls
  have := hb (a - (b + 4096 * i)) (by omega)
  rwa [show b + 4096 * i + (a - (b + 4096 * i)) = a by omega] at this

/-- what the buddy does beside the slab pages -/
theorem SInv.keeps {β β' : Bu} {ps : List Int} {C L : Nat → List Nat} {O : Nat → Prop} (S : SInv β ps C L) (K : Keeps β β' O) (hO : ∀ i p, β.μ.pages[i]? = some p → p.kind = 4 → ¬ O i) : SInv β' ps C L := by
  have hpg : ∀ (i : Nat) (p : Pg), p.kind = 4 → (β'.μ.pages[i]? = some p ↔ β.μ.pages[i]? = some p) := by
    intro i p h4
    constructor
    · exact fun h => K.slab i p h h4
    · intro h
      rw [K.page i (hO i p h h4)]
      exact h
  refine ⟨S.len, fun i p hp h4 => ?_, fun c hc => ?_, S.nodup, fun c hc i => ?_⟩
  · have hp0 := (hpg i p h4).1 hp
    have := S.pages i p hp0 h4
    unfold Bu.addr at this ⊢
    rw [K.base]
    exact this.page_bytes (fun off ho => K.byte i off (hO i p hp0 h4) ho)
  · refine PL.congr (fun i hi => ?_) (S.lists c hc)
    obtain ⟨p, hp, h4, _⟩ := (S.mem c hc i).1 hi
    have hp' := (hpg i p h4).2 hp
    rw [nextF_of hp, nextF_of hp', prevF_of hp, prevF_of hp']
    exact ⟨rfl, rfl⟩
  · rw [S.mem c hc i]
    constructor
    · rintro ⟨p, hp, h4, h⟩
      exact ⟨p, (hpg i p h4).2 hp, h4, h⟩
    · rintro ⟨p, hp, h4, h⟩
      exact ⟨p, (hpg i p h4).1 hp, h4, h⟩

end Go.Proofs.YtnjcmcnjgdjbiaaGreatDoor
