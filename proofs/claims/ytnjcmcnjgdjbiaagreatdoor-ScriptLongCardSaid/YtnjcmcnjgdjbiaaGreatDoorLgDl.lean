/- Plain law: doubly linked lists in a space's bytes (the free lists of the buddy): what Push and Remove do to them. Conditions: none; no program in sight. -/
import Derived.Test.YtnjcmcnjgdjbiaaGreatDoorLgSlab
namespace Go.Proofs.YtnjcmcnjgdjbiaaGreatDoor

/-- the links of page i: next, previous -/
def nx (σ : Sp) (b i : Nat) : Nat := σ.word (b + 4096 * i)
def pv (σ : Sp) (b i : Nat) : Nat := σ.word (b + 4096 * i + 8)

theorem setWord_at (σ : Sp) (p v : Nat) (hv : v < 18446744073709551616) : (σ.setWord p v).word p = v := Sp.word_here σ p v hv
theorem setWord_off (σ : Sp) (p v q : Nat) (h : q + 8 ≤ p ∨ p + 8 ≤ q) : (σ.setWord p v).word q = σ.word q := Sp.word_far σ p q _ h

theorem nx_setN (σ : Sp) (b i j v : Nat) (hv : v < 18446744073709551616) : nx (σ.setWord (b + 4096 * i) v) b j = if j = i then v else nx σ b j := by
  unfold nx
  split
  · next h => subst h; exact setWord_at _ _ _ hv
  · next h => exact setWord_off _ _ _ _ (by omega)
theorem pv_setN (σ : Sp) (b i j v : Nat) : pv (σ.setWord (b + 4096 * i) v) b j = pv σ b j := by
  unfold pv
  exact setWord_off _ _ _ _ (by omega)
theorem nx_setP (σ : Sp) (b i j v : Nat) : nx (σ.setWord (b + 4096 * i + 8) v) b j = nx σ b j := by
  unfold nx
  exact setWord_off _ _ _ _ (by omega)
theorem pv_setP (σ : Sp) (b i j v : Nat) (hv : v < 18446744073709551616) : pv (σ.setWord (b + 4096 * i + 8) v) b j = if j = i then v else pv σ b j := by
  unfold pv
  split
  · next h => subst h; exact setWord_at _ _ _ hv
  · next h => exact setWord_off _ _ _ _ (by omega)

/-- from head h (whose previous is pr) on hang the pages l -/
def DL (σ : Sp) (b : Nat) : Nat → Nat → List Nat → Prop
  | _, h, [] => h = 0
  | pr, h, i :: t => h = b + 4096 * i ∧ pv σ b i = pr ∧ DL σ b (b + 4096 * i) (nx σ b i) t

theorem DL.congr {σ σ' : Sp} {b : Nat} : ∀ {l : List Nat} {pr h : Nat}, (∀ i ∈ l, nx σ' b i = nx σ b i ∧ pv σ' b i = pv σ b i) → DL σ b pr h l → DL σ' b pr h l
  | [], _, _, _, D => D
  | i :: t, pr, h, H, D => by
    obtain ⟨h1, h2⟩ := H i (by simp)
    refine ⟨D.1, h2.trans D.2.1, ?_⟩
    rw [h1]
    exact DL.congr (fun j hj => H j (by simp [hj])) D.2.2

/-- the like, from a head whose own previous has turned -/
theorem DL.congr1 {σ σ' : Sp} {b pr pr' h : Nat} : ∀ {l : List Nat}, (∀ i ∈ l, nx σ' b i = nx σ b i) → (∀ i ∈ l.tail, pv σ' b i = pv σ b i) → (∀ i ∈ l.head?, pv σ' b i = pr') → DL σ b pr h l → DL σ' b pr' h l
  | [], _, _, _, D => D
  | i :: t, hn, hp, hh, D => by
    refine ⟨D.1, hh i (by simp), ?_⟩
    rw [hn i (by simp)]
    exact DL.congr (fun j hj => ⟨hn j (by simp [hj]), hp j (by simpa using hj)⟩) D.2.2

theorem DL.head {σ : Sp} {b pr h : Nat} {l : List Nat} (b0 : 0 < b) (D : DL σ b pr h l) : (h = 0 ↔ l = []) := by
  cases l with
  | nil => simpa [DL] using D
  | cons i t =>
    have := D.1
    simp
    omega

/-- Push -/
theorem pushed_nx (σ : Sp) (b h i j : Nat) (h64 : h < 18446744073709551616) (hh : h = 0 ∨ ∃ k, h = b + 4096 * k) : nx (pushed σ h (b + 4096 * i)) b j = if j = i then h else nx σ b j := by
  unfold pushed
  split
  · rw [nx_setP, nx_setN _ _ _ _ _ h64]
  · rcases hh with e | ⟨k, e⟩
    · contradiction
    · rw [show (σ.setWord (b + 4096 * i) h |>.setWord (b + 4096 * i + 8) 0).setWord (h + 8) (b + 4096 * i) = (σ.setWord (b + 4096 * i) h |>.setWord (b + 4096 * i + 8) 0).setWord (b + 4096 * k + 8) (b + 4096 * i) by rw [e], nx_setP, nx_setP, nx_setN _ _ _ _ _ h64]

theorem pushed_pv (σ : Sp) (b h i j : Nat) (hi : b + 4096 * i < 18446744073709551616) (hh : h = 0 ∨ ∃ k, k ≠ i ∧ h = b + 4096 * k) : pv (pushed σ h (b + 4096 * i)) b j = if j = i then 0 else if h = b + 4096 * j ∧ h ≠ 0 then b + 4096 * i else pv σ b j := by
  unfold pushed
  split
  · next h0 =>
    rw [pv_setP _ _ _ _ _ (by omega), pv_setN]
    simp [h0]
  · next h0 =>
    rcases hh with e | ⟨k, hk, e⟩
    · contradiction
    · subst e
      rw [pv_setP _ _ _ _ _ hi, pv_setP _ _ _ _ _ (by omega), pv_setN]
      by_cases e1 : j = k
      · subst e1
        rw [if_pos rfl, if_neg hk, if_pos ⟨rfl, h0⟩]
      · by_cases e2 : j = i
        · subst e2; simp [e1]
        · have : ¬ (b + 4096 * k = b + 4096 * j) := by omega
          rw [if_neg e1, if_neg e2, if_neg e2, if_neg (fun h => this h.1)]

theorem DL.pv_pos {σ : Sp} {b k : Nat} (b0 : 0 < b) : ∀ {l : List Nat} {pr h : Nat}, pr ≠ 0 → DL σ b pr h l → k ∈ l → pv σ b k ≠ 0
  | [], _, _, _, _, hk => by simp at hk
  | i :: t, pr, h, hp, D, hk => by
    rcases List.mem_cons.1 hk with rfl | hk
    · rw [D.2.1]; exact hp
    · exact DL.pv_pos b0 (by omega) D.2.2 hk

theorem DL.push {σ : Sp} {b h i : Nat} {l : List Nat} (b0 : 0 < b) (hi : i ∉ l) (top : ∀ j ∈ i :: l, b + 4096 * j < 18446744073709551616) (D : DL σ b 0 h l) : DL (pushed σ h (b + 4096 * i)) b 0 (b + 4096 * i) (i :: l) := by
  have hh : h = 0 ∨ ∃ k, k ≠ i ∧ h = b + 4096 * k ∧ k ∈ l := by
    cases l with
    | nil => exact .inl D
    | cons k t => exact .inr ⟨k, fun e => hi (by simp [e]), D.1, by simp⟩
  have hh1 : h = 0 ∨ ∃ k, h = b + 4096 * k := hh.imp id (fun ⟨k, _, e, _⟩ => ⟨k, e⟩)
  have hh2 : h = 0 ∨ ∃ k, k ≠ i ∧ h = b + 4096 * k := hh.imp id (fun ⟨k, n, e, _⟩ => ⟨k, n, e⟩)
  have h64 : h < 18446744073709551616 := by
    rcases hh with e | ⟨k, _, e, hk⟩
    · omega
    · rw [e]; exact top k (by simp [hk])
  have hi64 := top i (by simp)
  refine ⟨rfl, ?_, ?_⟩
  · rw [pushed_pv σ b h i i hi64 hh2]; simp
  · rw [pushed_nx σ b h i i h64 hh1]
    simp only [if_true]
    cases l with
    | nil => exact D
    | cons k t =>
      have hki : k ≠ i := fun e => hi (by simp [e])
      have hh0 := D.1
      refine ⟨D.1, ?_, ?_⟩
      · rw [pushed_pv σ b h i k hi64 hh2]
        simp only [hki, if_false]
        rw [if_pos ⟨hh0, by omega⟩]
      · rw [pushed_nx σ b h i k h64 hh1]
        simp only [hki, if_false]
        by_cases hkt : k ∈ t
        · -- a list with a page twice has no end
          exact (DL.pv_pos b0 (by omega) D.2.2 hkt D.2.1).elim
        · refine DL.congr (fun j hj => ?_) D.2.2
          have hji : j ≠ i := fun e => hi (by simp [e ▸ hj])
          have hjk : j ≠ k := fun e => hkt (e ▸ hj)
          rw [pushed_nx σ b h i j h64 hh1, pushed_pv σ b h i j hi64 hh2]
          have : ¬ (h = b + 4096 * j ∧ h ≠ 0) := by omega
          simp [hji, this]

theorem last_some {α : Type} {l : List α} (h : l ≠ []) : ∃ u, l.getLast? = some u := by
  cases hl : l.getLast? with
  | none => exact (h (List.getLast?_eq_none_iff.1 hl)).elim
  | some u => exact ⟨u, rfl⟩

/-- the address of a list's first page, of its last -/
def hdP (b : Nat) : List Nat → Nat
  | [] => 0
  | y :: _ => b + 4096 * y
def lsP (b pr : Nat) (l : List Nat) : Nat := match l.getLast? with | none => pr | some y => b + 4096 * y
theorem lsP_some {b pr y : Nat} {l : List Nat} (h : l.getLast? = some y) : lsP b pr l = b + 4096 * y := by unfold lsP; rw [h]

/-- the previous of a page in the middle -/
theorem DL.prevOf {σ : Sp} {b x : Nat} {t : List Nat} : ∀ {a : List Nat} {pr h : Nat}, DL σ b pr h (a ++ x :: t) → pv σ b x = lsP b pr a
  | [], _, _, D => D.2.1
  | [y], _, _, D => D.2.2.2.1
  | y :: z :: a, pr, h, D => by
    have := DL.prevOf (a := z :: a) D.2.2
    obtain ⟨u, hu⟩ := last_some (l := z :: a) (by simp)
    rw [this, lsP_some hu, lsP_some ((List.getLast?_cons_cons).trans hu)]

theorem DL.nextOf {σ : Sp} {b x y : Nat} {t : List Nat} : ∀ {a : List Nat} {pr h : Nat}, DL σ b pr h (a ++ y :: x :: t) → nx σ b y = b + 4096 * x
  | [], _, _, D => D.2.2.1
  | _ :: a, _, _, D => DL.nextOf (a := a) D.2.2

theorem DL.nx0 {σ : Sp} {b x : Nat} : ∀ {a : List Nat} {pr h : Nat}, DL σ b pr h (a ++ [x]) → nx σ b x = 0
  | [], _, _, D => D.2.2
  | _ :: a, _, _, D => DL.nx0 (a := a) D.2.2

/-- the next of a page in the middle -/
theorem DL.nextIs {σ : Sp} {b x : Nat} {a t : List Nat} {pr h : Nat} (D : DL σ b pr h (a ++ x :: t)) : nx σ b x = hdP b t := by
  cases t with
  | nil => exact DL.nx0 D
  | cons y t => exact DL.nextOf D

theorem removed_nx (σ : Sp) (b next prev j : Nat) (n64 : next < 18446744073709551616) (hn : next = 0 ∨ ∃ k, next = b + 4096 * k) (hp : prev = 0 ∨ ∃ k, prev = b + 4096 * k) :
    nx (removed σ next prev) b j = if prev = b + 4096 * j ∧ prev ≠ 0 then next else nx σ b j := by
  have h1 : nx (removed1 σ next prev) b j = if prev = b + 4096 * j ∧ prev ≠ 0 then next else nx σ b j := by
    unfold removed1
    split
    · next h => simp [h]
    · next h =>
      obtain ⟨k, e⟩ := hp.resolve_left h
      subst e
      rw [nx_setN _ _ _ _ _ n64]
      by_cases e : j = k
      · subst e; rw [if_pos rfl, if_pos ⟨rfl, h⟩]
      · have : ¬ (b + 4096 * k = b + 4096 * j) := by omega
        rw [if_neg e, if_neg (fun h => this h.1)]
  unfold removed
  split
  · exact h1
  · next h =>
    obtain ⟨k, e⟩ := hn.resolve_left h
    rw [← h1]
    generalize removed1 σ next prev = τ
    rw [e, nx_setP]

theorem removed_pv (σ : Sp) (b next prev j : Nat) (p64 : prev < 18446744073709551616) (hn : next = 0 ∨ ∃ k, next = b + 4096 * k) (hp : prev = 0 ∨ ∃ k, prev = b + 4096 * k) :
    pv (removed σ next prev) b j = if next = b + 4096 * j ∧ next ≠ 0 then prev else pv σ b j := by
  have h1 : pv (removed1 σ next prev) b j = pv σ b j := by
    unfold removed1
    split
    · rfl
    · next h =>
      obtain ⟨k, e⟩ := hp.resolve_left h
      rw [e, pv_setN]
  unfold removed
  split
  · next h => rw [h1]; simp [h]
  · next h =>
    obtain ⟨k, e⟩ := hn.resolve_left h
    rw [← h1]
    generalize removed1 σ next prev = τ
    rw [e, pv_setP _ _ _ _ _ p64]
    rw [e] at h
    by_cases e : j = k
    · subst e; rw [if_pos rfl, if_pos ⟨rfl, h⟩]
    · have : ¬ (b + 4096 * k = b + 4096 * j) := by omega
      rw [if_neg e, if_neg (fun h => this h.1)]

/-- Remove -/
theorem DL.remove {σ : Sp} {b x next prev : Nat} {t : List Nat} (b0 : 0 < b) (hnx : next = nx σ b x) (hpv : prev = pv σ b x) (n64 : next < 18446744073709551616) (p64 : prev < 18446744073709551616) :
    ∀ {a : List Nat} {pr h : Nat}, DL σ b pr h (a ++ x :: t) → (a ++ x :: t).Nodup → (pr = 0 ∨ ∃ q, pr = b + 4096 * q ∧ q ∉ a ++ x :: t) → DL (removed σ next prev) b pr (if a = [] then next else h) (a ++ t)
  | [], pr, h, D, N, hq => by
    have hn := D.nextIs (a := [])
    have hp : prev = pr := hpv.trans D.2.1
    rw [← hnx] at hn
    have hn' : next = 0 ∨ ∃ k, next = b + 4096 * k := by
      cases t with
      | nil => exact .inl hn
      | cons y t => exact .inr ⟨y, hn⟩
    have hp' : prev = 0 ∨ ∃ k, prev = b + 4096 * k := by rw [hp]; exact hq.imp id (fun ⟨q, e, _⟩ => ⟨q, e⟩)
    have D2 := D.2.2
    rw [← hnx] at D2
    simp only [if_true, List.nil_append]
    simp only [List.nil_append, List.nodup_cons] at N
    refine DL.congr1 (fun i hi => ?_) (fun i hi => ?_) (fun i hi => ?_) D2
    · rw [removed_nx _ _ _ _ _ n64 hn' hp']
      rw [if_neg]
      rintro ⟨e, ne⟩
      rcases hq with e0 | ⟨q, eq, hq⟩
      · exact ne (hp.trans e0)
      · have : q = i := by omega
        exact hq (by simp [this, hi])
    · rw [removed_pv _ _ _ _ _ p64 hn' hp']
      rw [if_neg]
      rintro ⟨e, ne⟩
      cases t with
      | nil => simp at hi
      | cons y t =>
        have hn : next = b + 4096 * y := hn
        have : y = i := by omega
        subst this
        simp only [List.nodup_cons] at N
        exact N.2.1 (by simpa using hi)
    · rw [removed_pv _ _ _ _ _ p64 hn' hp']
      cases t with
      | nil => simp at hi
      | cons y t =>
        obtain rfl : y = i := by simpa using hi
        have hn : next = b + 4096 * y := hn
        rw [if_pos ⟨hn, by omega⟩, hp]
  | y :: a, pr, h, D, N, hq => by
    have hN := N
    simp only [List.cons_append, List.nodup_cons] at N
    have ih := DL.remove b0 hnx hpv n64 p64 (a := a) D.2.2 N.2 (.inr ⟨y, rfl, N.1⟩)
    have hn := DL.nextIs (a := y :: a) D
    have hp := DL.prevOf (a := y :: a) D
    rw [← hnx] at hn
    rw [← hpv] at hp
    have hn' : next = 0 ∨ ∃ k, next = b + 4096 * k := by
      cases t with
      | nil => exact .inl hn
      | cons z t => exact .inr ⟨z, hn⟩
    have hp' : prev = 0 ∨ ∃ k, prev = b + 4096 * k := by
      obtain ⟨z, hz⟩ := last_some (l := y :: a) (by simp)
      rw [lsP_some hz] at hp
      exact .inr ⟨z, hp⟩
    have hyx : y ≠ x := fun e => N.1 (by simp [e])
    have hyt : y ∉ t := fun e => N.1 (by simp [e])
    refine ⟨by simpa using D.1, ?_, ?_⟩
    · rw [removed_pv _ _ _ _ _ p64 hn' hp', if_neg, D.2.1]
      rintro ⟨e, ne⟩
      cases t with
      | nil => exact ne hn
      | cons z t =>
        have hn : next = b + 4096 * z := hn
        have : z = y := by omega
        exact hyt (by simp [this])
    · rw [removed_nx _ _ _ _ _ n64 hn' hp']
      cases a with
      | nil =>
        have hp1 : prev = b + 4096 * y := hp
        rw [if_pos ⟨hp1, by omega⟩]
        simpa using ih
      | cons z a =>
        rw [if_neg]
        · simpa using ih
        rintro ⟨e, ne⟩
        obtain ⟨u, hu⟩ := last_some (l := z :: a) (by simp)
        rw [lsP_some ((List.getLast?_cons_cons).trans hu)] at hp
        have hm : u ∈ z :: a := List.mem_of_getLast? hu
        have : u = y := by omega
        rw [this] at hm
        exact N.1 (List.mem_append_left _ hm)

/-- a page's neighbours point back -/
theorem DL.neigh {σ : Sp} {b h x : Nat} {a t : List Nat} (b0 : 0 < b) (D : DL σ b 0 h (a ++ x :: t)) (N : (a ++ x :: t).Nodup) :
    (pv σ b x = 0 ↔ b + 4096 * x = h) ∧ (pv σ b x ≠ 0 → ∃ y ∈ a, pv σ b x = b + 4096 * y ∧ nx σ b y = b + 4096 * x) ∧ (nx σ b x ≠ 0 → ∃ y ∈ t, nx σ b x = b + 4096 * y ∧ pv σ b y = b + 4096 * x) ∧ (pv σ b x = 0 ↔ a = []) := by
  have hp := D.prevOf
  have hn := D.nextIs
  refine ⟨?_, ?_, ?_, ?_⟩
  · cases a with
    | nil =>
      have h1 : pv σ b x = 0 := hp
      have h2 := D.1
      simp [h1, h2]
    | cons y a =>
      have h1 := D.1
      obtain ⟨z, hz⟩ := last_some (l := y :: a) (by simp)
      rw [lsP_some hz] at hp
      have h2 : y ≠ x := by
        rintro rfl
        simp at N
      constructor
      · intro e; omega
      · intro e; omega
  · intro ne
    rcases List.eq_nil_or_concat a with rfl | ⟨a', y, rfl⟩
    · exact (ne hp).elim
    · refine ⟨y, by simp, ?_, ?_⟩
      · rw [hp]; exact lsP_some (by simp)
      · rw [List.concat_eq_append, List.append_assoc] at D
        exact DL.nextOf D
  · intro ne
    cases t with
    | nil => exact (ne hn).elim
    | cons y t =>
      refine ⟨y, by simp, hn, ?_⟩
      have D' : DL σ b 0 h ((a ++ [x]) ++ y :: t) := by simpa using D
      exact D'.prevOf.trans (lsP_some (by simp))
  · cases a with
    | nil => simpa [lsP] using hp
    | cons y a =>
      obtain ⟨z, hz⟩ := last_some (l := y :: a) (by simp)
      rw [lsP_some hz] at hp
      simp
      omega

/-- bytes that Push and Remove leave -/
theorem put_mem (σ : Sp) (p a : Nat) (bs : List Nat) (h : a < p ∨ p + bs.length ≤ a) : (σ.put p bs).mem a = σ.mem a := by
  unfold Sp.put
  simp only
  rw [if_neg (by omega)]

theorem setWord_mem (σ : Sp) (p v a : Nat) (h : a < p ∨ p + 8 ≤ a) : (σ.setWord p v).mem a = σ.mem a := put_mem σ p a _ h

theorem pushed_mem (σ : Sp) (b h i x off : Nat) (ho : off < 4096) (hi : x ≠ i) (hh : h = 0 ∨ ∃ k, k ≠ x ∧ h = b + 4096 * k) : (pushed σ h (b + 4096 * i)).mem (b + 4096 * x + off) = σ.mem (b + 4096 * x + off) := by
  unfold pushed
  split
  · rw [setWord_mem _ _ _ _ (by omega), setWord_mem _ _ _ _ (by omega)]
  · rcases hh with e | ⟨k, hk, e⟩
    · contradiction
    · rw [setWord_mem _ _ _ _ (by omega), setWord_mem _ _ _ _ (by omega), setWord_mem _ _ _ _ (by omega)]

theorem removed_mem (σ : Sp) (b next prev x off : Nat) (ho : off < 4096) (hn : next = 0 ∨ ∃ k, k ≠ x ∧ next = b + 4096 * k) (hp : prev = 0 ∨ ∃ k, k ≠ x ∧ prev = b + 4096 * k) : (removed σ next prev).mem (b + 4096 * x + off) = σ.mem (b + 4096 * x + off) := by
  have h1 : (removed1 σ next prev).mem (b + 4096 * x + off) = σ.mem (b + 4096 * x + off) := by
    unfold removed1
    split
    · rfl
    · next h =>
      obtain ⟨k, hk, e⟩ := hp.resolve_left h
      rw [setWord_mem _ _ _ _ (by omega)]
  unfold removed
  split
  · exact h1
  · next h =>
    obtain ⟨k, hk, e⟩ := hn.resolve_left h
    rw [setWord_mem _ _ _ _ (by omega), h1]

end Go.Proofs.YtnjcmcnjgdjbiaaGreatDoor
