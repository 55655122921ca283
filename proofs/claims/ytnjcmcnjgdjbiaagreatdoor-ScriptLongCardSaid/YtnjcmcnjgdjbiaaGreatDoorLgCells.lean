/- Slab's Take under the heap's invariant. Conditions: the invariant. -/
import Derived.Test.YtnjcmcnjgdjbiaaGreatDoorLgLive
namespace Go.Proofs.YtnjcmcnjgdjbiaaGreatDoor

theorem CL_range {σ : Sp} {at_ wd : Nat} : ∀ (m a : Nat), (∀ j, a ≤ j → j < a + m → σ.word (at_ + j * wd) = if j + 1 = a + m then 0 else at_ + (j + 1) * wd) → CL σ at_ wd (List.range' a m)
  | 0, _, _ => trivial
  | m + 1, a, H => by
    rw [List.range'_succ]
    refine ⟨?_, CL_range m (a + 1) (fun j h1 h2 => by rw [H j (by omega) (by omega), show a + (m + 1) = a + 1 + m by omega])⟩
    rw [H a (Nat.le_refl _) (by omega)]
    cases m with
    | zero => rw [if_pos rfl]; rfl
    | succ m =>
      rw [if_neg (by omega), List.range'_succ]
      rfl

theorem bornPg_bits (c : Nat) (x : Nat) : (bornPg c).bit x = false := by
  unfold Pg.bit
  have : (bornPg c).word (x / 64) = 0 := by
    unfold Pg.word
    split <;> rfl
  rw [this]
  exact Nat.zero_testBit _

theorem bornK_mem (σ : Sp) (at_ wd n : Nat) (a : Nat) : ∀ k, (∀ j, j < k → a < at_ + j * wd ∨ at_ + j * wd + 8 ≤ a) → (bornK σ at_ wd n k).mem a = σ.mem a
  | 0, _ => rfl
  | k + 1, H => by
    unfold bornK
    rw [put_mem _ _ _ _ (H k (by omega))]
    exact bornK_mem σ at_ wd n a k (fun j hj => H j (by omega))

/-- bytes outside the page are kept -/
theorem born_far (σ : Sp) (b i c x off : Nat) (hc : c < 8) (hx : x ≠ i) (ho : off < 4096) : (bornK σ (b + 4096 * i) (wdOf c) (4096 / wdOf c) (4096 / wdOf c)).mem (b + 4096 * x + off) = σ.mem (b + 4096 * x + off) := by
  refine bornK_mem _ _ _ _ _ _ (fun j hj => ?_)
  obtain ⟨u1, u2, u3, u4, u5, u6⟩ := wd_facts hc
  have : (j + 1) * wdOf c ≤ 4096 / wdOf c * wdOf c := Nat.mul_le_mul_right _ hj
  rw [u3, Nat.succ_mul] at this
  omega

/-- a page that was born and lost its first cell -/
def cellPg (c : Nat) : Pg := (bornPg c).take 0 1

theorem newCell_eq (β : Bu) (i c : Nat) : β.newCell i c = ⟨bornK β.σ (β.addr i) (wdOf c) (4096 / wdOf c) (4096 / wdOf c), β.μ.setPage i (cellPg c), β.heads⟩ := by
  unfold Bu.newCell Bu.born SlRep.hung cellPg
  simp only [Mp.setPage_set]

theorem cellPg_ok (σ : Sp) (b i c : Nat) (hc : c < 8) (h64 : b + 4096 * i + 4096 < 18446744073709551616) :
    CellsOk (bornK σ (b + 4096 * i) (wdOf c) (4096 / wdOf c) (4096 / wdOf c)) (b + 4096 * i) (cellPg c) (List.range' 1 (cellsN c - 1)) := by
  obtain ⟨u1, u2, u3, u4, u5, u6⟩ := wd_facts hc
  have hcls : (cellPg c).cls = (c : Int) := rfl
  have hbit : ∀ x, x < 256 → (cellPg c).bit x = decide (x = 0) := by
    intro x hx
    have h : (cellPg c).bit x = ((bornPg c).bit x != decide (x = 0)) := own_bit (bornPg c) 0 x true (by omega) hx
    rw [h, bornPg_bits]
    cases decide (x = 0) <;> rfl
  rw [u6] at u3 u4 u5 ⊢
  refine ⟨rfl, ⟨by rw [hcls]; omega, by rw [hcls]; omega⟩, List.nodup_range' .., fun x => ?_, fun x h1 h2 => ?_, ?_, ?_, ?_, ?_⟩
  · rw [hcls, List.mem_range'_1]
    constructor
    · intro h
      refine ⟨by omega, ?_⟩
      rw [hbit x (by omega), decide_eq_false (by omega)]
    · rintro ⟨h1, h2⟩
      rw [hbit x (by omega)] at h2
      have := of_decide_eq_false h2
      omega
  · rw [hcls] at h1
    rw [hbit x h2, decide_eq_false (by omega)]
  · rw [hcls, List.length_range']
    show (0 : Int) + 1 = _
    omega
  · show (0 : Int) < 0 + 1
    decide
  · obtain ⟨m, hm⟩ : ∃ m, cellsN c - 1 = m + 1 := ⟨cellsN c - 2, by omega⟩
    rw [hm, List.range'_succ]
    rfl
  · rw [hcls, Int.toNat_natCast]
    refine CL_range _ _ (fun j h1 h2 => ?_)
    rw [bornK_word (by omega) (by rw [u3]; omega) (cellsN c) j (Nat.le_refl _) (by omega)]
    unfold bornW
    by_cases e : j + 1 = cellsN c
    · rw [if_pos e, if_pos (by omega)]
    · rw [if_neg e, if_neg (by omega)]

/-- the heap behind Take out of a page that the pool told -/
theorem HS.newCell {β β1 : Bu} {ps : List Int} {F F1 C L : Nat → List Nat} (I : HS β ps F C L) {i c : Nat} (hc : c < 8) (he : ps.getD c 0 = -1) (N : Needs β β1 F F1 i 0) :
    HS (β1.newCell i c) (ps.set c i) F1 (upd C i (List.range' 1 (cellsN c - 1))) (upd L c (i :: L c)) ∧ More β (β1.newCell i c) (β1.addr i) (wdOf c) ∧ (β1.newCell i c).σ.n = β1.σ.n := by
  obtain ⟨u1, u2, u3, u4, u5, u6⟩ := wd_facts hc
  have hpi := N.blk.page (inb_self i 0)
  have hil := (List.getElem?_eq_some_iff.1 hpi).1
  have htop := N.inv.top
  have S1 : SInv β1 ps C L := I.slab.kept N.kept (fun j p hp h4 => I.inv.notOpen hp (.inr (.inr h4)))
  have h2i : ∀ y, Inb i 0 y ↔ y = i := fun y => by unfold Inb; omega
  have hni : ∀ q, β1.μ.pages[i]? = some q → q.kind = 2 := by
    intro q hq
    rw [← Option.some.inj (hpi.symm.trans hq)]
    simp [runPg, plainPg]
  obtain ⟨bs1, bs2, bs3, bs4, bs5⟩ := bornK_same β1.σ (β1.addr i) (wdOf c) (4096 / wdOf c) (4096 / wdOf c)
  -- the buddy
  have I1 := N.inv.openLive N.blk
  have hfar : ∀ x off, x ≠ i → off < 4096 → (bornK β1.σ (β1.addr i) (wdOf c) (4096 / wdOf c) (4096 / wdOf c)).mem (β1.σ.base + 4096 * x + off) = β1.σ.mem (β1.σ.base + 4096 * x + off) := fun x off hx ho => born_far β1.σ β1.σ.base i c x off hc hx ho
  have I2 := I1.write' bs1 (fun k hk x hx off ho => hfar x off (by
    rintro rfl
    exact I1.apart k hk x hx x (.inr (inb_self _ _)) (inb_self _ _)) (by omega))
  have I3 := I2.slab (i := i) (p := cellPg c) (.inr (inb_self _ _)) rfl rfl
  have hH : (fun y => (NoHole y ∨ Inb i 0 y) ∧ y ≠ i) = NoHole := funext fun y => propext ⟨fun h => by
    rcases h.1 with h' | h'
    · exact h'
    · exact h.2 ((h2i y).1 h'), fun h => h.elim⟩
  rw [hH] at I3
  have hLc : L c = [] := by
    have := (S1.lists c hc).head
    rw [he] at this
    cases hL : L c with
    | nil => rfl
    | cons y t => rw [hL] at this; simp only [hdI] at this; omega
  have hnot : ∀ d, d < 8 → i ∉ L d := by
    intro d hd hm
    obtain ⟨q, hq, h4, _⟩ := S1.cls_of hd hm
    have := hni q hq
    omega
  have hset : (β1.μ.setPage i (cellPg c)).pages[i]? = some (cellPg c) := List.getElem?_set_self hil
  have hne : ∀ x, x ≠ i → (β1.μ.setPage i (cellPg c)).pages[x]? = β1.μ.pages[x]? := fun x h => List.getElem?_set_ne (fun e => h e.symm)
  have hu : List.range' 1 (cellsN c - 1) ≠ [] := by
    rw [u6] at u4
    intro e
    have := congrArg List.length e
    rw [List.length_range'] at this
    simp at this
    omega
  have S2 : SInv (β1.newCell i c) (ps.set c i) (upd C i (List.range' 1 (cellsN c - 1))) (upd L c (i :: L c)) := by
    rw [newCell_eq]
    refine S1.hang (p' := cellPg c) hc hnot bs1 (fun j q0 hj _ _ off ho => hfar j off hj ho) (fun x hx => ?_) hset rfl rfl ⟨?_, rfl⟩ hu (cellPg_ok _ _ _ _ hc (by omega))
    · show (β1.μ.setPage i (cellPg c)).pages[x]? = _
      rw [hne x hx]
      have : ∀ q : Pg, ({ q with prev := if (x : Int) = ps.getD c 0 then (i : Int) else q.prev } : Pg) = q := fun q => by rw [if_neg (by rw [he]; omega)]
      simp only [this]
      simp
    · rw [he]; rfl
  have ho' : (β1.newCell i c).μ.order = β1.μ.order := by rw [newCell_eq]; rfl
  have hl' : (β1.newCell i c).μ.pages.length = β1.μ.pages.length := by rw [newCell_eq]; exact List.length_set ..
  have hn' : (β1.newCell i c).σ.n = β1.σ.n := by rw [newCell_eq]; exact bs5
  refine ⟨⟨?_, S2, ?_⟩, ?_, hn'⟩
  · rw [newCell_eq]
    exact I3
  · have M := N.nums
    refine ⟨?_, ?_, ?_, ?_, ?_, ?_, ?_⟩
    · rw [hl', hn', ho']; exact M.full
    · rw [ho', newCell_eq]; show (bornK _ _ _ _ _).size = _; rw [bs4]; exact M.size
    · rw [hn', newCell_eq]; show _ ≤ (bornK _ _ _ _ _).limit; rw [bs2]; exact M.le
    · rw [ho', newCell_eq]; show (bornK _ _ _ _ _).limit * _ ≤ _; rw [bs2]; exact M.pages
    · rw [ho', newCell_eq]; show (bornK _ _ _ _ _).base + 4096 * ((bornK _ _ _ _ _).limit * _) ≤ _; rw [bs1, bs2]; exact M.top
    · rw [ho', newCell_eq]; show (bornK _ _ _ _ _).order = _; rw [bs3]; exact M.so
    · rw [ho', newCell_eq]; show (bornK _ _ _ _ _).base % _ = _; rw [bs1]; exact M.al
  · -- the live blocks
    have M1 := N.more I.inv (Nat.zero_le _)
    have ha1 : ∀ j, β1.addr j = β.addr j := fun j => by unfold Bu.addr; rw [N.kept.base]
    have ha2 : ∀ j, (β1.newCell i c).addr j = β1.addr j := fun j => by unfold Bu.addr; rw [newCell_eq]; rw [bs1]
    have hpages : (β1.newCell i c).μ.pages = (β1.μ.setPage i (cellPg c)).pages := by rw [newCell_eq]
    have hpi' : ∀ {a k : Nat}, BlkAt β.μ.pages a k 2 → ¬ Inb a k i := by
      intro a k hb hx
      rcases N.new i (inb_self _ _) with h | h
      · exact hb.notOpen I.inv hx h
      · have := hb.le; have := hx.2; omega
    have hc4 : ∀ {j : Nat} {q : Pg}, β.μ.pages[j]? = some q → q.kind = 4 → j ≠ i := by
      rintro j q hq h4 rfl
      have h1 := N.kept.page j (List.getElem?_eq_some_iff.1 hq).1 (I.inv.notOpen hq (.inr (.inr h4)))
      have := hni q (h1.trans hq)
      omega
    refine ⟨by rw [newCell_eq]; exact bs1.trans N.kept.base, ho'.trans N.kept.order, by rw [newCell_eq]; exact bs2.trans N.kept.limit, fun P S => ?_, ?_, fun P S h q h1 h2 => ?_⟩
    · constructor
      · rintro (⟨a, k, hk, hb, rfl, rfl⟩ | ⟨j, d, x, hd, ⟨q, hq, h4, hdl, hx, hbx⟩, rfl, rfl⟩)
        · rw [hpages] at hb
          have hia : ¬ Inb a k i := by
            intro hx
            have e := Option.some.inj (hset.symm.trans (hb.page hx))
            have : (cellPg c).kind = 4 := rfl
            rw [e] at this
            simp only [runPg, plainPg] at this
            split at this <;> omega
          have hb1 : BlkAt β1.μ.pages a k 2 := hb.far (fun x hx => (hne x (by rintro rfl; exact hia hx)).symm)
          rcases (M1.live _ _).1 (.inl ⟨a, k, by rw [← ho']; exact hk, hb1, rfl, rfl⟩) with h | ⟨h1, h2⟩
          · left; rw [ha2]; exact h
          · have : a = i := by unfold Bu.addr at h1; have := N.kept.base; omega
            subst this
            exact (hia (inb_self _ _)).elim
        · rw [hpages] at hq
          by_cases e : j = i
          · subst e
            obtain rfl : cellPg c = q := Option.some.inj (hset.symm.trans hq)
            have hdc : d = c := by
              have : ((c : Nat) : Int) = d := hdl
              omega
            subst hdc
            have hb0 : (cellPg d).bit x = decide (x = 0) := by
              have hle : cellsN d ≤ 256 := by omega
              have h : (cellPg d).bit x = ((bornPg d).bit x != decide (x = 0)) := own_bit (bornPg d) 0 x true (by omega) (by omega)
              rw [h, bornPg_bits]
              cases decide (x = 0) <;> rfl
            rw [hb0] at hbx
            have : x = 0 := of_decide_eq_true hbx
            subst this
            right
            rw [ha2]
            exact ⟨by omega, rfl⟩
          · rw [hne j e] at hq
            have hq0 := N.kept.slab j q hq h4
            left
            right
            exact ⟨j, d, x, hd, ⟨q, hq0, h4, hdl, hx, hbx⟩, by rw [ha2, ha1], rfl⟩
      · rintro ((⟨a, k, hk, hb, rfl, rfl⟩ | ⟨j, d, x, hd, ⟨q, hq, h4, hdl, hx, hbx⟩, rfl, rfl⟩) | ⟨rfl, rfl⟩)
        · have hia := hpi' hb
          refine .inl ⟨a, k, by rw [ho', N.kept.order]; exact hk, ?_, by rw [ha2, ha1], rfl⟩
          rw [hpages]
          exact (hb.kept I.inv N.kept).far (fun x hx => hne x (by rintro rfl; exact hia hx))
        · have hji := hc4 hq h4
          refine .inr ⟨j, d, x, hd, ⟨q, ?_, h4, hdl, hx, hbx⟩, by rw [ha2, ha1], rfl⟩
          rw [hpages, hne j hji]
          exact (N.kept.page j (List.getElem?_eq_some_iff.1 hq).1 (I.inv.notOpen hq (.inr (.inr h4)))).trans hq
        · refine .inr ⟨i, c, 0, hc, ⟨cellPg c, by rw [hpages]; exact hset, rfl, rfl, by omega, ?_⟩, by rw [ha2]; omega, rfl⟩
          have h : (cellPg c).bit 0 = ((bornPg c).bit 0 != decide (0 = 0)) := own_bit (bornPg c) 0 0 true (by omega) (by omega)
          rw [h, bornPg_bits]
          rfl
    · rintro (⟨a, k, hk, hb, e, e2⟩ | ⟨j, d, x, hd, ⟨q, hq, h4, hdl, hx, hbx⟩, e, e2⟩)
      · have := pow0 k
        have := wdOf_pos hc
        omega
      · have := cell_lt hd hx
        have := wdOf_pos hd
        rw [ha1] at e
        unfold Bu.addr at e
        have : j = i := by omega
        exact hc4 hq h4 this
    · obtain ⟨x, off, q', rfl, ho, hp, hk⟩ := h.pages h1 h2
      rw [← N.kept.bytes I.inv h h1 h2, newCell_eq, ← N.kept.base]
      refine hfar x off ?_ ho
      rintro rfl
      rcases N.new x (inb_self _ _) with h' | h'
      · exact I.inv.notOpen hp hk h'
      · have := (List.getElem?_eq_some_iff.1 hp).1
        omega

end Go.Proofs.YtnjcmcnjgdjbiaaGreatDoor
