/- The examples' heap under one small block after another: how many are live, and when there is no room. Conditions: none. -/
import Derived.Test.YtnjcmcnjgdjbiaaGreatDoorLgCount
namespace Go.Proofs.YtnjcmcnjgdjbiaaGreatDoor
open Go.RowKit

/-- a new heap keeps the invariant -/
theorem fresh_HS {base limit order : Nat} (h : mayB base limit order = true) : HS (Bu.fresh base limit order) noParts (fun _ => []) (fun _ => []) (fun _ => []) := by
  unfold mayB at h
  have h := of_decide_eq_true h
  simp only [Int.toNat_natCast] at h
  obtain ⟨-, h2, h3, h4, h5, h6, h7, h8, h9⟩ := h
  have e5 : ((limit * 2 ^ order : Nat) : Int) = (limit : Int) * 2 ^ order := by rw [Int.natCast_mul, Int.natCast_pow]; rfl
  have h5' : limit * 2 ^ order ≤ 1024 := by rw [← e5] at h5; omega
  have h9' : 4096 * 2 ^ order * limit + base ≤ 9223372036854775808 := by
    have e9 : ((4096 * 2 ^ order * limit : Nat) : Int) = 4096 * 2 ^ order * (limit : Int) := by rw [Int.natCast_mul, Int.natCast_mul, Int.natCast_pow]; rfl
    rw [← e9] at h9
    omega
  have hm : 4096 * (limit * 2 ^ order) = 4096 * 2 ^ order * limit := by rw [Nat.mul_comm limit, Nat.mul_assoc]
  refine ⟨fresh_inv (by omega) (by omega) (by omega), ⟨rfl, ?_, ?_, fun _ _ => List.nodup_nil, ?_⟩, ⟨?_, rfl, Nat.zero_le _, h5', ?_, rfl, h7⟩⟩
  · intro i p hp
    simp [Bu.fresh, newMp] at hp
  · intro c hc
    show noParts.getD c 0 = -1
    unfold noParts
    rw [List.getD_eq_getElem?_getD, List.getElem?_replicate, if_pos hc]
    rfl
  · intro c hc i
    constructor
    · intro h; simp at h
    · rintro ⟨p, hp, _⟩
      simp [Bu.fresh, newMp] at hp
  · show ([] : List Pg).length = 0 * _
    simp
  · show base + 4096 * (limit * 2 ^ order) ≤ 9223372036854775808
    omega

/-- the heap behind k calls -/
structure Lg (k : Nat) (β : Bu) (ps : List Int) : Prop where
  hs : ∃ F C L, HS β ps F C L
  only : ∀ P S, Live β P S → S = 16
  limit : β.σ.limit = 2
  order : β.μ.order = 1
  cnt : (liveL β β.μ.pages.length).length = min k 1024

theorem lg_start : Lg 0 β0 noParts := by
  have H : HS β0 noParts (fun _ => []) (fun _ => []) (fun _ => []) := fresh_HS may0
  refine ⟨⟨_, _, _, H⟩, fun P S h => ?_, rfl, rfl, rfl⟩
  have := (H.mem_live P S).2 h
  simp [show β0.μ.pages.length = 0 from rfl, liveL] at this

theorem pigeon {l : List Nat} {n : Nat} (h : l.Nodup) (hlt : ∀ x ∈ l, x < n) (hlen : l.length < n) : ∃ x, x < n ∧ x ∉ l := by
  refine Classical.byContradiction (fun hc => ?_)
  have hall : ∀ x, x < n → x ∈ l := fun x hx => Classical.byContradiction (fun e => hc ⟨x, hx, e⟩)
  have hp : l.Perm (List.range n) := perm_of_nodup h List.nodup_range (fun x => by rw [List.mem_range]; exact ⟨hlt x, hall x⟩)
  have := hp.length_eq
  rw [List.length_range] at this
  omega

/-- no room for sixteen bytes: every page is full of them -/
theorem full_pages {β : Bu} {ps : List Int} {F C L : Nat → List Nat} (I : HS β ps F C L) (only : ∀ P S, Live β P S → S = 16) (N : NoRoom β.μ.order F L 16) : ∀ m, m ≤ β.μ.pages.length → (liveL β m).length = 256 * m
  | 0, _ => rfl
  | m + 1, hm => by
    unfold liveL
    rw [List.length_append, full_pages I only N m (by omega)]
    have hp : β.μ.pages[m]? = some β.μ.pages[m] := List.getElem?_eq_getElem (by omega)
    generalize β.μ.pages[m] = p at hp
    rw [getD_page hp]
    rcases I.inv.tile m (by omega) id with ⟨k, hk, h, hh, _⟩ | ⟨a, k, hk, hb, hin, _⟩ | ⟨q, hq, h4, _⟩
    · rw [N.1 k hk (by have := pow0 k; omega)] at hh
      simp at hh
    · have := only _ _ (.inl ⟨a, k, hk, hb, rfl, rfl⟩)
      have := pow0 k
      omega
    · obtain rfl : p = q := Option.some.inj (hp.symm.trans hq)
      have D := I.slab.pages m p hp h4
      obtain ⟨c, hc⟩ := Int.eq_ofNat_of_zero_le D.cls.1
      have hc : p.cls = (c : Int) := hc
      have hc8 : c < 8 := by have := D.cls.2; omega
      obtain ⟨x, hx, hxn⟩ := pigeon D.nodup (fun x hx => ((D.mem x).1 hx).1) (by have := D.live; have := D.some_; omega)
      have hbx : p.bit x = true := by
        cases h : p.bit x with
        | true => rfl
        | false => exact (hxn ((D.mem x).2 ⟨hx, h⟩)).elim
      rw [hc] at hx
      have h16 := only _ _ (.inr ⟨m, c, x, hc8, ⟨p, hp, h4, hc, hx, hbx⟩, rfl, rfl⟩)
      have hc0 : c = 0 := wdOf_inj (h16.trans rfl)
      subst hc0
      have hL := N.2 0 (by omega) rfl
      have hC : C m = [] := by
        refine Classical.byContradiction (fun hne => ?_)
        have := (I.slab.mem 0 (by omega) m).2 ⟨p, hp, h4, hc, hne⟩
        rw [hL] at this
        simp at this
      have hall : ∀ x, x < cellsN p.cls → p.bit x = true := by
        intro x hx
        cases h : p.bit x with
        | true => rfl
        | false =>
          have := (D.mem x).2 ⟨hx, h⟩
          rw [hC] at this
          simp at this
      have : (pageL (β.addr m) p).length = 256 := by
        unfold pageL
        rw [if_neg (by omega), if_pos h4, cellsL_full _ _ _ _ hall, hc]
        rfl
      omega

theorem Lg.step {k : Nat} {β : Bu} {ps : List Int} (G : Lg k β ps) : ∃ (y : Bu × List Int) (a : Nat × Int), Lg (k + 1) y.1 y.2 ∧
    ∀ (w : World) (hb s pb : Nat) (K : BuL), HpRep 0 w hb s pb K β ps → Calls Tryz.prog 88 #[.pointer (some ⟨hb, 0, none⟩), .int .u64 (16 : Nat), .bool false] w (Heaped w hb s pb K y.1 y.2 (.tuple #[.int .u64 (a.1 : Nat), .int .i64 a.2])) := by
  obtain ⟨F, C, L, I⟩ := G.hs
  have hsz : β.σ.size = 8192 := by rw [I.nums.size, G.order]
  have hr : roundN β.σ.size 16 1 = (16, 0) := by rw [hsz]; decide +kernel
  have hmax : β.σ.n ≤ 2 := by have := I.nums.le; rw [G.limit] at this; exact this
  have hN : β.μ.pages.length = β.σ.n * 2 := by have := I.nums.full; rw [G.order] at this; exact this
  rcases I.malloc 16 1 false (by omega) (by omega) with ⟨h, _⟩ | ⟨r, β', ps', F', C', L', p, h, hok, I', T, HC⟩ | ⟨r, h, hok, hno, hd, HC⟩
  · rw [hr] at h
    exact (h rfl).elim
  · rw [hr] at h
    obtain rfl : 16 = r := congrArg Prod.fst h
    have M := T.more
    have hperm := M.perm I I'
    have hlen := hperm.length_eq
    rw [List.length_cons, G.cnt] at hlen
    have hlim : β'.σ.limit = 2 := M.limit.trans G.limit
    have hord : β'.μ.order = 1 := M.order.trans G.order
    have hb := liveL_len β' β'.μ.pages.length
    have hN' : β'.μ.pages.length = β'.σ.n * 2 := by have := I'.nums.full; rw [hord] at this; exact this
    have hn' : β'.σ.n ≤ 2 := by have := I'.nums.le; rw [hlim] at this; exact this
    refine ⟨(β', ps'), (p, 0), ⟨⟨F', C', L', I'⟩, fun P S hl => ?_, hlim, hord, ?_⟩, fun w hb s pb K R => ?_⟩
    · rcases (M.live P S).1 hl with h | ⟨_, h⟩
      · exact G.only P S h
      · exact h
    · show (liveL β' β'.μ.pages.length).length = _
      omega
    · exact R.malloc_ 16 p 16 0 false ⟨M.base, M.limit, M.order⟩ (fun W RW => HC 1 W hb s pb K RW)
  · rw [hr] at h
    obtain rfl : 16 = r := congrArg Prod.fst h
    have hlim : β.σ.n = 2 := by
      rcases hd with h | h
      · simp at h
      · rw [h, G.limit]
    have hfull := full_pages I G.only hno _ (Nat.le_refl _)
    refine ⟨(β, ps), (0, 2), ⟨G.hs, G.only, G.limit, G.order, ?_⟩, fun w hb s pb K R => ?_⟩
    · show (liveL β β.μ.pages.length).length = _
      rw [G.cnt] at hfull ⊢
      rw [hN, hlim] at hfull
      omega
    · exact R.malloc_ 16 0 0 2 false ⟨rfl, rfl, rfl⟩ (fun W RW => HC 1 W hb s pb K RW)

noncomputable def lgSeq : (k : Nat) → { y : Bu × List Int // Lg k y.1 y.2 }
  | 0 => ⟨(β0, noParts), lg_start⟩
  | k + 1 => ⟨(lgSeq k).2.step.choose, (lgSeq k).2.step.choose_spec.choose_spec.1⟩

noncomputable def lgAns (k : Nat) : Nat × Int := (lgSeq k).2.step.choose_spec.choose

theorem lg_call (k : Nat) : ∀ (w : World) (hb s pb : Nat) (K : BuL), HpRep 0 w hb s pb K (lgSeq k).1.1 (lgSeq k).1.2 → Calls Tryz.prog 88 #[.pointer (some ⟨hb, 0, none⟩), .int .u64 (16 : Nat), .bool false] w (Heaped w hb s pb K (lgSeq (k + 1)).1.1 (lgSeq (k + 1)).1.2 (.tuple #[.int .u64 ((lgAns k).1 : Nat), .int .i64 (lgAns k).2])) :=
  (lgSeq k).2.step.choose_spec.choose_spec.2

end Go.Proofs.YtnjcmcnjgdjbiaaGreatDoor
