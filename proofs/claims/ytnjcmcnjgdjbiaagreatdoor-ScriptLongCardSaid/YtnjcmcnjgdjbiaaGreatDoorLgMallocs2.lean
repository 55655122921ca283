/- malloc's take, round and malloc under the heap's invariant. Conditions: the invariant. -/
import Derived.Test.YtnjcmcnjgdjbiaaGreatDoorLgMallocs
import Derived.Test.YtnjcmcnjgdjbiaaGreatDoorLgSteps
namespace Go.Proofs.YtnjcmcnjgdjbiaaGreatDoor
open Go.RowKit

/-- a size of a block: of a class, or of whole pages -/
def SizeOk (o r : Nat) : Prop := (∃ c, c < 8 ∧ r = wdOf c) ∨ ∃ k, k ≤ o ∧ r = 4096 * 2 ^ k

/-- there is no room for r bytes -/
def NoRoom (o : Nat) (F L : Nat → List Nat) (r : Nat) : Prop := (∀ k, k ≤ o → r ≤ 4096 * 2 ^ k → F k = []) ∧ ∀ c, c < 8 → r = wdOf c → L c = []

/-- what take tells -/
structure Took (β : Bu) (F L : Nat → List Nat) (r : Nat) (deny : Bool) (β' : Bu) (p : Nat) : Prop where
  more : More β β' p r
  grew : (β'.σ.n = β.σ.n ∧ ¬ NoRoom β.μ.order F L r) ∨ (β'.σ.n = β.σ.n + 1 ∧ β.σ.n < β.σ.limit ∧ deny = false ∧ NoRoom β.μ.order F L r)

theorem bitLen_pow (c : Nat) (h : c < 64) : Lib.bitLen (2 ^ c) = c + 1 := by
  have h64 : 2 ^ c < 18446744073709551616 := Nat.lt_of_lt_of_le (Nat.pow_lt_pow_right (by omega) h) (by decide)
  obtain ⟨s1, s2, s3⟩ := bitLen_spec64 (2 ^ c) h64
  have p0 := pow0 c
  have h1 := (Nat.pow_lt_pow_iff_right (by omega : 1 < 2)).1 s1
  have h2 := (Nat.pow_le_pow_iff_right (by omega : 1 < 2)).1 (s2 (by omega))
  omega

theorem pow_mono_le {a b : Nat} (h : 4096 * 2 ^ a ≤ 4096 * 2 ^ b) : a ≤ b := (Nat.pow_le_pow_iff_right (by omega : 1 < 2)).1 (Nat.le_of_mul_le_mul_left h (by omega))

theorem HS.take {β : Bu} {ps : List Int} {F C L : Nat → List Nat} (I : HS β ps F C L) (r : Nat) (deny : Bool) (hr : SizeOk β.μ.order r) :
    (∃ β' ps' F' C' L' p, HS β' ps' F' C' L' ∧ Took β F L r deny β' p ∧
      ∀ (m : Int) (w : World) (hb s pb : Nat) (K : BuL), HpRep m w hb s pb K β ps → Calls Tryz.prog 139 #[.pointer (some ⟨hb, 0, none⟩), .int .u64 r, .bool deny] w (TookAs w p 0 (QSl s pb K β' ps'))) ∨
    (NoRoom β.μ.order F L r ∧ (deny = true ∨ β.σ.n = β.σ.limit) ∧
      ∀ (m : Int) (w : World) (hb s pb : Nat) (K : BuL), HpRep m w hb s pb K β ps → Calls Tryz.prog 139 #[.pointer (some ⟨hb, 0, none⟩), .int .u64 r, .bool deny] w (TookAs w 0 2 (QSl s pb K β ps))) := by
  have hord := I.inv.ord
  rcases hr with ⟨c, hc, rfl⟩ | ⟨o, ho, rfl⟩
  · obtain ⟨w1, w2⟩ := wdOf_pos hc
    have hbl : (Lib.bitLen (wdOf c / 16) : Int) - 1 = c := by
      have : wdOf c / 16 = 2 ^ c := by unfold wdOf; exact Nat.mul_div_cancel_left _ (by omega)
      rw [this, bitLen_pow c (by omega)]
      omega
    have hsm : ∀ k, wdOf c ≤ 4096 * 2 ^ k := fun k => by have := pow0 k; omega
    have hcc : ∀ d, d < 8 → wdOf c = wdOf d → L d = L c := fun d _ e => by rw [wdOf_inj e]
    rcases I.takeCell c deny hc with ⟨β', ps', F', C', L', p, g, H, T, hdn, HC⟩ | ⟨h1, h2, h3, HC⟩
    · left
      refine ⟨β', ps', F', C', L', p, H, ⟨T.more, ?_⟩, fun m w hb s pb K R => ?_⟩
      · rcases T.grew with ⟨e, h⟩ | ⟨e, e2, h1, h2⟩
        · refine .inl ⟨e, fun hn => ?_⟩
          rcases h with h | ⟨k, hk, h⟩
          · exact h (hn.2 c hc rfl)
          · exact h (hn.1 k hk (hsm k))
        · refine .inr ⟨e, e2, ?_, fun k hk _ => h2 k hk, fun d hd e => by rw [hcc d hd e]; exact h1⟩
          cases deny
          · rfl
          · have := hdn rfl
            omega
      · refine take_small hb s _ c p g deny 0 (QSl s pb K β' ps') R.cells.2.2.2.2.1 (by omega) hbl (fun W T => ?_)
        have RW := R.touch0 T
        refine (HC W s pb K RW.sl RW.glob (fun k hk => RW.far k (List.mem_cons_of_mem _ hk))).mono ?_
        rintro e w' ⟨rfl, K', S, N, T'⟩
        exact ⟨rfl, K', S, N, T'⟩
    · right
      refine ⟨⟨fun k hk _ => h2 k hk, fun d hd e => by rw [hcc d hd e]; exact h1⟩, h3, fun m w hb s pb K R => ?_⟩
      refine take_small hb s _ c 0 false deny 2 (QSl s pb K β ps) R.cells.2.2.2.2.1 (by omega) hbl (fun W T => ?_)
      have RW := R.touch0 T
      refine (HC W s pb K RW.sl).mono ?_
      rintro e w' ⟨rfl, K', S, N, T'⟩
      exact ⟨rfl, K', S, N, T'⟩
  · have hbl : (Lib.bitLen (4096 * 2 ^ o / 4096) : Int) - 1 = o := by
      rw [Nat.mul_div_cancel_left _ (by omega), bitLen_pow o (by omega)]
      omega
    have hp8 := pow_le8' (o := o) (by omega)
    rcases I.need o deny ho with ⟨i, β1, F1, g, N, hdn, HC⟩ | ⟨hno, hd, HC⟩
    · left
      have S1 : SInv β1 ps C L := I.slab.kept N.kept (fun j p hp h4 => I.inv.notOpen hp (.inr (.inr h4)))
      refine ⟨β1, ps, F1, C, L, β1.addr i, ⟨N.inv, S1, N.nums⟩, ⟨?_, ?_⟩, fun m w hb s pb K R => ?_⟩
      · have := N.more I.inv ho
        rwa [show β.addr i = β1.addr i by unfold Bu.addr; rw [N.kept.base]] at this
      · rcases N.grew with ⟨e, k, h1, h2, h3⟩ | ⟨e, e2, h⟩
        · exact .inl ⟨e, fun hn => h3 (hn.1 k h2 (Nat.mul_le_mul_left _ (Nat.pow_le_pow_right (by omega) h1)))⟩
        · refine .inr ⟨e, e2, ?_, fun k hk hk2 => h k (pow_mono_le hk2) hk, fun d hd e => ?_⟩
          · cases deny
            · rfl
            · have := hdn rfl
              omega
          · have := wdOf_pos hd
            omega
      · refine take_big hb pb _ o _ g deny 0 (QSl s pb K β1 ps) R.cells.2.2.2.1 (by omega) (by omega) hbl (fun W T => ?_)
        have RW := R.touch0 T
        refine (HC W pb K RW.sl.po).mono ?_
        rintro e w' ⟨rfl, K', P', N', T'⟩
        exact ⟨rfl, K', RW.sl.next T' N' P'.bu, N', T'.mono (fun b _ hb => List.mem_cons_of_mem _ hb)⟩
    · right
      refine ⟨⟨fun k hk hk2 => hno k (pow_mono_le hk2) hk, fun d hd e => by have := wdOf_pos hd; omega⟩, hd, fun m w hb s pb K R => ?_⟩
      refine take_big hb pb _ o 0 false deny 2 (QSl s pb K β ps) R.cells.2.2.2.1 (by omega) (by omega) hbl (fun W T => ?_)
      have RW := R.touch0 T
      refine (HC W pb K RW.sl.po).mono ?_
      rintro e w' ⟨rfl, T'⟩
      exact ⟨rfl, K, RW.sl.touch0 T', BuL.Next.refl _ _, T'.none_⟩

theorem wdOf_pow (c : Nat) : wdOf c = 2 ^ (c + 4) := by unfold wdOf; rw [Nat.pow_add]; omega
theorem pg_pow (k : Nat) : 4096 * 2 ^ k = 2 ^ (k + 12) := by rw [Nat.pow_add]; omega

/-- the size of a request is a block's -/
theorem round_ok {o size align r : Nat} (_ho : o ≤ 8) (h1 : size < 18446744073709551616) (h2 : align < 18446744073709551616) (h : roundN (4096 * 2 ^ o) size align = (r, 0)) :
    SizeOk o r ∧ size ≤ r ∧ align ≤ r ∧ isPow align = true := by
  unfold roundN at h
  split at h
  · simp at h
  · next hp =>
    split at h
    · simp at h
    · next hM =>
      have hr : ceilN (max (max size align) 16) = r := by simpa using congrArg Prod.fst h
      rw [hr] at hM
      obtain ⟨x, hx⟩ : ∃ x, x = max (max size align) 16 := ⟨_, rfl⟩
      rw [← hx] at hr
      have hx16 : 16 ≤ x := by omega
      have hx64 : x < 18446744073709551616 := by omega
      unfold ceilN at hr
      rw [if_neg (by omega)] at hr
      split at hr
      · omega
      · obtain ⟨s1, s2, s3⟩ := bitLen_spec64 (x - 1) (by omega)
        generalize Lib.bitLen (x - 1) = e at *
        subst hr
        have he4 : 4 ≤ e := by
          refine Classical.byContradiction (fun hn => ?_)
          have : 2 ^ e ≤ 2 ^ 3 := Nat.pow_le_pow_right (by omega) (by omega)
          omega
        have hle : 2 ^ e ≤ 4096 * 2 ^ o := by omega
        rw [pg_pow] at hle
        have he12 := (Nat.pow_le_pow_iff_right (by omega : 1 < 2)).1 hle
        refine ⟨?_, by omega, by omega, by simpa using hp⟩
        by_cases hc : e < 12
        · exact .inl ⟨e - 4, by omega, by rw [wdOf_pow, show e - 4 + 4 = e by omega]⟩
        · exact .inr ⟨e - 12, by omega, by rw [pg_pow, show e - 12 + 12 = e by omega]⟩

theorem More.same {β β' : Bu} {p r : Nat} (M : More β β' p r) : β'.σ.base = β.σ.base ∧ β'.σ.limit = β.σ.limit ∧ β'.μ.order = β.μ.order := ⟨M.base, M.limit, M.order⟩

/-- malloc: refused by its numbers, a block, or no room -/
theorem HS.malloc {β : Bu} {ps : List Int} {F C L : Nat → List Nat} (I : HS β ps F C L) (size align : Nat) (deny : Bool) (h1 : size < 18446744073709551616) (h2 : align < 18446744073709551616) :
    ((roundN β.σ.size size align).2 ≠ 0 ∧ ∀ (m : Int) (w : World) (hb s pb : Nat) (K : BuL), HpRep m w hb s pb K β ps → Calls Tryz.prog 133 #[.pointer (some ⟨hb, 0, none⟩), .int .u64 size, .int .u64 align, .bool deny] w (Did w (.tuple #[.agg #[.int .u64 (0 : Nat), .int .u64 (0 : Nat)], .int .i64 (roundN β.σ.size size align).2]) (QSl s pb K β ps))) ∨
    (∃ r β' ps' F' C' L' p, roundN β.σ.size size align = (r, 0) ∧ SizeOk β.μ.order r ∧ HS β' ps' F' C' L' ∧ Took β F L r deny β' p ∧
      ∀ (m : Int) (w : World) (hb s pb : Nat) (K : BuL), HpRep m w hb s pb K β ps → Calls Tryz.prog 133 #[.pointer (some ⟨hb, 0, none⟩), .int .u64 size, .int .u64 align, .bool deny] w (Did w (.tuple #[.agg #[.int .u64 p, .int .u64 r], .int .i64 0]) (QSl s pb K β' ps'))) ∨
    (∃ r, roundN β.σ.size size align = (r, 0) ∧ SizeOk β.μ.order r ∧ NoRoom β.μ.order F L r ∧ (deny = true ∨ β.σ.n = β.σ.limit) ∧
      ∀ (m : Int) (w : World) (hb s pb : Nat) (K : BuL), HpRep m w hb s pb K β ps → Calls Tryz.prog 133 #[.pointer (some ⟨hb, 0, none⟩), .int .u64 size, .int .u64 align, .bool deny] w (Did w (.tuple #[.agg #[.int .u64 (0 : Nat), .int .u64 (0 : Nat)], .int .i64 2]) (QSl s pb K β ps))) := by
  have hlt : ∀ {m : Int} {w : World} {hb s pb : Nat} {K : BuL}, HpRep m w hb s pb K β ps → ∀ k, k ∈ s :: K.fp → k < w.heap.size := by
    intro m w hb s pb K R k hk
    refine R.lt k ?_
    rcases List.mem_cons.1 hk with h | h
    · simp [h]
    · simp [h]
  by_cases he : (roundN β.σ.size size align).2 = 0
  · right
    obtain ⟨r, hr⟩ : ∃ r, roundN β.σ.size size align = (r, 0) := ⟨_, Prod.ext rfl he⟩
    have hok : SizeOk β.μ.order r := (round_ok I.inv.ord h1 h2 (by rw [← I.nums.size]; exact hr)).1
    rcases I.take r deny hok with ⟨β', ps', F', C', L', p, H, T, HC⟩ | ⟨h3, h4, HC⟩
    · left
      refine ⟨r, β', ps', F', C', L', p, hr, hok, H, T, fun m w hb s pb K R => ?_⟩
      refine malloc_ok hb size align r p deny _ (· ∈ s :: K.fp) (hlt R) QSl.touch (Lib.hid fun W T => ?_) (Lib.hid fun W T => HC m W hb s pb K (R.touch0 T))
      have := (R.touch0 T).round_ size align h1 h2
      rwa [hr] at this
    · right
      refine ⟨r, hr, hok, h3, h4, fun m w hb s pb K R => ?_⟩
      refine malloc_take hb size align r 2 deny (by decide) (QSl s pb K β ps) (· ∈ s :: K.fp) (hlt R) QSl.touch (Lib.hid fun W T => ?_) (Lib.hid fun W T => HC m W hb s pb K (R.touch0 T))
      have := (R.touch0 T).round_ size align h1 h2
      rwa [hr] at this
  · left
    refine ⟨he, fun m w hb s pb K R => ?_⟩
    refine malloc_round_did hb size align _ deny he (Lib.hid fun W T => ?_) _ (fun W T => ⟨K, (R.touch0 T).sl, BuL.Next.refl _ _, Touch.refl _ _⟩)
    have := (R.touch0 T).round_ size align h1 h2
    have hz : (roundN β.σ.size size align).1 = 0 := by
      unfold roundN at he ⊢
      split
      · rfl
      · split
        · rfl
        · next h3 h4 =>
          rw [if_neg h3, if_neg h4] at he
          exact (he rfl).elim
    rwa [show roundN β.σ.size size align = (0, (roundN β.σ.size size align).2) from Prod.ext hz rfl] at this

end Go.Proofs.YtnjcmcnjgdjbiaaGreatDoor
