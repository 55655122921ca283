/- The walks of package bits: IsPower, Log, Ceil of uint64. The walks of package bits: sets of numbers as bits (NewSet, Of, cut, has, Get, Flip, Resize). Conditions: the length is from 0 to 2^20. The walks of package bits: NewSet of no numbers, Resize. -/
import Derived.Test.YtnjcmcnjgdjbiaaGreatDoorLgShelf
import Derived.Test.YtnjcmcnjgdjbiaaGreatDoorLgBase
import Derived.RegionTactic
import Derived.BigRegion
import Derived.Deep.QuietTactic
import Derived.BigQuiet
import Derived.IntWalk
import Derived.Lib.Hide
import Derived.Handy
import Derived.Outline
import Derived.StillTailTactics
namespace Go.Proofs.YtnjcmcnjgdjbiaaGreatDoor
open Go.RowKit

theorem natCast_beq_zero (n : Nat) : (((n : Nat) : Int) == 0) = (n == 0) := by
  rw [Bool.eq_iff_iff]
  simp

def isPow (x : Nat) : Bool := x != 0 && (x &&& (x - 1)) == 0

theorem isPower_ (x : Nat) (w : World) (h : x < 18446744073709551616) :
    Calls Tryz.prog 185 #[.int .u64 x] w fun e w' => e = .returned (.bool (isPow x)) ∧ w = w' := by
  by_cases h0 : x = 0
  · subst h0
    go_enter Tryz.func185, Tryz.ntmps185
    go_wp2
    go_ret
    exact ⟨rfl, rfl⟩
  · have hs : IntKind.u64.wrap ((x : Int) - 1) = ((x - 1 : Nat) : Int) := by
      rw [show (x : Int) - 1 = ((x - 1 : Nat) : Int) from by omega]
      exact IntWalk.u64_in _ (by omega)
    have hb : bits .and .u64 (x : Int) ((x : Int) - 1) = ((x &&& (x - 1) : Nat) : Int) := by
      rw [show (x : Int) - 1 = ((x - 1 : Nat) : Int) from by omega]
      exact bits_and_u64_nat x (x - 1) h (by omega)
    have hp : isPow x = ((x &&& (x - 1)) == 0) := by simp [isPow, h0]
    have HP := Lib.hid hp
    clear hp hs
    have h0' : ((x : Int) != 0) = true := by rw [bne_iff_ne]; omega
    go_enter Tryz.func185, Tryz.ntmps185
    go_wp2
    go_ret
    refine ⟨congrArg Ending.returned (congrArg Value.bool ?_), rfl⟩
    rw [HP.out]
    exact natCast_beq_zero _

/-- the greatest n with 2^n not above x, and 1: how many digits x has in base 2 -/
theorem bitLenAux_spec : ∀ (f x : Nat), x < 2 ^ f → x < 2 ^ Lib.bitLenAux f x ∧ (x ≠ 0 → 2 ^ (Lib.bitLenAux f x - 1) ≤ x) ∧ Lib.bitLenAux f x ≤ f := by
  intro f
  induction f with
  | zero =>
    intro x h
    have : x = 0 := by simpa using h
    subst this
    simp [Lib.bitLenAux]
  | succ f ih =>
    intro x h
    unfold Lib.bitLenAux
    by_cases h0 : x = 0
    · simp [h0]
    · rw [if_neg h0]
      have hx : x / 2 < 2 ^ f := by
        rw [Nat.pow_succ] at h
        omega
      obtain ⟨a, b, c⟩ := ih (x / 2) hx
      refine ⟨?_, fun _ => ?_, by omega⟩
      · rw [Nat.add_comm, Nat.pow_succ]
        omega
      · by_cases h2 : x / 2 = 0
        · have : x = 1 := by omega
          subst this
          have e : Lib.bitLenAux f (1 / 2) = 0 := by
            cases f <;> simp [Lib.bitLenAux]
          rw [e]
          simp
        · have b' := b h2
          have hpos : 1 ≤ Lib.bitLenAux f (x / 2) := by
            cases hz : Lib.bitLenAux f (x / 2) with
            | zero => rw [hz] at a; simp at a; omega
            | succ n => omega
          have e : 1 + Lib.bitLenAux f (x / 2) - 1 = (Lib.bitLenAux f (x / 2) - 1) + 1 := by omega
          rw [e, Nat.pow_succ]
          omega

theorem bitLen_spec64 (x : Nat) (h : x < 18446744073709551616) : x < 2 ^ Lib.bitLen x ∧ (x ≠ 0 → 2 ^ (Lib.bitLen x - 1) ≤ x) ∧ Lib.bitLen x ≤ 64 :=
  bitLenAux_spec 64 x h

theorem log_ (x : Nat) (w : World) (h : x < 18446744073709551616) :
    Calls Tryz.prog 190 #[.int .u64 x] w fun e w' => e = .returned (.int .i64 ((Lib.bitLen x : Int) - 1)) ∧ w = w' := by
  have hl := (bitLen_spec64 x h).2.2
  have hc := Lib.hid (fun w => Tryz.bits_Len64 (x : Int) w (by omega) (by omega))
  rw [Int.toNat_natCast] at hc
  go_enter Tryz.func190, Tryz.ntmps190
  go_wp2_with fail
  refine (hc.out _).mono ?_
  rintro e w' ⟨rfl, rfl⟩
  go_wp2
  go_ret
  exact ⟨rfl, rfl⟩

/-- the least power of 2 not below x; whether 64 bits hold it -/
def ceilN (x : Nat) : Nat := if x ≤ 1 then 1 else if Lib.bitLen (x - 1) = 64 then 0 else 2 ^ Lib.bitLen (x - 1)

theorem shl_one (n : Nat) (h : n ≤ 64) : IntKind.u64.wrap (2 ^ n) = ((if n = 64 then 0 else 2 ^ n : Nat) : Int) := by
  by_cases h1 : n = 64
  · subst h1
    rfl
  · rw [if_neg h1]
    have h2 : 2 ^ n ≤ 2 ^ 63 := Nat.pow_le_pow_right (by omega) (by omega)
    have e : (2 ^ n : Int) = ((2 ^ n : Nat) : Int) := by simp
    rw [e]
    generalize 2 ^ n = y at *
    exact IntWalk.u64_in _ (by omega)

theorem ceil_ (x : Nat) (w : World) (h : x < 18446744073709551616) :
    Calls Tryz.prog 186 #[.int .u64 x] w fun e w' => e = .returned (.tuple #[.int .u64 (ceilN x : Nat), .bool (ceilN x != 0)]) ∧ w = w' := by
  by_cases h0 : x ≤ 1
  · have e : ceilN x = 1 := by simp [ceilN, h0]
    rw [e]
    go_enter Tryz.func186, Tryz.ntmps186
    go_wp2
    go_ret2
    exact ⟨rfl, rfl⟩
  · have hx : ((x : Int) - 1) = ((x - 1 : Nat) : Int) := by omega
    have hc := log_ (x - 1) w (by omega)
    rw [← hx] at hc
    have hs := shl_one (Lib.bitLen (x - 1)) (bitLen_spec64 (x - 1) (by omega)).2.2
    have hl := (bitLen_spec64 (x - 1) (by omega)).2.2
    have e : ceilN x = if Lib.bitLen (x - 1) = 64 then 0 else 2 ^ Lib.bitLen (x - 1) := by simp [ceilN, h0]
    rw [← e] at hs
    have HC := Lib.hid hc
    clear hc e hx
    generalize Lib.bitLen (x - 1) = n at *
    go_enter Tryz.func186, Tryz.ntmps186
    go_wp2_with fail
    refine HC.out.mono ?_
    rintro e w' ⟨rfl, rfl⟩
    have HS := Lib.hid hs
    clear hs
    go_wp2
    go_ret2
    rw [HS.out]
    refine ⟨?_, rfl⟩
    have e : (((ceilN x : Nat) : Int) != 0) = (ceilN x != 0) := by
      rw [Bool.eq_iff_iff]
      simp
    rw [← e]
    rfl

end Go.Proofs.YtnjcmcnjgdjbiaaGreatDoor

namespace Go.Proofs.YtnjcmcnjgdjbiaaGreatDoor
open Go.RowKit

/-- words as cells -/
def u64s (ws : List Nat) : List Value := ws.map fun (x : Nat) => Value.int .u64 x

/-- a set: its length, its words -/
structure PSet where
  n : Nat
  ws : List Nat

structure PSet.ok (s : PSet) : Prop where
  len : s.ws.length = (s.n + 63) / 64
  top : s.n ≤ 1048576
  word : ∀ x ∈ s.ws, x < 18446744073709551616

/-- where a set lies: its block, its words' block -/
structure SetRep (w : World) (l : Nat × Nat) (s : PSet) : Prop where
  blk : Blk w l.1 308 [.int .i64 (s.n : Nat), .slice (some ⟨l.2, 0, none⟩) s.ws.length s.ws.length]
  words : Blk w l.2 33 (u64s s.ws)
  ne : l.1 ≠ l.2
  ok : s.ok

theorem SetRep.touch {w w' : World} {l : Nat × Nat} {s : PSet} {S : Nat → Prop} (R : SetRep w l s) (T : Touch S w w') (h1 : ¬ S l.1) (h2 : ¬ S l.2) : SetRep w' l s :=
  ⟨R.blk.touch T h1, R.words.touch T h2, R.ne, R.ok⟩

theorem u64s_get (ws : List Nat) (i : Nat) (h : i < ws.length) : (u64s ws)[i]? = some (.int .u64 (ws.getD i 0 : Nat)) := by
  simp [u64s, List.getElem?_map, List.getElem?_eq_getElem h]

theorem PSet.ok.get {s : PSet} (o : s.ok) (i : Nat) : s.ws.getD i 0 < 18446744073709551616 := by
  rw [List.getD_eq_getElem?_getD]
  by_cases h : i < s.ws.length
  · rw [List.getElem?_eq_getElem h]
    exact o.word _ (List.getElem_mem h)
  · rw [List.getElem?_eq_none (by omega)]
    simp

theorem fit_ (n : Nat) (w : World) (h : n ≤ 1048576) :
    Calls Tryz.prog 235 #[.int .i64 n] w fun e w' => e = .returned (.tuple #[.int .i64 n, .int .i64 (((n + 63) / 64 : Nat) : Int)]) ∧ w = w' := by
  go_enter Tryz.func235, Tryz.ntmps235
  go_wp2
  go_ret2
  have e : max (0 : Int) (min (n : Int) 1048576) = n := by omega
  rw [e]
  refine ⟨?_, rfl⟩
  simp

/-- is i below the length? -/
theorem SetRep.has_ {w : World} {l : Nat × Nat} {s : PSet} (R : SetRep w l s) (i : Nat) (h : i < s.n) :
    Calls Tryz.prog 294 #[.pointer (some ⟨l.1, 0, none⟩), .int .i64 i] w fun e w' => e = .returned (.bool true) ∧ w = w' := by
  have c0 := R.blk.cell 0
  simp at c0
  clear R
  go_enter Tryz.func294, Tryz.ntmps294
  go_wp2
  go_ret
  exact ⟨rfl, rfl⟩

theorem pow64 (i : Nat) : 2 ^ (i % 64) < 18446744073709551616 := by
  have : i % 64 ≤ 63 := by omega
  have h : 2 ^ (i % 64) ≤ 2 ^ 63 := Nat.pow_le_pow_right (by omega) this
  omega

/-- bit i of words -/
def bitOf (ws : List Nat) (i : Nat) : Bool := (ws.getD (i / 64) 0).testBit (i % 64)

theorem natCast_beq_one (n : Nat) : (((n : Nat) : Int) == 1) = (n == 1) := by
  rw [Bool.eq_iff_iff]
  simp
  omega

theorem and_one_int (x k : Nat) (hx : x < 18446744073709551616) : bits .and .u64 ((x : Int) / 2 ^ k) 1 = ((x / 2 ^ k % 2 : Nat) : Int) := by
  have h : x / 2 ^ k ≤ x := Nat.div_le_self _ _
  have e : ((x : Int) / 2 ^ k) = ((x / 2 ^ k : Nat) : Int) := by simp
  rw [e, show (1 : Int) = ((1 : Nat) : Int) from rfl, bits_and_u64_nat _ _ (by omega) (by omega), Nat.and_one_is_mod]

theorem SetRep.get_ {w : World} {l : Nat × Nat} {s : PSet} (R : SetRep w l s) (i : Nat) (h : i < s.n) :
    Calls Tryz.prog 295 #[.pointer (some ⟨l.1, 0, none⟩), .int .i64 i] w fun e w' => e = .returned (.bool (bitOf s.ws i)) ∧ w = w' := by
  have hh := Lib.hid (R.has_ i h)
  have c1 := R.blk.cell 1
  have hl := R.ok.len
  have hi : i / 64 < s.ws.length := by omega
  have cw := R.words.cell (i / 64)
  rw [u64s_get _ _ hi] at cw
  simp at c1
  have hx := R.ok.get (i / 64)
  have htop := R.ok.top
  have hb : bitOf s.ws i = ((s.ws.getD (i / 64) 0 / 2 ^ (i % 64)) % 2 == 1) := by
    unfold bitOf
    rw [Nat.testBit_eq_decide_div_mod_eq]
    rfl
  have HB := Lib.hid hb
  clear hb R hl
  generalize s.ws.getD (i / 64) 0 = x at *
  have hi' : (0 : Int) ≤ (i : Int) / 64 := by omega
  have hi2 : (i : Int) / 64 < (s.ws.length : Int) := by omega
  go_enter Tryz.func295, Tryz.ntmps295
  go_wp2_with fail
  refine hh.out.mono ?_
  rintro e w' ⟨rfl, rfl⟩
  go_wp2
  go_ret
  refine ⟨congrArg Ending.returned (congrArg Value.bool ?_), rfl⟩
  rw [HB.out, and_one_int x (i % 64) hx]
  exact natCast_beq_one _

/-- word i / 64 with bit i % 64 turned -/
def flipW (ws : List Nat) (i : Nat) : List Nat := ws.set (i / 64) (ws.getD (i / 64) 0 ^^^ 2 ^ (i % 64))

theorem bitOf_flip (ws : List Nat) (i j : Nat) (hi : i / 64 < ws.length) : bitOf (flipW ws i) j = (bitOf ws j != decide (j = i)) := by
  unfold bitOf flipW
  rw [List.getD_eq_getElem?_getD, List.getElem?_set]
  by_cases h : i / 64 = j / 64
  · rw [if_pos h, if_pos hi]
    simp only [Option.getD_some]
    rw [Nat.testBit_xor, Nat.testBit_two_pow, ← h]
    have : decide (i % 64 = j % 64) = decide (j = i) := by
      rw [decide_eq_decide]
      omega
    rw [this]
  · rw [if_neg h]
    have : decide (j = i) = false := by
      rw [decide_eq_false_iff_not]
      rintro rfl
      exact h rfl
    rw [this, List.getD_eq_getElem?_getD]
    generalize (ws[j / 64]?.getD 0).testBit (j % 64) = a
    cases a <;> rfl

def PSet.flip (s : PSet) (i : Nat) : PSet := { s with ws := flipW s.ws i }

theorem PSet.ok.flip {s : PSet} (o : s.ok) (i : Nat) : (s.flip i).ok := by
  refine ⟨by simp [PSet.flip, flipW, o.len], o.top, ?_⟩
  intro x hx
  simp only [PSet.flip, flipW] at hx
  rcases List.mem_or_eq_of_mem_set hx with h | h
  · exact o.word x h
  · rw [h]
    exact Nat.xor_lt_two_pow (n := 64) (o.get _) (pow64 i)

theorem u64s_set (ws : List Nat) (i v : Nat) : (u64s ws).set i (.int .u64 v) = u64s (ws.set i v) := by
  simp [u64s, List.map_set]

set_option maxRecDepth 100000 in
theorem flip_cells (b wb i n k q r x y z : Nat) (w : World)
    (hh : Calls Tryz.prog 294 #[.pointer (some ⟨b, 0, none⟩), .int .i64 i] w fun e w' => e = .returned (.bool true) ∧ w = w')
    (c1 : w.cell? ⟨b, 1, none⟩ = some (.slice (some ⟨wb, 0, none⟩) k k)) (cw : w.cell? ⟨wb, q, none⟩ = some (.int .u64 x)) (fw : w.frozen? ⟨wb, q, none⟩ = false)
    (hq : IntKind.i64.wrap ((i : Int) / 64) = q) (hr : (i : Int).tmod 64 = r) (hqk : q < k)
    (hs : IntKind.u64.wrap (2 ^ min r 64) = y) (hx : bits .xor .u64 (x : Int) (y : Int) = z) (_hn : i < n) :
    Calls Tryz.prog 292 #[.pointer (some ⟨b, 0, none⟩), .int .i64 i] w fun e w' => e = .returned (.bool true) ∧ w' = (w.setCell ⟨wb, q, none⟩ (.int .u64 z)).drew := by
  have HH := Lib.hid hh
  clear hh
  go_enter Tryz.func292, Tryz.ntmps292
  go_wp2_with fail
  refine HH.out.mono ?_
  rintro e w' ⟨rfl, rfl⟩
  go_wp2_with fail
  refine wp_region_still_tail 13 (by kernel_rfl) (by kernel_rfl) ?_
  simp only [List.take_succ_cons, List.take_zero, List.drop_succ_cons, List.drop_zero, World.drew_eq]
  repeat still_step
  refine wpStill_nil ?_
  go_wp2_with fail
  go_ret
  exact ⟨rfl, rfl⟩

theorem wrap_pow64 (i : Nat) : IntKind.u64.wrap (2 ^ min (i % 64) 64) = ((2 ^ (i % 64) : Nat) : Int) := by
  have hp := pow64 i
  rw [show min (i % 64) 64 = i % 64 from by omega]
  have e : (2 ^ (i % 64) : Int) = ((2 ^ (i % 64) : Nat) : Int) := by simp
  rw [e]
  generalize 2 ^ (i % 64) = y at *
  exact IntWalk.u64_in _ (by omega)

theorem i64_div64 (i : Nat) (h : i ≤ 1048576) : IntKind.i64.wrap ((i : Int) / 64) = ((i / 64 : Nat) : Int) := by
  rw [show ((i : Int) / 64) = ((i / 64 : Nat) : Int) from by omega]
  exact IntWalk.i64_in _ (by omega)

theorem tmod64 (i : Nat) : (i : Int).tmod 64 = ((i % 64 : Nat) : Int) := (Int.ofNat_tmod i 64).symm

theorem SetRep.flip_ {w : World} {l : Nat × Nat} {s : PSet} (R : SetRep w l s) (i : Nat) (h : i < s.n) :
    Calls Tryz.prog 292 #[.pointer (some ⟨l.1, 0, none⟩), .int .i64 i] w fun e w' => e = .returned (.bool true) ∧ SetRep w' l (s.flip i) ∧ Touch (fun k => k = l.2) w w' := by
  have hl := R.ok.len
  have htop := R.ok.top
  have hi : i / 64 < s.ws.length := by omega
  have cw := R.words.cell (i / 64)
  rw [u64s_get _ _ hi] at cw
  refine (flip_cells l.1 l.2 i s.n s.ws.length (i / 64) (i % 64) (s.ws.getD (i / 64) 0) (2 ^ (i % 64)) (s.ws.getD (i / 64) 0 ^^^ 2 ^ (i % 64)) w (R.has_ i h) (R.blk.cell 1) cw (R.words.free _)
    (i64_div64 i (by omega)) (tmod64 i) hi (wrap_pow64 i) (u64_xor_nat _ _ (R.ok.get _) (pow64 i)) h).mono ?_
  rintro e w' ⟨he, rfl⟩
  have T : Touch (fun k => k = l.2) w (w.setCell ⟨l.2, i / 64, none⟩ (.int .u64 (s.ws.getD (i / 64) 0 ^^^ 2 ^ (i % 64) : Nat))).drew := (Touch.cellAt _ _ _ _).drew
  refine ⟨he, ⟨?_, ?_, R.ne, R.ok.flip i⟩, T⟩
  · have := R.blk.touch T R.ne
    simpa [PSet.flip, flipW] using this
  · have := (R.words.set (i / 64) (.int .u64 (s.ws.getD (i / 64) 0 ^^^ 2 ^ (i % 64) : Nat))).drew
    rw [u64s_set] at this
    exact this

/-- the bits from n on cleared -/
def cutW (n : Nat) (ws : List Nat) : List Nat := if n % 64 = 0 then ws else ws.set (ws.length - 1) (ws.getD (ws.length - 1) 0 &&& (2 ^ (n % 64) - 1))

set_option maxRecDepth 100000 in
theorem cut_cells (b wb n k m r x y z : Nat) (w : World)
    (c0 : w.cell? ⟨b, 0, none⟩ = some (.int .i64 n)) (c1 : w.cell? ⟨b, 1, none⟩ = some (.slice (some ⟨wb, 0, none⟩) m m)) (cw : w.cell? ⟨wb, k, none⟩ = some (.int .u64 x)) (fw : w.frozen? ⟨wb, k, none⟩ = false) (hkm : k < m) (hwk : IntKind.i64.wrap ((m : Int) - 1) = k)
    (hr : (n : Int).tmod 64 = r) (hr0 : ((r : Int) != 0) = true)
    (hs : IntKind.u64.wrap (IntKind.u64.wrap (2 ^ min r 64) - 1) = y) (hx : bits .and .u64 (x : Int) (y : Int) = z) :
    Calls Tryz.prog 236 #[.pointer (some ⟨b, 0, none⟩)] w fun e w' => e = .returned (.tuple #[]) ∧ w' = (w.setCell ⟨wb, k, none⟩ (.int .u64 z)).drew := by
  have hr' : ((n : Int).tmod 64 != 0) = true := by rw [hr]; exact hr0
  go_enter Tryz.func236, Tryz.ntmps236
  go_wp2_with fail
  refine wp_region_still_tail 21 (by kernel_rfl) (by kernel_rfl) ?_
  simp only [List.take_succ_cons, List.take_zero, List.drop_succ_cons, List.drop_zero, World.drew_eq]
  repeat still_step
  refine wpStill_nil ?_
  go_wp2_with fail
  go_end0
  exact ⟨rfl, rfl⟩

theorem cut_none (b n : Nat) (w : World) (c0 : w.cell? ⟨b, 0, none⟩ = some (.int .i64 n)) (h : n % 64 = 0) :
    Calls Tryz.prog 236 #[.pointer (some ⟨b, 0, none⟩)] w fun e w' => e = .returned (.tuple #[]) ∧ w' = w := by
  have hr : (n : Int).tmod 64 = ((0 : Nat) : Int) := by rw [tmod64, h]
  have hr2 : (n : Int) % 64 = 0 := by omega
  go_enter Tryz.func236, Tryz.ntmps236
  go_wp2
  go_end0
  exact ⟨rfl, rfl⟩

structure Words (ws : List Nat) (n : Nat) : Prop where
  len : ws.length = (n + 63) / 64
  top : n ≤ 1048576
  word : ∀ x ∈ ws, x < 18446744073709551616

theorem Words.get {ws : List Nat} {n : Nat} (o : Words ws n) (i : Nat) : ws.getD i 0 < 18446744073709551616 := PSet.ok.get (s := ⟨n, ws⟩) ⟨o.len, o.top, o.word⟩ i

theorem Words.cut {ws : List Nat} {n : Nat} (o : Words ws n) : Words (cutW n ws) n := by
  unfold cutW
  split
  · exact o
  · refine ⟨by simp [o.len], o.top, ?_⟩
    intro x hx
    rcases List.mem_or_eq_of_mem_set hx with h | h
    · exact o.word x h
    · rw [h]
      exact Nat.lt_of_le_of_lt Nat.and_le_left (o.get _)

theorem cut_ (b wb n : Nat) (ws : List Nat) (w : World) (o : Words ws n) (hb : Blk w b 308 [.int .i64 n, .slice (some ⟨wb, 0, none⟩) ws.length ws.length]) (hw : Blk w wb 33 (u64s ws)) :
    Calls Tryz.prog 236 #[.pointer (some ⟨b, 0, none⟩)] w fun e w' => e = .returned (.tuple #[]) ∧ Blk w' wb 33 (u64s (cutW n ws)) ∧ Touch (fun k => k = wb) w w' := by
  by_cases h : n % 64 = 0
  · refine (cut_none b n w (hb.cell 0) h).mono ?_
    rintro e w' ⟨he, rfl⟩
    refine ⟨he, ?_, Touch.refl _ _⟩
    rw [cutW, if_pos h]
    exact hw
  · have hl := o.len
    have htop := o.top
    have hpos : ws.length - 1 < ws.length := by omega
    have cw := hw.cell (ws.length - 1)
    rw [u64s_get _ _ hpos] at cw
    have hp := pow64 n
    have h1 : 1 ≤ 2 ^ (n % 64) := Nat.pos_of_ne_zero (by simp)
    have hy : IntKind.u64.wrap (IntKind.u64.wrap (2 ^ min (n % 64) 64) - 1) = ((2 ^ (n % 64) - 1 : Nat) : Int) := by
      rw [wrap_pow64]
      generalize 2 ^ (n % 64) = y at *
      rw [show (y : Int) - 1 = ((y - 1 : Nat) : Int) from by omega]
      exact IntWalk.u64_in _ (by omega)
    have hwk : IntKind.i64.wrap ((ws.length : Int) - 1) = ((ws.length - 1 : Nat) : Int) := by
      rw [show (ws.length : Int) - 1 = ((ws.length - 1 : Nat) : Int) from by omega]
      exact IntWalk.i64_in _ (by omega)
    have hr0 : (((n % 64 : Nat) : Int) != 0) = true := by rw [bne_iff_ne]; omega
    refine (cut_cells b wb n (ws.length - 1) ws.length (n % 64) (ws.getD (ws.length - 1) 0) (2 ^ (n % 64) - 1) (ws.getD (ws.length - 1) 0 &&& (2 ^ (n % 64) - 1)) w (hb.cell 0) (hb.cell 1) cw (hw.free _) hpos hwk
      (tmod64 n) hr0 hy (bits_and_u64_nat _ _ (o.get _) (by omega))).mono ?_
    rintro e w' ⟨he, rfl⟩
    refine ⟨he, ?_, (Touch.cellAt _ _ _ _).drew⟩
    have := (hw.set (ws.length - 1) (.int .u64 (ws.getD (ws.length - 1) 0 &&& (2 ^ (n % 64) - 1) : Nat))).drew
    rw [u64s_set] at this
    rw [cutW, if_neg h]
    exact this

/-- the words of a new set -/
def ofW (cs : List Nat) (n : Nat) : List Nat := cutW n ((cs ++ List.replicate ((n + 63) / 64) 0).take ((n + 63) / 64))

theorem ofW_words {cs : List Nat} {n : Nat} (h : n ≤ 1048576) (hc : ∀ x ∈ cs, x < 18446744073709551616) : Words ((cs ++ List.replicate ((n + 63) / 64) 0).take ((n + 63) / 64)) n := by
  refine ⟨by simp, h, ?_⟩
  intro x hx
  rcases List.mem_append.1 (List.mem_of_mem_take hx) with h | h
  · exact hc x h
  · rw [(List.mem_replicate.1 h).2]
    omega

theorem info33 : (Tryz.prog.info? 33).map (fun i => (i.zero, i.size, i.bytes)) = some (some (.int .u64 0), 1, 8) := by kernel_rfl

/-- the block of n zero words -/
def zeroWords (n : Nat) : Obj := .cells (madeCells (Value.int .u64 0).cells (n * 1)) 33

theorem zeroWords_zeros (w : World) (n : Nat) : Blk (w.alloc (zeroWords n)) w.heap.size 33 (u64s (List.replicate n 0)) := by
  have := Blk.new w (madeCells (Value.int .u64 0).cells (n * 1)) 33
  have e : (madeCells (Value.int .u64 0).cells (n * 1)).toList = u64s (List.replicate n 0) := by
    rw [Nat.mul_one]
    refine (toList_madeCells_one _ _).trans ?_
    simp [u64s]
  rw [e] at this
  exact this

theorem make201 (n : Nat) (h : n ≤ 1048576) (w : World) :
    (Instr.makeSlice 201 (.int .i64 (n : Int)) (.int .i64 (n : Int))).run Tryz.prog w = .ok (.slice (some ⟨w.heap.size, 0, none⟩) n n) (w.alloc (zeroWords n)) :=
  run_make_rowN 201 33 (.int .u64 0) 1 8 Tryz.underlying201 info33 .i64 .i64 n (by omega) (by omega) w

def MadeSet (w : World) (s : PSet) (e : Ending) (w' : World) : Prop :=
  ∃ l, e = .returned (.pointer (some ⟨l.1, 0, none⟩)) ∧ w.heap.size ≤ l.1 ∧ w.heap.size ≤ l.2 ∧ SetRep w' l s ∧ Touch Nothing w w'

theorem splice_take (cs : List Nat) (k : Nat) : splice (u64s (List.replicate k 0)) 0 (u64s (cs.take k)) = u64s ((cs ++ List.replicate k 0).take k) := by
  simp only [splice, u64s, List.take_zero, List.nil_append, Nat.zero_add, List.length_map, ← List.map_drop, ← List.map_append]
  congr 1
  rw [List.take_append, List.length_take, List.drop_replicate, List.take_replicate]
  congr 2
  omega

set_option maxRecDepth 100000 in
theorem of_ (cs : List Nat) (n : Nat) (sp : Option Addr) (c : Nat) (w : World) (h : n ≤ 1048576) (hc : ∀ x ∈ cs, x < 18446744073709551616)
    (hsrc : 0 < cs.length → ∃ ad, sp = some ad ∧ ad.block < w.heap.size ∧ ∀ j v, (u64s cs)[j]? = some v → w.cell? (ad.add j) = some v) :
    Calls Tryz.prog 181 #[.slice sp cs.length c, .int .i64 n] w (MadeSet w ⟨n, ofW cs n⟩) := by
  have hf := Lib.hid (fit_ n w h)
  obtain ⟨k, hk⟩ : ∃ k, k = (n + 63) / 64 := ⟨_, rfl⟩
  rw [← hk] at hf
  have hmk := fun W => make201 k (by omega) W
  have T1 : Touch Nothing w ((w.alloc (zeroWords k)).alloc (.cells #[.int .i64 n, .slice (some ⟨w.heap.size, 0, none⟩) k k] 308)) := ((Touch.refl _ _).alloc _).alloc _
  have hZ : Blk ((w.alloc (zeroWords k)).alloc (.cells #[.int .i64 n, .slice (some ⟨w.heap.size, 0, none⟩) k k] 308)) w.heap.size 33 (u64s (List.replicate k 0)) := (zeroWords_zeros w k).alloc _
  have hS : Blk ((w.alloc (zeroWords k)).alloc (.cells #[.int .i64 n, .slice (some ⟨w.heap.size, 0, none⟩) k k] 308)) (w.heap.size + 1) 308 [.int .i64 n, .slice (some ⟨w.heap.size, 0, none⟩) k k] := by
    simpa using Blk.new (w.alloc (zeroWords k)) #[.int .i64 n, .slice (some ⟨w.heap.size, 0, none⟩) k k] 308
  have q1 : (u64s (cs.take k)).length = Nat.min cs.length k := by
    show _ = min cs.length k
    simp [u64s]
    omega
  have q2 : 0 < (u64s (cs.take k)).length → ∃ ad, sp = some ad ∧ ∀ j v, (u64s (cs.take k))[j]? = some v → ((w.alloc (zeroWords k)).alloc (.cells #[.int .i64 n, .slice (some ⟨w.heap.size, 0, none⟩) k k] 308)).cell? (ad.add j) = some v := by
    intro hp
    obtain ⟨ad, rfl, hlt, had⟩ := hsrc (by simp [u64s] at hp; omega)
    refine ⟨ad, rfl, fun j v hj => ?_⟩
    rw [T1.cell (by unfold Addr.add; split <;> exact hlt) (fun h => h)]
    apply had
    simp only [u64s, List.getElem?_map, List.getElem?_take] at hj ⊢
    split at hj
    · exact hj
    · simp at hj
  have q3 : 0 + (u64s (cs.take k)).length ≤ (u64s (List.replicate k 0)).length := by simp [u64s]; omega
  have q4 : ∀ v ∈ u64s (cs.take k), v.oneCell' = true := by
    intro v hv
    simp only [u64s, List.mem_map] at hv
    obtain ⟨_, _, rfl⟩ := hv
    rfl
  have HK := Lib.hid hk
  have HS := Lib.hid hS
  have HZ := Lib.hid hZ
  have HC := Lib.hid hc
  have HT := Lib.hid T1
  have Q1 := Lib.hid q1
  have Q2 := Lib.hid q2
  have Q3 := Lib.hid q3
  have Q4 := Lib.hid q4
  clear hk hsrc hc hS hZ q1 q2 q3 q4 T1
  go_enter Tryz.func181, Tryz.ntmps181
  go_wp2_with fail
  refine hf.out.mono ?_
  rintro e w' ⟨rfl, rfl⟩
  go_wp2_with (refine wpList_copy_blk rfl (.tmp 20) (.tmp 21) 201 201 rfl 33 Tryz.underlying201 (by kernel_rfl) _ _ _ _ _ _ rfl rfl w.heap.size 0 _ 33 HZ.out _ Q1.out (fun h => ⟨rfl, Q2.out h⟩) Q3.out Q4.out ?_; intro w1 HB HTB)
  have hB := HB.out
  rw [splice_take] at hB
  have hlen : ((cs ++ List.replicate k 0).take k).length = k := by simp
  have hS1 := HS.out.touch HTB (by omega)
  have hW : Words ((cs ++ List.replicate k 0).take k) n := by
    have := ofW_words (cs := cs) h HC.out
    rw [← HK.out] at this
    exact this
  have hk := HK.out
  refine (cut_ (w.heap.size + 1) w.heap.size n ((cs ++ List.replicate k 0).take k) w1 hW (by rw [hlen]; exact hS1) hB).mono ?_
  rintro e w2 ⟨rfl, hB2, T2⟩
  have hS2 := Lib.hid (hS1.touch T2 (by omega))
  have HB2 := Lib.hid hB2
  have HT2 := Lib.hid T2
  have HTB := Lib.hid HTB
  have HW := Lib.hid hW
  clear hB hB2 hS1 T2 hW hlen hk
  go_wp2_with fail
  go_ret
  have e1 : ofW cs n = cutW n ((cs ++ List.replicate k 0).take k) := by
    unfold ofW
    rw [← HK.out]
  have e2 : (cutW n ((cs ++ List.replicate k 0).take k)).length = k := by
    rw [HW.out.cut.len, ← HK.out]
  refine ⟨(w.heap.size + 1, w.heap.size), rfl, by simp, by simp, ⟨?_, ?_, by simp, ⟨?_, h, ?_⟩⟩, ?_⟩
  · rw [e1]
    simp only [e2]
    exact hS2.out
  · rw [e1]
    exact HB2.out
  · rw [e1]
    exact HW.out.cut.len
  · rw [e1]
    exact HW.out.cut.word
  · exact (HT.out.trans' HTB.out (fun i hi e => by omega)).trans' HT2.out (fun i hi e => by omega)

end Go.Proofs.YtnjcmcnjgdjbiaaGreatDoor

namespace Go.Proofs.YtnjcmcnjgdjbiaaGreatDoor
open Go.RowKit

theorem newSet_ (n : Nat) (w : World) (h : n ≤ 1048576) :
    Calls Tryz.prog 130 #[.int .i64 n] w (MadeSet w ⟨n, ofW [] n⟩) := by
  have hc := Lib.hid (of_ [] n none 0 w h (by simp) (by simp))
  go_enter Tryz.func130, Tryz.ntmps130
  go_wp2_with fail
  refine hc.out.mono ?_
  rintro e w' ⟨l, rfl, h1, h2, hs, hT⟩
  have HS := Lib.hid hs
  have HT := Lib.hid hT
  clear hs hT
  go_wp2
  go_ret
  exact ⟨l, rfl, h1, h2, HS.out, HT.out⟩

def Resized (w : World) (l : Nat × Nat) (s : PSet) (e : Ending) (w' : World) : Prop :=
  ∃ b, e = .returned (.tuple #[]) ∧ w.heap.size ≤ b ∧ SetRep w' (l.1, b) s ∧ Touch (fun k => k = l.1) w w'

theorem SetRep.resize_ {w : World} {l : Nat × Nat} {s : PSet} (R : SetRep w l s) (n : Nat) (h : n ≤ 1048576) :
    Calls Tryz.prog 287 #[.pointer (some ⟨l.1, 0, none⟩), .int .i64 n] w (Resized w l ⟨n, ofW s.ws n⟩) := by
  have c0 := R.blk.cell 0
  have c1 := R.blk.cell 1
  simp at c0 c1
  have hc := Lib.hid (of_ s.ws n (some ⟨l.2, 0, none⟩) s.ws.length w h R.ok.word (fun _ => ⟨_, rfl, R.words.lt, by
    intro j v hj
    have : (⟨l.2, 0, none⟩ : Addr).add j = ⟨l.2, j, none⟩ := by unfold Addr.add; split <;> simp_all
    rw [this, R.words.cell]
    exact hj⟩))
  have HR := Lib.hid R
  clear R
  go_enter Tryz.func287, Tryz.ntmps287
  go_wp2_with fail
  refine hc.out.mono ?_
  rintro e w' ⟨l', rfl, h1, h2, hs, hT⟩
  have d0 := hs.blk.cell 0
  have d1 := hs.blk.cell 1
  simp at d0 d1
  have hR := HR.out.blk.touch hT (fun h => h)
  have e0 := hR.cell 0
  have e1 := hR.cell 1
  have f0 := hR.free 0
  have f1 := hR.free 1
  simp at e0 e1
  have hlt := HR.out.blk.lt
  have HS := Lib.hid hs
  have HT := Lib.hid hT
  have HB := Lib.hid hR
  clear hs hT hR c0 c1
  go_wp2_with fail
  go_end0
  have T1 : Touch (fun k => k = l.1) w' (w'.setCell ⟨l.1, 0, none⟩ (.int .i64 n)) := Touch.cellAt _ _ _ _
  have T2 : Touch (fun k => k = l.1) (w'.setCell ⟨l.1, 0, none⟩ (.int .i64 n)) ((w'.setCell ⟨l.1, 0, none⟩ (.int .i64 n)).setCell ⟨l.1, 1, none⟩ (.slice (some ⟨l'.2, 0, none⟩) (ofW s.ws n).length (ofW s.ws n).length)) := Touch.cellAt _ _ _ _
  refine ⟨l'.2, rfl, h2, ⟨?_, ?_, by simp; omega, HS.out.ok⟩, (HT.out.none_.trans T1).trans T2⟩
  · have := (HB.out.set 0 (.int .i64 n)).set 1 (.slice (some ⟨l'.2, 0, none⟩) (ofW s.ws n).length (ofW s.ws n).length)
    simpa using this
  · exact (HS.out.words.touch T1 (by omega)).touch T2 (by omega)

end Go.Proofs.YtnjcmcnjgdjbiaaGreatDoor

