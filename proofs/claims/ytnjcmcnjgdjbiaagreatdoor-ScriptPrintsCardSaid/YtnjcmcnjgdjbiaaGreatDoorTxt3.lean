/- Plain law of a script's printing: the text of calls, and that reading it gives the calls, and the text of what was read. No program in this text. Conditions: none. -/
import Derived.Test.YtnjcmcnjgdjbiaaGreatDoorTxt
import Derived.Lib.ItoaNum
namespace Go.Proofs.YtnjcmcnjgdjbiaaGreatDoor.Txt

/-- a call as a program may hand it in -/
structure Cx where
  op : Int
  ref : Int
  p : Nat
  a : Nat
  b : Nat
  deny : Bool
  data : Bs

def Cx.cd (x : Cx) : Cd := ⟨x.op.toNat, x.ref.toNat, x.p, x.a, x.b, x.deny, x.data⟩
def Cd.cx (x : Cd) : Cx := ⟨x.op, x.ref, x.p, x.a, x.b, x.deny, x.data⟩

def dec (n : Nat) : Bs := Lib.decDigits n
def hexD (n : Nat) : UInt8 := if n < 10 then UInt8.ofNat (48 + n) else UInt8.ofNat (87 + n)
def hexB : Bs → Bs
  | [] => []
  | c :: l => hexD (c.toNat / 16) :: hexD (c.toNat % 16) :: hexB l
def hexT (d : Bs) : Bs := if d = [] then [45] else hexB d

def adrT (ref p : Nat) : Bs := if ref = 0 then dec p else 36 :: (dec ref ++ if 0 < p then 43 :: dec p else [])

def formOf (op : Nat) : Form := formAt.getD (op - 1) ⟨false, 0, false, false⟩

def okCd (x : Cd) : Bool :=
  decide (1 ≤ x.op) && decide (x.op ≤ 14) && decide (x.ref ≤ 4096) && decide (x.data.length ≤ 65536) && ((formOf x.op).address || (decide (x.ref = 0) && decide (x.p = 0))) &&
    ((formOf x.op).refused || !x.deny) && (decide (2 ≤ (formOf x.op).numbers) || decide (x.b = 0)) && (decide (1 ≤ (formOf x.op).numbers) || decide (x.a = 0)) && ((formOf x.op).data || x.data.isEmpty)

def adrWs (f : Form) (x : Cd) : List Bs := if f.address then [adrT x.ref x.p] else []
def numWs (f : Form) (x : Cd) : List Bs := if f.numbers = 0 then [] else if f.numbers = 1 then [dec x.a] else [dec x.a, dec x.b]
def datWs (f : Form) (x : Cd) : List Bs := if f.data then [hexT x.data] else []
def fieldWs (f : Form) (x : Cd) : List Bs := adrWs f x ++ (numWs f x ++ datWs f x)
def denyWs (x : Cd) : List Bs := if x.deny then [[33]] else []
def restWs (x : Cd) : List Bs := fieldWs (formOf x.op) x ++ denyWs x
def opOf (x : Cd) : Bs := opWords.getD (x.op - 1) []
def textOf (x : Cd) : Bs := opOf x ++ R (restWs x)

def tellable (x : Cx) : Bool := decide (0 ≤ x.ref) && okCd x.cd

def printGo : List Cx → Bs → Bs × Nat
  | [], acc => (acc, 0)
  | x :: xs, acc => if tellable x = true ∧ acc.length + (textOf x.cd).length + 1 ≤ 1048576 then printGo xs (acc ++ (textOf x.cd ++ [10])) else ([], 7)

def printT (xs : List Cx) : Bs × Nat := if 4096 < xs.length then ([], 6) else printGo xs []

/- digits -/
theorem dec_small {n : Nat} (h : n < 10) : dec n = [UInt8.ofNat (48 + n)] := Lib.decDigits_one h
theorem dec_big {n : Nat} (h : ¬ n < 10) : dec n = dec (n / 10) ++ [UInt8.ofNat (48 + n % 10)] := by
  unfold dec
  rw [Lib.decDigits, dif_neg h]

theorem digit_toNat {d : Nat} (h : d < 10) : (UInt8.ofNat (48 + d)).toNat = 48 + d := by
  have : ∀ d : Fin 10, (UInt8.ofNat (48 + d.val)).toNat = 48 + d.val := by decide
  exact this ⟨d, h⟩

theorem dec_ne (n : Nat) : dec n ≠ [] := by
  by_cases h : n < 10
  · rw [dec_small h]; simp
  · rw [dec_big h]; simp

theorem dec_all (n : Nat) : (dec n).all isDig = true := by
  induction n using Nat.strongRecOn with
  | _ n ih =>
    have key : ∀ d, d < 10 → isDig (UInt8.ofNat (48 + d)) = true := fun d h => by
      rw [isDig_iff, digit_toNat h]; omega
    by_cases h : n < 10
    · rw [dec_small h, List.all_cons, key n h]
      rfl
    · rw [dec_big h, List.all_append, ih (n / 10) (by omega), List.all_cons, key (n % 10) (by omega)]
      rfl

theorem dec_mem {n : Nat} {c : UInt8} (h : c ∈ dec n) : 48 ≤ c.toNat ∧ c.toNat ≤ 57 := (isDig_iff c).1 (List.all_eq_true.1 (dec_all n) c h)

theorem dec_head (n : Nat) (h : 0 < n) : (dec n).head? ≠ some 48 := by
  induction n using Nat.strongRecOn with
  | _ n ih =>
    by_cases h1 : n < 10
    · rw [dec_small h1]
      intro e
      have := Option.some.inj e
      have h2 := digit_toNat h1
      rw [this] at h2
      have : (48 : UInt8).toNat = 48 := rfl
      omega
    · rw [dec_big h1, List.head?_append]
      have h2 := ih (n / 10) (by omega) (by omega)
      cases he : (dec (n / 10)).head? with
      | none => exact absurd (List.head?_eq_none_iff.1 he) (dec_ne _)
      | some c => rw [he] at h2; exact h2

theorem dec_long {n : Nat} (h : 1 < (dec n).length) : 0 < n := by
  rcases Nat.eq_zero_or_pos n with rfl | h0
  · rw [dec_small (by omega)] at h; simp at h
  · exact h0

theorem parse_snoc (c : UInt8) (l : Bs) : ∀ (acc : Nat),
    Lib.parseUintM M64 acc (l ++ [c]) = match Lib.parseUintM M64 acc l with
      | .ok u => Lib.parseUintM M64 u [c]
      | e => e := by
  induction l with
  | nil => intro acc; rfl
  | cons x l ih =>
    intro acc
    rw [List.cons_append]
    unfold Lib.parseUintM
    split
    · split
      · rfl
      · split
        · rfl
        · rw [ih]; rfl
    · rfl

theorem parse_one (u : Nat) (c : UInt8) (n : Nat) : Lib.parseUintM M64 u [c] = .ok n ↔ (48 ≤ c.toNat ∧ c.toNat ≤ 57) ∧ u * 10 + (c.toNat - 48) ≤ M64 ∧ n = u * 10 + (c.toNat - 48) := by
  unfold Lib.parseUintM Lib.parseUintM M64
  split
  · rename_i h
    split
    · constructor
      · intro e; cases e
      · rintro ⟨_, h2, _⟩; omega
    · split
      · constructor
        · intro e; cases e
        · rintro ⟨_, h2, _⟩; omega
      · constructor
        · intro e; cases e; exact ⟨h, by omega, rfl⟩
        · rintro ⟨_, _, rfl⟩; rfl
  · rename_i h
    constructor
    · intro e; cases e
    · rintro ⟨h1, _⟩; exact absurd h1 h

theorem parse_dec (n : Nat) (h : n ≤ M64) : Lib.parseUintM M64 0 (dec n) = .ok n := by
  induction n using Nat.strongRecOn with
  | _ n ih =>
    by_cases h1 : n < 10
    · rw [dec_small h1, parse_one, digit_toNat h1]
      exact ⟨by omega, by unfold M64; omega, by omega⟩
    · rw [dec_big h1, parse_snoc, ih (n / 10) (by omega) (by omega)]
      simp only []
      rw [parse_one, digit_toNat (by omega)]
      exact ⟨by omega, by omega, by omega⟩

theorem num_dec (n : Nat) (h : n ≤ M64) : numW (dec n) = some n := by
  unfold numW
  rw [if_neg, parseUintB_64 _ (dec_ne n), parse_dec n h]
  rintro (e | e | e)
  · exact dec_ne n e
  · exact dec_head n (dec_long e.1) e.2
  · rw [dec_all] at e; cases e

theorem rev_ind {P : Bs → Prop} (h0 : P []) (h1 : ∀ l c, P l → P (l ++ [c])) (w : Bs) : P w := by
  have key : ∀ v : Bs, P v.reverse := by
    intro v
    induction v with
    | nil => exact h0
    | cons c v ih => rw [List.reverse_cons]; exact h1 _ _ ih
  have := key w.reverse
  rwa [List.reverse_reverse] at this

theorem dec_parse (w : Bs) : w ≠ [] → (1 < w.length → w.head? ≠ some 48) → ∀ n, Lib.parseUintM M64 0 w = .ok n → dec n = w ∧ (w.head? ≠ some 48 → 0 < n) := by
  refine rev_ind (P := fun w => w ≠ [] → (1 < w.length → w.head? ≠ some 48) → ∀ n, Lib.parseUintM M64 0 w = .ok n → dec n = w ∧ (w.head? ≠ some 48 → 0 < n)) (fun h => absurd rfl h) ?_ w
  intro l c ih _ hh n hn
  rw [parse_snoc] at hn
  have hback : ∀ d, c.toNat = 48 + d → UInt8.ofNat (48 + d) = c := fun d h => by rw [← h]; simp
  by_cases hl : l = []
  · subst hl
    simp only [Lib.parseUintM] at hn
    have hn' : Lib.parseUintM M64 0 [c] = .ok n := hn
    rw [parse_one] at hn'
    obtain ⟨h1, -, rfl⟩ := hn'
    refine ⟨?_, fun h => ?_⟩
    · rw [dec_small (by omega)]
      simp only [List.nil_append, List.cons.injEq, and_true]
      exact hback _ (by omega)
    · rcases Nat.lt_or_ge 48 c.toNat with h2 | h2
      · omega
      · exfalso
        apply h
        simp only [List.nil_append, List.head?_cons, Option.some.injEq]
        have : c.toNat = (48 : UInt8).toNat := by show _ = 48; omega
        exact UInt8.toNat_inj.1 this
  · cases hp : Lib.parseUintM M64 0 l with
    | ok u =>
      rw [hp] at hn
      simp only [] at hn
      rw [parse_one] at hn
      obtain ⟨h1, h2, rfl⟩ := hn
      have hhead : (l ++ [c]).head? = l.head? := by
        cases l with
        | nil => exact absurd rfl hl
        | cons => rfl
      have hlen : 0 < l.length := List.length_pos_iff.2 hl
      have h0 : l.head? ≠ some 48 := by rw [← hhead]; exact hh (by simp; omega)
      obtain ⟨a1, a2⟩ := ih hl (fun _ => h0) u hp
      have hu := a2 h0
      refine ⟨?_, fun _ => by omega⟩
      rw [dec_big (by omega), show (u * 10 + (c.toNat - 48)) / 10 = u by omega, a1, show (u * 10 + (c.toNat - 48)) % 10 = c.toNat - 48 by omega, hback _ (by omega)]
    | _ => rw [hp] at hn; cases hn

theorem dec_num {w : Bs} {n : Nat} (h : numW w = some n) : dec n = w ∧ n ≤ M64 := by
  unfold numW at h
  split at h
  · cases h
  · rename_i hn
    have hne : w ≠ [] := fun e => hn (.inl e)
    rw [parseUintB_64 w hne] at h
    split at h
    · rename_i u hu
      cases h
      exact ⟨(dec_parse w hne (fun h1 h2 => hn (.inr (.inl ⟨h1, h2⟩))) _ hu).1, Lib.parseUintM_le _ _ _ _ (Nat.zero_le _) hu⟩
    · cases h

/- bytes in sixteen digits -/
theorem half_hexD (k : Nat) (h : k < 16) : half (hexD k) = k := by
  have : ∀ k : Fin 16, half (hexD k.val) = k.val := by decide
  exact this ⟨k, h⟩
theorem hexD_half (x : UInt8) (h : half x ≠ 16) : hexD (half x) = x ∧ half x < 16 := by
  have : ∀ n : Fin 256, half (UInt8.ofNat n.val) ≠ 16 → hexD (half (UInt8.ofNat n.val)) = UInt8.ofNat n.val ∧ half (UInt8.ofNat n.val) < 16 := by decide +kernel
  have h2 := this ⟨x.toNat, x.toNat_lt⟩
  simp only [UInt8.ofNat_toNat] at h2
  exact h2 h

theorem hexW_hexB (d : Bs) : hexW (hexB d) = some d := by
  induction d with
  | nil => rfl
  | cons c d ih =>
    have hc := c.toNat_lt
    have h1 := half_hexD (c.toNat / 16) (by omega)
    have h2 := half_hexD (c.toNat % 16) (by omega)
    unfold hexB hexW
    rw [h1, h2, if_neg (by omega), ih]
    simp only [Option.map_some, Option.some.injEq, List.cons.injEq, and_true]
    rw [show c.toNat / 16 * 16 + c.toNat % 16 = c.toNat by omega]
    simp

theorem hexB_hexW : ∀ (w : Bs) (d : Bs), hexW w = some d → hexB d = w ∧ w.length = 2 * d.length
  | [], d, h => by cases h; exact ⟨rfl, rfl⟩
  | [_], d, h => by cases h
  | x :: y :: l, d, h => by
    unfold hexW at h
    split at h
    · cases h
    · rename_i hn
      simp only [Option.map_eq_some_iff] at h
      obtain ⟨t, ht, rfl⟩ := h
      obtain ⟨h1, h2⟩ := hexB_hexW l t ht
      obtain ⟨a1, a2⟩ := hexD_half x (fun e => hn (.inl e))
      obtain ⟨b1, b2⟩ := hexD_half y (fun e => hn (.inr e))
      have e : ((half x * 16 + half y).toUInt8).toNat = half x * 16 + half y := by
        simp [Nat.toUInt8]; omega
      refine ⟨?_, by simp [h2]; omega⟩
      unfold hexB
      rw [e, show (half x * 16 + half y) / 16 = half x by omega, show (half x * 16 + half y) % 16 = half y by omega, a1, b1, h1]

theorem hexB_length (d : Bs) : (hexB d).length = 2 * d.length := by
  induction d with
  | nil => rfl
  | cons c d ih => simp [hexB, ih]; omega

theorem dat_hexT (d : Bs) (h : d.length ≤ 65536) : dataW (hexT d) = some d := by
  unfold dataW hexT
  by_cases hd : d = []
  · subst hd; rfl
  · have hl := hexB_length d
    have hp : 0 < d.length := List.length_pos_iff.2 hd
    rw [if_neg hd, if_neg, if_neg]
    · exact hexW_hexB d
    · rintro (e | e | e)
      · rw [e] at hl; simp at hl; omega
      · omega
      · omega
    · intro e
      rw [e] at hl; simp at hl; omega

theorem hexT_dat {w d : Bs} (h : dataW w = some d) : hexT d = w ∧ d.length ≤ 65536 := by
  unfold dataW at h
  split at h
  · rename_i e
    cases h
    exact ⟨e.symm, by simp⟩
  · split at h
    · cases h
    · rename_i hn
      obtain ⟨h1, h2⟩ := hexB_hexW w d h
      have hne : d ≠ [] := by
        rintro rfl
        exact hn (.inl h1.symm)
      refine ⟨by unfold hexT; rw [if_neg hne, h1], ?_⟩
      rcases Nat.lt_or_ge 131072 w.length with h3 | h3
      · exact absurd (.inr (.inr h3)) hn
      · omega

/- addresses -/
theorem dec_no (n : Nat) (c : UInt8) (h : c.toNat < 48 ∨ 57 < c.toNat) : c ∉ dec n := fun e => by have := dec_mem e; omega

theorem place_adrT (ref p : Nat) (hr : ref ≤ 4096) (hp : p ≤ M64) : placeW (adrT ref p) = some (ref, p) := by
  unfold adrT
  by_cases h : ref = 0
  · subst h
    rw [if_pos rfl]
    have hn := num_dec p hp
    unfold placeW
    cases hd : dec p with
    | nil => exact absurd hd (dec_ne p)
    | cons x l =>
      have hx : x ≠ 36 := fun e => dec_no p 36 (by decide) (by rw [hd, e]; simp)
      simp only [if_neg hx]
      rw [← hd, hn]
      rfl
  · rw [if_neg h]
    unfold placeW
    simp only [if_true]
    by_cases h0 : 0 < p
    · rw [if_pos h0, cutC_app 43 (dec ref) _ (dec_no ref 43 (by decide))]
      simp only [num_dec ref (by unfold M64; omega), if_true, num_dec p hp]
      rw [if_neg (by omega), if_neg (by omega)]
    · obtain rfl : p = 0 := by omega
      rw [if_neg h0, List.append_nil, cutC_none 43 (dec ref) (dec_no ref 43 (by decide))]
      simp only [num_dec ref (by unfold M64; omega)]
      rw [if_neg (by omega)]
      rfl

theorem adrT_place {w : Bs} {r : Nat × Nat} (h : placeW w = some r) : adrT r.1 r.2 = w ∧ r.1 ≤ 4096 ∧ r.2 ≤ M64 := by
  unfold placeW at h
  cases w with
  | nil => cases h
  | cons x l =>
    simp only [] at h
    by_cases hx : x = 36
    · subst hx
      rw [if_pos rfl] at h
      cases hn : numW (cutC 43 l).1 with
      | none => rw [hn] at h; cases h
      | some n =>
        rw [hn] at h
        simp only [] at h
        split at h
        · cases h
        · rename_i hr
          obtain ⟨d1, d2⟩ := dec_num hn
          rcases cutC_split 43 l with ⟨h1, h2⟩ | ⟨a, b, h1, h2, h3⟩
          · rw [h2] at h d1
            simp only [Bool.false_eq_true, if_false, Option.some.injEq] at h
            subst h
            unfold adrT
            refine ⟨?_, by omega, Nat.zero_le _⟩
            simp only [] at d1 ⊢
            rw [if_neg (by omega), d1]
            simp
          · rw [h3] at h d1
            simp only [if_true] at h
            cases hp : numW b with
            | none => rw [hp] at h; cases h
            | some p =>
              rw [hp] at h
              simp only [] at h
              split at h
              · cases h
              · rename_i hp0
                simp only [Option.some.injEq] at h
                subst h
                obtain ⟨e1, e2⟩ := dec_num hp
                unfold adrT
                simp only [] at d1 ⊢
                refine ⟨?_, by omega, e2⟩
                rw [if_neg (by omega), d1, if_pos (by omega), e1, h1]
    · rw [if_neg hx] at h
      simp only [Option.map_eq_some_iff] at h
      obtain ⟨p, hp, rfl⟩ := h
      obtain ⟨e1, e2⟩ := dec_num hp
      exact ⟨by unfold adrT; rw [if_pos rfl]; exact e1, Nat.zero_le _, e2⟩

/- fields -/
def zeroed (op : Nat) (deny : Bool) : Cd := { Cd.none op with deny := deny }

structure Fits (f : Form) (x : Cd) : Prop where
  ref : x.ref ≤ 4096
  p : x.p ≤ M64
  a : x.a ≤ M64
  b : x.b ≤ M64
  data : x.data.length ≤ 65536
  adr : f.address = false → x.ref = 0 ∧ x.p = 0
  num1 : f.numbers = 0 → x.a = 0
  num2 : f.numbers ≤ 1 → x.b = 0
  dat : f.data = false → x.data = []

theorem fields_fwd (f : Form) (x : Cd) (hn : f.numbers ≤ 2) (F : Fits f x) : fieldsW (zeroed x.op x.deny) f (fieldWs f x) = some x := by
  obtain ⟨op, ref, p, a, b, deny, data⟩ := x
  obtain ⟨h1, h2, h3, h4, h5, h6, h7, h8, h9⟩ := F
  simp only at h1 h2 h3 h4 h5 h6 h7 h8 h9
  have e1 := place_adrT ref p h1 h2
  have e2 := num_dec a h3
  have e3 := num_dec b h4
  have e4 := dat_hexT data h5
  obtain ⟨fa, fn, fd, fr⟩ := f
  simp only at hn h6 h7 h8 h9
  unfold fieldsW addrW fieldWs adrWs numWs datWs datW zeroed Cd.none
  have hc : fn = 0 ∨ fn = 1 ∨ fn = 2 := by omega
  rcases hc with rfl | rfl | rfl <;> cases fa <;> cases fd <;>
    simp_all [numsW]

theorem fields_back (f : Form) (y x : Cd) (ws : List Bs) (hn : f.numbers ≤ 2) (hy : y = zeroed y.op y.deny) (h : fieldsW y f ws = some x) : x.op = y.op ∧ x.deny = y.deny ∧ ws = fieldWs f x ∧ Fits f x := by
  obtain ⟨op, ref, p, a, b, deny, data⟩ := y
  unfold zeroed Cd.none at hy
  simp only [Cd.mk.injEq, true_and] at hy
  obtain ⟨rfl, rfl, rfl, rfl, rfl⟩ := hy
  obtain ⟨fa, fn, fd, fr⟩ := f
  simp only at hn
  unfold fieldsW at h
  cases hA : addrW ⟨op, 0, 0, 0, 0, deny, []⟩ ⟨fa, fn, fd, fr⟩ ws with
  | none => rw [hA] at h; cases h
  | some r =>
    obtain ⟨x1, ws1⟩ := r
    rw [hA] at h
    simp only [] at h
    cases hN : numsW x1 fn ws1 with
    | none => rw [hN] at h; cases h
    | some r =>
      obtain ⟨x2, ws2⟩ := r
      rw [hN] at h
      simp only [] at h
      cases hD : datW x2 ⟨fa, fn, fd, fr⟩ ws2 with
      | none => rw [hD] at h; cases h
      | some r =>
        obtain ⟨x3, ws3⟩ := r
        rw [hD] at h
        simp only [] at h
        split at h
        · rename_i hw
          subst hw
          cases h
          -- the address
          have A : ∃ ref p, x1 = ⟨op, ref, p, 0, 0, deny, []⟩ ∧ ws = (if fa then [adrT ref p] else []) ++ ws1 ∧ ref ≤ 4096 ∧ p ≤ M64 ∧ (fa = false → ref = 0 ∧ p = 0) := by
            unfold addrW at hA
            cases fa with
            | false => cases hA; exact ⟨0, 0, rfl, rfl, by omega, Nat.zero_le _, fun _ => ⟨rfl, rfl⟩⟩
            | true =>
              simp only [if_true] at hA
              cases ws with
              | nil => cases hA
              | cons w ws =>
                simp only [Option.map_eq_some_iff] at hA
                obtain ⟨r, hr, he⟩ := hA
                cases he
                obtain ⟨a1, a2, a3⟩ := adrT_place hr
                exact ⟨r.1, r.2, rfl, by rw [a1]; rfl, a2, a3, fun h => by cases h⟩
          obtain ⟨ref, p, rfl, rfl, q1, q2, q3⟩ := A
          have N : ∃ a b, x2 = ⟨op, ref, p, a, b, deny, []⟩ ∧ ws1 = (if fn = 0 then [] else if fn = 1 then [dec a] else [dec a, dec b]) ++ ws2 ∧ a ≤ M64 ∧ b ≤ M64 ∧ (fn = 0 → a = 0) ∧ (fn ≤ 1 → b = 0) := by
            unfold numsW at hN
            by_cases h0 : fn = 0
            · rw [if_pos h0] at hN
              cases hN
              exact ⟨0, 0, rfl, by rw [if_pos h0]; rfl, Nat.zero_le _, Nat.zero_le _, fun _ => rfl, fun _ => rfl⟩
            · rw [if_neg h0] at hN
              cases ws1 with
              | nil => cases hN
              | cons w ws1 =>
                simp only [] at hN
                cases hw : numW w with
                | none => rw [hw] at hN; cases hN
                | some v =>
                  rw [hw] at hN
                  simp only [] at hN
                  obtain ⟨d1, d2⟩ := dec_num hw
                  by_cases h1 : fn = 1
                  · rw [if_pos h1] at hN
                    cases hN
                    exact ⟨v, 0, rfl, by rw [if_neg h0, if_pos h1, d1]; rfl, d2, Nat.zero_le _, fun h => absurd h h0, fun _ => rfl⟩
                  · rw [if_neg h1] at hN
                    cases ws1 with
                    | nil => cases hN
                    | cons w' ws1 =>
                      simp only [Option.map_eq_some_iff] at hN
                      obtain ⟨v', hv', he⟩ := hN
                      cases he
                      obtain ⟨d3, d4⟩ := dec_num hv'
                      exact ⟨v, v', rfl, by rw [if_neg h0, if_neg h1, d1, d3]; rfl, d2, d4, fun h => absurd h h0, fun h => by omega⟩
          obtain ⟨a, b, rfl, rfl, q4, q5, q6, q7⟩ := N
          have D : ∃ data, x = ⟨op, ref, p, a, b, deny, data⟩ ∧ ws2 = (if fd then [hexT data] else []) ∧ data.length ≤ 65536 ∧ (fd = false → data = []) := by
            unfold datW at hD
            cases fd with
            | false => cases hD; exact ⟨[], rfl, rfl, by simp, fun _ => rfl⟩
            | true =>
              simp only [if_true] at hD
              cases ws2 with
              | nil => cases hD
              | cons w ws2 =>
                simp only [Option.map_eq_some_iff] at hD
                obtain ⟨d, hd, he⟩ := hD
                cases he
                obtain ⟨a1, a2⟩ := hexT_dat hd
                exact ⟨d, rfl, by rw [a1]; rfl, a2, fun h => by cases h⟩
          obtain ⟨data, rfl, rfl, q8, q9⟩ := D
          exact ⟨rfl, rfl, rfl, ⟨q1, q2, q4, q5, q8, q3, q6, q7, q9⟩⟩
        · cases h

theorem idx_get (w : Bs) : ∀ (l : List Bs) (i : Nat), idx w l = some i → i < l.length ∧ l.getD i [] = w := by
  intro l
  induction l with
  | nil => intro i h; cases h
  | cons v l ih =>
    intro i h
    unfold idx at h
    split at h
    · rename_i e
      cases h
      exact ⟨by simp, by simpa using e⟩
    · simp only [Option.map_eq_some_iff] at h
      obtain ⟨a, ha, rfl⟩ := h
      obtain ⟨h1, h2⟩ := ih a ha
      exact ⟨by simp; omega, by simpa using h2⟩

theorem idx_op (i : Nat) (h : i < 14) : idx (opWords.getD i []) opWords = some i := by
  have : ∀ i : Fin 14, idx (opWords.getD i.val []) opWords = some i.val := by decide +kernel
  exact this ⟨i, h⟩
theorem op_clean (i : Nat) : 32 ∉ opWords.getD i [] ∧ 10 ∉ opWords.getD i [] := by
  by_cases h : i < 14
  · have : ∀ i : Fin 14, 32 ∉ opWords.getD i.val [] ∧ 10 ∉ opWords.getD i.val [] := by decide +kernel
    exact this ⟨i, h⟩
  · have hl : opWords.length = 14 := rfl
    rw [List.getD_eq_getElem?_getD, List.getElem?_eq_none (by omega)]
    simp
theorem form_le2 (i : Nat) : (formAt.getD i ⟨false, 0, false, false⟩).numbers ≤ 2 := by
  by_cases h : i < 14
  · have : ∀ i : Fin 14, (formAt.getD i.val ⟨false, 0, false, false⟩).numbers ≤ 2 := by decide +kernel
    exact this ⟨i, h⟩
  · have hl : formAt.length = 14 := rfl
    rw [List.getD_eq_getElem?_getD, List.getElem?_eq_none (by omega)]
    simp

/-- every word of a call's line but the first: none has a blank or a byte 10, and none but '!' is '!' -/
theorem hexB_mem : ∀ (d : Bs) (c : UInt8), c ∈ hexB d → (48 ≤ c.toNat ∧ c.toNat ≤ 57) ∨ (97 ≤ c.toNat ∧ c.toNat ≤ 102)
  | [], c, h => by cases h
  | x :: d, c, h => by
    have key : ∀ k, k < 16 → (48 ≤ (hexD k).toNat ∧ (hexD k).toNat ≤ 57) ∨ (97 ≤ (hexD k).toNat ∧ (hexD k).toNat ≤ 102) := fun k hk => by
      have : ∀ k : Fin 16, (48 ≤ (hexD k.val).toNat ∧ (hexD k.val).toNat ≤ 57) ∨ (97 ≤ (hexD k.val).toNat ∧ (hexD k.val).toNat ≤ 102) := by decide
      exact this ⟨k, hk⟩
    have hx := x.toNat_lt
    unfold hexB at h
    rcases List.mem_cons.1 h with rfl | h
    · exact key _ (by omega)
    · rcases List.mem_cons.1 h with rfl | h
      · exact key _ (by omega)
      · exact hexB_mem d c h

def Plain (w : Bs) : Prop := w ≠ [33] ∧ ∀ c ∈ w, c ≠ 32 ∧ c ≠ 10

theorem plain_of {w : Bs} (h : ∀ c ∈ w, 36 ≤ c.toNat) : Plain w := by
  refine ⟨fun e => ?_, fun c hc => ⟨fun e => ?_, fun e => ?_⟩⟩
  · have := h 33 (by rw [e]; simp)
    exact absurd this (by decide)
  · have := h c hc
    rw [e] at this
    exact absurd this (by decide)
  · have := h c hc
    rw [e] at this
    exact absurd this (by decide)

theorem plain_dec (n : Nat) : Plain (dec n) := plain_of fun _ hc => by have := dec_mem hc; omega
theorem plain_adr (r p : Nat) : Plain (adrT r p) := by
  refine plain_of fun c hc => ?_
  unfold adrT at hc
  split at hc
  · have := dec_mem hc; omega
  · rcases List.mem_cons.1 hc with rfl | hc
    · decide
    · rcases List.mem_append.1 hc with hc | hc
      · have := dec_mem hc; omega
      · split at hc
        · rcases List.mem_cons.1 hc with rfl | hc
          · decide
          · have := dec_mem hc; omega
        · cases hc
theorem plain_hex (d : Bs) : Plain (hexT d) := by
  refine plain_of fun c hc => ?_
  unfold hexT at hc
  split at hc
  · simp only [List.mem_cons, List.not_mem_nil, or_false] at hc
    subst hc; decide
  · have := hexB_mem d c hc; omega

theorem field_plain (f : Form) (x : Cd) : ∀ w ∈ fieldWs f x, Plain w := by
  intro w hw
  unfold fieldWs at hw
  rcases List.mem_append.1 hw with h | h
  · unfold adrWs at h
    split at h
    · simp at h; subst h; exact plain_adr _ _
    · cases h
  · rcases List.mem_append.1 h with h | h
    · unfold numWs at h
      split at h
      · cases h
      · split at h
        · simp at h; subst h; exact plain_dec _
        · simp at h
          rcases h with rfl | rfl <;> exact plain_dec _
    · unfold datWs at h
      split at h
      · simp at h; subst h; exact plain_hex _
      · cases h

theorem rest_clean (x : Cd) : ∀ w ∈ restWs x, ∀ c ∈ w, c ≠ 32 ∧ c ≠ 10 := by
  intro w hw
  unfold restWs at hw
  rcases List.mem_append.1 hw with h | h
  · exact (field_plain _ _ w h).2
  · unfold denyWs at h
    split at h
    · simp at h; subst h; intro c hc; simp at hc; subst hc; decide
    · cases h

theorem splitC_app (w : Bs) (l : Bs) (h : 32 ∉ w) : splitC 32 (w ++ 32 :: l) = w :: splitC 32 l := by
  induction w with
  | nil => exact splitC_hit 32 l
  | cons x w ih =>
    have hx : x ≠ 32 := fun e => h (by rw [e]; simp)
    obtain ⟨w', ws', h1, h2⟩ := splitC_miss hx (w ++ 32 :: l)
    rw [ih (fun e => h (List.mem_cons_of_mem _ e))] at h1
    cases h1
    exact h2
theorem splitC_one (c : UInt8) (w : Bs) (h : c ∉ w) : splitC c w = [w] := by
  induction w with
  | nil => rfl
  | cons x w ih =>
    have hx : x ≠ c := fun e => h (by rw [e]; simp)
    obtain ⟨w', ws', h1, h2⟩ := splitC_miss hx w
    rw [ih (fun e => h (List.mem_cons_of_mem _ e))] at h1
    cases h1
    exact h2

theorem split_R : ∀ (ws : List Bs) (w : Bs), 32 ∉ w → (∀ v ∈ ws, 32 ∉ v) → splitC 32 (w ++ R ws) = w :: ws
  | [], w, h, _ => by simpa [R] using splitC_one 32 w h
  | v :: ws, w, h, hv => by
    have : w ++ R (v :: ws) = w ++ 32 :: (v ++ R ws) := by simp [R]
    rw [this, splitC_app w _ h, split_R ws v (hv v (by simp)) (fun u hu => hv u (by simp [hu]))]

theorem okCd_iff (x : Cd) : okCd x = true ↔ (1 ≤ x.op ∧ x.op ≤ 14) ∧ x.ref ≤ 4096 ∧ x.data.length ≤ 65536 ∧ ((formOf x.op).address = false → x.ref = 0 ∧ x.p = 0) ∧ ((formOf x.op).refused = false → x.deny = false) ∧
    ((formOf x.op).numbers ≤ 1 → x.b = 0) ∧ ((formOf x.op).numbers = 0 → x.a = 0) ∧ ((formOf x.op).data = false → x.data = []) := by
  unfold okCd
  generalize formOf x.op = f
  obtain ⟨fa, fn, fd, fr⟩ := f
  simp only [Bool.and_eq_true, Bool.or_eq_true, decide_eq_true_eq, Bool.not_eq_true', List.isEmpty_iff]
  constructor
  · rintro ⟨⟨⟨⟨⟨⟨⟨⟨h1, h2⟩, h3⟩, h4⟩, h5⟩, h6⟩, h7⟩, h8⟩, h9⟩
    refine ⟨⟨h1, h2⟩, h3, h4, fun e => ?_, fun e => ?_, fun e => ?_, fun e => ?_, fun e => ?_⟩
    · rcases h5 with h | h
      · rw [e] at h; cases h
      · exact h
    · rcases h6 with h | h
      · rw [e] at h; cases h
      · exact h
    · rcases h7 with h | h
      · omega
      · exact h
    · rcases h8 with h | h
      · omega
      · exact h
    · rcases h9 with h | h
      · rw [e] at h; cases h
      · exact h
  · rintro ⟨⟨h1, h2⟩, h3, h4, h5, h6, h7, h8, h9⟩
    refine ⟨⟨⟨⟨⟨⟨⟨⟨h1, h2⟩, h3⟩, h4⟩, ?_⟩, ?_⟩, ?_⟩, ?_⟩, ?_⟩
    · cases fa
      · exact .inr (h5 rfl)
      · exact .inl rfl
    · cases fr
      · exact .inr (h6 rfl)
      · exact .inl rfl
    · by_cases e : 2 ≤ fn
      · exact .inl e
      · exact .inr (h7 (by omega))
    · by_cases e : 1 ≤ fn
      · exact .inl e
      · exact .inr (h8 (by omega))
    · cases fd
      · exact .inr (h9 rfl)
      · exact .inl rfl

theorem last_plain (f : Form) (x : Cd) : ((fieldWs f x).getLast? == some [33]) = false := by
  rw [beq_eq_false_iff_ne]
  intro e
  have := List.mem_of_getLast? e
  exact (field_plain f x _ this).1 rfl

theorem line_text (x : Cd) (ok : okCd x = true) (hp : x.p ≤ M64) (ha : x.a ≤ M64) (hb : x.b ≤ M64) : lineW (textOf x) = some x := by
  rw [okCd_iff] at ok
  obtain ⟨⟨h1, h2⟩, h3, h4, h5, h6, h7, h8, h9⟩ := ok
  have F : Fits (formOf x.op) x := ⟨h3, hp, ha, hb, h4, h5, h8, h7, h9⟩
  have hfw := fields_fwd (formOf x.op) x (form_le2 _) F
  unfold lineW textOf
  rw [split_R (restWs x) (opOf x) (op_clean _).1 (fun v hv e => (rest_clean x v hv 32 e).1 rfl)]
  unfold lineWs
  simp only []
  rw [show idx (opOf x) opWords = some (x.op - 1) from idx_op _ (by omega)]
  simp only []
  rw [show x.op - 1 + 1 = x.op by omega, show formAt.getD (x.op - 1) ⟨false, 0, false, false⟩ = formOf x.op from rfl]
  unfold restWs denyWs
  cases hd : x.deny with
  | true =>
    have hr : (formOf x.op).refused = true := by
      cases hr : (formOf x.op).refused with
      | true => rfl
      | false => rw [h6 hr] at hd; cases hd
    rw [hd] at hfw
    simp only [if_true, List.getLast?_append, hr]
    simp only [List.getLast?_singleton, Option.some_or, beq_self_eq_true, Bool.and_self, if_true, List.dropLast_concat]
    exact hfw
  | false =>
    rw [hd] at hfw
    simp only [Bool.false_eq_true, if_false, List.append_nil, last_plain, Bool.and_false]
    exact hfw

theorem text_line {s : Bs} {x : Cd} (h : lineW s = some x) : textOf x = s ∧ okCd x = true ∧ x.p ≤ M64 ∧ x.a ≤ M64 ∧ x.b ≤ M64 := by
  obtain ⟨w, ws, h1, h2, h3, h4⟩ := split_join s
  unfold lineW lineWs at h
  rw [h1] at h
  simp only [] at h
  cases hi : idx w opWords with
  | none => rw [hi] at h; cases h
  | some i =>
    rw [hi] at h
    simp only [] at h
    obtain ⟨hi1, hi2⟩ := idx_get w opWords i hi
    have hi3 : i < 14 := hi1
    split at h
    · rename_i hr
      simp only [Bool.and_eq_true, beq_iff_eq] at hr
      obtain ⟨e1, e2, e3, F⟩ := fields_back _ (zeroed (i + 1) true) x _ (form_le2 i) rfl h
      have e1' : x.op = i + 1 := e1
      have e2' : x.deny = true := e2
      have hf : formOf x.op = formAt.getD i ⟨false, 0, false, false⟩ := by unfold formOf; rw [e1']; rfl
      have hne : ws ≠ [] := fun e => by rw [e] at hr; simp at hr
      have hws : ws = ws.dropLast ++ [[33]] := by
        have := List.dropLast_concat_getLast hne
        rw [List.getLast?_eq_some_getLast hne] at hr
        rw [Option.some.inj hr.2] at this
        exact this.symm
      refine ⟨?_, ?_, F.p, F.a, F.b⟩
      · unfold textOf restWs denyWs opOf
        rw [hf, e2', e1', ← e3, if_pos rfl, ← hws, show i + 1 - 1 = i by omega, hi2, h2]
      · rw [okCd_iff, hf]
        exact ⟨by omega, F.ref, F.data, F.adr, fun e => (by rw [hr.1] at e; cases e), F.num2, F.num1, F.dat⟩
    · obtain ⟨e1, e2, e3, F⟩ := fields_back _ (zeroed (i + 1) false) x _ (form_le2 i) rfl h
      have e1' : x.op = i + 1 := e1
      have e2' : x.deny = false := e2
      have hf : formOf x.op = formAt.getD i ⟨false, 0, false, false⟩ := by unfold formOf; rw [e1']; rfl
      refine ⟨?_, ?_, F.p, F.a, F.b⟩
      · unfold textOf restWs denyWs opOf
        rw [hf, e2', e1', ← e3, if_neg (by simp), List.append_nil, show i + 1 - 1 = i by omega, hi2, h2]
      · rw [okCd_iff, hf]
        exact ⟨by omega, F.ref, F.data, F.adr, fun _ => e2', F.num2, F.num1, F.dat⟩

/- texts -/
def linesT (xs : List Cd) : Bs := xs.flatMap fun x => textOf x ++ [10]

theorem text_no10 (x : Cd) : 10 ∉ textOf x := by
  unfold textOf R
  intro h
  rcases List.mem_append.1 h with h | h
  · exact (op_clean _).2 h
  · obtain ⟨w, hw, hc⟩ := List.mem_flatMap.1 h
    rcases List.mem_cons.1 hc with e | hc
    · exact absurd e (by decide)
    · exact (rest_clean x w hw 10 hc).2 rfl

theorem printGo_ok : ∀ (xs : List Cx) (acc s : Bs), printGo xs acc = (s, 0) → s = acc ++ linesT (xs.map Cx.cd) ∧ (∀ x ∈ xs, tellable x = true) ∧ (xs ≠ [] → s.length ≤ 1048576)
  | [], acc, s, h => by
    cases h
    exact ⟨by simp [linesT], fun x hx => (by cases hx), fun e => absurd rfl e⟩
  | x :: xs, acc, s, h => by
    unfold printGo at h
    split at h
    · rename_i hc
      obtain ⟨h1, h2, h3⟩ := printGo_ok xs _ s h
      refine ⟨by rw [h1]; simp [linesT], fun y hy => ?_, fun _ => ?_⟩
      · rcases List.mem_cons.1 hy with rfl | hy
        · exact hc.1
        · exact h2 y hy
      · by_cases e : xs = []
        · subst e
          rw [h1]
          simp [linesT]
          omega
        · exact h3 e
    · cases h

theorem printGo_of : ∀ (xs : List Cx) (acc : Bs), (∀ x ∈ xs, tellable x = true) → printGo xs acc = (if xs ≠ [] ∧ 1048576 < (acc ++ linesT (xs.map Cx.cd)).length then ([], 7) else (acc ++ linesT (xs.map Cx.cd), 0))
  | [], acc, _ => by simp [printGo, linesT]
  | x :: xs, acc, h => by
    unfold printGo
    have hx := h x (by simp)
    have ih := printGo_of xs (acc ++ (textOf x.cd ++ [10])) (fun y hy => h y (by simp [hy]))
    have e : acc ++ (textOf x.cd ++ [10]) ++ linesT (xs.map Cx.cd) = acc ++ linesT ((x :: xs).map Cx.cd) := by simp [linesT]
    rw [e] at ih
    have hl : (acc ++ linesT ((x :: xs).map Cx.cd)).length = acc.length + ((textOf x.cd).length + 1 + (linesT (xs.map Cx.cd)).length) := by simp [linesT]; omega
    by_cases hc : acc.length + (textOf x.cd).length + 1 ≤ 1048576
    · rw [if_pos ⟨hx, hc⟩, ih]
      by_cases hn : xs = []
      · subst hn
        have h0 : (linesT (([] : List Cx).map Cx.cd)).length = 0 := rfl
        rw [if_neg (by simp), if_neg (by omega)]
      · by_cases hb : 1048576 < (acc ++ linesT ((x :: xs).map Cx.cd)).length
        · rw [if_pos ⟨hn, hb⟩, if_pos ⟨by simp, hb⟩]
        · rw [if_neg (fun e => hb e.2), if_neg (fun e => hb e.2)]
    · rw [if_neg (fun e => hc e.2), if_pos ⟨by simp, by omega⟩]

theorem splitC_lines : ∀ (xs : List Cd), xs ≠ [] → splitC 10 (linesT xs).dropLast = xs.map textOf ∧ (linesT xs).getLast? = some 10 := by
  intro xs
  induction xs with
  | nil => intro h; exact absurd rfl h
  | cons x xs ih =>
    intro _
    have e : linesT (x :: xs) = textOf x ++ 10 :: linesT xs := by simp [linesT]
    by_cases hx : xs = []
    · subst hx
      have e2 : linesT [x] = textOf x ++ [10] := by simp [linesT]
      rw [e2, List.dropLast_concat]
      exact ⟨splitC_one 10 _ (text_no10 x), by simp⟩
    · obtain ⟨h1, h2⟩ := ih hx
      have hne : linesT xs ≠ [] := fun e => by rw [e] at h2; cases h2
      have e3 : (linesT (x :: xs)).dropLast = textOf x ++ 10 :: (linesT xs).dropLast := by
        rw [e, List.dropLast_append_of_ne_nil (by simp), List.dropLast_cons_of_ne_nil hne]
      rw [e3]
      refine ⟨?_, ?_⟩
      · have : ∀ w : Bs, 10 ∉ w → ∀ l, splitC 10 (w ++ 10 :: l) = w :: splitC 10 l := by
          intro w
          induction w with
          | nil => intro _ l; exact splitC_hit 10 l
          | cons y w ihw =>
            intro hw l
            have hy : y ≠ 10 := fun e => hw (by rw [e]; simp)
            obtain ⟨w', ws', g1, g2⟩ := splitC_miss hy (w ++ 10 :: l)
            rw [ihw (fun e => hw (List.mem_cons_of_mem _ e)) l] at g1
            cases g1
            exact g2
        rw [this _ (text_no10 x), h1]
        rfl
      · rw [e, List.getLast?_append]
        simp only [List.getLast?_cons, h2]
        simp

theorem runW_ok : ∀ (xs : List Cd) (i : Nat) (acc : List Cd), (∀ x ∈ xs, lineW (textOf x) = some x) → runW (xs.map textOf) i acc = (acc ++ xs, 0, 0)
  | [], i, acc, _ => by simp [runW]
  | x :: xs, i, acc, h => by
    simp only [List.map_cons, runW]
    rw [h x (by simp)]
    simp only []
    rw [runW_ok xs (i + 1) (acc ++ [x]) (fun y hy => h y (by simp [hy]))]
    simp

def Small (x : Cx) : Prop := x.p ≤ M64 ∧ x.a ≤ M64 ∧ x.b ≤ M64

theorem parse_print (xs : List Cx) (s : Bs) (hs : ∀ x ∈ xs, Small x) (h : printT xs = (s, 0)) : parseW s = (xs.map Cx.cd, 0, 0) ∧ ∀ x ∈ xs, tellable x = true := by
  unfold printT at h
  split at h
  · cases h
  · rename_i hl
    obtain ⟨h1, h2, h3⟩ := printGo_ok xs [] s h
    refine ⟨?_, h2⟩
    rw [List.nil_append] at h1
    by_cases hx : xs = []
    · subst hx
      subst h1
      rfl
    · have hm : xs.map Cx.cd ≠ [] := by simpa using hx
      obtain ⟨g1, g2⟩ := splitC_lines _ hm
      have hne : s ≠ [] := fun e => by rw [← h1, e] at g2; cases g2
      have ht : trimN s = (linesT (xs.map Cx.cd)).dropLast := by
        unfold trimN
        rw [h1, if_pos g2]
      unfold parseW
      rw [if_neg (by have := h3 hx; omega), if_neg hne, ht, g1, if_neg (by simpa using hl), runW_ok _ _ _ (fun x hx => ?_)]
      · simp
      · obtain ⟨y, hy, rfl⟩ := List.mem_map.1 hx
        have hk := h2 y hy
        unfold tellable at hk
        simp only [Bool.and_eq_true] at hk
        obtain ⟨q1, q2, q3⟩ := hs y hy
        exact line_text y.cd hk.2 q1 q2 q3

theorem cx_cd (x : Cd) : x.cx.cd = x := by
  obtain ⟨op, ref, p, a, b, deny, data⟩ := x
  simp [Cd.cx, Cx.cd]

theorem runW_back : ∀ (ls : List Bs) (i : Nat) (acc l : List Cd) , runW ls i acc = (l, 0, 0) → ∃ xs, l = acc ++ xs ∧ ls = xs.map textOf ∧ ∀ x ∈ xs, okCd x = true
  | [], i, acc, l, h => by
    unfold runW at h
    simp only [Prod.mk.injEq, and_true] at h
    subst h
    exact ⟨[], by simp, rfl, fun x hx => (by cases hx)⟩
  | s :: ls, i, acc, l, h => by
    unfold runW at h
    cases hs : lineW s with
    | none => rw [hs] at h; simp at h
    | some x =>
      rw [hs] at h
      obtain ⟨xs, h1, h2, h3⟩ := runW_back ls (i + 1) (acc ++ [x]) l h
      obtain ⟨t1, t2, -⟩ := text_line hs
      refine ⟨x :: xs, by rw [h1]; simp, by rw [h2]; simp [t1], fun y hy => ?_⟩
      rcases List.mem_cons.1 hy with rfl | hy
      · exact t2
      · exact h3 y hy

theorem split_back (c : UInt8) (s : Bs) : (splitC c s).flatMap (· ++ [c]) = s ++ [c] := by
  induction s with
  | nil => simp [splitC]
  | cons x l ih =>
    by_cases hx : x = c
    · subst hx
      rw [splitC_hit, List.flatMap_cons, ih]
      rfl
    · obtain ⟨w, ws, h1, h2⟩ := splitC_miss hx l
      rw [h2, List.flatMap_cons]
      rw [h1, List.flatMap_cons] at ih
      simp only [List.cons_append] at ih ⊢
      rw [ih]

theorem joinLines (s : Bs) (xs : List Cd) (h : splitC 10 s = xs.map textOf) : linesT xs = s ++ [10] := by
  rw [← split_back, h]
  simp [linesT, List.flatMap_map]

/-- printing what was read: the text, or the text and a byte 10, or (of a text of the greatest length without one) nothing -/
theorem print_parse (s : Bs) (l : List Cd) (h : parseW s = (l, 0, 0)) :
    (printT (l.map Cd.cx) = (s, 0)) ∨ (s ≠ [] ∧ printT (l.map Cd.cx) = (s ++ [10], 0)) ∨ (s.length = 1048576 ∧ s.getLast? ≠ some 10 ∧ printT (l.map Cd.cx) = ([], 7)) := by
  unfold parseW at h
  split at h
  · simp at h
  · rename_i hl
    split at h
    · rename_i he
      simp only [Prod.mk.injEq, and_true] at h
      subst h
      subst he
      exact .inl rfl
    · rename_i hne
      split at h
      · simp at h
      · rename_i hn
        obtain ⟨xs, h1, h2, h3⟩ := runW_back _ 0 [] l h
        rw [List.nil_append] at h1
        subst h1
        have hj := joinLines _ _ h2
        have hlen : ¬ 4096 < (l.map Cd.cx).length := by
          rw [h2] at hn
          simpa using hn
        have hx : l ≠ [] := by
          rintro rfl
          exact splitC_ne 10 _ h2
        have hmap : (l.map Cd.cx).map Cx.cd = l := by
          rw [List.map_map]
          have : Cx.cd ∘ Cd.cx = id := by funext x; exact cx_cd x
          rw [this, List.map_id]
        have ht : ∀ x ∈ l.map Cd.cx, tellable x = true := by
          intro x hx
          obtain ⟨y, hy, rfl⟩ := List.mem_map.1 hx
          unfold tellable
          rw [cx_cd, h3 y hy]
          simp [Cd.cx]
        have hp : printT (l.map Cd.cx) = if 1048576 < (linesT l).length then ([], 7) else (linesT l, 0) := by
          unfold printT
          rw [if_neg hlen, printGo_of _ _ ht, hmap, List.nil_append]
          have : l.map Cd.cx ≠ [] := by simpa using hx
          simp only [ne_eq, this, not_false_eq_true, true_and]
        rw [hp, hj]
        by_cases h10 : s.getLast? = some 10
        · have hs : s.dropLast ++ [10] = s := by
            have := List.dropLast_concat_getLast hne
            rw [List.getLast?_eq_some_getLast hne] at h10
            rw [Option.some.inj h10] at this
            exact this
          have : trimN s = s.dropLast := by unfold trimN; rw [if_pos h10]
          rw [this, hs, if_neg hl]
          exact .inl rfl
        · have : trimN s = s := by unfold trimN; rw [if_neg h10]
          rw [this]
          by_cases hb : 1048576 < (s ++ [10]).length
          · rw [if_pos hb]
            simp at hb
            exact .inr (.inr ⟨by omega, h10, rfl⟩)
          · rw [if_neg hb]
            exact .inr (.inl ⟨hne, rfl⟩)

end Go.Proofs.YtnjcmcnjgdjbiaaGreatDoor.Txt
