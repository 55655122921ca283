/- The walks of package links: New, links, sound, Push, Remove, Pop. Conditions: the addresses lie in the space, the neighbours point back (no refusal is walked but that of Pop on an empty list). -/
import Derived.Test.YtnjcmcnjgdjbiaaGreatDoorLgMapb
namespace Go.Proofs.YtnjcmcnjgdjbiaaGreatDoor
open Go.RowKit

/-- a list's block: over the space at sb, its head -/
abbrev Li (w : World) (lb sb h : Nat) : Prop := Blk w lb 310 [.pointer (some ⟨sb, 0, none⟩), .int .u64 h]

def Sp.setWord (σ : Sp) (p v : Nat) : Sp := σ.put p (wordBytes v)

theorem newList_ (sb h : Nat) (w : World) :
    Calls Tryz.prog 182 #[.pointer (some ⟨sb, 0, none⟩), .int .u64 h] w fun e w' => e = .returned (.pointer (some ⟨w.heap.size, 0, none⟩)) ∧ w' = w.alloc (.cells #[.pointer (some ⟨sb, 0, none⟩), .int .u64 h] 310) := by
  go_enter Tryz.func182, Tryz.ntmps182
  go_wp2
  go_ret
  exact ⟨rfl, rfl⟩

theorem Sp.has.word2 {σ : Sp} {p : Nat} (H : σ.has p 16) (o : σ.ok) : σ.has p 8 ∧ σ.has (p + 8) 8 ∧ p + 16 ≤ 18446744073709551615 := by
  refine ⟨?_, H.sub o (by omega) (by omega), ?_⟩
  · have := H.sub o (k := 0) (m := 8) (by omega) (by omega)
    simpa using this
  · have := H.top o
    have := o.le64
    omega

theorem links_ {w : World} {L : SpL} {σ : Sp} (R : SpRep w L σ) {lb h p : Nat} (B : Li w lb L.sb h) (H : σ.has p 16) :
    Calls Tryz.prog 285 #[.pointer (some ⟨lb, 0, none⟩), .int .u64 p] w fun e w' => e = .returned (.tuple #[.int .u64 (σ.word p : Nat), .int .u64 (σ.word (p + 8) : Nat), .bool true]) ∧ Touch Nothing w w' := by
  obtain ⟨H1, H2, h16⟩ := H.word2 R.ok
  have HW := Lib.hid (R.word_ p H1)
  have c0 := B.cell 0
  simp at c0
  have HR := Lib.hid R
  have HB := Lib.hid B
  have hH2 := Lib.hid H2
  clear R B H H1 H2
  go_enter Tryz.func285, Tryz.ntmps285
  go_wp2_with fail
  refine HW.out.mono ?_
  rintro e w1 ⟨rfl, T1⟩
  have c0' := (HB.out.touch T1 (fun h => h)).cell 0
  simp at c0'
  have HW2 := Lib.hid ((HR.out.touch0 T1).word_ (p + 8) hH2.out)
  have hw8 : ((p + 8 : Nat) : Int) = (p : Int) + 8 := by omega
  rw [hw8] at HW2
  have HT := Lib.hid T1
  clear T1 c0 hw8
  go_wp2_with fail
  refine HW2.out.mono ?_
  rintro e w2 ⟨rfl, T2⟩
  have HT2 := Lib.hid T2
  clear T2
  go_wp2_with fail
  exact bodyPost_ret (v := .tuple #[.int .u64 (σ.word p : Nat), .int .u64 (σ.word (p + 8) : Nat), .bool true]) (by simp [results, Tryz.results285, go_sem]; omega) rfl ⟨rfl, HT.out.trans HT2.out⟩

theorem int_ne {a b : Nat} (h : a ≠ b) : ((a : Int) == b) = false := by rw [beq_eq_false_iff_ne]; omega

theorem int_ne0 {a : Nat} (h : a ≠ 0) : ((a : Int) == 0) = false := by rw [beq_eq_false_iff_ne]; omega

/-- an address's neighbours point back to it -/
structure Sound (σ : Sp) (h p next prev : Nat) : Prop where
  head : prev = 0 ↔ p = h
  prev : prev ≠ 0 → σ.has prev 16 ∧ σ.word prev = p
  next : next ≠ 0 → σ.has next 16 ∧ σ.word (next + 8) = p

theorem sound_ {w : World} {L : SpL} {σ : Sp} (R : SpRep w L σ) {lb h p next prev : Nat} (B : Li w lb L.sb h) (S : Sound σ h p next prev) :
    Calls Tryz.prog 286 #[.pointer (some ⟨lb, 0, none⟩), .int .u64 p, .int .u64 next, .int .u64 prev] w fun e w' => e = .returned (.bool true) ∧ Touch Nothing w w' := by
  have c1 := B.cell 1
  simp at c1
  have HR := Lib.hid R
  have HB := Lib.hid B
  by_cases hp : prev = 0
  · have hph := S.head.1 hp
    subst hp hph
    by_cases hn : next = 0
    · subst hn
      clear R B S
      go_enter Tryz.func286, Tryz.ntmps286
      go_wp2_with fail
      go_ret
      exact ⟨rfl, Touch.refl _ _⟩
    · obtain ⟨n1, n2⟩ := S.next hn
      have HL := Lib.hid (links_ R B n1)
      rw [n2] at HL
      have hn' := int_ne0 hn
      clear R B S n1 n2
      go_enter Tryz.func286, Tryz.ntmps286
      go_wp2_with fail
      refine HL.out.mono ?_
      rintro e w1 ⟨rfl, T1⟩
      have HT := Lib.hid T1
      clear T1
      go_wp2_with fail
      go_ret
      exact ⟨rfl, HT.out⟩
  · have hph : p ≠ h := fun e => hp (S.head.2 e)
    have hp' := int_ne0 hp
    have hph' := int_ne hph
    obtain ⟨m1, m2⟩ := S.prev hp
    have HM := Lib.hid (links_ R B m1)
    rw [m2] at HM
    by_cases hn : next = 0
    · subst hn
      clear R B S m1 m2
      go_enter Tryz.func286, Tryz.ntmps286
      go_wp2_with fail
      refine HM.out.mono ?_
      rintro e w1 ⟨rfl, T1⟩
      have HT := Lib.hid T1
      clear T1
      go_wp2_with fail
      go_ret
      exact ⟨rfl, HT.out⟩
    · obtain ⟨n1, n2⟩ := S.next hn
      have hn' := int_ne0 hn
      have HL := Lib.hid (fun w1 (T : Touch Nothing w w1) => links_ (R.touch0 T) (B.touch T (fun h => h)) n1)
      rw [n2] at HL
      clear R B S m1 m2 n1 n2
      go_enter Tryz.func286, Tryz.ntmps286
      go_wp2_with fail
      refine HM.out.mono ?_
      rintro e w1 ⟨rfl, T1⟩
      have HT := Lib.hid T1
      clear T1
      go_wp2_with fail
      refine (HL.out _ HT.out).mono ?_
      rintro e w2 ⟨rfl, T2⟩
      have HT2 := Lib.hid T2
      clear T2
      go_wp2_with fail
      go_ret
      exact ⟨rfl, HT.out.trans HT2.out⟩

/-- the bytes behind Push -/
def pushed (σ : Sp) (h p : Nat) : Sp := if h = 0 then (σ.setWord p h).setWord (p + 8) 0 else ((σ.setWord p h).setWord (p + 8) 0).setWord (h + 8) p

/-- a list and its space, some steps behind w0 -/
structure LS (w0 w : World) (L : SpL) (lb : Nat) (σ : Sp) (h : Nat) : Prop where
  rep : SpRep w L σ
  list : Li w lb L.sb h
  out : lb ∉ L.fp
  touch : Touch (fun k => k ∈ L.rbs ∨ k = lb) w0 w

theorem LS.touch0 {w0 w w' : World} {L : SpL} {lb h : Nat} {σ : Sp} (S : LS w0 w L lb σ h) (T : Touch Nothing w w') : LS w0 w' L lb σ h :=
  ⟨S.rep.touch0 T, S.list.touch T (fun h => h), S.out, S.touch.trans T.none_⟩

theorem LS.links {w0 w : World} {L : SpL} {lb h p : Nat} {σ : Sp} (S : LS w0 w L lb σ h) (H : σ.has p 16) :
    Calls Tryz.prog 285 #[.pointer (some ⟨lb, 0, none⟩), .int .u64 p] w fun e w' => e = .returned (.tuple #[.int .u64 (σ.word p : Nat), .int .u64 (σ.word (p + 8) : Nat), .bool true]) ∧ LS w0 w' L lb σ h :=
  (links_ S.rep S.list H).mono fun _ _ ⟨h1, h2⟩ => ⟨h1, S.touch0 h2⟩

theorem LS.sound {w0 w : World} {L : SpL} {lb h p next prev : Nat} {σ : Sp} (S : LS w0 w L lb σ h) (H : Sound σ h p next prev) :
    Calls Tryz.prog 286 #[.pointer (some ⟨lb, 0, none⟩), .int .u64 p, .int .u64 next, .int .u64 prev] w fun e w' => e = .returned (.bool true) ∧ LS w0 w' L lb σ h :=
  (sound_ S.rep S.list H).mono fun _ _ ⟨h1, h2⟩ => ⟨h1, S.touch0 h2⟩

theorem LS.setWord {w0 w : World} {L : SpL} {lb h p : Nat} {σ : Sp} (S : LS w0 w L lb σ h) (v : Nat) (H : σ.has p 8) (hv : v < 18446744073709551616) :
    Calls Tryz.prog 143 #[.pointer (some ⟨L.sb, 0, none⟩), .int .u64 p, .int .u64 v] w fun e w' => e = .returned (.int .i64 0) ∧ LS w0 w' L lb (σ.setWord p v) h := by
  have hrb : lb ∉ L.rbs := fun hm => S.out (by simp [SpL.fp, hm])
  exact (S.rep.setWord_ p v H hv).mono fun _ _ ⟨h1, h2, h3⟩ => ⟨h1, h2, S.list.touch h3 hrb, S.out, S.touch.trans (h3.mono (fun k _ e => .inl e))⟩

theorem LS.head {w0 w : World} {L : SpL} {lb h : Nat} {σ : Sp} (S : LS w0 w L lb σ h) (v : Nat) : LS w0 (w.setCell ⟨lb, 1, none⟩ (.int .u64 v)) L lb σ v := by
  have T := Touch.cellAt w lb 1 (.int .u64 v)
  exact ⟨S.rep.touch T (fun k hk e => S.out (e ▸ hk)), S.list.set 1 _, S.out, S.touch.trans (T.mono (fun k _ e => .inr e))⟩

theorem LS.cells {w0 w : World} {L : SpL} {lb h : Nat} {σ : Sp} (S : LS w0 w L lb σ h) : w.cell? ⟨lb, 0, none⟩ = some (.pointer (some ⟨L.sb, 0, none⟩)) ∧ w.cell? ⟨lb, 1, none⟩ = some (.int .u64 h) ∧ w.frozen? ⟨lb, 1, none⟩ = false :=
  ⟨S.list.cell 0, S.list.cell 1, S.list.free 1⟩

theorem Sp.has_set {σ : Sp} {p v q n : Nat} (H : σ.has q n) : (σ.setWord p v).has q n := Sp.has_put.2 H

def Linked (w : World) (L : SpL) (lb : Nat) (σ : Sp) (h : Nat) (v : Value) (e : Ending) (w' : World) : Prop := e = .returned v ∧ LS w w' L lb σ h

set_option maxRecDepth 100000 in
theorem LS.push {w0 w : World} {L : SpL} {σ : Sp} {lb h p : Nat} (S : LS w0 w L lb σ h) (H : σ.has p 16) (hh : h ≠ 0 → σ.has h 16 ∧ σ.word (h + 8) = 0) (h64 : h < 18446744073709551616) :
    Calls Tryz.prog 275 #[.pointer (some ⟨lb, 0, none⟩), .int .u64 p] w (Linked w0 L lb (pushed σ h p) p (.int .i64 0)) := by
  obtain ⟨H1, H2, h16⟩ := H.word2 S.rep.ok
  have hp64 : p < 18446744073709551616 := by omega
  have HS := Lib.hid S
  have HH := Lib.hid H
  have hlt8 : (p : Int) < (p : Int) + 8 := by omega
  have HHas := Lib.hid (And.intro H1 H2)
  have hw8 : ((p + 8 : Nat) : Int) = (p : Int) + 8 := by omega
  have HW8 := Lib.hid hw8
  have HHH := Lib.hid hh
  by_cases h0 : h = 0
  · subst h0
    clear S H H1 H2 hh hw8
    unfold pushed
    go_enter Tryz.func275, Tryz.ntmps275
    go_wp2_with fail
    refine (HS.out.links HH.out).mono ?_
    rintro e w1 ⟨rfl, S1⟩
    obtain ⟨c0, c1, f1⟩ := S1.cells
    have HS1 := Lib.hid (S1.touch0 (Touch.refl Nothing w1).drew)
    clear S1
    go_wp2_with fail
    refine wp_region_still_tail 9 (by kernel_rfl) (by kernel_rfl) ?_
    simp only [List.take_succ_cons, List.take_zero, List.drop_succ_cons, List.drop_zero, World.drew_eq]
    repeat still_step
    refine wpStill_nil ?_
    go_wp2_with fail
    refine (HS1.out.setWord 0 HHas.out.1 (by omega)).mono ?_
    rintro e w2 ⟨rfl, S2⟩
    obtain ⟨d0, d1, g1⟩ := S2.cells
    have HS2 := Lib.hid S2
    have HC := Lib.hid (S2.setWord (p := p + 8) 0 (Sp.has_set HHas.out.2) (by omega))
    rw [HW8.out] at HC
    clear S2 c0 c1 f1
    go_wp2_with fail
    refine HC.out.mono ?_
    rintro e w3 ⟨rfl, S3⟩
    obtain ⟨e0, e1, k1⟩ := S3.cells
    have HS3 := Lib.hid S3
    clear S3 d0 d1 g1
    go_wp2_with fail
    go_ret
    exact ⟨rfl, HS3.out.head p⟩
  · have h0' := int_ne0 h0
    obtain ⟨hh1, hh2⟩ := hh h0
    obtain ⟨K1, K2, k16⟩ := hh1.word2 S.rep.ok
    have HK := Lib.hid (And.intro hh1 (And.intro hh2 (And.intro K1 K2)))
    have HKW := Lib.hid (show ((h + 8 : Nat) : Int) = (h : Int) + 8 by omega)
    have H0 := Lib.hid h0
    clear S H H1 H2 hh hw8 hh1 hh2 K1 K2
    unfold pushed
    rw [if_neg H0.out]
    go_enter Tryz.func275, Tryz.ntmps275
    go_wp2_with fail
    refine (HS.out.links HH.out).mono ?_
    rintro e w1 ⟨rfl, S1⟩
    obtain ⟨c0, c1, f1⟩ := S1.cells
    have HC1 := Lib.hid (S1.links HK.out.1)
    rw [HK.out.2.1] at HC1
    clear S1
    go_wp2_with fail
    refine HC1.out.mono ?_
    rintro e w2 ⟨rfl, S2⟩
    obtain ⟨d0, d1, g1⟩ := S2.cells
    have HS2 := Lib.hid (S2.touch0 (Touch.refl Nothing w2).drew)
    clear S2 c0 c1 f1
    go_wp2_with fail
    refine wp_region_still_tail 9 (by kernel_rfl) (by kernel_rfl) ?_
    simp only [List.take_succ_cons, List.take_zero, List.drop_succ_cons, List.drop_zero, World.drew_eq]
    repeat still_step
    refine wpStill_nil ?_
    go_wp2_with fail
    refine (HS2.out.setWord h HHas.out.1 h64).mono ?_
    rintro e w3 ⟨rfl, S3⟩
    obtain ⟨e0, e1, k1⟩ := S3.cells
    have HC := Lib.hid (S3.setWord (p := p + 8) 0 (Sp.has_set HHas.out.2) (by omega))
    rw [HW8.out] at HC
    clear S3 d0 d1 g1
    go_wp2_with fail
    refine HC.out.mono ?_
    rintro e w4 ⟨rfl, S4⟩
    obtain ⟨m0, m1, n1⟩ := S4.cells
    have HC4 := Lib.hid ((S4.touch0 (Touch.refl Nothing w4).drew).setWord (p := h + 8) p (Sp.has_set (Sp.has_set HK.out.2.2.2)) hp64)
    rw [HKW.out] at HC4
    have hwh : IntKind.u64.wrap ((h : Int) + 8) = (h : Int) + 8 := IntWalk.u64_in _ (by omega)
    clear S4 e0 e1 k1
    go_wp2_with fail
    refine wp_region_still_tail 10 (by kernel_rfl) (by kernel_rfl) ?_
    simp only [List.take_succ_cons, List.take_zero, List.drop_succ_cons, List.drop_zero, World.drew_eq]
    repeat still_step
    refine wpStill_nil ?_
    go_wp2_with fail
    refine HC4.out.mono ?_
    rintro e w5 ⟨rfl, S5⟩
    obtain ⟨q0, q1, r1⟩ := S5.cells
    have HS5 := Lib.hid S5
    clear S5 m0 m1 n1
    go_wp2_with fail
    go_ret
    exact ⟨rfl, HS5.out.head p⟩

/-- the bytes behind Remove -/
def removed1 (σ : Sp) (next prev : Nat) : Sp := if prev = 0 then σ else σ.setWord prev next
def removed (σ : Sp) (next prev : Nat) : Sp := if next = 0 then removed1 σ next prev else (removed1 σ next prev).setWord (next + 8) prev

set_option maxRecDepth 100000 in
theorem LS.remove_go {w0 w : World} {L : SpL} {σ : Sp} {lb h p next prev : Nat} (S : LS w0 w L lb σ h) (H : σ.has p 16) (hn : σ.word p = next) (hp : σ.word (p + 8) = prev) (D : Sound σ h p next prev) (n64 : next < 18446744073709551616) (p64 : prev < 18446744073709551616) :
    Calls Tryz.prog 255 #[.pointer (some ⟨lb, 0, none⟩), .int .u64 p] w (Linked w0 L lb (removed σ next prev) (if prev = 0 then next else h) (.int .i64 0)) := by
  have HL := Lib.hid (S.links H)
  rw [hn, hp] at HL
  have HD := Lib.hid D
  have HS := Lib.hid S
  have ok := S.rep.ok
  by_cases p0 : prev = 0
  · subst p0
    by_cases n0 : next = 0
    · subst n0
      clear S H hn hp D
      unfold removed removed1
      rw [if_pos rfl, if_pos rfl, if_pos rfl]
      go_enter Tryz.func255, Tryz.ntmps255
      go_wp2_with fail
      refine HL.out.mono ?_
      rintro e w1 ⟨rfl, S1⟩
      have HC := Lib.hid (S1.sound HD.out)
      clear S1
      go_wp2_with fail
      refine HC.out.mono ?_
      rintro e w2 ⟨rfl, S2⟩
      obtain ⟨c0, c1, f1⟩ := S2.cells
      have HS2 := Lib.hid S2
      clear S2
      go_wp2_with fail
      go_ret
      exact ⟨rfl, HS2.out.head 0⟩
    · have hn' := int_ne0 n0
      obtain ⟨k1, k2⟩ := D.next n0
      obtain ⟨m1, m2, m3⟩ := k1.word2 ok
      have HK := Lib.hid m2
      have HKW := Lib.hid (show ((next + 8 : Nat) : Int) = (next : Int) + 8 by omega)
      have N0 := Lib.hid n0
      have hwn : IntKind.u64.wrap ((next : Int) + 8) = (next : Int) + 8 := IntWalk.u64_in _ (by omega)
      clear S H hn hp D k1 k2 m1 m2
      unfold removed removed1
      rw [if_pos rfl, if_neg N0.out, if_pos rfl]
      go_enter Tryz.func255, Tryz.ntmps255
      go_wp2_with fail
      refine HL.out.mono ?_
      rintro e w1 ⟨rfl, S1⟩
      have HC := Lib.hid (S1.sound HD.out)
      clear S1
      go_wp2_with fail
      refine HC.out.mono ?_
      rintro e w2 ⟨rfl, S2⟩
      obtain ⟨c0, c1, f1⟩ := S2.cells
      have HC2 := Lib.hid ((S2.head next).setWord (p := next + 8) 0 HK.out (by omega))
      rw [HKW.out] at HC2
      clear S2
      go_wp2_with fail
      refine HC2.out.mono ?_
      rintro e w3 ⟨rfl, S3⟩
      have HS3 := Lib.hid S3
      clear S3
      go_wp2_with fail
      go_ret
      exact ⟨rfl, HS3.out⟩
  · have hp' := int_ne0 p0
    obtain ⟨j1, j2⟩ := D.prev p0
    obtain ⟨i1, i2, i3⟩ := j1.word2 ok
    have HJ := Lib.hid i1
    have P0 := Lib.hid p0
    by_cases n0 : next = 0
    · subst n0
      clear S H hn hp D j1 j2 i1 i2
      unfold removed removed1
      rw [if_neg P0.out, if_pos rfl, if_neg P0.out]
      go_enter Tryz.func255, Tryz.ntmps255
      go_wp2_with fail
      refine HL.out.mono ?_
      rintro e w1 ⟨rfl, S1⟩
      have HC := Lib.hid (S1.sound HD.out)
      clear S1
      go_wp2_with fail
      refine HC.out.mono ?_
      rintro e w2 ⟨rfl, S2⟩
      obtain ⟨c0, c1, f1⟩ := S2.cells
      have HC2 := Lib.hid (S2.setWord (p := prev) 0 HJ.out (by omega))
      clear S2
      go_wp2_with fail
      refine HC2.out.mono ?_
      rintro e w3 ⟨rfl, S3⟩
      have HS3 := Lib.hid S3
      clear S3
      go_wp2_with fail
      go_ret
      exact ⟨rfl, HS3.out⟩
    · have hn' := int_ne0 n0
      obtain ⟨k1, k2⟩ := D.next n0
      obtain ⟨m1, m2, m3⟩ := k1.word2 ok
      have HK := Lib.hid m2
      have HKW := Lib.hid (show ((next + 8 : Nat) : Int) = (next : Int) + 8 by omega)
      have N0 := Lib.hid n0
      have hwn : IntKind.u64.wrap ((next : Int) + 8) = (next : Int) + 8 := IntWalk.u64_in _ (by omega)
      clear S H hn hp D j1 j2 i1 i2 k1 k2 m1 m2
      unfold removed removed1
      rw [if_neg P0.out, if_neg N0.out, if_neg P0.out]
      go_enter Tryz.func255, Tryz.ntmps255
      go_wp2_with fail
      refine HL.out.mono ?_
      rintro e w1 ⟨rfl, S1⟩
      have HC := Lib.hid (S1.sound HD.out)
      clear S1
      go_wp2_with fail
      refine HC.out.mono ?_
      rintro e w2 ⟨rfl, S2⟩
      obtain ⟨c0, c1, f1⟩ := S2.cells
      have HC2 := Lib.hid (S2.setWord (p := prev) next HJ.out n64)
      clear S2
      go_wp2_with fail
      refine HC2.out.mono ?_
      rintro e w3 ⟨rfl, S3⟩
      obtain ⟨d0, d1, g1⟩ := S3.cells
      have HC3 := Lib.hid (S3.setWord (p := next + 8) prev (Sp.has_set HK.out) p64)
      rw [HKW.out] at HC3
      clear S3 c0 c1 f1
      go_wp2_with fail
      refine HC3.out.mono ?_
      rintro e w4 ⟨rfl, S4⟩
      have HS4 := Lib.hid S4
      clear S4
      go_wp2_with fail
      go_ret
      exact ⟨rfl, HS4.out⟩

theorem leBytes_lt (f : Nat → Nat) (hf : ∀ a, f a < 256) (p n : Nat) : leBytes f p n < 256 ^ n := by
  induction n with
  | zero => simp [leBytes]
  | succ n ih =>
    rw [leBytes, Nat.pow_succ]
    have h1 := hf (p + n)
    have h2 : f (p + n) * 256 ^ n ≤ 255 * 256 ^ n := Nat.mul_le_mul_right _ (by omega)
    omega

theorem Sp.ok.word_lt {σ : Sp} (o : σ.ok) (p : Nat) : σ.word p < 18446744073709551616 := leBytes_lt σ.mem o.byte p 8

theorem LS.pop_none {w0 w : World} {L : SpL} {σ : Sp} {lb : Nat} (S : LS w0 w L lb σ 0) :
    Calls Tryz.prog 283 #[.pointer (some ⟨lb, 0, none⟩)] w fun e w' => e = .returned (.tuple #[.int .u64 0, .int .i64 9]) ∧ w = w' := by
  obtain ⟨c0, c1, f1⟩ := S.cells
  clear S
  go_enter Tryz.func283, Tryz.ntmps283
  go_wp2_with fail
  go_ret2
  exact ⟨rfl, rfl⟩

theorem LS.pop {w0 w : World} {L : SpL} {σ : Sp} {lb h next : Nat} (S : LS w0 w L lb σ h) (h0 : h ≠ 0) (H : σ.has h 16) (hn : σ.word h = next) (hp : σ.word (h + 8) = 0) (D : next ≠ 0 → σ.has next 16 ∧ σ.word (next + 8) = h) (n64 : next < 18446744073709551616) :
    Calls Tryz.prog 283 #[.pointer (some ⟨lb, 0, none⟩)] w (Linked w0 L lb (removed σ next 0) next (.tuple #[.int .u64 h, .int .i64 0])) := by
  have HR := Lib.hid (S.remove_go H hn hp ⟨by simp, by simp, D⟩ n64 (by omega))
  obtain ⟨c0, c1, f1⟩ := S.cells
  have h0' := int_ne0 h0
  clear S H hn hp D
  go_enter Tryz.func283, Tryz.ntmps283
  go_wp2_with fail
  refine HR.out.mono ?_
  rintro e w1 ⟨rfl, S1⟩
  replace S1 : LS w0 w1 L lb (removed σ next 0) next := by simpa using S1
  have HS1 := Lib.hid S1
  clear S1
  go_wp2_with fail
  go_ret2
  exact ⟨rfl, HS1.out⟩

end Go.Proofs.YtnjcmcnjgdjbiaaGreatDoor

