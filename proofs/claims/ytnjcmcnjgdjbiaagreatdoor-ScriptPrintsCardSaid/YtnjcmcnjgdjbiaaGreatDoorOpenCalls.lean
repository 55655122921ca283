/- A slice of calls as a caller hands it in, opened: calls that can be read. Conditions: none. -/
import Derived.Test.YtnjcmcnjgdjbiaaGreatDoorPrint
import Derived.Deep.Slices
import Derived.OpenShut
import Derived.SizedLaws
namespace Go.Proofs.YtnjcmcnjgdjbiaaGreatDoor
open Go.ChangeShapes Go.WideShapes Go.RowKit

section
variable {H : Type} {enc : TypeId × Value → H} {W : World}

theorem cells43 : Tryz.prog.cellsOf 43 = 7 := by kernel_rfl
theorem bytes43 : Tryz.prog.bytesOf 43 = 72 := by kernel_rfl
theorem cells1 : Tryz.prog.cellsOf 3 = 1 ∧ Tryz.prog.cellsOf 33 = 1 ∧ Tryz.prog.cellsOf 4 = 1 ∧ Tryz.prog.cellsOf 34 = 1 ∧ Tryz.prog.cellsOf 5 = 1 := ⟨by kernel_rfl, by kernel_rfl, by kernel_rfl, by kernel_rfl, by kernel_rfl⟩

theorem wf_i64 {n : Int} (h : (Lit.int .i64 n).wf = true) : -9223372036854775808 ≤ n ∧ n < 9223372036854775808 := by
  have := bounds_i64 h
  omega

theorem wf_u64 {n : Int} (h : (Lit.int .u64 n).wf = true) : 0 ≤ n ∧ n ≤ 18446744073709551615 := bounds_u64 h

/-- bytes, opened -/
theorem open_bytes {fuel : Nat} {v : Value} {x : DataW H × List MemPlace} (h : DataW.trod enc Tryz.prog W 0 (fun _ => true) true fuel 34 [v] = some x) :
    ∃ dp dn dc d, v = .slice dp dn dc ∧ RdD W dp dn d := by
  rcases open_ints Tryz.underlying34 Tryz.underlying5 cells1.2.2.2.2 h with ⟨h1, _⟩ | ⟨a, len, cap, zs, h1, _, hl, _, hz, _, hc, hw⟩
  · obtain rfl : v = .slice none 0 0 := by simpa using h1
    exact ⟨none, 0, 0, [], rfl, ⟨rfl, fun _ => rfl, fun h => absurd rfl h⟩⟩
  · obtain rfl : v = .slice (some a) len cap := by simpa using h1
    have hz' : zs.length = cap := by simpa using hz
    refine ⟨some a, len, cap, (zs.take len).map (fun z => UInt8.ofNat z.toNat), rfl, ⟨by simp; omega, fun e => (by cases e), fun hne => ?_⟩⟩
    have hpos : 0 < zs.length := by
      rcases Nat.eq_zero_or_pos zs.length with h0 | h0
      · exfalso; apply hne; rw [List.eq_nil_of_length_eq_zero h0]; simp
      · exact h0
    obtain ⟨b, off, rfl, hcc⟩ := ints_at hc hpos
    refine ⟨b, off, rfl, fun j y hj => ?_⟩
    rw [List.getElem?_map, Option.map_eq_some_iff] at hj
    obtain ⟨z, hz1, rfl⟩ := hj
    rw [List.getElem?_take] at hz1
    split at hz1
    · obtain ⟨hjl, hzz⟩ := List.getElem?_eq_some_iff.1 hz1
      have hb := bounds_u8 (hw z (List.mem_of_getElem? hz1))
      rw [hcc j hjl]
      have hg : zs.getD j 0 = z := by rw [List.getD, hz1]; rfl
      rw [hg]
      have e : (UInt8.ofNat z.toNat).toNat = z.toNat := by simp; omega
      rw [e]
      congr 2
      omega
    · cases hz1

set_option maxRecDepth 100000 in
/-- a call, opened -/
theorem open_call {fuel : Nat} {cs : List Value} {x : DataW H × List MemPlace} (h : DataW.trod enc Tryz.prog W 0 (fun _ => true) true fuel 43 cs = some x) :
    ∃ (c : CallV) (d : List UInt8), cs = c.cells ∧ OkV c ∧ RdD W c.dp c.dn d := by
  obtain ⟨xs, n, rfl, rfl, hcl, hxl, hf⟩ := DataW.trod_struct Tryz.underlying43 h
  rw [cells43] at hcl
  match cs, hcl with
  | [c0, c1, c2, c3, c4, c5, c6], _ =>
    have hx7 : xs.length = 7 := hxl
    have at_ : ∀ i, i < 7 → ∃ y, xs[i]? = some y := fun i hi => ⟨_, List.getElem?_eq_getElem (by omega)⟩
    obtain ⟨y0, e0⟩ := at_ 0 (by omega)
    obtain ⟨y1, e1⟩ := at_ 1 (by omega)
    obtain ⟨y2, e2⟩ := at_ 2 (by omega)
    obtain ⟨y3, e3⟩ := at_ 3 (by omega)
    obtain ⟨y4, e4⟩ := at_ 4 (by omega)
    obtain ⟨y5, e5⟩ := at_ 5 (by omega)
    obtain ⟨y6, e6⟩ := at_ 6 (by omega)
    have f0 : DataW.trod enc Tryz.prog W 0 (fun _ => true) true n 3 (([c0, c1, c2, c3, c4, c5, c6].drop 0).take (Tryz.prog.cellsOf 3)) = some y0 := (hf 0 ⟨ "Op", 3, 0, false, "", "", 0⟩ rfl).trans e0
    rw [cells1.1] at f0
    have f1 : DataW.trod enc Tryz.prog W 0 (fun _ => true) true n 3 (([c0, c1, c2, c3, c4, c5, c6].drop 1).take (Tryz.prog.cellsOf 3)) = some y1 := (hf 1 ⟨ "Ref", 3, 1, false, "", "", 8⟩ rfl).trans e1
    rw [cells1.1] at f1
    have f2 : DataW.trod enc Tryz.prog W 0 (fun _ => true) true n 33 (([c0, c1, c2, c3, c4, c5, c6].drop 2).take (Tryz.prog.cellsOf 33)) = some y2 := (hf 2 ⟨ "P", 33, 2, false, "", "", 16⟩ rfl).trans e2
    rw [cells1.2.1] at f2
    have f3 : DataW.trod enc Tryz.prog W 0 (fun _ => true) true n 33 (([c0, c1, c2, c3, c4, c5, c6].drop 3).take (Tryz.prog.cellsOf 33)) = some y3 := (hf 3 ⟨ "A", 33, 3, false, "", "", 24⟩ rfl).trans e3
    rw [cells1.2.1] at f3
    have f4 : DataW.trod enc Tryz.prog W 0 (fun _ => true) true n 33 (([c0, c1, c2, c3, c4, c5, c6].drop 4).take (Tryz.prog.cellsOf 33)) = some y4 := (hf 4 ⟨ "B", 33, 4, false, "", "", 32⟩ rfl).trans e4
    rw [cells1.2.1] at f4
    have f5 : DataW.trod enc Tryz.prog W 0 (fun _ => true) true n 4 (([c0, c1, c2, c3, c4, c5, c6].drop 5).take (Tryz.prog.cellsOf 4)) = some y5 := (hf 5 ⟨ "Deny", 4, 5, false, "", "", 40⟩ rfl).trans e5
    rw [cells1.2.2.1] at f5
    have f6 : DataW.trod enc Tryz.prog W 0 (fun _ => true) true n 34 (([c0, c1, c2, c3, c4, c5, c6].drop 6).take (Tryz.prog.cellsOf 34)) = some y6 := (hf 6 ⟨ "Data", 34, 6, false, "", "", 48⟩ rfl).trans e6
    rw [cells1.2.2.2.1] at f6
    obtain ⟨op, h0, _, w0⟩ := DataW.trod_int Tryz.underlying3 f0
    obtain ⟨ref, h1, _, w1⟩ := DataW.trod_int Tryz.underlying3 f1
    obtain ⟨p, h2, _, w2⟩ := DataW.trod_int Tryz.underlying33 f2
    obtain ⟨a, h3, _, w3⟩ := DataW.trod_int Tryz.underlying33 f3
    obtain ⟨b, h4, _, w4⟩ := DataW.trod_int Tryz.underlying33 f4
    obtain ⟨deny, h5, _⟩ := DataW.trod_bool Tryz.underlying4 f5
    obtain ⟨dp, dn, dc, d, h6, R⟩ := open_bytes f6
    obtain rfl : c0 = .int .i64 op := by simpa using h0
    obtain rfl : c1 = .int .i64 ref := by simpa using h1
    obtain rfl : c2 = .int .u64 p := by simpa using h2
    obtain rfl : c3 = .int .u64 a := by simpa using h3
    obtain rfl : c4 = .int .u64 b := by simpa using h4
    obtain rfl : c5 = .bool deny := by simpa using h5
    subst h6
    have k0 := wf_i64 w0
    have k2 := wf_u64 w2
    have k3 := wf_u64 w3
    have k4 := wf_u64 w4
    refine ⟨⟨op, ref, p.toNat, a.toNat, b.toNat, deny, dp, dn, dc⟩, d, ?_, ⟨k0, ?_, ?_, ?_⟩, R⟩
    · show _ = [_, _, _, _, _, _, _]
      rw [Int.toNat_of_nonneg k2.1, Int.toNat_of_nonneg k3.1, Int.toNat_of_nonneg k4.1]
    · show p.toNat ≤ Txt.M64; unfold Txt.M64; omega
    · show a.toNat ≤ Txt.M64; unfold Txt.M64; omega
    · show b.toNat ≤ Txt.M64; unfold Txt.M64; omega

theorem open_calls {v : Value} {D : DataW H} {p : List MemPlace} (hv : ∃ a len cap, v = .slice a len cap) (h : DataW.Trod enc Tryz.prog W 0 (fun _ => true) true 25 v D p) :
    ∃ pa n ca cs ds, v = .slice pa n ca ∧ RdP W pa n cs ds ∧ (∀ c ∈ cs, OkV c) ∧ (n = 0 ∨ ∃ el sp, D = .slice el sp ∧ n ≤ el.length + sp.length) := by
  obtain ⟨a, len, cap, rfl⟩ := hv
  obtain ⟨fuel, hf⟩ := h
  have hf' : DataW.trod enc Tryz.prog W 0 (fun _ => true) true fuel 25 [.slice a len cap] = some (D, p) := by simpa [Value.cells] using hf
  rcases Go.Deep.open_slice Tryz.underlying25 hf' with ⟨h1, _⟩ | ⟨a', len', cap', m, nn, E, Pl, h1, _, hl, _, hm, hx, he⟩
  · obtain ⟨rfl, rfl, rfl⟩ : a = none ∧ len = 0 ∧ cap = 0 := by simpa using h1
    exact ⟨none, 0, 0, [], [], rfl, ⟨rfl, rfl, fun h => absurd h (by omega)⟩, fun c hc => (by cases hc), .inl rfl⟩
  · obtain ⟨rfl, rfl, rfl⟩ : a = some a' ∧ len = len' ∧ cap = cap' := by simpa using h1
    obtain rfl : m = cap := by simpa using hm
    rw [cells43] at he
    have each : ∀ i, i < len → ∃ cd : CallV × List UInt8, (∀ (j : Nat) u, cd.1.cells[j]? = some u → W.cell? (a'.add (i * 7 + j)) = some u) ∧ OkV cd.1 ∧ RdD W cd.1.dp cd.1.dn cd.2 := fun i hi => by
      obtain ⟨cs', h1, h2⟩ := he i (by omega)
      obtain ⟨c, d, rfl, ok, R⟩ := open_call h2
      obtain ⟨_, hlen, hc⟩ := World.cells?_some h1
      refine ⟨(c, d), fun j u hj => ?_, ok, R⟩
      have hj7 : j < 7 := by rw [← hlen]; exact (List.getElem?_eq_some_iff.1 hj).1
      have := hc j hj7
      rw [Go.Deep.add_add] at this
      exact this.trans hj
    haveI : Inhabited (CallV × List UInt8) := ⟨(⟨0, 0, 0, 0, 0, false, none, 0, 0⟩, [])⟩
    obtain ⟨f, hf⟩ := Go.Deep.choose_lt each
    refine ⟨some a', len, m, (List.range len).map (fun i => (f i).1), (List.range len).map (fun i => (f i).2), rfl, ⟨by simp, by simp, fun hpos => ?_⟩, fun c hc => ?_, .inr ⟨_, _, (Prod.mk.inj hx).1, by simp⟩⟩
    · have h00 := (hf 0 hpos).1 0 _ rfl
      obtain ⟨g, off, spot⟩ := a'
      have hspot : spot = none := by simpa [Addr.add] using World.cell?_spot h00
      subst hspot
      refine ⟨g, off, rfl, fun i c d hc hd => ?_⟩
      rw [List.getElem?_map, Option.map_eq_some_iff] at hc hd
      obtain ⟨i1, hi1, rfl⟩ := hc
      obtain ⟨i2, hi2, rfl⟩ := hd
      obtain ⟨hil, rfl⟩ := List.getElem?_eq_some_iff.1 hi1
      obtain ⟨_, rfl⟩ := List.getElem?_eq_some_iff.1 hi2
      simp only [List.getElem_range, List.length_range] at hil ⊢
      obtain ⟨q1, _, q3⟩ := hf i hil
      refine ⟨fun j u hj => ?_, q3⟩
      have := q1 j u hj
      rw [Go.WideShapes.add_plain] at this
      rw [Nat.add_assoc]
      exact this
    · obtain ⟨i, hi, rfl⟩ := List.mem_map.1 hc
      exact (hf i (by simpa using hi)).2.1
end
end Go.Proofs.YtnjcmcnjgdjbiaaGreatDoor
