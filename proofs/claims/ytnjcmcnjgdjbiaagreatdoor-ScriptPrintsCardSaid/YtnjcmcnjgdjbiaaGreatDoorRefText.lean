/- The walk of the document's Text: the line of a call that has one. Conditions: the call's bytes can be read. Printed by wip/tools/gtext.py. -/
import Derived.Test.YtnjcmcnjgdjbiaaGreatDoorPrint
import Derived.Test.YtnjcmcnjgdjbiaaGreatDoorDigits
import Derived.Test.YtnjcmcnjgdjbiaaGreatDoorCalls1
import Derived.Test.YtnjcmcnjgdjbiaaGreatDoorBehind
import Derived.Test.YtnjcmcnjgdjbiaaGreatDoorHeap
import Derived.Laws.IdiomStrings
import Derived.Laws.BytesArg
import Derived.Deep.DeepCutAuto
import Derived.Deep.CutBlock
import Derived.Deep.RegionHeld3
import Derived.Deep.AppendLies
namespace Go.Proofs.YtnjcmcnjgdjbiaaGreatDoor
open Go.RowKit

/-- the line's rest, by the document's letters -/
def tg (x : Txt.Cx) : List UInt8 → Bool → List UInt8
  | [], _ => []
  | c :: l, fst =>
    if c = 97 then (32 :: Txt.adrT x.ref.toNat x.p) ++ tg x l fst
    else if c = 100 then (32 :: Txt.hexT x.data) ++ tg x l fst
    else if c = 110 then (32 :: Txt.dec (if fst then x.a else x.b)) ++ tg x l false
    else (if x.deny then [32, 33] else []) ++ tg x l fst

theorem text_tg (k : Nat) (hk : k < 14) (x : Txt.Cx) (hop : x.op = (k : Int) + 1) (ht : Txt.tellable x = true) : Txt.textOf x.cd = opWord k ++ tg x (behindAt k) true := by
  unfold Txt.tellable at ht
  rw [Bool.and_eq_true, decide_eq_true_eq, Txt.okCd_iff] at ht
  obtain ⟨_, _, _, _, _, hd, _⟩ := ht
  have e : x.cd.op = k + 1 := by show x.op.toNat = _; omega
  obtain ⟨op, ref, p, a, b, deny, data⟩ := x
  unfold Txt.textOf Txt.opOf Txt.restWs
  rw [e] at hd ⊢
  have hw : Txt.opWords.getD (k + 1 - 1) [] = opWord k := rfl
  rw [hw]
  congr 1
  have hdeny : (Txt.formOf (k + 1)).refused = false → deny = false := hd
  clear hd hw hop e
  match k, hk with
  | 0, _ =>
    cases deny <;> simp [Txt.formOf, Txt.formAt, Txt.fieldWs, Txt.adrWs, Txt.numWs, Txt.datWs, Txt.denyWs, Txt.Cx.cd, Txt.R, tg, behindAt, Txt.behinds]
  | 1, _ =>
    cases deny <;> simp [Txt.formOf, Txt.formAt, Txt.fieldWs, Txt.adrWs, Txt.numWs, Txt.datWs, Txt.denyWs, Txt.Cx.cd, Txt.R, tg, behindAt, Txt.behinds]
  | 2, _ =>
    cases deny <;> simp [Txt.formOf, Txt.formAt, Txt.fieldWs, Txt.adrWs, Txt.numWs, Txt.datWs, Txt.denyWs, Txt.Cx.cd, Txt.R, tg, behindAt, Txt.behinds]
  | 3, _ =>
    cases deny <;> simp [Txt.formOf, Txt.formAt, Txt.fieldWs, Txt.adrWs, Txt.numWs, Txt.datWs, Txt.denyWs, Txt.Cx.cd, Txt.R, tg, behindAt, Txt.behinds]
  | 4, _ =>
    obtain rfl : deny = false := hdeny rfl
    simp [Txt.formOf, Txt.formAt, Txt.fieldWs, Txt.adrWs, Txt.numWs, Txt.datWs, Txt.denyWs, Txt.Cx.cd, Txt.R, tg, behindAt, Txt.behinds]
  | 5, _ =>
    obtain rfl : deny = false := hdeny rfl
    simp [Txt.formOf, Txt.formAt, Txt.fieldWs, Txt.adrWs, Txt.numWs, Txt.datWs, Txt.denyWs, Txt.Cx.cd, Txt.R, tg, behindAt, Txt.behinds]
  | 6, _ =>
    obtain rfl : deny = false := hdeny rfl
    simp [Txt.formOf, Txt.formAt, Txt.fieldWs, Txt.adrWs, Txt.numWs, Txt.datWs, Txt.denyWs, Txt.Cx.cd, Txt.R, tg, behindAt, Txt.behinds]
  | 7, _ =>
    obtain rfl : deny = false := hdeny rfl
    simp [Txt.formOf, Txt.formAt, Txt.fieldWs, Txt.adrWs, Txt.numWs, Txt.datWs, Txt.denyWs, Txt.Cx.cd, Txt.R, tg, behindAt, Txt.behinds]
  | 8, _ =>
    obtain rfl : deny = false := hdeny rfl
    simp [Txt.formOf, Txt.formAt, Txt.fieldWs, Txt.adrWs, Txt.numWs, Txt.datWs, Txt.denyWs, Txt.Cx.cd, Txt.R, tg, behindAt, Txt.behinds]
  | 9, _ =>
    obtain rfl : deny = false := hdeny rfl
    simp [Txt.formOf, Txt.formAt, Txt.fieldWs, Txt.adrWs, Txt.numWs, Txt.datWs, Txt.denyWs, Txt.Cx.cd, Txt.R, tg, behindAt, Txt.behinds]
  | 10, _ =>
    obtain rfl : deny = false := hdeny rfl
    simp [Txt.formOf, Txt.formAt, Txt.fieldWs, Txt.adrWs, Txt.numWs, Txt.datWs, Txt.denyWs, Txt.Cx.cd, Txt.R, tg, behindAt, Txt.behinds]
  | 11, _ =>
    obtain rfl : deny = false := hdeny rfl
    simp [Txt.formOf, Txt.formAt, Txt.fieldWs, Txt.adrWs, Txt.numWs, Txt.datWs, Txt.denyWs, Txt.Cx.cd, Txt.R, tg, behindAt, Txt.behinds]
  | 12, _ =>
    obtain rfl : deny = false := hdeny rfl
    simp [Txt.formOf, Txt.formAt, Txt.fieldWs, Txt.adrWs, Txt.numWs, Txt.datWs, Txt.denyWs, Txt.Cx.cd, Txt.R, tg, behindAt, Txt.behinds]
  | 13, _ =>
    obtain rfl : deny = false := hdeny rfl
    simp [Txt.formOf, Txt.formAt, Txt.fieldWs, Txt.adrWs, Txt.numWs, Txt.datWs, Txt.denyWs, Txt.Cx.cd, Txt.R, tg, behindAt, Txt.behinds]
  | _ + 14, h => omega

theorem beq_no {a b : UInt8} (h : a ≠ b) : ((a.toNat : Int) == (b.toNat : Int)) = false := by
  rw [beq_eq_false_iff_ne]
  intro e
  exact h (UInt8.toNat_inj.1 (by omega))

theorem mk0 (w : World) : (Instr.makeSlice 34 (.int .i64 0) (.int .i64 0)).run Tryz.prog w = .ok (.slice (some ⟨w.heap.size, 0, none⟩) 0 0) (w.alloc (.cells #[] 5)) := by
  have h := run_make_rowN (P := Tryz.prog) 34 5 (.int .u8 0) 1 1 Tryz.underlying34 info5 .i64 .i64 0 (by omega) (by omega) w
  have e : madeCells (Value.int .u8 0).cells (0 * 1) = #[] := by simp [madeCells]
  rw [e] at h
  exact h

theorem own_apart1 {w : World} {B e n k b : Nat} {v : Value} {xs : List Value} (h : w.ownsRow B e k v n xs) (hb : b < B) : v.ownBlock ≠ some b := fun e => by
  have := (World.ownsRow.lt h b e).1
  omega
theorem owns_drewN1 {w : World} {B e n k : Nat} {v : Value} {xs : List Value} (h : w.ownsRow B e k v n xs) (m : Nat) : (w.drewN m).ownsRow B e k v n xs := h

theorem hex_step (d : List UInt8) (m : Nat) (y : UInt8) (h : d[m]? = some y) : bytesV (Txt.hexB (d.take (m + 1))) = bytesV (Txt.hexB (d.take m)) ++ [.int .u8 (Txt.hexD (y.toNat / 16)).toNat, .int .u8 (Txt.hexD (y.toNat % 16)).toNat] := by
  rw [List.take_add_one, h]
  show bytesV (Txt.hexB (d.take m ++ [y])) = _
  rw [hexB_snoc]
  simp [bytesV]

set_option maxRecDepth 100000 in
/-- the bytes of an owned row as a string -/
theorem conv_own {w : World} {B n : Nat} {dp : Option Addr} {dn dc : Nat} {d : List UInt8} (h : w.ownsRow B 5 1 (.slice dp dn dc) n (bytesV d)) (hn : n = d.length) : (convert 34 9 (.slice dp dn dc)).run Tryz.prog w = .ok (.string ⟨d.toArray⟩) w := by
  rcases h.2 with ⟨h1, h2⟩ | ⟨g, cap, cur, h1, _, hb, _, _, _, ht⟩
  · injection h1 with e0 e1 e2
    have hd : d = [] := List.eq_nil_of_length_eq_zero (by omega)
    subst hd
    rw [e0]
    exact run_convert_bytes_nil w 34 5 Tryz.underlying34 Tryz.underlying5 _ _ 9 Tryz.underlying9
  · injection h1 with e0 e1 e2
    subst e0 e1 e2 hn
    refine run_convert_bytes_back w 34 9 5 ⟨g, 0, none⟩ _ d Tryz.underlying34 Tryz.underlying5 Tryz.underlying9 (fun j hj => ?_)
    rw [Lib.add_plain, Lib.cell_of_heap hb, Nat.zero_add]
    have h3 : (bytesV d)[j]? = some (.int .u8 (d[j].toNat : Int)) := by unfold bytesV; rw [List.getElem?_map, List.getElem?_eq_getElem hj]; rfl
    rw [← ht, List.getElem?_take] at h3
    split at h3
    · rw [← Array.getElem?_toList]; exact h3
    · cases h3

theorem bits_and15 (y : UInt8) : bits .and .u8 (y.toNat : Int) 15 = (y.toNat : Int) % 16 := by
  have : ∀ n : Fin 256, bits .and .u8 (n.val : Int) 15 = (n.val : Int) % 16 := by decide +kernel
  exact this ⟨y.toNat, y.toNat_lt⟩

theorem own_hex {w : World} {B n : Nat} {v : Value} {xs : List Value} {y : UInt8} {a b : Nat} {ha : a < (⟨#[48, 49, 50, 51, 52, 53, 54, 55, 56, 57, 97, 98, 99, 100, 101, 102]⟩ : ByteArray).size} {hb : b < (⟨#[48, 49, 50, 51, 52, 53, 54, 55, 56, 57, 97, 98, 99, 100, 101, 102]⟩ : ByteArray).size}
    (h : w.ownsRow B 5 1 v n (xs ++ [.int .u8 (((⟨#[48, 49, 50, 51, 52, 53, 54, 55, 56, 57, 97, 98, 99, 100, 101, 102]⟩ : ByteArray)[a]'ha).toNat : Int), .int .u8 (((⟨#[48, 49, 50, 51, 52, 53, 54, 55, 56, 57, 97, 98, 99, 100, 101, 102]⟩ : ByteArray)[b]'hb).toNat : Int)]))
    (h1 : a = y.toNat / 16) (h2 : b = y.toNat % 16) : w.ownsRow B 5 1 v n (xs ++ [.int .u8 (Txt.hexD (y.toNat / 16)).toNat, .int .u8 (Txt.hexD (y.toNat % 16)).toNat]) := by
  subst h1 h2
  have h8 := y.toNat_lt
  rw [hexD_lit _ (by omega) ha, hexD_lit _ (by omega) hb]
  exact h

theorem drop_cons (s : ByteArray) (j : Nat) (h : j < s.size) : s.data.toList.drop j = s[j]'h :: s.data.toList.drop (j + 1) := by
  have hl : j < s.data.toList.length := by rw [Array.length_toList]; exact h
  rw [List.drop_eq_getElem_cons hl]
  rfl

theorem is_eq {a b : UInt8} (h : a = b) : ((a.toNat : Int) == (b.toNat : Int)) = true := by rw [h]; simp
theorem no_eq {a b : UInt8} (h : a = b) {c : UInt8} (hc : b ≠ c) : ((a.toNat : Int) == (c.toNat : Int)) = false := by rw [h]; exact beq_no hc

set_option maxRecDepth 100000 in
set_option maxHeartbeats 8000000 in
theorem text_ (k : Nat) (hk : k < 14) (r : Nat) (p a b : Nat) (deny : Bool) (data : List UInt8) (dp : Option Addr) (dc : Nat) (w : World) (hr : r ≤ 4096) (hd : data.length ≤ 65536) (hp : p ≤ Txt.M64) (ha : a ≤ Txt.M64) (hb : b ≤ Txt.M64) (ht : Txt.tellable ⟨(k : Int) + 1, (r : Int), p, a, b, deny, data⟩ = true) (R : RdD w dp data.length data) :
    Calls Tryz.prog 73 #[(CallV.mk ((k : Int) + 1) (r : Int) p a b deny dp data.length dc).val] w (Texted (Txt.textOf (Txt.Cx.cd ⟨(k : Int) + 1, (r : Int), p, a, b, deny, data⟩)) w) := by
  unfold CallV.val
  have T0 : Touch Nothing w (w.alloc (.cells #[.int .i64 ((k : Int) + 1), .int .i64 (r : Int), .int .u64 p, .int .u64 a, .int .u64 b, .bool deny, .slice dp data.length dc] 43)) := (Touch.refl _ w).alloc _
  have B0 := Blk.new w #[.int .i64 ((k : Int) + 1), .int .i64 (r : Int), .int .u64 p, .int .u64 a, .int .u64 b, .bool deny, .slice dp data.length dc] 43
  have HT0 := Lib.hid T0
  have HB0 := Lib.hid B0
  have HR := Lib.hid R
  obtain ⟨x, hx⟩ : ∃ x : Txt.Cx, (⟨(k : Int) + 1, (r : Int), p, a, b, deny, data⟩ : Txt.Cx) = x := ⟨_, rfl⟩
  have HTL := Lib.hid (text_len ⟨(k : Int) + 1, (r : Int), p, a, b, deny, data⟩ ht hp ha hb)
  have HTG := Lib.hid (text_tg k hk _ rfl ht)
  rw [hx] at HTL HTG ht
  rw [hx]
  obtain ⟨tot, htot⟩ : ∃ tot, Txt.textOf x.cd = tot := ⟨_, rfl⟩
  rw [htot] at HTL HTG
  rw [htot]
  have HX := Lib.hid hx
  have hp2 : p < 18446744073709551616 := by unfold Txt.M64 at hp; omega
  have ha2 : a < 18446744073709551616 := by unfold Txt.M64 at ha; omega
  have hb2 : b < 18446744073709551616 := by unfold Txt.M64 at hb; omega
  clear T0 B0 R hx htot ht hp ha hb
  obtain ⟨word, hword⟩ : ∃ word : ByteArray, (⟨(opWord k).toArray⟩ : ByteArray) = word := ⟨_, rfl⟩
  obtain ⟨fb, hfb⟩ : ∃ fb : ByteArray, (⟨(behindAt k).toArray⟩ : ByteArray) = fb := ⟨_, rfl⟩
  have HCF := Lib.hid (show ∀ (us : Array Value) (W : World), (callFunc 79 us).run Tryz.prog W = .ok (.enter 79 us) W from fun us W => by simp [go_sem])
  have HCF2 := Lib.hid (show ∀ (us : Array Value) (W : World), (callFunc 78 us).run Tryz.prog W = .ok (.enter 78 us) W from fun us W => by simp [go_sem])
  have HBW := Lib.hid (fun W => behind_ W)
  have HWW := Lib.hid (fun W => words_ W)
  have hk3 : decide (14 ≤ k) = false := by simp; omega
  have hk4 : decide ((14 : Int) ≤ (k : Int)) = false := by simp; omega
  have hk5 : (k : Int) < 14 := by omega
  have hk6 : (0 : Int) ≤ (k : Int) := by omega
  have hwr : IntKind.i64.wrap (k : Int) = (k : Int) := IntWalk.i64_in _ (by omega)
  go_enter Tryz.func73, Tryz.ntmps73
  go_upto_region 1 with fail
  generalize w.alloc (.cells #[.int .i64 ((k : Int) + 1), .int .i64 (r : Int), .int .u64 p, .int .u64 a, .int .u64 b, .bool deny, .slice dp data.length dc] 43) = w0 at *
  obtain ⟨bb, hbb⟩ : ∃ bb, w.heap.size = bb := ⟨_, rfl⟩
  rw [hbb] at HB0
  rw [hbb]
  have c0 : w0.cell? ⟨bb, 0, none⟩ = some (.int .i64 ((k : Int) + 1)) := HB0.out.cell 0
  have hblt := HB0.out.lt
  go_cut [3] (fun t wx => t = .string fb ∧ Touch Nothing w0 wx)
  case first =>
    go_region_law (refine step_call_list _ (by rfl) 79 #[] #[] (by rfl) #[] (by rfl) (HBW.out _) (HCF.out _ _) ?_; rintro e w' ⟨gb, hgb, rfl, hBb, hltb, hT⟩; refine ⟨_, rfl, ?_⟩; obtain rfl : gb = w0.heap.size := (by rw [hgb]; simp); clear hgb; have hcf : w'.cell? ⟨w0.heap.size, k, none⟩ = some (.string fb) := (by rw [← hfb, hBb.cell]; exact behind_cell k hk); have c0' : w'.cell? ⟨bb, 0, none⟩ = some (.int .i64 ((k : Int) + 1)) := (hT.cell (p := ⟨bb, 0, none⟩) (by simpa using hblt) (fun h => h)).trans (by simpa using c0); have HT' := Lib.hid hT; clear hT)
    all_goals
      go_wp2_with fail
      go_meet
      exact ⟨rfl, HT'.out.os, HT'.out.tape, HT'.out.output, HT'.out.size, HT'.out.block⟩
  case rest =>
    obtain ⟨rfl, hT1⟩ := hcut
    have HB1 := Lib.hid (HB0.out.touch hT1 (fun h => h))
    have HT1 := Lib.hid (HT0.out.trans hT1)
    have d0 : wc.cell? ⟨bb, 0, none⟩ = some (.int .i64 ((k : Int) + 1)) := HB1.out.cell 0
    have hdlt := HB1.out.lt
    clear hT1 c0 hblt HT0 HB0
    go_upto_region 2 with fail
    go_cut [4] (fun t wx => t = .string word ∧ Touch Nothing wc wx)
    case first =>
      go_region_law (refine step_call_list _ (by rfl) 78 #[] #[] (by rfl) #[] (by rfl) (HWW.out _) (HCF2.out _ _) ?_; rintro e w' ⟨gb, hgb, rfl, hBb, hltb, hT⟩; refine ⟨_, rfl, ?_⟩; obtain rfl : gb = wc.heap.size := (by rw [hgb]; simp); clear hgb; have hcf : w'.cell? ⟨wc.heap.size, k, none⟩ = some (.string word) := (by rw [← hword, hBb.cell]; exact word_cell k hk); have c0' : w'.cell? ⟨bb, 0, none⟩ = some (.int .i64 ((k : Int) + 1)) := (hT.cell (p := ⟨bb, 0, none⟩) (by simpa using hdlt) (fun h => h)).trans (by simpa using d0); have HT' := Lib.hid hT; clear hT)
      all_goals
        go_wp2_with fail
        go_meet
        exact ⟨rfl, HT'.out.os, HT'.out.tape, HT'.out.output, HT'.out.size, HT'.out.block⟩
    case rest =>
      obtain ⟨rfl, hT2⟩ := hcut
      have HB2 := Lib.hid (HB1.out.touch hT2 (fun h => h))
      have HT2 := Lib.hid (HT1.out.trans hT2)
      have hfl : fb.data.toList = behindAt k := by rw [← hfb]
      have hfs : fb.size ≤ 3 := by
        have h1 : fb.data.toList.length = fb.size := by rw [Array.length_toList]; rfl
        rw [← h1, hfl]
        exact behind_short k
      have HK := Lib.hid (show ∀ j (h : j < fb.size), fb[j]'h = 33 ∨ fb[j]'h = 97 ∨ fb[j]'h = 100 ∨ fb[j]'h = 110 from fun j h => behind_kinds k _ (by rw [← hfl]; exact List.mem_of_getElem? (Lib.data_getElem? fb j h)))
      have HST := Lib.hid (show word.data.toList ++ tg x fb.data.toList true = tot by rw [HTG.out, hfl, ← hword])
      have hwz : word.size ≤ tot.length := by
        rw [← HST.out, List.length_append, Array.length_toList]
        exact Nat.le_add_right _ _
      have htl := HTL.out
      clear hT2 hfl hfb hword d0 hdlt HB1 HT1 HWW HBW HCF HCF2 HTG HTL hk3 hk4 hk5 hk6 hwr hbb
      go_wp2_with fail
      go_loopw [4, 5, 6] (fun s f i wr => ∃ (j : Nat) (fst : Bool) (st : ByteArray), j ≤ fb.size ∧ i = .int .i64 j ∧ f = .bool fst ∧ s = .string st ∧ st.data.toList ++ tg x (fb.data.toList.drop j) fst = tot ∧ Touch Nothing wc wr) (fun _ _ i _ => fb.size - (intOf i).toNat)
      case atStart => exact ⟨0, true, word, by omega, rfl, rfl, rfl, HST.out, Touch.refl _ _⟩
      case round =>
        obtain ⟨j, fst, st, hj, rfl, rfl, rfl, hlaw, hTr⟩ := hrel
        have HL := Lib.hid hlaw
        have HTr := Lib.hid hTr
        have hst : st.size ≤ tot.length := by
          rw [← hlaw, List.length_append, Array.length_toList]
          exact Nat.le_add_right _ _
        clear hlaw hTr
        by_cases hlt : j < fb.size
        · have HD := Lib.hid (drop_cons fb j hlt)
          have HBr := Lib.hid (HB2.out.touch HTr.out (fun h => h))
          have e1 : wr.cell? ⟨bb, 1, none⟩ = some (.int .i64 (r : Int)) := HBr.out.cell 1
          have e2 : wr.cell? ⟨bb, 2, none⟩ = some (.int .u64 p) := HBr.out.cell 2
          have e3 : wr.cell? ⟨bb, 3, none⟩ = some (.int .u64 a) := HBr.out.cell 3
          have e4 : wr.cell? ⟨bb, 4, none⟩ = some (.int .u64 b) := HBr.out.cell 4
          have e5 : wr.cell? ⟨bb, 5, none⟩ = some (.bool deny) := HBr.out.cell 5
          have e6 : wr.cell? ⟨bb, 6, none⟩ = some (.slice dp data.length dc) := HBr.out.cell 6
          have hru : IntKind.u64.wrap (r : Int) = (r : Int) := IntWalk.u64_in _ (by omega)
          have HW := Lib.hid (show ∀ (pc : List UInt8) (fst' : Bool) (st' : ByteArray), tg x (fb.data.toList.drop j) fst = pc ++ tg x (fb.data.toList.drop (j + 1)) fst' → st'.data.toList = st.data.toList ++ pc → st'.data.toList ++ tg x (fb.data.toList.drop (j + 1)) fst' = tot from fun pc fst' st' h1 h2 => by rw [h2, ← HL.out, h1, List.append_assoc])
          rcases HK.out j hlt with hc | hc | hc | hc
          · have k1 : (((fb[j]'hlt).toNat : Int) == 97) = false := no_eq hc (c := 97) (by decide)
            have k2 : (((fb[j]'hlt).toNat : Int) == 100) = false := no_eq hc (c := 100) (by decide)
            have k3 : (((fb[j]'hlt).toNat : Int) == 110) = false := no_eq hc (c := 110) (by decide)
            have HC := Lib.hid hc
            clear hc
            cases deny
            · go_wp2_with fail
              exact ⟨⟨j + 1, fst, st, by omega, by go_num, rfl, rfl, HW.out [] fst st (by rw [HD.out, HC.out, ← HX.out]; simp [tg]) (by simp), HTr.out⟩, by simp [intOf]; omega⟩
            · go_wp2_with fail
              exact ⟨⟨j + 1, fst, _, by omega, by go_num, rfl, rfl, HW.out [32, 33] fst _ (by rw [HD.out, HC.out, ← HX.out]; simp [tg]) (by rw [ByteArray.data_append]; simp), HTr.out⟩, by simp [intOf]; omega⟩
          · have k1 : (((fb[j]'hlt).toNat : Int) == 97) = true := is_eq hc
            have HC := Lib.hid hc
            clear hc
            have hl1 := dec_len p hp2
            have hl2 := dec_len r (by omega)
            have HG1 := Lib.hid (digits_ p hp2 wr)
            have HG2 := Lib.hid (digits_ r (by omega) wr)
            have hsz1 : (⟨(Txt.dec p).toArray⟩ : ByteArray).size ≤ 20 := hl1
            have hsz2 : (⟨(Txt.dec r).toArray⟩ : ByteArray).size ≤ 20 := hl2
            by_cases h0 : r = 0
            · have q1 : decide ((0 : Int) < (r : Int)) = false := by simp; omega
              have q2 : decide (0 < r) = false := by simp; omega
              have H0 := Lib.hid h0
              clear h0
              go_wp2_with fail
              refine HG1.out.mono ?_
              rintro e w' ⟨rfl, rfl⟩
              go_wp2_with fail
              exact ⟨⟨j + 1, fst, _, by omega, by go_num, rfl, rfl, HW.out (32 :: Txt.dec p) fst _ (by rw [HD.out, HC.out, ← HX.out]; simp [tg, Txt.adrT, H0.out]) (by simp [ByteArray.data_append]), HTr.out⟩, by simp [intOf]; omega⟩
            · have q1 : decide ((0 : Int) < (r : Int)) = true := by simp; omega
              have q2 : decide (0 < r) = true := by simp; omega
              by_cases hp0 : 0 < p
              · have q3 : decide ((0 : Int) < (p : Int)) = true := by simp; omega
                have q4 : decide (0 < p) = true := by simp; omega
                go_wp2_with fail
                refine HG1.out.mono ?_
                rintro e w' ⟨rfl, rfl⟩
                go_wp2_with fail
                refine HG2.out.mono ?_
                rintro e w' ⟨rfl, rfl⟩
                go_wp2_with fail
                refine HG1.out.mono ?_
                rintro e w' ⟨rfl, rfl⟩
                go_wp2_with fail
                exact ⟨⟨j + 1, fst, _, by omega, by go_num, rfl, rfl, HW.out (32 :: 36 :: (Txt.dec r ++ 43 :: Txt.dec p)) fst _ (by rw [HD.out, HC.out, ← HX.out]; simp [tg, Txt.adrT, h0, hp0]) (by simp [ByteArray.data_append]), HTr.out⟩, by simp [intOf]; omega⟩
              · have q3 : decide ((0 : Int) < (p : Int)) = false := by simp; omega
                have q4 : decide (0 < p) = false := by simp; omega
                have HP0 := Lib.hid hp0
                clear hp0
                go_wp2_with fail
                refine HG1.out.mono ?_
                rintro e w' ⟨rfl, rfl⟩
                go_wp2_with fail
                refine HG2.out.mono ?_
                rintro e w' ⟨rfl, rfl⟩
                go_wp2_with fail
                exact ⟨⟨j + 1, fst, _, by omega, by go_num, rfl, rfl, HW.out (32 :: 36 :: Txt.dec r) fst _ (by rw [HD.out, HC.out, ← HX.out]; simp [tg, Txt.adrT, h0, HP0.out]) (by simp [ByteArray.data_append]), HTr.out⟩, by simp [intOf]; omega⟩
          · have k1 : (((fb[j]'hlt).toNat : Int) == 97) = false := no_eq hc (c := 97) (by decide)
            have k2 : (((fb[j]'hlt).toNat : Int) == 100) = true := is_eq hc
            have HC := Lib.hid hc
            clear hc
            by_cases hd0 : 0 < data.length
            · have q1 : decide ((0 : Int) < (data.length : Int)) = true := by simp; omega
              have q2 : decide (0 < data.length) = true := by simp; omega
              have hmk : (Instr.makeSlice 34 (.int .i64 0) (.int .i64 0)).run Tryz.prog wr = .ok (.slice (some ⟨wr.heap.size, 0, none⟩) 0 0) (wr.alloc (.cells #[] 5)) := mk0 wr
              go_wp2_with fail
              obtain ⟨wo, hwo⟩ : ∃ wo, wr = wo := ⟨_, rfl⟩
              have hwo' := hwo.symm
              subst hwo'
              clear hwo
              go_loopw [9, 10] (fun v i wr => ∃ m : Nat, m ≤ data.length ∧ i = .int .i64 m ∧ wr.ownsRow wo.heap.size 5 1 v (2 * m) (bytesV (Txt.hexB (data.take m))) ∧ Touch Nothing wo wr) (fun _ i _ => data.length - (intOf i).toNat)
              case atStart => exact ⟨0, by omega, rfl, ⟨rfl, .inr ⟨wo.heap.size, 0, #[], rfl, Nat.le_refl _, heap_alloc_new wo _, by omega, by unfold maxLen; omega, rfl, rfl⟩⟩, (Touch.refl _ _).alloc _⟩
              case round =>
                obtain ⟨m, hm, rfl, hO, hTq⟩ := hrel
                have hBq := HBr.out.touch hTq (fun h => h)
                have s6 : wr.cell? ⟨bb, 6, none⟩ = some (.slice dp data.length dc) := hBq.cell 6
                have hbq := HBr.out.lt
                have hbq2 := hBq.lt
                have hgq := hTq.size
                have HO := Lib.hid hO
                have HRq := Lib.hid (HR.out.touch (HT2.out.trans (HTr.out.trans hTq)))
                have HTq := Lib.hid hTq
                have HNB := Lib.hid (own_apart1 hO hbq)
                obtain ⟨dp9, dc9, rfl⟩ := owns_form hO
                clear hO hTq hBq
                by_cases hmlt : m < data.length
                · obtain ⟨y, hy⟩ : ∃ y, data[m]? = some y := ⟨_, List.getElem?_eq_getElem hmlt⟩
                  obtain ⟨g, off, hdp, hc⟩ := HRq.out.data (by intro e; rw [e] at hmlt; simp at hmlt)
                  subst hdp
                  have hcell : wr.cell? ⟨g, off + m, none⟩ = some (.int .u8 y.toNat) := hc m y hy
                  have hgw : g < wo.heap.size := by
                    obtain ⟨g', off', hd', hc'⟩ := (HR.out.touch (HT2.out.trans HTr.out)).data (by intro e; rw [e] at hmlt; simp at hmlt)
                    cases hd'
                    exact World.block_lt_of_cell? wo _ (hc' m y hy)
                  have hgw2 : g < wr.heap.size := Nat.lt_of_lt_of_le hgw hgq
                  have HNG := Lib.hid (own_apart1 HO.out hgw)
                  have HY := Lib.hid (hex_step data m y hy)
                  have hy8 := y.toNat_lt
                  have q5 : decide ((m : Int) < (data.length : Int)) = true := by simp; omega
                  have q6 : decide (m < data.length) = true := by simp; omega
                  have q7 : (m : Int) < (data.length : Int) := by omega
                  have hmk3 : IntKind.u8.wrap ((y.toNat : Int) / 16) = (y.toNat : Int) / 16 := IntWalk.u8_in _ (by omega)
                  have hmk4 : IntKind.u8.wrap ((y.toNat : Int) % 16) = (y.toNat : Int) % 16 := IntWalk.u8_in _ (by omega)
                  have hmk5 : IntKind.u8.wrap ((y.toNat % 16 : Nat) : Int) = ((y.toNat % 16 : Nat) : Int) := IntWalk.u8_in _ (by omega)
                  have hmk6 : y.toNat &&& 15 = y.toNat % 16 := Nat.and_two_pow_sub_one_eq_mod y.toNat 4
                  have hn1 : (0 : Int) ≤ (y.toNat : Int) / 16 := by omega
                  have hn2 : (y.toNat : Int) / 16 < 16 := by omega
                  have hn3 : (0 : Int) ≤ (y.toNat : Int) % 16 := by omega
                  have hn4 : (y.toNat : Int) % 16 < 16 := by omega
                  have hbt := bits_and15 y
                  have hd6 : data.length ≤ 65536 := hd
                  obtain ⟨t0, hi0, hz0, hz1, hz2⟩ := info_parts info5
                  clear hc hy hmk
                  go_upto_block 4 with fail
                  go_cut [9] (fun v wx => ∃ gg cap, v = .slice (some ⟨gg, 0, none⟩) (2 * m + 2) cap ∧ wx.ownsRow wo.heap.size 5 1 (.slice (some ⟨gg, 0, none⟩) (2 * m + 2) cap) (2 * m + 2) (bytesV (Txt.hexB (data.take (m + 1)))) ∧ Touch Nothing wo wx)
                  case first =>
                    go_wp2_with fail
                    go_region_law (refine step_append_lies _ (by rfl) _ _ _ (by rfl) wo.heap.size 5 t0 _ 1 1 Tryz.underlying34 hi0 hz0 hz1 hz2 rfl (by omega) (.slice dp9 (2 * m) dc9) (2 * m) _ (by rfl) ((HO.out.alloc _).drew) ⟨wr.heap.size, 0, none⟩ 2 2 [.int .u8 _, .int .u8 _] (by rfl) (by rfl) (World.news_of_block (cs := #[.int .u8 _, .int .u8 _]) (t := 5) (fr := (0, 0)) (heap_alloc_new _ _)) (by simp [Value.oneCell']) (by omega) (by unfold maxLen; omega) (by omega) (by simp; omega) (wr.heap.size + 1) (by simp) ?_; intro gg cap w1 hown1 hgrow hat hlt9; have HOW := Lib.hid hown1; have HGR := Lib.hid hgrow; clear hown1 hgrow hat hlt9)
                    all_goals
                      go_wp2_with fail
                      go_meet
                      refine ⟨gg, cap, rfl, by rw [HY.out]; exact own_hex HOW.out (by omega) (by omega), ?_⟩
                      exact Touch.trans' (by first | exact (HTq.out.alloc _).drew | exact (HTq.out.drew.alloc _) | exact ((HTq.out.drewN _).alloc _).drew) (Touch.of_grown HGR.out (fun i hi => hi)) (fun i hi h => by have := (World.ownsRow.lt HO.out i h).1; omega)
                  case rest =>
                    obtain ⟨gg, cap, rfl, hO9, hT9⟩ := hcut
                    have HO9 := Lib.hid hO9
                    have HT9 := Lib.hid hT9
                    clear hO9 hT9
                    go_wp2_with fail
                    exact ⟨⟨m + 1, by omega, by go_num, HO9.out, HT9.out⟩, by simp [intOf]; omega⟩
                · obtain rfl : m = data.length := by omega
                  have q5 : decide ((data.length : Int) < (data.length : Int)) = false := by simp
                  have HCV := Lib.hid (conv_own (d := Txt.hexB data) (by have h := HO.out; rwa [List.take_length] at h) (by rw [Txt.hexB_length]))
                  have HX2 := Lib.hid (show Txt.hexT data = Txt.hexB data by unfold Txt.hexT; rw [if_neg (by intro e; rw [e] at hd0; simp at hd0)])
                  have hz10 : (Txt.hexB data).length ≤ 131072 := by rw [Txt.hexB_length]; omega
                  have hz9 : (⟨(Txt.hexB data).toArray⟩ : ByteArray).size ≤ 131072 := by show (Txt.hexB data).length ≤ _; rw [Txt.hexB_length]; omega
                  clear hmk
                  go_wp2_with fail
                  rw [HCV.out]
                  go_wp2_with fail
                  exact ⟨⟨j + 1, fst, _, by omega, by go_num, rfl, rfl, HW.out (32 :: Txt.hexB data) fst _ (by rw [HD.out, HC.out, ← HX.out]; simp [tg, HX2.out]) (by simp [ByteArray.data_append]), HTr.out.trans HTq.out⟩, by simp [intOf]; omega⟩
            · obtain rfl : data = [] := List.eq_nil_of_length_eq_zero (by omega)
              go_wp2_with fail
              exact ⟨⟨j + 1, fst, _, by omega, by go_num, rfl, rfl, HW.out [32, 45] fst _ (by rw [HD.out, HC.out, ← HX.out]; simp [tg, Txt.hexT]) (by simp [ByteArray.data_append]), HTr.out⟩, by simp [intOf]; omega⟩
          · have k1 : (((fb[j]'hlt).toNat : Int) == 97) = false := no_eq hc (c := 97) (by decide)
            have k2 : (((fb[j]'hlt).toNat : Int) == 100) = false := no_eq hc (c := 100) (by decide)
            have k3 : (((fb[j]'hlt).toNat : Int) == 110) = true := is_eq hc
            have HC := Lib.hid hc
            clear hc
            cases fst
            · have hl1 := dec_len b hb2
              have hsz1 : (⟨(Txt.dec b).toArray⟩ : ByteArray).size ≤ 20 := hl1
              have HG1 := Lib.hid (digits_ b hb2 wr)
              go_wp2_with fail
              refine HG1.out.mono ?_
              rintro e w' ⟨rfl, rfl⟩
              go_wp2_with fail
              exact ⟨⟨j + 1, false, _, by omega, by go_num, rfl, rfl, HW.out (32 :: Txt.dec b) false _ (by rw [HD.out, HC.out, ← HX.out]; simp [tg]) (by simp [ByteArray.data_append]), HTr.out⟩, by simp [intOf]; omega⟩
            · have hl1 := dec_len a ha2
              have hsz1 : (⟨(Txt.dec a).toArray⟩ : ByteArray).size ≤ 20 := hl1
              have HG1 := Lib.hid (digits_ a ha2 wr)
              go_wp2_with fail
              refine HG1.out.mono ?_
              rintro e w' ⟨rfl, rfl⟩
              go_wp2_with fail
              exact ⟨⟨j + 1, false, _, by omega, by go_num, rfl, rfl, HW.out (32 :: Txt.dec a) false _ (by rw [HD.out, HC.out, ← HX.out]; simp [tg]) (by simp [ByteArray.data_append]), HTr.out⟩, by simp [intOf]; omega⟩
        · obtain rfl : j = fb.size := by omega
          have hn : ¬ (fb.size : Int) < (fb.size : Int) := by omega
          have HE := Lib.hid (show st.data.toList = tot by rw [← HL.out, List.drop_of_length_le (by rw [Array.length_toList]; exact Nat.le_refl _)]; simp [tg])
          go_wp2_with fail
          go_ret
          exact ⟨by rw [← HE.out]; simp, HT2.out.trans HTr.out⟩

end Go.Proofs.YtnjcmcnjgdjbiaaGreatDoor
