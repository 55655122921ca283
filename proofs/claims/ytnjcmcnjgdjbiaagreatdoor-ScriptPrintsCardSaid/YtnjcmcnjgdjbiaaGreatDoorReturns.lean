/- The walk of law ScriptReturns: it tells true. Conditions: the calls can be read and their numbers are of their kinds. -/
import Derived.Test.YtnjcmcnjgdjbiaaGreatDoorCopied
import Derived.Test.YtnjcmcnjgdjbiaaGreatDoorSteps
namespace Go.Proofs.YtnjcmcnjgdjbiaaGreatDoor
open Go.RowKit

def CdOk (x : Txt.Cd) : Prop := Txt.okCd x = true ∧ x.p ≤ Txt.M64 ∧ x.a ≤ Txt.M64 ∧ x.b ≤ Txt.M64

theorem runW_small : ∀ (ls : List (List UInt8)) (i : Nat) (acc : List Txt.Cd), (∀ x ∈ acc, CdOk x) → (∀ x ∈ (Txt.runW ls i acc).1, CdOk x) ∧ ((Txt.runW ls i acc).2.2 = 0 → (Txt.runW ls i acc).2.1 = 0)
  | [], i, acc, h => ⟨h, fun _ => rfl⟩
  | s :: ls, i, acc, h => by
    unfold Txt.runW
    cases hs : Txt.lineW s with
    | none => exact ⟨fun x hx => (by cases hx), fun h => (by cases h)⟩
    | some x =>
      obtain ⟨_, t2, t3⟩ := Txt.text_line hs
      refine runW_small ls (i + 1) (acc ++ [x]) (fun y hy => ?_)
      rcases List.mem_append.1 hy with hy | hy
      · exact h y hy
      · obtain rfl : y = x := by simpa using hy
        exact ⟨t2, t3⟩

theorem parseW_small (s : List UInt8) : (∀ x ∈ (Txt.parseW s).1, CdOk x) ∧ ((Txt.parseW s).2.2 = 0 → (Txt.parseW s).2.1 = 0) := by
  unfold Txt.parseW
  split
  · exact ⟨fun x hx => (by cases hx), fun _ => rfl⟩
  · split
    · exact ⟨fun x hx => (by cases hx), fun _ => rfl⟩
    · split
      · exact ⟨fun x hx => (by cases hx), fun h => (by cases h)⟩
      · exact runW_small _ _ _ (fun x hx => by cases hx)

theorem CallIs.rdD {w : World} {B : Nat} {c : CallV} {x : Txt.Cd} (h : CallIs w B c x) : RdD w c.dp c.dn x.data := by
  rcases h.own.2 with ⟨h1, h2⟩ | ⟨g, cap, cur, h1, _, hb, _, _, _, ht⟩
  · injection h1 with e0 e1 e2
    have hd : x.data = [] := List.eq_nil_of_length_eq_zero h2
    exact ⟨by rw [e1, hd]; rfl, fun _ => hd, fun h => absurd hd h⟩
  · injection h1 with e0 e1 e2
    refine ⟨e1, fun e => (by rw [e0] at e; cases e), fun _ => ⟨g, 0, e0, fun j u hj => ?_⟩⟩
    rw [Lib.cell_of_heap hb, Nat.zero_add]
    have h3 : (bytesV x.data)[j]? = some (.int .u8 u.toNat) := by unfold bytesV; rw [List.getElem?_map, hj]; rfl
    rw [← ht, List.getElem?_take] at h3
    split at h3
    · rw [← Array.getElem?_toList]; exact h3
    · cases h3

theorem CallsAt.rdP {w : World} {B : Nat} {dp : Option Addr} {dn dc : Nat} {cs : List CallV} {xs : List Txt.Cd} (h : CallsAt w B (.slice dp dn dc) cs xs) : dn = cs.length ∧ RdP w dp dn cs (xs.map (·.data)) := by
  obtain ⟨p, c, hv⟩ := owns_form h.own
  cases hv
  refine ⟨rfl, ⟨rfl, by simpa using h.len, fun h0 => ?_⟩⟩
  obtain ⟨g, cap, hv, -, -⟩ := World.ownsRow.form h.own h0
  cases hv
  obtain ⟨_, R⟩ := h.rd
  obtain ⟨g', off', hp, he⟩ := R.each h0
  cases hp
  refine ⟨g, 0, rfl, fun i c d hc hd => ⟨(he i c d hc hd).cell, ?_⟩⟩
  rw [List.getElem?_map, Option.map_eq_some_iff] at hd
  obtain ⟨x, hx, rfl⟩ := hd
  exact (h.each i c x hc hx).rdD

/-- calls of what was read, as printing sees them -/
theorem cxs_read {w : World} {B : Nat} : ∀ (cs : List CallV) (xs : List Txt.Cd), cs.length = xs.length → (∀ (i : Nat) c x, cs[i]? = some c → xs[i]? = some x → CallIs w B c x) → cxs cs (xs.map (·.data)) = xs.map Txt.Cd.cx
  | [], [], _, _ => rfl
  | [], _ :: _, h, _ => by simp at h
  | _ :: _, [], h, _ => by simp at h
  | c :: cs, x :: xs, h, he => by
    simp only [List.map_cons, cxs]
    rw [cxs_read cs xs (by simpa using h) (fun i c' x' h1 h2 => he (i + 1) c' x' h1 h2)]
    have h0 := he 0 c x rfl rfl
    congr 1
    unfold cxOf Txt.Cd.cx
    rw [h0.op, h0.ref, h0.p, h0.a, h0.b, h0.deny]

theorem cxs_like : ∀ (cs ks : List CallV) (ds : List (List UInt8)), ks.length = cs.length → (∀ (i : Nat) c0 c, cs[i]? = some c0 → ks[i]? = some c → LikeC c c0) → cxs ks ds = cxs cs ds
  | [], [], _, _, _ => rfl
  | [], _ :: _, _, h, _ => by simp at h
  | _ :: _, [], _, h, _ => by simp at h
  | _ :: _, _ :: _, [], _, _ => rfl
  | c :: cs, k :: ks, d :: ds, h, he => by
    simp only [cxs]
    rw [cxs_like cs ks ds (by simpa using h) (fun i c0 c' h1 h2 => he (i + 1) c0 c' h1 h2)]
    obtain ⟨l1, l2, l3, l4, l5, l6⟩ := he 0 c k rfl rfl
    congr 1
    unfold cxOf
    rw [l1, l2, l3, l4, l5, l6]

theorem cxs_small : ∀ (cs : List CallV) (ds : List (List UInt8)), (∀ c ∈ cs, OkV c) → ∀ x ∈ cxs cs ds, Txt.Small x
  | [], _, _, x, hx => by cases ‹List (List UInt8)› <;> cases hx
  | _ :: _, [], _, x, hx => by cases hx
  | c :: cs, d :: ds, h, x, hx => by
    simp only [cxs] at hx
    rcases List.mem_cons.1 hx with rfl | hx
    · have := h c (by simp)
      exact ⟨this.p, this.a, this.b⟩
    · exact cxs_small cs ds (fun c' hc => h c' (by simp [hc])) x hx

theorem cxs_get : ∀ (cs : List CallV) (ds : List (List UInt8)) (i : Nat) c d, cs[i]? = some c → ds[i]? = some d → (cxs cs ds)[i]? = some (cxOf c d)
  | c' :: cs, d' :: ds, 0, c, d, hc, hd => by cases hc; cases hd; rfl
  | _ :: cs, _ :: ds, i + 1, c, d, hc, hd => cxs_get cs ds i c d hc hd
  | [], _, i, c, d, hc, hd => by simp at hc
  | _ :: _, [], i, c, d, hc, hd => by simp at hd

theorem cxs_data : ∀ (cs : List CallV) (ds : List (List UInt8)), cs.length = ds.length → ((cxs cs ds).map Txt.Cx.cd).map (·.data) = ds
  | [], [], _ => rfl
  | [], _ :: _, h => by simp at h
  | _ :: _, [], h => by simp at h
  | c :: cs, d :: ds, h => by
    simp only [cxs, List.map_cons]
    rw [cxs_data cs ds (by simpa using h)]
    rfl

/-- a call that was read is like the call that was printed -/
theorem like_read {w : World} {B : Nat} {c c0 : CallV} {d : List UInt8} (h : CallIs w B c (cxOf c0 d).cd) (ht : Txt.tellable (cxOf c0 d) = true) : LikeC c c0 := by
  unfold Txt.tellable at ht
  rw [Bool.and_eq_true, decide_eq_true_eq, Txt.okCd_iff] at ht
  obtain ⟨h0, ⟨h1, _⟩, _⟩ := ht
  have e1 : 1 ≤ c0.op.toNat := h1
  have e0 : 0 ≤ c0.ref := h0
  exact ⟨by rw [h.op]; show (c0.op.toNat : Int) = _; omega, by rw [h.ref]; show (c0.ref.toNat : Int) = _; omega, h.p, h.a, h.b, h.deny⟩

theorem str_nl (s : ByteArray) : s ++ (⟨#[10]⟩ : ByteArray) = ⟨(s.data.toList ++ [10]).toArray⟩ := by
  have h := app_list s.data.toList [10]
  rw [show (⟨s.data.toList.toArray⟩ : ByteArray) = s by simp] at h
  exact h

theorem str_nl_ne (s : ByteArray) : ((s ++ (⟨#[10]⟩ : ByteArray)).toList == s.toList) = false := by
  rw [beq_eq_false_iff_ne]
  intro h
  rw [ByteArray.toList_eq, ByteArray.toList_eq] at h
  have h2 := congrArg List.length h
  rw [str_nl] at h2
  simp at h2

theorem str_pos {s : ByteArray} (h : s.data.toList ≠ []) : 0 < s.size := by
  have := List.length_pos_iff.2 h
  rwa [Array.length_toList] at this

theorem str_last {s : ByteArray} (hz : s.size = 1048576) (h : s.data.toList.getLast? ≠ some 10) : (((s[1048575]'(by omega)).toNat : Int) != 10) = true := by
  rw [bne_iff_ne]
  intro e
  apply h
  have hl : s.data.toList.length = 1048576 := by rw [Array.length_toList]; exact hz
  rw [List.getLast?_eq_getElem?, hl, Array.getElem?_toList]
  have hlt : 1048575 < s.data.size := by have : s.data.size = s.size := rfl; omega
  rw [show 1048576 - 1 = 1048575 from rfl, Array.getElem?_eq_getElem hlt]
  have e2 : (s[1048575]'(by omega)).toNat = (10 : UInt8).toNat := by show _ = 10; omega
  exact congrArg some (UInt8.toNat_inj.1 e2)

set_option maxRecDepth 100000 in
set_option maxHeartbeats 4000000 in
theorem returns_ (pa : Option Addr) (n ca : Nat) (cs : List CallV) (ds : List (List UInt8)) (s : ByteArray) (w : World) (G : Glob w) (R : RdP w pa n cs ds) (hv : ∀ c ∈ cs, OkV c) (hn : (n + 2) * 72 ≤ 140737488355328) (hs : s.size ≤ 140737488355328) :
    Calls Tryz.prog 10 #[.slice pa n ca, .string s] w fun e w' => e = .returned (.bool true) ∧ Touch Nothing w w' := by
  have HG := Lib.hid G
  have HR := Lib.hid R
  have HV := Lib.hid hv
  have HA := Lib.hid (awake_ w G)
  have HC := Lib.hid (fun w1 (T : Touch Nothing w w1) => copied_ pa n ca cs ds w1 (R.touch T) hn)
  have hn4 : n ≤ 281474976710656 := by omega
  clear G R hv hn
  go_enter Tryz.func10, Tryz.ntmps10
  go_wp2_with fail
  refine HA.out.mono ?_
  rintro e w1 ⟨rfl, T1⟩
  have HT1 := Lib.hid T1
  clear T1
  go_wp2_with fail
  refine (HC.out w1 HT1.out).mono ?_
  rintro e w2 ⟨v, rfl, g, cap, ks, rfl, hcap, RK, hlk, T2, _, _⟩
  have HT2 := Lib.hid (HT1.out.trans T2)
  have hkl : ks.length = cs.length := by rw [← RK.len]; exact HR.out.len
  have HX := Lib.hid (cxs_like cs ks ds hkl hlk)
  have HVK := Lib.hid (show ∀ c ∈ ks, OkV c from fun c hc => by
    obtain ⟨i, hi⟩ := List.getElem?_of_mem hc
    obtain ⟨c0, h0⟩ : ∃ c0, cs[i]? = some c0 := ⟨_, List.getElem?_eq_getElem (by rw [← hkl]; exact (List.getElem?_eq_some_iff.1 hi).1)⟩
    obtain ⟨l1, l2, l3, l4, l5, l6⟩ := hlk i c0 c h0 hi
    have := HV.out c0 (List.mem_of_getElem? h0)
    exact ⟨by rw [l1]; exact this.op, by rw [l3]; exact this.p, by rw [l4]; exact this.a, by rw [l5]; exact this.b⟩)
  have HPr := Lib.hid (print_ (some ⟨g, 0, none⟩) n cap ks ds w2 (HG.out.touch0 HT2.out) RK HVK.out hn4)
  rw [HX.out] at HPr
  have hcap1 : n ≤ cap := by omega
  clear RK hlk T2 hkl HX HVK HC HA HT1
  have HSm := Lib.hid (cxs_small cs ds HV.out)
  have HGt := Lib.hid (fun i c d => cxs_get cs ds i c d)
  have HDt := Lib.hid (cxs_data cs ds (by have := HR.out.len; have := HR.out.len2; omega))
  obtain ⟨xs, hxs⟩ : ∃ xs, cxs cs ds = xs := ⟨_, rfl⟩
  rw [hxs] at HPr HSm HDt
  have HGt2 := Lib.hid (show ∀ (i : Nat) c d, cs[i]? = some c → ds[i]? = some d → xs[i]? = some (cxOf c d) from fun i c d h1 h2 => by rw [← hxs]; exact HGt.out i c d h1 h2)
  obtain ⟨st, hst⟩ : ∃ st, (Txt.printT xs).1 = st := ⟨_, rfl⟩
  obtain ⟨r, hr⟩ : ∃ r, (Txt.printT xs).2 = r := ⟨_, rfl⟩
  have HPP := Lib.hid (show r = 0 → Txt.parseW st = (xs.map Txt.Cx.cd, 0, 0) ∧ ∀ x ∈ xs, Txt.tellable x = true from fun e => Txt.parse_print xs st HSm.out (by rw [← hst, ← e, ← hr]))
  unfold Printed at HPr
  rw [hst, hr] at HPr
  clear hxs hst hr HGt HSm
  go_wp2_with fail
  refine HPr.out.mono ?_
  rintro e w3 ⟨rfl, T3⟩
  have HT3 := Lib.hid (HT2.out.trans T3)
  clear T3 HT2 HPr hcap hcap1
  by_cases h0 : r = 0
  case' pos =>
    subst h0
    obtain ⟨hp1, hp2⟩ := HPP.out rfl
    have HP1 := Lib.hid hp1
    have HP2 := Lib.hid hp2
    have HPa := Lib.hid (parse_ ⟨st.toArray⟩ w3 (HG.out.touch0 HT3.out))
    unfold ParsedAs at HPa
    rw [show (⟨st.toArray⟩ : ByteArray).data.toList = st by simp, hp1] at HPa
    clear hp1 hp2 HPP
    go_wp2_with fail
    refine HPa.out.mono ?_
    rintro e w4 ⟨dp, dn, dc, c2, rfl, hc2, T4⟩
    have HT4 := Lib.hid (HT3.out.trans T4)
    have HSame := Lib.hid (show Calls Tryz.prog 17 #[.slice dp dn dc, .slice pa n ca] w4 fun e w' => e = .returned (.bool true) ∧ Touch Nothing w4 w' by
      obtain ⟨e1, R2⟩ := hc2.rdP
      have R2a := R2.rdAll
      rw [HDt.out] at R2a
      have e3 : dn = n := by rw [R2a.len2]; exact HR.out.len2.symm
      subst e3
      refine same_ w4 dp pa dn dc ca c2 cs ds hn4 R2a (HR.out.touch HT4.out).rdAll (fun i c c0 h1 h2 => ?_)
      obtain ⟨d, hd⟩ : ∃ d, ds[i]? = some d := ⟨_, List.getElem?_eq_getElem (by have := (List.getElem?_eq_some_iff.1 h1).1; have := R2a.len; have := R2a.len2; omega)⟩
      have hx := HGt2.out i c0 d h2 hd
      exact like_read (hc2.each i c _ h1 (by rw [List.getElem?_map, hx]; rfl)) (HP2.out _ (List.mem_of_getElem? hx)))
    clear hc2 T4 HT3 HP1 HP2 HPa
    go_wp2_with fail
    refine HSame.out.mono ?_
    rintro e w5 ⟨rfl, T5⟩
    have HTz := Lib.hid (HT4.out.trans T5)
    clear T5 HT4 HSame
    go_wp2_with fail
  case' neg =>
    have e1 : ((r : Int) == 0) = false := by rw [beq_eq_false_iff_ne]; omega
    have e2 : (r == 0) = false := by rw [beq_eq_false_iff_ne]; omega
    have HTz := Lib.hid HT3.out
    clear HT3 HPP
    go_wp2_with fail
  all_goals
    have HPa := Lib.hid (parse_ s _ (HG.out.touch0 HTz.out))
    unfold ParsedAs at HPa
    refine HPa.out.mono ?_
    rintro e w6 ⟨dp6, dn6, dc6, c6, rfl, hc6, T6⟩
    have HT6 := Lib.hid (HTz.out.trans T6)
    clear T6 HTz HPa
    obtain ⟨ys, hys⟩ : ∃ ys, (Txt.parseW s.data.toList).1 = ys := ⟨_, rfl⟩
    obtain ⟨i6, hi6⟩ : ∃ i6, (Txt.parseW s.data.toList).2.1 = i6 := ⟨_, rfl⟩
    obtain ⟨e6, he6⟩ : ∃ e6, (Txt.parseW s.data.toList).2.2 = e6 := ⟨_, rfl⟩
    have HSM := parseW_small s.data.toList
    have HSL := (parse_small s.data.toList)
    have hq : Txt.parseW s.data.toList = (ys, i6, e6) := by rw [← hys, ← hi6, ← he6]
    rw [hys, hi6, he6] at HSM
    rw [hys] at hc6 HSL
    rw [hi6, he6]
    clear hys hi6 he6
    by_cases h6 : e6 = 0
    · subst h6
      obtain rfl := HSM.2 rfl
      have HPP2 := Lib.hid (Txt.print_parse _ ys hq)
      obtain ⟨en, RP⟩ := hc6.rdP
      have HPr := Lib.hid (print_ dp6 dn6 dc6 c6 (ys.map (·.data)) w6 (HG.out.touch0 HT6.out) RP (fun c hc => by
        obtain ⟨i, hi⟩ := List.getElem?_of_mem hc
        obtain ⟨x, hx⟩ : ∃ x, ys[i]? = some x := ⟨_, List.getElem?_eq_getElem (by rw [← hc6.len]; exact (List.getElem?_eq_some_iff.1 hi).1)⟩
        have hI := hc6.each i c x hi hx
        obtain ⟨k1, k2, k3, k4⟩ := HSM.1 x (List.mem_of_getElem? hx)
        rw [Txt.okCd_iff] at k1
        have ho := hI.op
        exact ⟨by have := k1.1.2; omega, by rw [hI.p]; exact k2, by rw [hI.a]; exact k3, by rw [hI.b]; exact k4⟩) (by have := HSL.2; have := hc6.len; omega))
      rw [cxs_read c6 ys hc6.len hc6.each] at HPr
      unfold Printed at HPr
      clear hc6 HSM HSL hq RP en
      rcases HPP2.out with h | ⟨hne, h⟩ | ⟨hl, hg, h⟩
      · rw [h] at HPr
        rw [show (⟨s.data.toList.toArray⟩ : ByteArray) = s by simp] at HPr
        clear h HPP2
        go_wp2_with fail
        refine HPr.out.mono ?_
        rintro e w7 ⟨rfl, T7⟩
        go_wp2_with fail
        go_ret
        exact ⟨rfl, HT6.out.trans T7⟩
      · rw [h] at HPr
        dsimp only at HPr
        rw [← str_nl] at HPr
        have q3 := str_nl_ne s
        have q4 : 0 < s.size := str_pos hne
        have q5 : (0 : Int) < (s.size : Int) := by omega
        clear h HPP2 hne
        go_wp2_with fail
        refine HPr.out.mono ?_
        rintro e w7 ⟨rfl, T7⟩
        go_wp2_with fail
        go_ret
        exact ⟨rfl, HT6.out.trans T7⟩
      · rw [h] at HPr
        have q3 : s.size = 1048576 := by rw [← hl, Array.length_toList]; rfl
        have q6 := str_last q3 hg
        have q4 : (s.size : Int) = 1048576 := by omega
        clear h HPP2 hl
        go_wp2_with fail
        refine HPr.out.mono ?_
        rintro e w7 ⟨rfl, T7⟩
        go_wp2_with fail
        go_ret
        exact ⟨rfl, HT6.out.trans T7⟩
    · have q1 : ((e6 : Int) != 0) = true := by rw [bne_iff_ne]; omega
      have q2 : (e6 != 0) = true := by rw [bne_iff_ne]; exact h6
      clear hc6 HSM HSL hq
      go_wp2_with fail
      go_ret
      exact ⟨rfl, HT6.out⟩

end Go.Proofs.YtnjcmcnjgdjbiaaGreatDoor
