/- The package variables' facts, out of a row's list and the world's shape. Conditions: none. -/
import Derived.Test.YtnjcmcnjgdjbiaaGreatDoorRows
import Derived.Test.YtnjcmcnjgdjbiaaGreatDoorLgGlob
import Derived.Lib.LaidTab
import Derived.LaidLaws
namespace Go.Proofs.YtnjcmcnjgdjbiaaGreatDoor
open Go.RowKit

theorem vars_tail {P : Program} {w : World} {x : String × DataW Unit} {r : List (String × DataW Unit)} {ps : List MemPlace} (h : DataW.LaidVars P w (x :: r) ps) : ∃ q, DataW.LaidVars P w r q := by
  obtain ⟨n, d⟩ := x
  obtain ⟨g, t, cs, fuel, p, q, _, _, _, _, h, _⟩ := h
  exact ⟨q, h⟩

theorem tab_of_vars {P : Program} {W : World} {name : String} {k : IntKind} {zs : List Int} {rest : List (String × DataW Unit)} {g : Nat} {t e : TypeId} {n : Nat} {ps : List MemPlace}
    (hg : P.globalNamed name = some g) (hty : (P.globals[g]?).map (·.type) = some t) (ht : P.underlying t = some (.array n e)) (he : P.underlying e = some (.int k)) (hce : P.cellsOf e = 1) (hct : P.cellsOf t = n)
    (h : DataW.LaidVars P W ((name, Lib.tabData k zs) :: rest) ps) : Lib.TabIs P W name k zs := by
  obtain ⟨g', t', cs, fuel, p, q, hg', ht', hvar, hd, _, _⟩ := h
  obtain rfl := Option.some.inj (hg.symm.trans hg')
  obtain rfl := Option.some.inj (hty.symm.trans ht')
  unfold Lib.TabIs
  rw [hvar, ← Lib.cells_of_tab ht he hce hct hd]

theorem err_of_vars {P : Program} {W : World} {name nm : String} {d : DataW Unit} {rest : List (String × DataW Unit)} {g : Nat} {t : TypeId} {ms : Array (String × TypeId)} {ps : List MemPlace}
    (hg : P.globalNamed name = some g) (hty : (P.globals[g]?).map (·.type) = some t) (ht : P.underlying t = some (.interface ms))
    (h : DataW.LaidVars P W ((name, .iface nm d) :: rest) ps) : ∃ u v, W.cell? ⟨g, 0, none⟩ = some (.iface u v) := by
  obtain ⟨g', t', cs, fuel, p, q, hg', ht', hvar, hd, _, _⟩ := h
  obtain rfl := Option.some.inj (hg.symm.trans hg')
  obtain rfl := Option.some.inj (hty.symm.trans ht')
  obtain ⟨_, u, v, hcs, _, _⟩ := iface_of_trod ht hd
  have := World.var?_cell hg hvar 0
  refine ⟨u, v, ?_⟩
  rw [this]
  have h2 : cs = #[.iface u v] := by
    cases cs
    simp at hcs
    rw [hcs]
  rw [h2]
  rfl

theorem gW : Tryz.prog.globalNamed "croft/slab.widths" = some 1 := by kernel_rfl
theorem gWt : (Tryz.prog.globals[1]?).map (·.type) = some 316 := by kernel_rfl
theorem gP : Tryz.prog.globalNamed "internal/strconv.uint64pow10" = some 2 := by kernel_rfl
theorem gPt : (Tryz.prog.globals[2]?).map (·.type) = some 329 := by kernel_rfl
theorem gS : Tryz.prog.globalNamed "strconv.ErrSyntax" = some 5 := by kernel_rfl
theorem gSt : (Tryz.prog.globals[5]?).map (·.type) = some 138 := by kernel_rfl
theorem gR : Tryz.prog.globalNamed "strconv.ErrRange" = some 6 := by kernel_rfl
theorem gRt : (Tryz.prog.globals[6]?).map (·.type) = some 138 := by kernel_rfl
theorem cells33 : Tryz.prog.cellsOf 33 = 1 := by kernel_rfl
theorem cells316 : Tryz.prog.cellsOf 316 = 8 := by kernel_rfl
theorem cells329 : Tryz.prog.cellsOf 329 = 20 := by kernel_rfl

/-- what the rows list -/
def laidAll : List (String × DataW Unit) := [("math/bits.deBruijn32tab", Rows.laid_math_bits_deBruijn32tab), ("math/bits.deBruijn64tab", Rows.laid_math_bits_deBruijn64tab), ("internal/strconv.uint64pow10", Rows.laid_internal_strconv_uint64pow10), ("unicode/utf8.acceptRanges", Rows.laid_unicode_utf8_acceptRanges), ("strconv.ErrRange", Rows.laid_strconv_ErrRange), ("strconv.ErrSyntax", Rows.laid_strconv_ErrSyntax), ("croft/slab.widths", Rows.laid_croft_slab_widths), ("unicode/utf8.first", Rows.laid_unicode_utf8_first)]

theorem glob_of {W : World} (h : laidMet Tryz.prog laidAll W) (hsh : W.ShapedOpen Tryz.prog) : Glob W := by
  obtain ⟨ps, h, _, _⟩ := h
  obtain ⟨_, h⟩ := vars_tail h
  obtain ⟨_, h⟩ := vars_tail h
  have hp := h
  obtain ⟨_, h⟩ := vars_tail h
  obtain ⟨_, h⟩ := vars_tail h
  have hr := h
  obtain ⟨_, h⟩ := vars_tail h
  have hs := h
  obtain ⟨_, h⟩ := vars_tail h
  have hW : Lib.TabIs Tryz.prog W "croft/slab.widths" .u64 [16, 32, 64, 128, 256, 512, 1024, 2048] := tab_of_vars gW gWt Tryz.underlying316 Tryz.underlying33 cells33 cells316 h
  have hP : Lib.TabIs Tryz.prog W "internal/strconv.uint64pow10" .u64 [1, 10, 100, 1000, 10000, 100000, 1000000, 10000000, 100000000, 1000000000, 10000000000, 100000000000, 1000000000000, 10000000000000, 100000000000000, 1000000000000000, 10000000000000000, 100000000000000000, 1000000000000000000, 10000000000000000000] :=
    tab_of_vars gP gPt Tryz.underlying329 Tryz.underlying33 cells33 cells329 hp
  obtain ⟨u5, v5, h5⟩ := err_of_vars gS gSt Tryz.underlying138 hs
  obtain ⟨u6, v6, h6⟩ := err_of_vars gR gRt Tryz.underlying138 hr
  refine ⟨?_, Go.Proofs.cell_of_shapedOpen_int (zero := #[.int .i64 0]) (t := 3) hsh (of_decide_eq_true (by kernel_rfl)) (by kernel_rfl) rfl (by kernel_rfl) (by kernel_rfl) Tryz.underlying3, ?_, ?_, ⟨_, h5, .inr ⟨u5, v5, rfl⟩⟩, ⟨_, h6, .inr ⟨u6, v6, rfl⟩⟩⟩
  · have hx : (((begin Tryz.prog (fun _ _ => 0) default).world.heap[8]?).bind Obj.row?).isSome = true := by kernel_rfl
    obtain ⟨⟨z, t⟩, hz⟩ := Option.isSome_iff_exists.1 hx
    obtain ⟨cs, hc, _⟩ := hsh.1 8 z t (of_decide_eq_true (by kernel_rfl)) hz
    exact (Array.getElem?_eq_some_iff.1 hc).1
  · intro i hi
    have := hW.cell gW i hi
    rw [this]
    match i, hi with
    | 0, _ => rfl
    | 1, _ => rfl
    | 2, _ => rfl
    | 3, _ => rfl
    | 4, _ => rfl
    | 5, _ => rfl
    | 6, _ => rfl
    | 7, _ => rfl
  · have e : Lib.pow10Tab = [1, 10, 100, 1000, 10000, 100000, 1000000, 10000000, 100000000, 1000000000, 10000000000, 100000000000, 1000000000000, 10000000000000, 100000000000000, 1000000000000000, 10000000000000000, 100000000000000000, 1000000000000000000, 10000000000000000000] := by decide +kernel
    rw [e]
    exact hP

end Go.Proofs.YtnjcmcnjgdjbiaaGreatDoor

