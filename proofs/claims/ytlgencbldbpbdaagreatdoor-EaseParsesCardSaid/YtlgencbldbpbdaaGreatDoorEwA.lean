/- What ease asks of the variables, out of the row's condition and the world's shape. -/
import Derived.Test.YtlgencbldbpbdaaGreatDoorMgRxB
import Derived.Test.YtlgencbldbpbdaaGreatDoorRows
import Derived.Lib.LaidTab
import Derived.LaidHandle
import Derived.LaidLaws
import Derived.MakeChecks
import Derived.KernelRfl
namespace Go.Proofs.YtlgencbldbpbdaaGreatDoor
open Go.RowKit Fl
theorem laid_var {w : World} : ∀ {l : List (String × DataW Unit)} {ps : List MemPlace} {n : String} {d : DataW Unit}, DataW.LaidVars Tryz.prog w l ps → (n, d) ∈ l →
  ∃ g t cs fuel p, Tryz.prog.globalNamed n = some g ∧ (Tryz.prog.globals[g]?).map (·.type) = some t ∧ w.var? Tryz.prog n = some cs ∧ DataW.trod (fun _ => ()) Tryz.prog w 0 (fun _ => true) false fuel t cs.toList = some (d, p)
 | [], _, _, _, _, h => by cases h
 | (n', d') :: r, ps, n, d, ⟨g, t, cs, fuel, p, q, h1, h2, h3, h4, h5, h6⟩, hm => by
  rcases List.mem_cons.1 hm with e | hm
  ·cases e; exact ⟨g, t, cs, fuel, p, h1, h2, h3, h4⟩
  ·exact laid_var h5 hm
def powZ : List Int := [1, 10, 100, 1000, 10000, 100000, 1000000, 10000000, 100000000, 1000000000, 10000000000, 100000000000, 1000000000000, 10000000000000, 100000000000000, 1000000000000000, 10000000000000000, 100000000000000000, 1000000000000000000, 10000000000000000000]
theorem errN : Tryz.prog.globalNamed "strconv.ErrSyntax" = some 4 := by kernel_rfl
theorem pow_tab {w : World} {l : List (String × DataW Unit)} (h : laidMet Tryz.prog l w) (hm : ("internal/strconv.uint64pow10", Lib.tabData .u64 powZ) ∈ l) : PowTab w := by
 obtain ⟨ps, hl, -⟩ := h
 obtain ⟨g', t', cs, fuel, p, hg', ht', hvar, hd⟩ := laid_var hl hm
 obtain rfl := Option.some.inj (powN.symm.trans hg')
 have ht : ∃ t e, (Tryz.prog.globals[3]?).map (·.type) = some t ∧ Tryz.prog.underlying t = some (.array 20 e) ∧ Tryz.prog.underlying e = some (.int .u64) ∧ Tryz.prog.cellsOf e = 1 ∧ Tryz.prog.cellsOf t = 20 := ⟨280, 101, by kernel_rfl, by kernel_rfl, by kernel_rfl, by kernel_rfl, by kernel_rfl⟩
 obtain ⟨t, e, h1, h2, h3, h4, h5⟩ := ht
 obtain rfl := Option.some.inj (h1.symm.trans ht')
 have hc := Lib.cells_of_tab h2 h3 h4 h5 hd
 show World.var? _ _ _ = _
 rw [hvar, show Lib.pow10Tab = powZ from by decide, ← hc]
theorem err_cell {w : World} {l : List (String × DataW Unit)} {d : DataW Unit} (h : laidMet Tryz.prog l w) (hm : ("strconv.ErrSyntax", DataW.iface "*errors.errorString" d) ∈ l) : ∃ u v, w.cell? ⟨4, 0, none⟩ = some (.iface u v) := by
 obtain ⟨ps, hl, -⟩ := h
 obtain ⟨g', t', cs, fuel, p, hg', ht', hvar, hd⟩ := laid_var hl hm
 obtain rfl := Option.some.inj (errN.symm.trans hg')
 have ht : ∃ t ms, (Tryz.prog.globals[4]?).map (·.type) = some t ∧ Tryz.prog.underlying t = some (.interface ms) := ⟨26, _, by kernel_rfl, Tryz.underlying26⟩
 obtain ⟨t, ms, h1, h2⟩ := ht
 obtain rfl := Option.some.inj (h1.symm.trans ht')
 obtain ⟨_, u, v, hc, -⟩ := iface_of_trod h2 hd
 refine ⟨u, v, ?_⟩
 rw [World.var?_cell errN hvar 0]
 have : cs = #[.iface u v] := Array.eq_one_of_toList hc
 rw [this]; rfl
theorem ew_of {w : World} {l : List (String × DataW Unit)} {d : DataW Unit} (h : laidMet Tryz.prog l w) (h1 : ("internal/strconv.uint64pow10", Lib.tabData .u64 powZ) ∈ l) (h2 : ("strconv.ErrSyntax", DataW.iface "*errors.errorString" d) ∈ l) (hS : w.ShapedOpen Tryz.prog) : EW w := by
 obtain ⟨u, v, hc⟩ := err_cell h h2
 refine ⟨pow_tab h h1, ?_, ⟨_, hc, .inr ⟨u, v, rfl⟩⟩, laysM146.s1_3 w hS⟩
 unfold World.cell? at hc
 cases hb : w.heap[4]? with
 | none => simp [hb] at hc
 | some o => exact (Array.getElem?_eq_some_iff.1 hb).1
end Go.Proofs.YtlgencbldbpbdaaGreatDoor
