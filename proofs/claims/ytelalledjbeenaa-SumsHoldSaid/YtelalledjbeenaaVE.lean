/- An argument that is a slice of steps, opened. -/
import Derived.Test.YtelalledjbeenaaVC
import Derived.Test.YtelalledjbeenaaMgSumN
import Derived.ChangeArms
namespace Go.Proofs.Ytelalledjbeenaa
open Go.ChangeShapes Go.WideShapes Go.RowKit Go.Deep

theorem cells113 : Try.prog.cellsOf 113 = 4 := by kernel_rfl
set_option maxRecDepth 100000 in
theorem open_op {H : Type} {enc : TypeId × Value → H} {w : World} {n : Nat} {cs : List Value} {y : DataW H × List MemPlace} (h : DataW.trod enc Try.prog w 0 (fun _ => true) true n 113 cs = some y) : ∃ r : OpR, cs = r.cells ∧ r.ok := by
  obtain ⟨xs, n', _, _, hl, hxl, hf⟩ := DataW.trod_struct Try.underlying113 h
  rw [cells113] at hl
  match cs, hl with
  | [c0, c1, c2, c3], _ =>
    have g : ∀ (i : Nat) (f : Field) (v : Value), (#[{ name := "Kind", type := 3, offset := 0, embedded := false, tag := "", pkgPath := "", byteOffset := 0 }, { name := "At", type := 3, offset := 1, embedded := false, tag := "", pkgPath := "", byteOffset := 8 }, { name := "Other", type := 3, offset := 2, embedded := false, tag := "", pkgPath := "", byteOffset := 16 }, { name := "X", type := 24, offset := 3, embedded := false, tag := "", pkgPath := "", byteOffset := 24 }] : Array Field)[i]? = some f → i < 4 →
        ([c0, c1, c2, c3].drop f.offset).take (Try.prog.cellsOf f.type) = [v] → ∃ z, DataW.trod enc Try.prog w 0 (fun _ => true) true n' f.type [v] = some z := by
      intro i f v hi hi4 hv
      have h1 := hf i f hi
      rw [hv] at h1
      have hxl4 : xs.length = 4 := hxl
      exact ⟨xs[i]'(by omega), by rw [h1]; exact List.getElem?_eq_getElem (by omega)⟩
    obtain ⟨z0, t0⟩ := g 0 _ c0 rfl (by omega) (by show List.take (Try.prog.cellsOf 3) (List.drop 0 [c0, c1, c2, c3]) = [c0]; rw [cells3]; rfl)
    obtain ⟨z1, t1⟩ := g 1 _ c1 rfl (by omega) (by show List.take (Try.prog.cellsOf 3) (List.drop 1 [c0, c1, c2, c3]) = [c1]; rw [cells3]; rfl)
    obtain ⟨z2, t2⟩ := g 2 _ c2 rfl (by omega) (by show List.take (Try.prog.cellsOf 3) (List.drop 2 [c0, c1, c2, c3]) = [c2]; rw [cells3]; rfl)
    obtain ⟨z3, t3⟩ := g 3 _ c3 rfl (by omega) (by show List.take (Try.prog.cellsOf 24) (List.drop 3 [c0, c1, c2, c3]) = [c3]; rw [cells24]; rfl)
    obtain ⟨k, hk, _, wk⟩ := DataW.trod_int Try.underlying3 t0
    obtain ⟨a, ha, _, wa⟩ := DataW.trod_int Try.underlying3 t1
    obtain ⟨o, ho, _, wo⟩ := DataW.trod_int Try.underlying3 t2
    obtain ⟨x, hx, wx⟩ := trod_float1 Try.underlying24 t3
    simp only [List.cons.injEq, and_true] at hk ha ho
    subst hk; subst ha; subst ho; subst hx
    exact ⟨⟨k, a, o, x⟩, rfl, wf_i64 wk, wf_i64 wa, wf_i64 wo, U_of_wf wx⟩
set_option maxRecDepth 100000 in
theorem open_ops {H : Type} {enc : TypeId × Value → H} {w : World} {r : Reach} {B0 : Nat} {v : Value} {d : DataW H} {p : List MemPlace}
    (hv : Value.okWide Try.prog w r B0 107 v) (h : DataW.Trod enc Try.prog w 0 (fun _ => true) true 107 v d p) :
    ∃ (A : Option Addr) (l : List OpR) (c : Nat), v = .slice A l.length c ∧ OL w A l ∧ l.length ≤ c ∧ LenD d c := by
  obtain ⟨A, len, cap, rfl⟩ := okWide_slice Try.underlying107 hv
  obtain ⟨fuel, hf⟩ := h
  rcases Go.Deep.open_slice Try.underlying107 hf with ⟨h1, h2⟩ | ⟨a, len', cap', m, n, D, Pl, h1, _, hl, hm, hmm, h2, hx⟩
  · simp [Value.cells] at h1
    obtain ⟨rfl, rfl, rfl⟩ := h1
    simp only [Prod.mk.injEq] at h2
    exact ⟨none, [], 0, rfl, .inl rfl, Nat.le_refl _, .inl ⟨h2.1, rfl⟩⟩
  · simp [Value.cells] at h1
    obtain ⟨rfl, rfl, rfl⟩ := h1
    simp only [if_true] at hmm
    subst hmm
    rw [cells113] at hx
    simp only [Prod.mk.injEq] at h2
    have key : ∀ i, ∃ q : OpR, i < len → q.ok ∧ ∀ j, j < 4 → w.cell? (a.add (i * 4 + j)) = q.cells[j]? := fun i => by
      by_cases hi : i < len
      · obtain ⟨cs', hc, ht⟩ := hx i (by omega)
        obtain ⟨q, hq, hok⟩ := open_op ht
        obtain ⟨_, _, hat⟩ := World.cells?_some hc
        refine ⟨q, fun _ => ⟨hok, fun j hj => ?_⟩⟩
        rw [← Go.Deep.add_add, hat j hj, hq]
      · exact ⟨⟨0, 0, 0, 0⟩, fun h => absurd h hi⟩
    obtain ⟨f, hf2⟩ := Classical.axiomOfChoice key
    refine ⟨some a, (List.range len).map f, m, by rw [List.length_map, List.length_range], ?_, by rw [List.length_map, List.length_range]; exact hl, .inr ⟨_, _, h2.1, by rw [List.length_map, List.length_map, List.length_range, List.length_range]; omega⟩⟩
    by_cases h0 : len = 0
    · left; rw [h0]; rfl
    · right
      obtain ⟨b, o, s⟩ := a
      have h00 := (hf2 0 (by omega)).2 0 (by omega)
      have hs : s = none := by
        have h000 : w.cell? ((⟨b, o, s⟩ : Addr).add 0) = some (.int .i64 (f 0).kind) := h00
        simpa [Addr.add] using World.cell?_spot h000
      subst hs
      have hadd : ∀ j, (⟨b, o, none⟩ : Addr).add j = ⟨b, o + j, none⟩ := fun j => by
        unfold Addr.add; split
        · rename_i h; rw [h]; rfl
        · rfl
      refine ⟨b, o, rfl, ?_, fun i q hi => ?_⟩
      · have h000 : w.cell? ((⟨b, o, none⟩ : Addr).add 0) = some (.int .i64 (f 0).kind) := h00
        rw [hadd] at h000
        exact World.block_lt_of_cell? w _ h000
      · rw [List.getElem?_map, Option.map_eq_some_iff] at hi
        obtain ⟨i', hi', rfl⟩ := hi
        obtain ⟨hlt, e⟩ := List.getElem?_eq_some_iff.1 hi'
        rw [List.length_range] at hlt
        rw [List.getElem_range] at e
        subst e
        obtain ⟨hok, hc⟩ := hf2 i hlt
        refine ⟨fun j v hj => ?_, hok⟩
        have hj4 : j < 4 := (List.getElem?_eq_some_iff.1 hj).1
        have := hc j hj4
        rw [hadd, hj] at this
        rw [Nat.add_assoc]; exact this
theorem bytes113 : Try.prog.bytesOf 113 = 32 := by kernel_rfl
theorem walkSumsHold2 (A : Option Addr) (l : List OpR) (c : Nat) (w : World) (h : OL w A l) (hlc : l.length ≤ c) (hc : c * 32 ≤ 140737488351232) :
    Calls Try.prog 19 #[.slice A l.length c] w fun e w' => e = .returned (.bool true) ∧ Below w.heap.size w w' := walkSumsHold A l c w h (by omega)
end Go.Proofs.Ytelalledjbeenaa
