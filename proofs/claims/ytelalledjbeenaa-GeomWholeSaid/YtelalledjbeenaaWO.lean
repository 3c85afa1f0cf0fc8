/- GeomWhole's argument, opened. -/
import Derived.Test.YtelalledjbeenaaWJ
import Derived.Test.YtelalledjbeenaaGeoM3
import Derived.ChangeArms
import Derived.Deep.Slices
import Derived.ProofKit
namespace Go.Proofs.Ytelalledjbeenaa
open Go.ChangeShapes Go.WideShapes Go.RowKit Go.Deep

theorem cells118 : Try.prog.cellsOf 118 = 4 := by kernel_rfl
theorem cells119 : Try.prog.cellsOf 119 = 1 := by kernel_rfl
theorem cells120 : Try.prog.cellsOf 120 = 4 := by kernel_rfl
theorem cells121 : Try.prog.cellsOf 121 = 16 := by kernel_rfl
theorem cells123 : Try.prog.cellsOf 123 = 44 := by kernel_rfl
theorem cells21g : Try.prog.cellsOf 21 = 1 := by kernel_rfl
theorem all_ofG {α : Type} (f : α → Value) (Q : α → Prop) (l : List Value) (h : ∀ v ∈ l, ∃ x, v = f x ∧ Q x) : ∃ xs : List α, l = xs.map f ∧ ∀ x ∈ xs, Q x := by
  induction l with
  | nil => exact ⟨[], rfl, fun x hx => by cases hx⟩
  | cons v r ih =>
    obtain ⟨x, rfl, hx⟩ := h v (List.mem_cons_self ..)
    obtain ⟨xs, rfl, hxs⟩ := ih fun u hu => h u (List.mem_cons_of_mem _ hu)
    exact ⟨x :: xs, rfl, fun y hy => by
      rcases List.mem_cons.1 hy with rfl | hy
      · exact hx
      · exact hxs y hy⟩
/-- a row of whole numbers -/
theorem open_row {H : Type} {enc : TypeId × Value → H} {P : Program} {w : World} {t e : TypeId} {k : IntKind} {m n : Nat} {cs : List Value} {y : DataW H × List MemPlace} (ht : P.underlying t = some (.array n e)) (he : P.underlying e = some (.int k)) (hC : P.cellsOf t = n) (hc : P.cellsOf e = 1)
    (hl : cs.length = n) (hf : DataW.trod enc P w 0 (fun _ => true) true m t cs = some y) : ∃ zs : List Int, cs = zs.map (Value.int k) ∧ zs.length = n ∧ ∀ z ∈ zs, (Lit.int k z).wf = true := by
  have key : ∀ i, i < n → ∃ x, cs[i]? = some (Value.int k x) ∧ (Lit.int k x).wf = true := by
    cases m with
    | zero => simp [DataW.trod] at hf
    | succ f =>
      unfold DataW.trod at hf
      rw [ht] at hf
      simp only [hl, hC, if_true] at hf
      rw [Option.map_eq_some_iff] at hf
      obtain ⟨ys, hys, _⟩ := hf
      intro i hi
      obtain ⟨y, hy⟩ := mapM_each hys i (List.mem_range.2 hi)
      have hlt : i < cs.length := by omega
      have e1 : (cs.drop (i * P.cellsOf e)).take (P.cellsOf e) = [cs[i]] := by
        rw [hc, Nat.mul_one, List.drop_eq_getElem_cons hlt]
        rfl
      rw [e1] at hy
      obtain ⟨x, hx, _, hw⟩ := DataW.trod_int he hy
      simp only [List.cons.injEq, and_true] at hx
      exact ⟨x, by rw [List.getElem?_eq_getElem hlt, hx], hw⟩
  obtain ⟨xs, hxs, hU⟩ := all_ofG (Value.int k) (fun z => (Lit.int k z).wf = true) cs (fun u hu => by
    obtain ⟨i, hi, rfl⟩ := List.mem_iff_getElem.1 hu
    obtain ⟨x, hx, hw⟩ := key i (by omega)
    rw [List.getElem?_eq_getElem hi] at hx
    injection hx with hx
    exact ⟨x, hx, hw⟩)
  exact ⟨xs, hxs, by rw [← hl, hxs, List.length_map], hU⟩
theorem wf_i32g {z : Int} (h : (Lit.int .i32 z).wf = true) : -2147483648 ≤ z ∧ z ≤ 2147483647 := by
  simp [Lit.wf, IntKind.min, IntKind.max, IntKind.signed, IntKind.bits] at h; omega
theorem wf_i16 {z : Int} (h : (Lit.int .i16 z).wf = true) : -32768 ≤ z ∧ z ≤ 32767 := by
  simp [Lit.wf, IntKind.min, IntKind.max, IntKind.signed, IntKind.bits] at h; omega
set_option maxRecDepth 100000 in
theorem open_geo {H : Type} {enc : TypeId × Value → H} {w : World} {r : Reach} {B0 : Nat} {v : Value} {d : DataW H} {p : List MemPlace}
    (hv : Value.okWide Try.prog w r B0 123 v) (h : DataW.Trod enc Try.prog w 0 (fun _ => true) true 123 v d p) :
    ∃ a b q M N : List Int, v = .agg (WV a b q M N).toArray ∧ a.length = 4 ∧ b.length = 4 ∧ q.length = 4 ∧ M.length = 16 ∧ N.length = 16 ∧ (∀ z ∈ a, -2147483648 ≤ z ∧ z ≤ 2147483647) ∧ (∀ z ∈ b, -2147483648 ≤ z ∧ z ≤ 2147483647) ∧ (∀ z ∈ q, -32768 ≤ z ∧ z ≤ 32767) ∧ (∀ z ∈ M, -32768 ≤ z ∧ z ≤ 32767) ∧ (∀ z ∈ N, -32768 ≤ z ∧ z ≤ 32767) := by
  obtain ⟨cs, rfl, hsz⟩ := okWide_struct Try.underlying123 hv
  rw [cells123] at hsz
  obtain ⟨fuel, hf⟩ := h
  obtain ⟨xs, n', _, _, _, hxl, hg⟩ := DataW.trod_struct Try.underlying123 hf
  have hcl : (Value.agg cs).cells.toList = cs.toList := rfl
  rw [hcl] at hg
  have hl : cs.toList.length = 44 := by simpa using hsz
  have hxl5 : xs.length = 5 := hxl
  generalize hcs : cs.toList = l at hl hg
  have row : ∀ (i : Nat) (f : Field), (#[{ name := "A", type := 118, offset := 0, embedded := false, tag := "", pkgPath := "", byteOffset := 0 }, { name := "B", type := 118, offset := 4, embedded := false, tag := "", pkgPath := "", byteOffset := 16 }, { name := "P", type := 120, offset := 8, embedded := false, tag := "", pkgPath := "", byteOffset := 32 }, { name := "M", type := 121, offset := 12, embedded := false, tag := "", pkgPath := "", byteOffset := 40 }, { name := "N", type := 121, offset := 28, embedded := false, tag := "", pkgPath := "", byteOffset := 72 }] : Array Field)[i]? = some f → i < 5 →
      ∃ z, DataW.trod enc Try.prog w 0 (fun _ => true) true n' f.type ((l.drop f.offset).take (Try.prog.cellsOf f.type)) = some z := by
    intro i f hi hi5
    have h1 := hg i f hi
    exact ⟨xs[i]'(by omega), by rw [h1]; exact List.getElem?_eq_getElem (by omega)⟩
  obtain ⟨z0, t0⟩ := row 0 _ rfl (by omega)
  obtain ⟨z1, t1⟩ := row 1 _ rfl (by omega)
  obtain ⟨z2, t2⟩ := row 2 _ rfl (by omega)
  obtain ⟨z3, t3⟩ := row 3 _ rfl (by omega)
  obtain ⟨z4, t4⟩ := row 4 _ rfl (by omega)
  replace t0 : DataW.trod enc Try.prog w 0 (fun _ => true) true n' 118 ((l.drop 0).take (Try.prog.cellsOf 118)) = some z0 := t0
  rw [cells118] at t0
  replace t1 : DataW.trod enc Try.prog w 0 (fun _ => true) true n' 118 ((l.drop 4).take (Try.prog.cellsOf 118)) = some z1 := t1
  rw [cells118] at t1
  replace t2 : DataW.trod enc Try.prog w 0 (fun _ => true) true n' 120 ((l.drop 8).take (Try.prog.cellsOf 120)) = some z2 := t2
  rw [cells120] at t2
  replace t3 : DataW.trod enc Try.prog w 0 (fun _ => true) true n' 121 ((l.drop 12).take (Try.prog.cellsOf 121)) = some z3 := t3
  rw [cells121] at t3
  replace t4 : DataW.trod enc Try.prog w 0 (fun _ => true) true n' 121 ((l.drop 28).take (Try.prog.cellsOf 121)) = some z4 := t4
  rw [cells121] at t4
  obtain ⟨a, ea, la, wa⟩ := open_row Try.underlying118 Try.underlying21 cells118 cells21g (by rw [List.length_take, List.length_drop, hl]; rfl) t0
  obtain ⟨b, eb, lb, wb⟩ := open_row Try.underlying118 Try.underlying21 cells118 cells21g (by rw [List.length_take, List.length_drop, hl]; rfl) t1
  obtain ⟨q, eq, lq, wq⟩ := open_row Try.underlying120 Try.underlying119 cells120 cells119 (by rw [List.length_take, List.length_drop, hl]; rfl) t2
  obtain ⟨M, eM, lM, wM⟩ := open_row Try.underlying121 Try.underlying119 cells121 cells119 (by rw [List.length_take, List.length_drop, hl]; rfl) t3
  obtain ⟨N, eN, lN, wN⟩ := open_row Try.underlying121 Try.underlying119 cells121 cells119 (by rw [List.length_take, List.length_drop, hl]; rfl) t4
  refine ⟨a, b, q, M, N, ?_, la, lb, lq, lM, lN, fun z hz => wf_i32g (wa z hz), fun z hz => wf_i32g (wb z hz), fun z hz => wf_i16 (wq z hz), fun z hz => wf_i16 (wM z hz), fun z hz => wf_i16 (wN z hz)⟩
  have e : l = WV a b q M N := by
    unfold WV
    rw [← ea, ← eb, ← eq, ← eM, ← eN]
    have s : ∀ (n m : Nat) (L : List Value), L.drop n = (L.drop n).take m ++ L.drop (n + m) := fun n m L => by
      rw [← List.drop_drop, List.take_append_drop]
    have s4 : (l.drop 28).take 16 = l.drop 28 := List.take_of_length_le (by rw [List.length_drop, hl]; decide)
    rw [s4]
    have h0 := s 0 4 l
    have h1 := s 4 4 l
    have h2 := s 8 4 l
    have h3 := s 12 16 l
    rw [← h3, ← h2, ← h1, ← h0, List.drop_zero]
  rw [← e, ← hcs]
theorem walkGeomWhole2 (a b q M N : List Int) (w : World) (la : a.length = 4) (lb : b.length = 4) (lq : q.length = 4) (lM : M.length = 16) (lN : N.length = 16) (wa : ∀ z ∈ a, -2147483648 ≤ z ∧ z ≤ 2147483647) (wb : ∀ z ∈ b, -2147483648 ≤ z ∧ z ≤ 2147483647) (wq : ∀ z ∈ q, -32768 ≤ z ∧ z ≤ 32767) (wM : ∀ z ∈ M, -32768 ≤ z ∧ z ≤ 32767) (wN : ∀ z ∈ N, -32768 ≤ z ∧ z ≤ 32767) :
    Calls Try.prog 21 #[.agg (WV a b q M N).toArray] w fun e w' => e = .returned (.bool true) ∧ Below w.heap.size w w' := by
  obtain ⟨a0, a1, a2, a3, rfl⟩ := len4 la
  obtain ⟨b0, b1, b2, b3, rfl⟩ := len4 lb
  obtain ⟨p0, p1, p2, p3, rfl⟩ := len4 lq
  refine walkGeomWhole a0 a1 a2 a3 b0 b1 b2 b3 p0 p1 p2 p3 M N w lM lN (fun z hz => ?_) wq wM wN
  rw [show [a0, a1, a2, a3, b0, b1, b2, b3] = [a0, a1, a2, a3] ++ [b0, b1, b2, b3] from rfl, List.mem_append] at hz
  rcases hz with h | h
  · have := wa z h; omega
  · have := wb z h; omega
end Go.Proofs.Ytelalledjbeenaa
