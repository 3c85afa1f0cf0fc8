/- Arguments that are slices of structs, opened: shapes; drawn items. -/
import Derived.Test.YtedkbjimofiphaaMgPnC
import Derived.Test.YtedkbjimofiphaaGeoM3
import Derived.Test.YtedkbjimofiphaaOpenF
namespace Go.Proofs.Ytedkbjimofiphaa
open Go.ChangeShapes Go.WideShapes Go.RowKit Go.Deep

theorem cO3 : Try.prog.cellsOf 3 = 1 := by kernel_rfl
theorem cO31 : Try.prog.cellsOf 31 = 1 := by kernel_rfl
theorem cO33 : Try.prog.cellsOf 33 = 4 := by kernel_rfl
theorem cO44 : Try.prog.cellsOf 44 = 16 := by kernel_rfl
theorem cO56 : Try.prog.cellsOf 56 = 24 := by kernel_rfl
theorem cO94 : Try.prog.cellsOf 94 = 22 := by kernel_rfl
theorem cut1 {l : List Value} {k : Nat} (a : Nat) : l.drop k = (l.drop k).take a ++ l.drop (k + a) := by
  conv => lhs; rw [← List.take_append_drop a (l.drop k)]
  rw [List.drop_drop]
section
variable {H : Type} {enc : TypeId × Value → H} {w : World}
set_option maxRecDepth 100000 in
theorem trod_rect {n : Nat} {cs : List Value} {y : DataW H × List MemPlace} (h : DataW.trod enc Try.prog w 0 (fun _ => true) true n 33 cs = some y) : ∃ a b c d : Nat, cs = [.float .f64 a, .float .f64 b, .float .f64 c, .float .f64 d] ∧ U a ∧ U b ∧ U c ∧ U d := by
  obtain ⟨xs, n', _, _, hl, hxl, hf⟩ := DataW.trod_struct Try.underlying33 h
  rw [cO33] at hl
  have hxl : xs.length = 4 := hxl
  match cs, hl with
  | [c0, c1, c2, c3], _ =>
    have e0 : DataW.trod enc Try.prog w 0 (fun _ => true) true n' 31 (List.take (Try.prog.cellsOf 31) (List.drop 0 [c0, c1, c2, c3])) = some (xs[0]'(by omega)) := (hf 0 _ rfl).trans (List.getElem?_eq_getElem (by omega))
    have e1 : DataW.trod enc Try.prog w 0 (fun _ => true) true n' 31 (List.take (Try.prog.cellsOf 31) (List.drop 1 [c0, c1, c2, c3])) = some (xs[1]'(by omega)) := (hf 1 _ rfl).trans (List.getElem?_eq_getElem (by omega))
    have e2 : DataW.trod enc Try.prog w 0 (fun _ => true) true n' 31 (List.take (Try.prog.cellsOf 31) (List.drop 2 [c0, c1, c2, c3])) = some (xs[2]'(by omega)) := (hf 2 _ rfl).trans (List.getElem?_eq_getElem (by omega))
    have e3 : DataW.trod enc Try.prog w 0 (fun _ => true) true n' 31 (List.take (Try.prog.cellsOf 31) (List.drop 3 [c0, c1, c2, c3])) = some (xs[3]'(by omega)) := (hf 3 _ rfl).trans (List.getElem?_eq_getElem (by omega))
    rw [cO31] at e0 e1 e2 e3
    obtain ⟨a, rfl, wa⟩ := trod_float1 Try.underlying31 e0
    obtain ⟨b, rfl, wb⟩ := trod_float1 Try.underlying31 e1
    obtain ⟨c, rfl, wc⟩ := trod_float1 Try.underlying31 e2
    obtain ⟨d, rfl, wd⟩ := trod_float1 Try.underlying31 e3
    exact ⟨a, b, c, d, rfl, U_of_wf wa, U_of_wf wb, U_of_wf wc, U_of_wf wd⟩
set_option maxRecDepth 100000 in
theorem trod_mat {n : Nat} {cs : List Value} {y : DataW H × List MemPlace} (h : DataW.trod enc Try.prog w 0 (fun _ => true) true n 44 cs = some y) (hl : cs.length = 16) : ∃ ms : List Nat, cs = ms.map (Value.float .f64) ∧ MU ms := by
  have key : ∀ i, i < 16 → ∃ x, cs[i]? = some (Value.float .f64 x) ∧ U x := by
    cases n with
    | zero => simp [DataW.trod] at h
    | succ n =>
      unfold DataW.trod at h
      rw [Try.underlying44] at h
      simp only [hl, cO44, if_true] at h
      rw [Option.map_eq_some_iff] at h
      obtain ⟨ys, hys, _⟩ := h
      intro i hi
      obtain ⟨y, hy⟩ := mapM_each hys i (List.mem_range.2 hi)
      have hlt : i < cs.length := by omega
      have e1 : (cs.drop (i * Try.prog.cellsOf 31)).take (Try.prog.cellsOf 31) = [cs[i]] := by
        rw [cO31, Nat.mul_one, List.drop_eq_getElem_cons hlt]; rfl
      rw [e1] at hy
      obtain ⟨x, hx, hw⟩ := trod_floatQ Try.underlying31 hy
      exact ⟨x, by rw [List.getElem?_eq_getElem hlt, hx], U_of_wf hw⟩
  refine ⟨cs.map (fun v => match v with | .float _ x => x | _ => 0), ?_, by rw [List.length_map]; exact hl, fun x hx => ?_⟩
  · refine List.ext_getElem (by simp) fun i h1 h2 => ?_
    obtain ⟨x, hx, _⟩ := key i (by omega)
    rw [List.getElem?_eq_getElem h1] at hx
    injection hx with hx
    simp [hx]
  · obtain ⟨v, hv, rfl⟩ := List.mem_map.1 hx
    obtain ⟨i, hi, rfl⟩ := List.mem_iff_getElem.1 hv
    obtain ⟨x, hx, hu⟩ := key i (by omega)
    rw [List.getElem?_eq_getElem hi] at hx
    injection hx with hx
    rw [hx]
    exact hu
theorem take_one {l : List Value} {k : Nat} (h : k < l.length) : ∃ v, (l.drop k).take 1 = [v] := ⟨l[k], by rw [List.drop_eq_getElem_cons h]; rfl⟩
set_option maxRecDepth 100000 in
theorem open_shape {n : Nat} {cs : List Value} {y : DataW H × List MemPlace} (h : DataW.trod enc Try.prog w 0 (fun _ => true) true n 56 cs = some y) : ∃ s : SH, cs = s.cells ∧ s.OK := by
  obtain ⟨xs, n', _, _, hl, hxl, hf⟩ := DataW.trod_struct Try.underlying56 h
  rw [cO56] at hl
  have hxl : xs.length = 6 := hxl
  have e0 : DataW.trod enc Try.prog w 0 (fun _ => true) true n' 3 (List.take (Try.prog.cellsOf 3) (List.drop 0 cs)) = some (xs[0]'(by omega)) := (hf 0 _ rfl).trans (List.getElem?_eq_getElem (by omega))
  have e1 : DataW.trod enc Try.prog w 0 (fun _ => true) true n' 3 (List.take (Try.prog.cellsOf 3) (List.drop 1 cs)) = some (xs[1]'(by omega)) := (hf 1 _ rfl).trans (List.getElem?_eq_getElem (by omega))
  have e2 : DataW.trod enc Try.prog w 0 (fun _ => true) true n' 33 (List.take (Try.prog.cellsOf 33) (List.drop 2 cs)) = some (xs[2]'(by omega)) := (hf 2 _ rfl).trans (List.getElem?_eq_getElem (by omega))
  have e3 : DataW.trod enc Try.prog w 0 (fun _ => true) true n' 44 (List.take (Try.prog.cellsOf 44) (List.drop 6 cs)) = some (xs[3]'(by omega)) := (hf 3 _ rfl).trans (List.getElem?_eq_getElem (by omega))
  have e4 : DataW.trod enc Try.prog w 0 (fun _ => true) true n' 31 (List.take (Try.prog.cellsOf 31) (List.drop 22 cs)) = some (xs[4]'(by omega)) := (hf 4 _ rfl).trans (List.getElem?_eq_getElem (by omega))
  have e5 : DataW.trod enc Try.prog w 0 (fun _ => true) true n' 31 (List.take (Try.prog.cellsOf 31) (List.drop 23 cs)) = some (xs[5]'(by omega)) := (hf 5 _ rfl).trans (List.getElem?_eq_getElem (by omega))
  rw [cO3] at e0 e1
  rw [cO33] at e2
  rw [cO44] at e3
  rw [cO31] at e4 e5
  obtain ⟨a, ha, _, _⟩ := DataW.trod_int Try.underlying3 e0
  obtain ⟨b, hb, _, _⟩ := DataW.trod_int Try.underlying3 e1
  obtain ⟨x, y, u, v, hr, ux, uy, uu, uv⟩ := trod_rect e2
  obtain ⟨ms, hm, hM⟩ := trod_mat e3 (by show (List.take 16 (List.drop 6 cs)).length = 16; rw [List.length_take, List.length_drop]; omega)
  obtain ⟨v4, h4⟩ := take_one (l := cs) (k := 22) (by omega)
  obtain ⟨v5, h5⟩ := take_one (l := cs) (k := 23) (by omega)
  have e4 : DataW.trod enc Try.prog w 0 (fun _ => true) true n' 31 ((cs.drop 22).take 1) = some xs[4] := e4
  have e5 : DataW.trod enc Try.prog w 0 (fun _ => true) true n' 31 ((cs.drop 23).take 1) = some xs[5] := e5
  rw [h4] at e4
  rw [h5] at e5
  obtain ⟨o, rfl, wo⟩ := trod_float1 Try.underlying31 e4
  obtain ⟨l, rfl, wl⟩ := trod_float1 Try.underlying31 e5
  have ha : (cs.drop 0).take 1 = [.int .i64 a] := ha
  have hb : (cs.drop 1).take 1 = [.int .i64 b] := hb
  have hr : (cs.drop 2).take 4 = [.float .f64 x, .float .f64 y, .float .f64 u, .float .f64 v] := hr
  have hm : (cs.drop 6).take 16 = ms.map (Value.float .f64) := hm
  refine ⟨⟨a, b, x, y, u, v, ms, o, l⟩, ?_, ⟨ux, uy, uu, uv, hM, U_of_wf wo, U_of_wf wl⟩⟩
  have z : cs.drop 24 = [] := List.drop_eq_nil_of_le (by omega)
  have key : cs.drop 0 = [.int .i64 a] ++ ([.int .i64 b] ++ ([.float .f64 x, .float .f64 y, .float .f64 u, .float .f64 v] ++ (ms.map (Value.float .f64) ++ ([.float .f64 o] ++ ([.float .f64 l] ++ []))))) := by
    rw [cut1 (l := cs) (k := 0) 1, ha, cut1 (l := cs) (k := 0 + 1) 1, hb, cut1 (l := cs) (k := 0 + 1 + 1) 4, hr, cut1 (l := cs) (k := 0 + 1 + 1 + 4) 16, hm, cut1 (l := cs) (k := 0 + 1 + 1 + 4 + 16) 1, h4, cut1 (l := cs) (k := 0 + 1 + 1 + 4 + 16 + 1) 1, h5, z]
  rw [List.drop_zero] at key
  rw [key]
  simp [SH.cells]
end
/-- a slice of structs: none, or they lie in a block -/
def SL {α : Type} (w : World) (A : Option Addr) (n s : Nat) (S : Nat → α) (f : α → List Value) : Prop := n = 0 ∨ ∃ b o, A = some ⟨b, o, none⟩ ∧ b < w.heap.size ∧ ∀ k, k < n → w.rangeAt b (o + k * s) (f (S k))
set_option maxRecDepth 100000 in
theorem open_structs {H : Type} {enc : TypeId × Value → H} {w : World} {r : Reach} {B0 : Nat} {v : Value} {d : DataW H} {p : List MemPlace} {t e : TypeId} {α : Type} (q0 : α) (f : α → List Value) (ok : α → Prop) (s : Nat) (hs : 0 < s) (hu : Try.prog.underlying t = some (.slice e)) (hc : Try.prog.cellsOf e = s) (hlen : ∀ q, ok q → (f q).length = s)
    (ho : ∀ n cs (y : DataW H × List MemPlace), DataW.trod enc Try.prog w 0 (fun _ => true) true n e cs = some y → ∃ q, cs = f q ∧ ok q) (hv : Value.okWide Try.prog w r B0 t v) (h : DataW.Trod enc Try.prog w 0 (fun _ => true) true t v d p) :
    ∃ (A : Option Addr) (S : Nat → α) (n c : Nat), v = .slice A n c ∧ SL w A n s S f ∧ (∀ k, k < n → ok (S k)) ∧ n ≤ c ∧ LenD d c := by
  obtain ⟨A, len, cap, rfl⟩ := okWide_slice hu hv
  obtain ⟨fuel, hf⟩ := h
  rcases Go.Deep.open_slice hu hf with ⟨h1, h2⟩ | ⟨a, len', cap', m, n, D, Pl, h1, _, hl, hm, hmm, h2, hx⟩
  · simp [Value.cells] at h1
    obtain ⟨rfl, rfl, rfl⟩ := h1
    simp only [Prod.mk.injEq] at h2
    exact ⟨none, fun _ => q0, 0, 0, rfl, .inl rfl, fun k hk => absurd hk (Nat.not_lt_zero _), Nat.le_refl _, .inl ⟨h2.1, rfl⟩⟩
  · simp [Value.cells] at h1
    obtain ⟨rfl, rfl, rfl⟩ := h1
    simp only [if_true] at hmm
    subst hmm
    rw [hc] at hx
    simp only [Prod.mk.injEq] at h2
    have key : ∀ i, ∃ q : α, i < len → ok q ∧ ∀ j, j < s → w.cell? (a.add (i * s + j)) = (f q)[j]? := fun i => by
      by_cases hi : i < len
      · obtain ⟨cs', hcs, ht⟩ := hx i (by omega)
        obtain ⟨q, hq, hok⟩ := ho _ _ _ ht
        obtain ⟨_, _, hat⟩ := World.cells?_some hcs
        refine ⟨q, fun _ => ⟨hok, fun j hj => ?_⟩⟩
        rw [← Go.Deep.add_add, hat j hj, hq]
      · exact ⟨q0, fun h => absurd h hi⟩
    obtain ⟨g, hf2⟩ := Classical.axiomOfChoice key
    refine ⟨some a, g, len, m, rfl, ?_, fun k hk => (hf2 k hk).1, hl, .inr ⟨_, _, h2.1, by rw [List.length_map, List.length_map, List.length_range, List.length_range]; omega⟩⟩
    by_cases h0 : len = 0
    · exact .inl h0
    · right
      obtain ⟨b, o, x⟩ := a
      have h00 := (hf2 0 (by omega)).2 0 hs
      have hl0 := hlen _ (hf2 0 (by omega)).1
      rw [List.getElem?_eq_getElem (by omega)] at h00
      have hx0 : x = none := by simpa [Addr.add] using World.cell?_spot h00
      subst hx0
      have hadd : ∀ j, (⟨b, o, none⟩ : Addr).add j = ⟨b, o + j, none⟩ := fun j => by
        unfold Addr.add; split
        · rename_i h; rw [h]; rfl
        · rfl
      refine ⟨b, o, rfl, ?_, fun i hi j v hj => ?_⟩
      · rw [hadd] at h00
        exact World.block_lt_of_cell? w _ h00
      · obtain ⟨hok, hcl⟩ := hf2 i hi
        have hjl : j < s := by have := (List.getElem?_eq_some_iff.1 hj).1; rw [hlen _ hok] at this; exact this
        have := hcl j hjl
        rw [hadd, hj] at this
        rw [Nat.add_assoc]; exact this
set_option maxRecDepth 100000 in
theorem open_shapes {H : Type} {enc : TypeId × Value → H} {w : World} {r : Reach} {B0 : Nat} {v : Value} {d : DataW H} {p : List MemPlace} (hv : Value.okWide Try.prog w r B0 22 v) (h : DataW.Trod enc Try.prog w 0 (fun _ => true) true 22 v d p) :
    ∃ (A : Option Addr) (S : Nat → SH) (n c : Nat), v = .slice A n c ∧ SL w A n 24 S SH.cells ∧ (∀ k, k < n → (S k).OK) ∧ n ≤ c ∧ LenD d c :=
  open_structs A0s SH.cells SH.OK 24 (by decide) Try.underlying22 cO56 (fun q h => sh_len h) (fun n cs y h => open_shape h) hv h
end Go.Proofs.Ytedkbjimofiphaa
