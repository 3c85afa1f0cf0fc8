/- The argument of SceneParts, opened: drawn items, parts, a point. -/
import Derived.Test.YtedkbjimofiphaaMgOpA
import Derived.Test.YtedkbjimofiphaaSpD
import Derived.Lib.SmallJoins
namespace Go.Proofs.Ytedkbjimofiphaa
open Go.ChangeShapes Go.WideShapes Go.RowKit Go.Deep
theorem wf_i64S {z : Int} (h : (Lit.int .i64 z).wf = true) : -9223372036854775808 ≤ z ∧ z ≤ 9223372036854775807 := by
  simp [Lit.wf, IntKind.min, IntKind.max, IntKind.signed, IntKind.bits] at h; omega
section
variable {H : Type} {enc : TypeId × Value → H} {w : World}
set_option maxRecDepth 100000 in
theorem open_drawn {n : Nat} {cs : List Value} {y : DataW H × List MemPlace} (h : DataW.trod enc Try.prog w 0 (fun _ => true) true n 94 cs = some y) : ∃ s : LW, cs = s.cells ∧ s.OK := by
  obtain ⟨xs, n', _, _, hl, hxl, hf⟩ := DataW.trod_struct Try.underlying94 h
  rw [cO94] at hl
  have hxl : xs.length = 4 := hxl
  have e0 : DataW.trod enc Try.prog w 0 (fun _ => true) true n' 3 (List.take (Try.prog.cellsOf 3) (List.drop 0 cs)) = some (xs[0]'(by omega)) := (hf 0 _ rfl).trans (List.getElem?_eq_getElem (by omega))
  have e1 : DataW.trod enc Try.prog w 0 (fun _ => true) true n' 33 (List.take (Try.prog.cellsOf 33) (List.drop 1 cs)) = some (xs[1]'(by omega)) := (hf 1 _ rfl).trans (List.getElem?_eq_getElem (by omega))
  have e2 : DataW.trod enc Try.prog w 0 (fun _ => true) true n' 44 (List.take (Try.prog.cellsOf 44) (List.drop 5 cs)) = some (xs[2]'(by omega)) := (hf 2 _ rfl).trans (List.getElem?_eq_getElem (by omega))
  have e3 : DataW.trod enc Try.prog w 0 (fun _ => true) true n' 31 (List.take (Try.prog.cellsOf 31) (List.drop 21 cs)) = some (xs[3]'(by omega)) := (hf 3 _ rfl).trans (List.getElem?_eq_getElem (by omega))
  rw [cO3] at e0
  rw [cO33] at e1
  rw [cO44] at e2
  rw [cO31] at e3
  obtain ⟨a, ha, _, _⟩ := DataW.trod_int Try.underlying3 e0
  obtain ⟨x, y, u, v, hr, ux, uy, uu, uv⟩ := trod_rect e1
  obtain ⟨ms, hm, hM⟩ := trod_mat e2 (by show (List.take 16 (List.drop 5 cs)).length = 16; rw [List.length_take, List.length_drop]; omega)
  obtain ⟨v4, h4⟩ := take_one (l := cs) (k := 21) (by omega)
  rw [h4] at e3
  obtain ⟨o, rfl, wo⟩ := trod_float1 Try.underlying31 e3
  refine ⟨⟨a, x, y, u, v, ms, o⟩, ?_, ⟨ux, uy, uu, uv, hM, U_of_wf wo⟩⟩
  have z : cs.drop 22 = [] := List.drop_eq_nil_of_le (by omega)
  have key : cs.drop 0 = [.int .i64 a] ++ ([.float .f64 x, .float .f64 y, .float .f64 u, .float .f64 v] ++ (ms.map (Value.float .f64) ++ ([.float .f64 o] ++ []))) := by
    rw [cut1 (l := cs) (k := 0) 1, ha, cut1 (l := cs) (k := 0 + 1) 4, hr, cut1 (l := cs) (k := 0 + 1 + 4) 16, hm, cut1 (l := cs) (k := 0 + 1 + 4 + 16) 1, h4, z]
  rw [List.drop_zero] at key
  rw [key]
  simp [LW.cells, LW.rc]
set_option maxRecDepth 100000 in
theorem open_structsT {fuel : Nat} {v : Value} {y : DataW H × List MemPlace} {t e : TypeId} {α : Type} (q0 : α) (f : α → List Value) (ok : α → Prop) (s : Nat) (hs : 0 < s) (hu : Try.prog.underlying t = some (.slice e)) (hc : Try.prog.cellsOf e = s) (hlen : ∀ q, ok q → (f q).length = s)
    (ho : ∀ n cs (y : DataW H × List MemPlace), DataW.trod enc Try.prog w 0 (fun _ => true) true n e cs = some y → ∃ q, cs = f q ∧ ok q) (hf : DataW.trod enc Try.prog w 0 (fun _ => true) true fuel t [v] = some y) :
    ∃ (A : Option Addr) (S : Nat → α) (n c : Nat), v = .slice A n c ∧ SL w A n s S f ∧ (∀ k, k < n → ok (S k)) ∧ n ≤ c ∧ LenD y.1 c := by
  rcases Go.Deep.open_slice hu hf with ⟨h1, h2⟩ | ⟨a, len', cap', m, n, D, Pl, h1, _, hl, hm, hmm, h2, hx⟩
  · simp only [List.cons.injEq, and_true] at h1
    subst h1
    exact ⟨none, fun _ => q0, 0, 0, rfl, .inl rfl, fun k hk => absurd hk (Nat.not_lt_zero _), Nat.le_refl _, .inl ⟨by rw [h2], rfl⟩⟩
  · simp only [List.cons.injEq, and_true] at h1
    subst h1
    simp only [if_true] at hmm
    subst hmm
    rw [hc] at hx
    have key : ∀ i, ∃ q : α, i < len' → ok q ∧ ∀ j, j < s → w.cell? (a.add (i * s + j)) = (f q)[j]? := fun i => by
      by_cases hi : i < len'
      · obtain ⟨cs', hcs, ht⟩ := hx i (by omega)
        obtain ⟨q, hq, hok⟩ := ho _ _ _ ht
        obtain ⟨_, _, hat⟩ := World.cells?_some hcs
        refine ⟨q, fun _ => ⟨hok, fun j hj => ?_⟩⟩
        rw [← Go.Deep.add_add, hat j hj, hq]
      · exact ⟨q0, fun h => absurd h hi⟩
    obtain ⟨g, hf2⟩ := Classical.axiomOfChoice key
    refine ⟨some a, g, len', m, rfl, ?_, fun k hk => (hf2 k hk).1, hl, .inr ⟨_, _, by rw [h2], by rw [List.length_map, List.length_map, List.length_range, List.length_range]; omega⟩⟩
    by_cases h0 : len' = 0
    · exact .inl h0
    · right
      obtain ⟨b, o, x⟩ := a
      have h00 := (hf2 0 (by omega)).2 0 hs
      have hl0 := hlen _ (hf2 0 (by omega)).1
      rw [List.getElem?_eq_getElem (by omega)] at h00
      have hx0 : x = none := by simpa [Addr.add] using World.cell?_spot h00
      subst hx0
      have hadd : ∀ j, (⟨b, o, none⟩ : Addr).add j = ⟨b, o + j, none⟩ := fun j => by
        unfold Addr.add; split
        · rename_i h; rw [h]; rfl
        · rfl
      refine ⟨b, o, rfl, ?_, fun i hi j v hj => ?_⟩
      · rw [hadd] at h00
        exact World.block_lt_of_cell? w _ h00
      · obtain ⟨hok, hcl⟩ := hf2 i hi
        have hjl : j < s := by have := (List.getElem?_eq_some_iff.1 hj).1; rw [hlen _ hok] at this; exact this
        have := hcl j hjl
        rw [hadd, hj] at this
        rw [Nat.add_assoc]; exact this
theorem zl_of {A : Option Addr} {n : Nat} {z : Nat → Int} (h : SL w A n 1 z (fun x => [.int .i64 x])) (hz : ∀ k, k < n → -9223372036854775808 ≤ z k ∧ z k ≤ 9223372036854775807) : ZL w A n z := by
  rcases h with h | ⟨b, o, hA, hb, hr⟩
  · exact .inl h
  · refine .inr ⟨b, o, hA, hb, fun j hj => ⟨?_, hz j hj⟩⟩
    have := hr j hj 0 _ rfl
    rwa [Nat.mul_one, Nat.add_zero] at this
theorem cells64 : Try.prog.cellsOf 64 = 4 := by kernel_rfl
def LW0 : LW := ⟨0, 0, 0, 0, 0, [], 0⟩
set_option maxRecDepth 100000 in
theorem open_parts {r : Reach} {B0 : Nat} {v : Value} {d : DataW H} {p : List MemPlace} (hv : Value.okWide Try.prog w r B0 64 v) (h : DataW.Trod enc Try.prog w 0 (fun _ => true) true 64 v d p) :
    ∃ (A B : Option Addr) (n c nt ct x y : Nat) (L : Nat → LW) (z : Nat → Int) (dl dr d2 d3 : DataW H), v = .agg #[.slice A n c, .slice B nt ct, .float .f64 x, .float .f64 y] ∧ SL w A n 22 L LW.cells ∧ (∀ k, k < n → (L k).OK) ∧ n ≤ c ∧ LenD dl c ∧ d = .agg [dl, dr, d2, d3] ∧ ZL w B nt z ∧ U x ∧ U y := by
  obtain ⟨v0, v1, v2, v3, y0, y1, y2, y3, f, rfl, hd, _, g0, g1, g2, g3⟩ := Go.Joins.open_agg4 Try.underlying64 (by kernel_rfl) cells64 hv h
  obtain ⟨A, L, n, c, rfl, hS, hok, hn, hl⟩ := open_structsT LW0 LW.cells LW.OK 22 (by decide) Try.underlying62 cO94 (fun q h => LW.len h) (fun n cs y h => open_drawn h) g0
  obtain ⟨B, z, nt, ct, rfl, hZ, hz, -, -⟩ := open_structsT (0 : Int) (fun x => [.int .i64 x]) (fun x => -9223372036854775808 ≤ x ∧ x ≤ 9223372036854775807) 1 (by decide) Try.underlying58 cO3 (fun q h => rfl) (fun n cs y h => by
    obtain ⟨a, ha, _, wa⟩ := DataW.trod_int Try.underlying3 h
    exact ⟨a, ha, wf_i64S wa⟩) g1
  obtain ⟨x, rfl, wx⟩ := trod_float1 Try.underlying31 g2
  obtain ⟨y, rfl, wy⟩ := trod_float1 Try.underlying31 g3
  exact ⟨A, B, n, c, nt, ct, x, y, L, z, y0.1, y1.1, y2.1, y3.1, rfl, hS, hok, hn, hl, hd, zl_of hZ hz, U_of_wf wx, U_of_wf wy⟩
end
end Go.Proofs.Ytedkbjimofiphaa
