/- GeomWhole: matrices: plain laws for its walk. -/
import Derived.Test.YtelalledjbeenaaMgWI
import Derived.Test.YtelalledjbeenaaInvD
namespace Go.Proofs.Ytelalledjbeenaa
open Go.RowKit Fl

theorem IM.mono {ms : List Nat} {z : Nat → Int} {B C : Nat} (h : IM ms z B) (hc : B ≤ C) : IM ms z C := ⟨h.mu, fun j hj => (h.at_ j hj).mono hc⟩
/-- whole numbers of a table, cut by `B` -/
def zT (zs : List Int) (B : Int) : Nat → Int := fun j => (zs.getD j 0).tmod B
theorem zT_IM {zs : List Int} (hl : zs.length = 16) (B : Nat) (hB : 0 < B ∧ B ≤ 1024) : IM (mzL zs B) (zT zs B) (B - 1) := mzL_IM hl B hB
theorem im_times {ms ns os : List Nat} {z y : Nat → Int} {B : Nat} (hM : IM ms z B) (hN : IM ns y B) (ho : MU os) (hp : ∀ j, j < 16 → mp os j = timesP (mp ms) (mp ns) j) (hb : 4 * (B * B) ≤ 9007199254740992) : IM os (timesZ z y) (4 * (B * B)) :=
  ⟨ho, fun j hj => by rw [hp j hj]; exact times_place gok_one hj hM.at_ hN.at_ hb⟩
theorem det_eq {ms : List Nat} {z : Nat → Int} {B : Nat} (h : IM ms z B) (hB : B ≤ 1024) {d : Nat} (hd : RV d (detP (mp ms))) : (FloatKind.f64.format.order d (fz (detZ z)) == some .eq) = true :=
  ord_of hd (fz_RV _) (feq_of (det_place h hB) (fz_place (detZ z) 9007199254740992 (by have := det_le h hB; omega) (by omega)) rfl)
theorem dets_eq {ms ns os : List Nat} {z y : Nat → Int} (hM : IM ms z 16) (hN : IM ns y 16) (ho : MU os) (hp : ∀ j, j < 16 → mp os j = timesP (mp ms) (mp ns) j) {a m : Nat} (ha : RV a (detP (mp os))) (hm : RV m (opP .mul (detP (mp ms)) (detP (mp ns)))) : (FloatKind.f64.format.order a m == some .eq) = true :=
  ord_of ha hm (feq_of (det_place (im_times hM hN ho hp (by decide)) (by decide)) (PB.mul (det_place hM (by decide)) (det_place hN (by decide)) gok_one (by decide)) (det_times z y))
theorem small_place {f : Nat} {F : Int} {B C : Nat} (h : PWh (pl f) F B) (hc : B ≤ C) : PWh (pl f) F C := h.mono hc
theorem rem_place (p : Int) : PWh (pl (fz (p.tmod 1024))) (p.tmod 1024) 1023 := by
  refine fz_place _ _ ?_ (by omega)
  have h1 := Int.tmod_lt_of_pos p (show (0 : Int) < 1024 by omega)
  have h2 := Int.tmod_lt_of_pos (-p) (show (0 : Int) < 1024 by omega)
  rw [Int.neg_tmod] at h2
  omega
section
variable {ms ns os : List Nat} {zM zN : Nat → Int} (hM : IM ms zM 1023) (hN : IM ns zN 1023) (ho : MU os) (hp : ∀ j, j < 16 → mp os j = timesP (mp ms) (mp ns) j)
variable {x y z u : Nat} {X Y Z W : Int} (hx : PWh (pl x) X 1023) (hy : PWh (pl y) Y 1023) (hz : PWh (pl z) Z 1023) (hu : PWh (pl u) W 1023)
variable {s0 s1 s2 s3 : Nat} (k0 : RV s0 (rowP (mp ns) 0 (pl x) (pl y) (pl z) (pl u))) (k1 : RV s1 (rowP (mp ns) 1 (pl x) (pl y) (pl z) (pl u))) (k2 : RV s2 (rowP (mp ns) 2 (pl x) (pl y) (pl z) (pl u))) (k3 : RV s3 (rowP (mp ns) 3 (pl x) (pl y) (pl z) (pl u)))
include hM hN ho hp hx hy hz hu k0 k1 k2 k3
theorem twice_row {i r t : Nat} (hi : i < 4) (hr : RV r (rowP (mp os) i (pl x) (pl y) (pl z) (pl u))) (ht : RV t (rowP (mp ms) i (pl s0) (pl s1) (pl s2) (pl s3)))
    (e : rowZ (timesZ zM zN) i X Y Z W = rowZ zM i (rowZ zN 0 X Y Z W) (rowZ zN 1 X Y Z W) (rowZ zN 2 X Y Z W) (rowZ zN 3 X Y Z W)) : (FloatKind.f64.format.order r t == some .eq) = true := by
  have hO := im_times hM hN ho hp (by decide)
  have b0 := rv_place k0 (hN.row gok_one (by decide) hx hy hz hu (by decide))
  have b1 := rv_place k1 (hN.row gok_one (by decide) hx hy hz hu (by decide))
  have b2 := rv_place k2 (hN.row gok_one (by decide) hx hy hz hu (by decide))
  have b3 := rv_place k3 (hN.row gok_one (by decide) hx hy hz hu (by decide))
  exact ord_of hr ht (feq_of (hO.row gok_one hi hx hy hz hu (by decide)) (hM.row gok_one hi b0 b1 b2 b3 (by decide)) e)
theorem twice_eq {r0 r1 r2 r3 t0 t1 t2 t3 : Nat} (h0 : RV r0 (rowP (mp os) 0 (pl x) (pl y) (pl z) (pl u))) (h1 : RV r1 (rowP (mp os) 1 (pl x) (pl y) (pl z) (pl u))) (h2 : RV r2 (rowP (mp os) 2 (pl x) (pl y) (pl z) (pl u))) (h3 : RV r3 (rowP (mp os) 3 (pl x) (pl y) (pl z) (pl u)))
    (g0 : RV t0 (rowP (mp ms) 0 (pl s0) (pl s1) (pl s2) (pl s3))) (g1 : RV t1 (rowP (mp ms) 1 (pl s0) (pl s1) (pl s2) (pl s3))) (g2 : RV t2 (rowP (mp ms) 2 (pl s0) (pl s1) (pl s2) (pl s3))) (g3 : RV t3 (rowP (mp ms) 3 (pl s0) (pl s1) (pl s2) (pl s3))) :
    (FloatKind.f64.format.order r0 t0 == some .eq) = true ∧ (FloatKind.f64.format.order r1 t1 == some .eq) = true ∧ (FloatKind.f64.format.order r2 t2 == some .eq) = true ∧ (FloatKind.f64.format.order r3 t3 == some .eq) = true :=
  ⟨twice_row hM hN ho hp hx hy hz hu k0 k1 k2 k3 (by decide) h0 g0 (twice_0 _ _ _ _ _ _), twice_row hM hN ho hp hx hy hz hu k0 k1 k2 k3 (by decide) h1 g1 (twice_1 _ _ _ _ _ _), twice_row hM hN ho hp hx hy hz hu k0 k1 k2 k3 (by decide) h2 g2 (twice_2 _ _ _ _ _ _), twice_row hM hN ho hp hx hy hz hu k0 k1 k2 k3 (by decide) h3 g3 (twice_3 _ _ _ _ _ _)⟩
end
/-- what Floor answers here -/
def GF (_ : FuncId) (_ : Array Value) (v : Value) : Prop := ∃ (r : Nat) (F : Int), v = .float .f64 r ∧ U r ∧ PWh (pl r) F 512
theorem w124 {x : Nat} (h : U x ∧ fin x = true ∧ val 52 (rg x) ≤ 512 * ONE) (w : World) : Calls Try.prog 124 #[.float .f64 x] w fun e w' => ∃ v, e = .returned v ∧ GF 124 #[.float .f64 x] v ∧ Below w.heap.size w w' :=
  (k124 x w h.1 h.2.1 h.2.2).mono fun e w' ⟨⟨r, F, he, hu, hp⟩, hb⟩ => ⟨_, he, ⟨r, F, rfl, hu, hp⟩, by subst hb; exact Below.refl _ _⟩
theorem mem_set2 {w wx : World} {L : List (Nat × List Value)} {g : Nat} {a b c d : Nat} (h : Mem w wx (L ++ [(g, [a, b, c, d].map (Value.float .f64))])) (hlt : ∀ e ∈ L, e.1 < g) (hg : w.heap.size ≤ g) (x y : Nat) :
    Mem w ((wx.setCell ⟨g, 0, none⟩ (.float .f64 x)).setCell ⟨g, 1, none⟩ (.float .f64 y)) (L ++ [(g, [x, y, c, d].map (Value.float .f64))]) := by
  have hb : Below g wx ((wx.setCell ⟨g, 0, none⟩ (.float .f64 x)).setCell ⟨g, 1, none⟩ (.float .f64 y)) := ((Below.refl g wx).setCell (p := ⟨g, 0, none⟩) (Nat.le_refl _) _).setCell (p := ⟨g, 1, none⟩) (Nat.le_refl _) _
  refine ⟨(h.b.setCell (p := ⟨g, 0, none⟩) hg _).setCell (p := ⟨g, 1, none⟩) hg _, fun i g' cs' hi => ?_⟩
  rcases Nat.lt_or_ge i L.length with c1 | c1
  · have hi0 := hi
    rw [List.getElem?_append_left c1] at hi
    have hk := h.k i g' cs' (by rw [List.getElem?_append_left c1]; exact hi)
    have hlt' := hlt (g', cs') (List.mem_of_getElem? hi)
    exact ⟨range_below hk.r hb hlt', Nat.lt_of_lt_of_le hk.l hb.size⟩
  · have hk := h.k L.length g _ (by rw [List.getElem?_append_right (Nat.le_refl _), Nat.sub_self]; rfl)
    rw [List.getElem?_append_right c1] at hi
    have e0 : i - L.length = 0 := by
      rcases Nat.eq_zero_or_pos (i - L.length) with h0 | h0
      · exact h0
      · rw [List.getElem?_eq_none (by simp; omega)] at hi; cases hi
    rw [e0] at hi
    simp only [List.getElem?_cons_zero, Option.some.injEq, Prod.mk.injEq] at hi
    rw [← hi.1, ← hi.2]
    exact ⟨range_set (xs := [x, b, c, d]) (n := 1) (range_set (xs := [a, b, c, d]) (n := 0) hk.r x) y, Nat.lt_of_lt_of_le hk.l hb.size⟩
/-- a guarded load of a whole row -/
theorem wpList_loadG {P : Program} {ops : Array Oper} {rest : List Oper} {op : Oper} {a : Act} {w : World} {Q : Exit → Act → World → Prop} (hw : Region.wanted op (yielded ops a.tmps) = true) (ty : TypeId) (x : Operand) (ho : op.op = .load ty x)
    (b o : Nat) (hx : a.eval x = .pointer (some ⟨b, o, none⟩)) (cs : List Value) (d : TypeDesc) (hc : w.rangeAt b o cs)
    (hu : P.underlying ty = some d) (hd : d.isRow = true) (hi : (P.info? ty).map (·.size) = some cs.length)
    (h : wpList P ops Q rest (a.put op.dst (.agg cs.toArray)) w) : wpList P ops Q (op :: rest) a w :=
  wpList_step fun _ hK => by rw [if_pos hw]; exact wp_load_mid ty x ho b o hx cs d hc hu hd hi (hK _ _ h)
/-! ### the inverse -/
theorem inv_ok {ms : List Nat} {z : Nat → Int} {B : Nat} (h : IM ms z B) (hB : B ≤ 1024) : invOk (detP (mp ms)) = decide (detZ z ≠ 0) := invOk_place (det_place h hB)
theorem pow_ne {D : Int} {t : Nat} (h : D.natAbs = 2 ^ t) : D ≠ 0 := fun e => by
  subst e
  have := Nat.pow_pos (n := t) (show 0 < 2 by decide)
  rw [← h] at this; simp at this
theorem ok_neq (D : Int) (w : World) : (binOp .neq 2 (.int .i64 D) (.int .i64 0)).run Try.prog w = .ok (.bool (decide (D ≠ 0))) w := by
  by_cases h : D = 0
  · subst h; go_simp; try rfl
  · go_simp; try simp [h]
theorem bb_neq (b : Bool) (w : World) : (binOp .neq 4 (.bool b) (.bool b)).run Try.prog w = .ok (.bool false) w := by
  cases b <;> (go_simp; try rfl)
end Go.Proofs.Ytelalledjbeenaa
