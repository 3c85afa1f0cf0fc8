/- The inner round of beneath: the row with one put into its place. An append of a whole row of the call's own, which may be nil. A region that draws its order and makes one slice of one element (slot t). The regions of galleyref20's Paint that draw their order. -/
import Derived.Test.YtedkbjimofiphaaMgRwC
import Derived.Deep.Upon
import Derived.Test.YtedkbjimofiphaaMgRelS
import Derived.Great.CaseRows
namespace Go.Proofs.Ytedkbjimofiphaa
open Go.RowKit Fl
/-- while x is put into its place of S: at = k -/
def IP (w : World) (base : Nat) (v : Value) (key : Nat → Int) (S : List Nat) (x k : Nat) : Prop :=
  ∃ S1 S2 z, S = S1 ++ S2 ∧ k = S1.length ∧ (∀ y ∈ S2, key x < key y) ∧ OI w base v (S1 ++ z :: S2)
theorem IP.start {w : World} {base : Nat} {v : Value} {key : Nat → Int} {S : List Nat} {x : Nat} (h : OI w base v (S ++ [x])) : IP w base v key S x S.length := ⟨S, [], x, by simp, rfl, fun _ h => (by cases h), h⟩
theorem IP.form {w : World} {base : Nat} {v : Value} {key : Nat → Int} {S : List Nat} {x k : Nat} (h : IP w base v key S x k) : ∃ g c, v = .slice (some ⟨g, 0, none⟩) (S.length + 1) c ∧ base ≤ g ∧ g < w.heap.size := by
  obtain ⟨S1, S2, z, rfl, -, -, ho⟩ := h
  obtain ⟨p, c, rfl, -⟩ := owned_slice ho
  obtain ⟨g, rfl, h1, h2⟩ := owned_some ho (by simp; omega)
  exact ⟨g, c, by congr 1; simp; omega, h1, h2⟩
/-- the last one stands higher -/
theorem IP.step {w : World} {base g c m : Nat} {key : Nat → Int} {S : List Nat} {x q : Nat} (h : IP w base (.slice (some ⟨g, 0, none⟩) m c) key S x (q + 1)) : ∃ y, y ∈ S ∧ w.cell? ⟨g, q, none⟩ = some (.int .i64 (y : Int)) ∧ w.frozen? ⟨g, q, none⟩ = false ∧ (∃ z, w.cell? ⟨g, q + 1, none⟩ = some (.int .i64 z)) ∧ w.frozen? ⟨g, q + 1, none⟩ = false ∧ q + 1 < m ∧
    (key x < key y → IP (w.setCell ⟨g, q + 1, none⟩ (.int .i64 (y : Int))) base (.slice (some ⟨g, 0, none⟩) m c) key S x q) ∧
    (¬ key x < key y → Sd key S → OI (w.setCell ⟨g, q + 1, none⟩ (.int .i64 (x : Int))) base (.slice (some ⟨g, 0, none⟩) m c) (mg key S [x])) := by
  obtain ⟨S1, S2, z, rfl, hk, h2, ho⟩ := h
  obtain ⟨S1', y, e1, l1⟩ : ∃ S1' y, S1 = S1' ++ [y] ∧ S1'.length = q := ⟨S1.take q, S1[q], by rw [← List.take_succ_eq_append_getElem (by omega)]; rw [List.take_of_length_le (by omega)], by rw [List.length_take]; omega⟩
  subst e1
  have hm : m = (S1' ++ [y] ++ z :: S2).length := by
    rcases ho.2 with ⟨h1, -⟩ | ⟨g', cap, cur, h1, -⟩
    · cases h1
    · injection h1 with _ h1 _
  subst hm
  have cy : (S1' ++ [y] ++ z :: S2)[q]? = some y := by
    rw [List.append_assoc, List.getElem?_append_right (by omega), l1, Nat.sub_self]; rfl
  have cz : (S1' ++ [y] ++ z :: S2)[q + 1]? = some z := by
    rw [List.getElem?_append_right (by simp; omega)]; simp [l1]
  have hl : q + 1 < (S1' ++ [y] ++ z :: S2).length := (List.getElem?_eq_some_iff.1 cz).1
  have a := OI.cell ho cy
  have b := OI.cell ho cz
  have put : ∀ u : Nat, OI (w.setCell ⟨g, q + 1, none⟩ (.int .i64 (u : Int))) base (.slice (some ⟨g, 0, none⟩) (S1' ++ [y] ++ z :: S2).length c) (S1' ++ [y] ++ u :: S2) := fun u => by
    have := OI.put ho hl u
    rwa [show (S1' ++ [y] ++ z :: S2).set (q + 1) u = S1' ++ [y] ++ u :: S2 by
      rw [List.set_append_right _ _ (by simp; omega)]; simp [l1]] at this
  refine ⟨y, by simp, a.1, a.2, ⟨_, b.1⟩, b.2, hl, fun hk2 => ⟨S1', y :: S2, y, by simp, l1.symm, fun u hu => ?_, ?_⟩, fun hk2 hs => ?_⟩
  · rcases List.mem_cons.1 hu with rfl | hu
    · exact hk2
    · exact h2 u hu
  · have := put y; simpa using this
  · rw [mg_one key (fun u hu => ?_) h2]
    · exact put x
    · have s1 := Sd.append_left key hs
      rcases List.mem_append.1 hu with hu | hu
      · have := lasts key s1 u hu; omega
      · rw [List.mem_singleton.1 hu]; omega
theorem IP.stop {w : World} {base g c m : Nat} {key : Nat → Int} {S : List Nat} {x : Nat} (h : IP w base (.slice (some ⟨g, 0, none⟩) m c) key S x 0) : (∃ z, w.cell? ⟨g, 0, none⟩ = some (.int .i64 z)) ∧ w.frozen? ⟨g, 0, none⟩ = false ∧ 0 < m ∧
    OI (w.setCell ⟨g, 0, none⟩ (.int .i64 (x : Int))) base (.slice (some ⟨g, 0, none⟩) m c) (mg key S [x]) := by
  obtain ⟨S1, S2, z, rfl, hk, h2, ho⟩ := h
  have : S1 = [] := List.length_eq_zero_iff.1 hk.symm
  subst this
  have hm : m = ([] ++ z :: S2).length := by
    rcases ho.2 with ⟨h1, -⟩ | ⟨g', cap, cur, h1, -⟩
    · cases h1
    · injection h1 with _ h1 _
  subst hm
  have b := OI.cell ho (j := 0) (x := z) rfl
  refine ⟨⟨_, b.1⟩, b.2, by simp, ?_⟩
  rw [mg_one key (fun u hu => by cases hu) h2]
  exact OI.put ho (j := 0) (by simp) x
theorem IP.below {w w' : World} {base : Nat} {v : Value} {key : Nat → Int} {S : List Nat} {x k : Nat} (h : IP w base v key S x k) (hb : Below w.heap.size w w') : IP w' base v key S x k := by
  obtain ⟨S1, S2, z, h1, h2, h3, h4⟩ := h
  exact ⟨S1, S2, z, h1, h2, h3, owned_at h4 fun k _ hl => hb.block k hl⟩
end Go.Proofs.Ytedkbjimofiphaa

namespace Go.Proofs.Ytedkbjimofiphaa
open Go.RowKit Fl
theorem owned_le {base size n : Nat} {e : TypeId} {p : Option Addr} {l c : Nat} {xs : List Value} {w : World} (h : w.ownsRow base e size (.slice p l c) n xs) : l = n ∧ n ≤ c := by
  rcases h.2 with ⟨h1, h2⟩ | ⟨g, cap, cur, h1, h2, h3, h4, -⟩
  · cases h1; exact ⟨h2.symm, by omega⟩
  · cases h1; exact ⟨rfl, h4⟩
section
variable {P : Program} {w : World}
theorem append_row (base b2 : Nat) (t ty e : TypeId) (i : TypeInfo) (z : Value) (size bytes : Nat) (ht : P.underlying t = some (.slice e)) (hi : P.info? e = some i) (hz : i.zero = some z)
    (hsize : i.size = size) (hby : i.bytes = bytes) (hzs : z.cells.size = size) (hsz : 0 < size) (v x : Value) (n m : Nat) (xs news : List Value) (hown : w.ownsRow base e size v n xs) (hx : w.ownsRow b2 e size x m news)
    (h1 : ∀ u ∈ news, u.oneCell' = true) (h63 : n + m ≤ maxLen) (hbytes : (n + m) * bytes ≤ 140737488355328) (hbase : base ≤ w.heap.size) :
    ∃ v' w', (Builtin.append_ #[t, t] ty #[v, x]).run P w = .ok v' w' ∧ w'.ownsRow base e size v' (n + m) (xs ++ news) ∧ w.grownBy w' v.ownBlock := by
  have hl := hx.1
  rcases hx.2 with ⟨rfl, rfl⟩ | ⟨g, cap, cur, rfl, h2, h3, h4, h5, h6, h7⟩
  · have hn : news = [] := List.eq_nil_of_length_eq_zero (by simpa using hl)
    subst hn
    obtain ⟨p, c, rfl, -⟩ := owned_slice hown
    refine ⟨.slice p n c, w, run_append_nothing w t t ty e i ht hi p n c (owned_le hown).2 _ (Src.ofNil w ht 0), by simpa using hown, ⟨rfl, rfl, rfl, Nat.le_refl _, fun _ _ _ => rfl⟩⟩
  · have hc := World.ownsRow.cells (g := g) hx rfl
    obtain ⟨v', w', a1, a2, a3, -⟩ := run_append_own (P := P) w base t ty e i z size bytes ht hi hz hsize hby hzs hsz v n xs hown ⟨g, 0, none⟩ m cap news hl hc h1 h63 hbytes hbase
    exact ⟨v', w', a1, a2, a3⟩
theorem wpList_append_row {ops : Array Oper} {rest : List Oper} {o : Oper} {b : Act} {Q : Exit → Act → World → Prop} (hgd : o.guard = none) (s x : Operand) (t : TypeId)
    (ho : o.op = .call { callee := .builtin .append, args := #[s, x], argTypes := #[t, t] })
    (base b2 : Nat) (e : TypeId) (i : TypeInfo) (z : Value) (size bytes : Nat) (ht : P.underlying t = some (.slice e)) (hi : P.info? e = some i) (hz : i.zero = some z)
    (hsize : i.size = size) (hby : i.bytes = bytes) (hzs : z.cells.size = size) (hsz : 0 < size) (v xv : Value) (n m : Nat) (xs news : List Value) (hs : b.eval s = v) (hown : w.ownsRow base e size v n xs)
    (hxv : b.eval x = xv) (hx : w.ownsRow b2 e size xv m news) (h1 : ∀ u ∈ news, u.oneCell' = true)
    (h63 : n + m ≤ maxLen) (hbytes : (n + m) * bytes ≤ 140737488355328) (hbase : base ≤ w.heap.size)
    (h : ∀ v' w', w'.ownsRow base e size v' (n + m) (xs ++ news) → w.grownBy w' v.ownBlock → wpList P ops Q rest (b.put o.dst v') w') : wpList P ops Q (o :: rest) b w := by
  refine wpList_plain hgd fun K hK => ?_
  obtain ⟨v', w', hr, h2, h3⟩ := append_row (P := P) base b2 t o.type e i z size bytes ht hi hz hsize hby hzs hsz v xv n m xs news hown hx h1 h63 hbytes hbase
  unfold Oper.wp execOp
  simp only [ho, resolve, invoke, builtin, Sem.run_bind, Sem.run_pure, Result.andThen_ok, List.map_toArray, List.map_cons, List.map_nil, hs, hxv, hr]
  exact hK _ _ (h v' w' h2 h3)
end
/-- the kids and all beneath them are no more than all -/
theorem flat_le {n : Nat} {ab : Nat → Option Nat} {key : Nat → Int} (H : ∀ i k, i < n → ab i = some k → k < i) (p : Option Nat) : ((stab key (kids n ab p)).flatMap (tr n ab key)).length ≤ n := by
  have nd := row_nodup H (key := key) (p := p) fun x _ => tr_nodup H n x (by omega)
  have sub : ∀ x ∈ (stab key (kids n ab p)).flatMap (tr n ab key), x ∈ List.range n := fun x hx => by
    obtain ⟨y, hy, hx⟩ := List.mem_flatMap.1 hx
    exact List.mem_range.2 (((mem_tr H).1 hx).lt (mem_kids.1 (mem_stab.1 hy)).1)
  have pm : ((stab key (kids n ab p)).flatMap (tr n ab key)).Perm ((List.range n).filter (fun x => decide (x ∈ (stab key (kids n ab p)).flatMap (tr n ab key)))) :=
    (List.perm_ext_iff_of_nodup nd (List.nodup_range.filter _)).2 fun x => by
      rw [List.mem_filter, decide_eq_true_iff]
      exact ⟨fun h => ⟨sub x h, h⟩, fun h => h.2⟩
  have := List.length_filter_le (fun x => decide (x ∈ (stab key (kids n ab p)).flatMap (tr n ab key))) (List.range n)
  rw [List.length_range] at this
  rw [pm.length_eq]
  exact this
theorem flat_take {n : Nat} {ab : Nat → Option Nat} {key : Nat → Int} (H : ∀ i k, i < n → ab i = some k → k < i) (p : Option Nat) {i x : Nat} (hx : (stab key (kids n ab p))[i]? = some x) :
    (((stab key (kids n ab p)).take i).flatMap (tr n ab key)).length + 1 + ((stab key (kids n ab (some x))).flatMap (tr n ab key)).length ≤ n := by
  have h := flat_le H (key := key) p
  obtain ⟨hl, hx⟩ := List.getElem?_eq_some_iff.1 hx
  rw [← List.take_append_drop i (stab key (kids n ab p)), List.flatMap_append, List.length_append, List.drop_eq_getElem_cons hl, hx, List.flatMap_cons, tr_step H x, List.length_append, List.length_cons] at h
  omega
end Go.Proofs.Ytedkbjimofiphaa

namespace Go.Proofs.Ytedkbjimofiphaa.RB.RT
open Go Go.RowKit Fl
def SC (C : World → Prop) (t c : Nat) (d : Option Tmp) (v : Value) (w w' : World) : Prop :=
  (C w → C w') ∧ w.heap.size ≤ w'.heap.size ∧ ∀ g, d = some t → v = .slice (some ⟨g, 0, none⟩) c c → g < w'.heap.size
def IC (t c : Nat) (a : Act) (w : World) : Prop := ∀ g, a.tmps.getD t undef = .slice (some ⟨g, 0, none⟩) c c → g < w.heap.size
section
variable {P : Program} {ops : Array Oper} {G : FuncId → Array Value → Value → Prop} {C : World → Prop} {t c : Nat} {Q : Act → Prop} {o : Oper} {rest : List Oper} {a : Act}
theorem wp_region_slot {id : Nat} {Q : Exit → Act → World → Prop} {a : Act} {w : World} {l : List Oper} (n : Nat) (C : World → Prop) (t c : Nat) (G : FuncId → Array Value → Value → Prop)
    (hm : P.follows .mixedOrders = true) (hB : relB l.toArray n = true) (hC : C { w with drawn := w.drawn + 1 }) (hst : IC t c a w)
    (h : wpRel P l.toArray C G (SC C t c) (fun a' => ∀ w', C w' → IC t c a' w' → wpList P l.toArray Q (l.drop n) a' w') (l.take n) a) : (Code.region id l.toArray true).wp P Q a w :=
  RB.wp_region_rel n C G (SC C t c) hm hB hC (IC t c) hst (fun _ _ _ _ hc hs => hs.1 hc)
    (fun d v a w w' _ hi hs g hg => by
      cases d with
      | none => exact Nat.lt_of_lt_of_le (hi g hg) hs.2.1
      | some s =>
        by_cases e : s = t
        · subst e
          rcases put_same a s v with e | e
          · exact hs.2.2 g rfl (e.symm.trans hg)
          · rw [e] at hg; cases hg
        · rw [put_other a e] at hg; exact Nat.lt_of_lt_of_le (hi g hg) hs.2.1)
    (fun d a w hi g hg => by
      cases d with
      | none => exact hi g hg
      | some s =>
        by_cases e : s = t
        · subst e
          rcases put_same a s undef with e | e <;> (rw [e] at hg; cases hg)
        · rw [put_other a e] at hg; exact hi g hg) h
theorem rel_nil (h : Q a) : wpRel P ops C G (SC C t c) Q [] a := h
theorem rel_set {R : Value → Prop} (hw : Region.wanted o (yielded ops a.tmps) = true) (h : ∀ w, C w → ∃ v w', (execOp a.eval o).run P w = .ok (.value v) w' ∧ SC C t c o.dst v w w' ∧ R v)
    (k : ∀ v, R v → wpRel P ops C G (SC C t c) Q rest (a.put o.dst v)) : wpRel P ops C G (SC C t c) Q (o :: rest) a := by
  unfold wpRel; rw [if_pos hw]
  refine ⟨fun w hc => by obtain ⟨v, w', e, hc', _⟩ := h w hc; rw [e]; exact hc', fun u hu => ?_⟩
  obtain ⟨w, hc, hu⟩ := hu
  obtain ⟨v, w', e, _, hr⟩ := h w hc
  rw [e] at hu
  rw [show u = v from hu]; exact k v hr
theorem SC.same {d : Option Tmp} (hd : d ≠ some t) (v : Value) (w : World) : SC C t c d v w w := ⟨id, Nat.le_refl _, fun g h => absurd h hd⟩
theorem rel_val {v : Value} (hw : Region.wanted o (yielded ops a.tmps) = true) (hd : o.dst ≠ some t) (h : ∀ w, C w → (execOp a.eval o).run P w = .ok (.value v) w)
    (k : wpRel P ops C G (SC C t c) Q rest (a.put o.dst v)) : wpRel P ops C G (SC C t c) Q (o :: rest) a :=
  rel_set (R := fun u => u = v) hw (fun w hc => ⟨v, w, h w hc, SC.same hd v w, rfl⟩) (fun u hu => by subst hu; exact k)
variable {dst : Option Tmp} {T : TypeId} {pos : String} {af : Array Edge} {gd : Option (Nat × Bool)}
theorem rel_move {x : Operand} {v : Value} (hx : a.eval x = v) (hw : Region.wanted ⟨dst, .move x, T, pos, af, gd⟩ (yielded ops a.tmps) = true) (hd : dst ≠ some t)
    (k : wpRel P ops C G (SC C t c) Q rest (a.put dst v)) : wpRel P ops C G (SC C t c) Q (⟨dst, .move x, T, pos, af, gd⟩ :: rest) a :=
  rel_val hw hd (fun w hc => by unfold execOp; simp only [hx]; rfl) k
theorem rel_load_row {x : Operand} {ty : TypeId} (b o : Nat) (cs : List Value) (d : TypeDesc) (hx : a.eval x = .pointer (some ⟨b, o, none⟩)) (hw : Region.wanted ⟨dst, .load ty x, T, pos, af, gd⟩ (yielded ops a.tmps) = true) (hD : dst ≠ some t)
    (hS : ∀ w, C w → w.rangeAt b o cs) (hu : P.underlying ty = some d) (hd : d.isRow = true) (hi : (P.info? ty).map (·.size) = some cs.length)
    (k : wpRel P ops C G (SC C t c) Q rest (a.put dst (.agg cs.toArray))) : wpRel P ops C G (SC C t c) Q (⟨dst, .load ty x, T, pos, af, gd⟩ :: rest) a :=
  rel_val hw hD (fun w hc => by
    unfold execOp
    simp only [hx, Instr.loadAt, Instr.sureAddr, Sem.run_bind, Sem.run_pure, Result.andThen_ok, run_loadVar_mid w b o ty cs d (hS w hc) hu hd hi]) k
end
section
variable {ops : Array Oper} {G : FuncId → Array Value → Value → Prop} {C : World → Prop} {t c : Nat} {Q : Act → Prop} {rest : List Oper} {a : Act} {dst : Option Tmp} {T : TypeId} {pos : String} {af : Array Edge} {gd : Option (Nat × Bool)}
theorem rel_loadF {x : Operand} (b o r : Nat) (hx : a.eval x = .pointer (some ⟨b, o, none⟩)) (hw : Region.wanted ⟨dst, .load 31 x, T, pos, af, gd⟩ (yielded ops a.tmps) = true) (hD : dst ≠ some t)
    (hS : ∀ w, C w → w.cell? ⟨b, 0 + o, none⟩ = some (.float .f64 r)) (k : wpRel Try.prog ops C G (SC C t c) Q rest (a.put dst (.float .f64 r))) : wpRel Try.prog ops C G (SC C t c) Q (⟨dst, .load 31 x, T, pos, af, gd⟩ :: rest) a :=
  rel_val hw hD (fun w hc => by
    have h := hS w hc
    rw [Nat.zero_add] at h
    unfold execOp
    simp only [hx]
    go_simp) k
theorem rel_fop {op : BinOp} (ho : four op = true) {t1 t2 : TypeId} {x y : Operand} {p q : Nat} {A B : Int} (hx : a.eval x = .float .f64 p) (hy : a.eval y = .float .f64 q) (hp : RV p A) (hq : RV q B)
    (hw : Region.wanted ⟨dst, .binOp op t1 x y t2, T, pos, af, gd⟩ (yielded ops a.tmps) = true) (hD : dst ≠ some t) (hC : ∀ w n, C w → C (w.drewN n)) (k : ∀ r, RV r (opP op A B) → wpRel Try.prog ops C G (SC C t c) Q rest (a.put dst (.float .f64 r))) :
    wpRel Try.prog ops C G (SC C t c) Q (⟨dst, .binOp op t1 x y t2, T, pos, af, gd⟩ :: rest) a := by
  refine rel_set (R := fun v => ∃ r, v = .float .f64 r ∧ RV r (opP op A B)) hw (fun w hc => ⟨.float .f64 (fop op p q w), w.drewN (fopN op p q), ?_, ⟨fun h => hC _ _ h, Nat.le_refl _, fun g h => absurd h hD⟩, ⟨_, rfl, RV.fop op hp hq w⟩⟩) (fun v ⟨r, hv, hr⟩ => by subst hv; exact k r hr)
  have h := run_fop (P := Try.prog) op ho t1 p q w
  have hg : eqGuard op t1 x y (.float .f64 p) (.float .f64 q) = pure () := by
    cases op <;> first | rfl | (cases ho)
  unfold execOp
  simp only [hx, hy, hg, Sem.run_bind, Sem.run_pure, Result.andThen_ok, h]
theorem rel_build {parts : List (Nat × Operand)} {ty : TypeId} (vs : List (Nat × Value)) (cells : Array Value) (hv : parts.map (fun p => (p.1, a.eval p.2)) = vs) (hf : Try.prog.built ty vs = some cells)
    (hw : Region.wanted ⟨dst, .build ty parts.toArray, T, pos, af, gd⟩ (yielded ops a.tmps) = true) (hD : dst ≠ some t) (k : wpRel Try.prog ops C G (SC C t c) Q rest (a.put dst (.agg cells))) :
    wpRel Try.prog ops C G (SC C t c) Q (⟨dst, .build ty parts.toArray, T, pos, af, gd⟩ :: rest) a :=
  rel_val hw hD (fun w hc => by
    unfold execOp
    have e : (parts.toArray.map fun (i, x) => (i, a.eval x)).toList = vs := by rw [← hv]; simp
    simp only [Sem.run_bind, run_build w ty _ cells (by rw [e]; exact hf), Result.andThen_ok]
    rfl) k
theorem run_slice1 {P : Program} (w : World) (ty e : TypeId) (s : Nat) (cs : Array Value) (hu : P.underlying ty = some (.slice e)) (hsz : (P.info? e).map (·.size) = some s) (hz : ((P.info? e).bind (·.zero)).isSome = true) (hcs : cs.size = s) (h0 : 0 < s) (hs : s ≤ 2 ^ 24) :
    (Instr.buildSlice ty 1 #[(0, .agg cs)]).run P w = .ok (.slice (some ⟨w.heap.size, 0, none⟩) 1 1) (w.alloc (.cells cs e)) := by
  cases hie : P.info? e with
  | none => simp [hie] at hsz
  | some ie =>
    simp only [hie, Option.map_some, Option.some.injEq, Option.bind_some] at hsz hz
    obtain ⟨z, hzz⟩ := Option.isSome_iff_exists.1 hz
    refine run_buildSlice w ty e 1 #[(0, .agg cs)] cs ie z hu hie hzz (by rw [hsz]; omega) (by rw [hsz]; omega) ?_
    rw [hsz]
    have := Go.Great.fill_whole h0 [Value.agg cs] ((Array.range ([Value.agg cs].length * s)).map (z.cells[· % z.cells.size]!)) (fun v hv => by rw [List.mem_singleton.1 hv]; exact hcs) (by simp)
    rw [show ([Value.agg cs].flatMap fun v => v.cells.toList).toArray = cs by simp [Value.cells]] at this
    exact this
theorem rel_slice1 {t : Nat} {ty e : TypeId} {x : Operand} (s B : Nat) (cs : Array Value) (hx : a.eval x = .agg cs) (hu : Try.prog.underlying ty = some (.slice e)) (hsz : (Try.prog.info? e).map (·.size) = some s) (hz : ((Try.prog.info? e).bind (·.zero)).isSome = true) (hcs : cs.size = s) (h0 : 0 < s) (hs : s ≤ 2 ^ 24)
    (hw : Region.wanted ⟨some t, .buildSlice ty 1 #[(0, x)], T, pos, af, gd⟩ (yielded ops a.tmps) = true) (hC : ∀ w, C w → C (w.alloc (.cells cs e)) ∧ B ≤ w.heap.size)
    (k : ∀ g, B ≤ g → wpRel Try.prog ops C G (SC C t 1) Q rest (a.put (some t) (.slice (some ⟨g, 0, none⟩) 1 1))) : wpRel Try.prog ops C G (SC C t 1) Q (⟨some t, .buildSlice ty 1 #[(0, x)], T, pos, af, gd⟩ :: rest) a :=
  rel_set (R := fun v => ∃ g, v = .slice (some ⟨g, 0, none⟩) 1 1 ∧ B ≤ g) hw (fun w hc => ⟨.slice (some ⟨w.heap.size, 0, none⟩) 1 1, w.alloc (.cells cs e), by
    unfold execOp
    have e1 : (#[(0, x)] : Array (Nat × Operand)).map (fun (i, x) => (i, a.eval x)) = #[(0, .agg cs)] := by simp [hx]
    simp only [e1, Sem.run_bind, run_slice1 w ty e s cs hu hsz hz hcs h0 hs, Result.andThen_ok]
    rfl, ⟨fun h => (hC w h).1, by simp, fun g _ hg => by injection hg with hg; injection hg with hg; injection hg with hg; simp; omega⟩, w.heap.size, rfl, (hC w hc).2⟩) (fun v ⟨g, hv, hB⟩ => by subst hv; exact k g hB)
theorem run_slice2 {P : Program} (w : World) (ty e : TypeId) (u v : Value) (hu : P.underlying ty = some (.slice e)) (hsz : (P.info? e).map (·.size) = some 1) (hz : ((P.info? e).bind (·.zero)).isSome = true) (h1 : u.cells = #[u]) (h2 : v.cells = #[v]) :
    (Instr.buildSlice ty 2 #[(0, u), (1, v)]).run P w = .ok (.slice (some ⟨w.heap.size, 0, none⟩) 2 2) (w.alloc (.cells #[u, v] e)) := by
  cases hie : P.info? e with
  | none => simp [hie] at hsz
  | some ie =>
    simp only [hie, Option.map_some, Option.some.injEq, Option.bind_some] at hsz hz
    obtain ⟨z, hzz⟩ := Option.isSome_iff_exists.1 hz
    refine run_buildSlice w ty e 2 #[(0, u), (1, v)] #[u, v] ie z hu hie hzz (by rw [hsz]; omega) (by rw [hsz]; omega) ?_
    rw [hsz]
    have := Go.Great.fill_whole (s := 1) (by decide) [u, v] ((Array.range ([u, v].length * 1)).map (z.cells[· % z.cells.size]!)) (fun x hx => by
      rcases List.mem_cons.1 hx with rfl | hx
      · rw [h1]; rfl
      · rw [List.mem_singleton.1 hx, h2]; rfl) (by simp)
    rw [show ([u, v].flatMap fun v => v.cells.toList).toArray = #[u, v] by simp [h1, h2]] at this
    exact this
theorem rel_slice2 {t : Nat} {ty e : TypeId} {x y : Operand} (B : Nat) (u v : Value) (hx : a.eval x = u) (hy : a.eval y = v) (hu : Try.prog.underlying ty = some (.slice e)) (hsz : (Try.prog.info? e).map (·.size) = some 1) (hz : ((Try.prog.info? e).bind (·.zero)).isSome = true) (h1 : u.cells = #[u]) (h2 : v.cells = #[v])
    (hw : Region.wanted ⟨some t, .buildSlice ty 2 #[(0, x), (1, y)], T, pos, af, gd⟩ (yielded ops a.tmps) = true) (hC : ∀ w, C w → C (w.alloc (.cells #[u, v] e)) ∧ B ≤ w.heap.size)
    (k : ∀ g, B ≤ g → wpRel Try.prog ops C G (SC C t 2) Q rest (a.put (some t) (.slice (some ⟨g, 0, none⟩) 2 2))) : wpRel Try.prog ops C G (SC C t 2) Q (⟨some t, .buildSlice ty 2 #[(0, x), (1, y)], T, pos, af, gd⟩ :: rest) a :=
  rel_set (R := fun v => ∃ g, v = .slice (some ⟨g, 0, none⟩) 2 2 ∧ B ≤ g) hw (fun w hc => ⟨.slice (some ⟨w.heap.size, 0, none⟩) 2 2, w.alloc (.cells #[u, v] e), by
    unfold execOp
    have e1 : (#[(0, x), (1, y)] : Array (Nat × Operand)).map (fun (i, x) => (i, a.eval x)) = #[(0, u), (1, v)] := by simp [hx, hy]
    simp only [e1, Sem.run_bind, run_slice2 w ty e u v hu hsz hz h1 h2, Result.andThen_ok]
    rfl, ⟨fun h => (hC w h).1, by simp, fun g _ hg => by injection hg with hg; injection hg with hg; injection hg with hg; simp; omega⟩, w.heap.size, rfl, (hC w hc).2⟩) (fun v ⟨g, hv, hB⟩ => by subst hv; exact k g hB)
end
end Go.Proofs.Ytedkbjimofiphaa.RB.RT

namespace Go.Proofs.Ytedkbjimofiphaa
open Go.RowKit Fl
noncomputable def tr9 (n : Nat) : Code := (Try.f9.body.bind (findRegion n)).getD .skip
def GQ (x y : Nat) (f : FuncId) (args : Array Value) (v : Value) : Prop := (f = 29 → v = .agg ((moveL x y 0).map (Value.float .f64)).toArray) ∧
  (f = 28 → ∃ a b os : List Nat, args = #[.agg (a.map (Value.float .f64)).toArray, .agg (b.map (Value.float .f64)).toArray] ∧ v = .agg (os.map (Value.float .f64)).toArray ∧ MU os ∧ ∀ j, j < 16 → mp os j = timesP (mp a) (mp b) j)
theorem GQ.times {x y : Nat} {a b : List Nat} {v : Value} (h : GQ x y 28 #[.agg (a.map (Value.float .f64)).toArray, .agg (b.map (Value.float .f64)).toArray] v) : ∃ os : List Nat, v = .agg (os.map (Value.float .f64)).toArray ∧ MU os ∧ ∀ j, j < 16 → mp os j = timesP (mp a) (mp b) j := by
  obtain ⟨a', b', os, h1, h2, h3, h4⟩ := h.2 rfl
  have e := congrArg Array.toList h1
  simp only [List.cons.injEq, Value.agg.injEq, and_true] at e
  have ea := map_float_inj (by simpa using congrArg Array.toList e.1)
  have eb := map_float_inj (by simpa using congrArg Array.toList e.2)
  subst ea eb
  exact ⟨os, h2, h3, h4⟩
theorem g29 {w0 w : World} (x y : Nat) (h : Below w0.heap.size w0 w) : Calls Try.prog 29 #[.float .f64 x, .float .f64 y, .float .f64 0] w fun e w' => ∃ v, e = .returned v ∧ GQ x y 29 #[.float .f64 x, .float .f64 y, .float .f64 0] v ∧ Below w0.heap.size w0 w' :=
  (k90 x y 0 w).mono fun e w' ⟨he, hb⟩ => ⟨_, he, ⟨fun _ => rfl, fun h => (by cases h)⟩, h.trans (hb.mono h.size)⟩
theorem g28 {w0 w : World} (x y : Nat) {a b : List Nat} (ha : MU a) (hb : MU b) (h : Below w0.heap.size w0 w) : Calls Try.prog 28 #[.agg (a.map (Value.float .f64)).toArray, .agg (b.map (Value.float .f64)).toArray] w
    fun e w' => ∃ v, e = .returned v ∧ GQ x y 28 #[.agg (a.map (Value.float .f64)).toArray, .agg (b.map (Value.float .f64)).toArray] v ∧ Below w0.heap.size w0 w' :=
  (k100 ha hb w).mono fun e w' ⟨⟨os, he, h1, h2⟩, hb⟩ => ⟨_, he, ⟨fun h => (by cases h), fun _ => ⟨a, b, os, rfl, rfl, h1, h2⟩⟩, h.trans (hb.mono h.size)⟩
theorem lk_matA {w : World} {g o : Nat} {l : LK} (h : w.rangeAt g o l.cells) : w.rangeAt g (o + 37) (l.m.map (Value.float .f64)) := fun j v hj => by
  have hl := (List.getElem?_eq_some_iff.1 hj).1
  have := h (37 + j) v (by unfold LK.cells; rw [List.getElem?_append_right (by show 37 ≤ 37 + j; omega), show 37 + j - (lkPre l.o).length = j by show 37 + j - 37 = j; omega, List.getElem?_append_left hl]; exact hj)
  rwa [← Nat.add_assoc] at this
theorem lk_oA {w : World} {g o : Nat} {l : LK} (h : w.rangeAt g o l.cells) : w.cell? ⟨g, o + 2, none⟩ = some (.float .f64 l.o) := h 2 _ rfl
set_option maxRecDepth 100000 in
set_option maxHeartbeats 2000000 in
theorem rreg12 {Q : Exit → Act → World → Prop} (w : World) (rz gl n cl i mz x y : Nat) (mu : List Nat) (l : LK) (u0 u2 u3 u4 u5 u8 u9 u11 u12 u13 u14 u15 u16 u17 u18 u19 u20 u21 u22 u23 u24 u25 u26 u27 u28 u29 u30 u31 u32 u33 u34 u35 u36 u37 u38 u39 u40 u41 u42 u43 u44 u45 u46 u47 u48 u49 u50 u51 u52 u53 u54 u55 u56 u57 u58 u59 u60 u61 u62 u63 u64 u65 u66 u67 u68 u69 u70 u71 u72 u73 u74 u75 u76 : Value) (hu : MU mu) (hl : l.OK) (ux : U x) (uy : U y) (hr : w.rangeAt mz 0 (mu.map (Value.float .f64))) (hr2 : w.rangeAt gl (i * 54) l.cells) (hi : i < n)
    (hx : w.cell? ⟨rz, 0, none⟩ = some (.float .f64 x)) (hy : w.cell? ⟨rz, 1, none⟩ = some (.float .f64 y)) (ht : w.there mz 0 16) (lb : rz < w.heap.size) (ll : gl < w.heap.size) (lm : mz < w.heap.size)
    (hfin : ∀ (v38 v39 v40 v41 v42 v43 v44 v45 v46 v47 v48 v49 v50 : Value) (w' : World) (mf : List Nat), Below w.heap.size w w' → MU mf → (∀ j, j < 16 → mp mf j = timesP (timesP (mp mu) (mp (moveL x y 0))) (mp l.m) j) → Q .normal ⟨List.toArray (u0 :: .slice (some ⟨gl, 0, none⟩) n cl :: u2 :: u3 :: u4 :: u5 :: .int .i64 (i : Int) :: .pointer (some ⟨mz, 0, none⟩) :: u8 :: u9 :: .pointer (some ⟨rz, 0, none⟩) :: u11 :: u12 :: u13 :: u14 :: u15 :: u16 :: u17 :: u18 :: u19 :: u20 :: u21 :: u22 :: u23 :: u24 :: u25 :: u26 :: u27 :: u28 :: u29 :: u30 :: u31 :: u32 :: u33 :: u34 :: u35 :: u36 :: u37 :: v38 :: v39 :: v40 :: v41 :: v42 :: v43 :: v44 :: v45 :: v46 :: v47 :: v48 :: v49 :: v50 :: u51 :: u52 :: u53 :: u54 :: u55 :: u56 :: u57 :: u58 :: u59 :: u60 :: u61 :: u62 :: u63 :: u64 :: u65 :: u66 :: u67 :: u68 :: u69 :: u70 :: u71 :: u72 :: u73 :: u74 :: u75 :: u76 :: []), []⟩ (w'.setCells mz 0 (mf.map (Value.float .f64)))) : Code.wp Try.prog (tr9 12) Q ⟨List.toArray (u0 :: .slice (some ⟨gl, 0, none⟩) n cl :: u2 :: u3 :: u4 :: u5 :: .int .i64 (i : Int) :: .pointer (some ⟨mz, 0, none⟩) :: u8 :: u9 :: .pointer (some ⟨rz, 0, none⟩) :: u11 :: u12 :: u13 :: u14 :: u15 :: u16 :: u17 :: u18 :: u19 :: u20 :: u21 :: u22 :: u23 :: u24 :: u25 :: u26 :: u27 :: u28 :: u29 :: u30 :: u31 :: u32 :: u33 :: u34 :: u35 :: u36 :: u37 :: u38 :: u39 :: u40 :: u41 :: u42 :: u43 :: u44 :: u45 :: u46 :: u47 :: u48 :: u49 :: u50 :: u51 :: u52 :: u53 :: u54 :: u55 :: u56 :: u57 :: u58 :: u59 :: u60 :: u61 :: u62 :: u63 :: u64 :: u65 :: u66 :: u67 :: u68 :: u69 :: u70 :: u71 :: u72 :: u73 :: u74 :: u75 :: u76 :: []), []⟩ w := by
  have HF := Lib.hid hfin
  have R1 := Lib.hid (show ∀ w', Below w.heap.size w w' → w'.rangeAt mz 0 (mu.map (Value.float .f64)) from fun w' hb => range_below hr hb lm)
  have R2 := Lib.hid (show ∀ w', Below w.heap.size w w' → w'.rangeAt gl (i * 54 + 37) (l.m.map (Value.float .f64)) from fun w' hb => range_below (lk_matA hr2) hb ll)
  have CX := Lib.hid (show ∀ w', Below w.heap.size w w' → w'.cell? ⟨rz, 0 + 0, none⟩ = some (.float .f64 x) from fun w' hb => (hb.cell (p := ⟨rz, 0, none⟩) lb).trans hx)
  have CY := Lib.hid (show ∀ w', Below w.heap.size w w' → w'.cell? ⟨rz, 0 + 1, none⟩ = some (.float .f64 y) from fun w' hb => (hb.cell (p := ⟨rz, 1, none⟩) lb).trans hy)
  have TH := Lib.hid (show ∀ w', Below w.heap.size w w' → w'.there mz 0 16 from fun w' hb => there_below ht hb lm)
  have S1 := Lib.hid (size80L mu hu.1)
  have S2 := Lib.hid (size80L l.m hl.m.1)
  have HU := Lib.hid (And.intro hu (And.intro hl.m (moveL_MU ux uy (show U 0 by unfold U; decide))))
  have bi2 : (i : Int) < (n : Int) := by omega
  clear hfin hr hr2 hx hy ht lb ll lm hu hl ux uy
  generalize l.m = ml at *
  generalize hmv : moveL x y 0 = mv at *
  have HMV := Lib.hid hmv
  clear hmv
  conv => arg 2; whnf
  refine wp_region_rel 13 (fun w' => Below w.heap.size w w') (GQ x y) (by kernel_rfl) (by kernel_rfl) ((Below.refl _ _).drew) ?_
  simp only [List.take_succ_cons, List.take_zero, List.drop_succ_cons, List.drop_zero]
  refine rel_load_row mz 0 (mu.map (Value.float .f64)) _ rfl rfl R1.out Try.underlying44 rfl S1.out ?_
  simp only [Act.put, List.setIfInBounds_toArray, List.set_cons_succ, List.set_cons_zero]
  refine rel_val (v := .pointer (some ⟨rz, 0, none⟩)) rfl (fun w' hw => by go_simp) ?_
  simp only [Act.put, List.setIfInBounds_toArray, List.set_cons_succ, List.set_cons_zero]
  refine rel_loadF rz 0 x rfl rfl CX.out ?_
  simp only [Act.put, List.setIfInBounds_toArray, List.set_cons_succ, List.set_cons_zero]
  refine rel_val (v := .pointer (some ⟨rz, 1, none⟩)) rfl (fun w' hw => by go_simp) ?_
  simp only [Act.put, List.setIfInBounds_toArray, List.set_cons_succ, List.set_cons_zero]
  refine rel_loadF rz 1 y rfl rfl CY.out ?_
  simp only [Act.put, List.setIfInBounds_toArray, List.set_cons_succ, List.set_cons_zero]
  refine rel_call (f := 29) (args := #[.float .f64 x, .float .f64 y, .float .f64 0]) rfl (fun w' hw => by go_simp) (fun w' hw => g29 x y hw) (fun v hv => ?_)
  obtain rfl := hv.1 rfl
  rw [HMV.out]
  simp only [Act.put, List.setIfInBounds_toArray, List.set_cons_succ, List.set_cons_zero]
  refine rel_call (f := 28) (args := #[.agg (mu.map (Value.float .f64)).toArray, .agg (mv.map (Value.float .f64)).toArray]) rfl (fun w' hw => by go_simp) (fun w' hw => g28 x y HU.out.1 HU.out.2.2 hw) (fun v hv => ?_)
  obtain ⟨m1, rfl, u1, e1⟩ := hv.times
  simp only [Act.put, List.setIfInBounds_toArray, List.set_cons_succ, List.set_cons_zero]
  refine rel_move (v := .slice (some ⟨gl, 0, none⟩) n cl) rfl rfl ?_
  simp only [Act.put, List.setIfInBounds_toArray, List.set_cons_succ, List.set_cons_zero]
  refine rel_move (v := .int .i64 (i : Int)) rfl rfl ?_
  simp only [Act.put, List.setIfInBounds_toArray, List.set_cons_succ, List.set_cons_zero]
  refine rel_val (v := .pointer (some ⟨gl, i * 54, none⟩)) rfl (fun w' hw => by go_simp) ?_
  simp only [Act.put, List.setIfInBounds_toArray, List.set_cons_succ, List.set_cons_zero]
  refine rel_val (v := .pointer (some ⟨gl, i * 54 + 37, none⟩)) rfl (fun w' hw => by go_simp) ?_
  simp only [Act.put, List.setIfInBounds_toArray, List.set_cons_succ, List.set_cons_zero]
  refine rel_load_row gl (i * 54 + 37) (ml.map (Value.float .f64)) _ rfl rfl R2.out Try.underlying44 rfl S2.out ?_
  simp only [Act.put, List.setIfInBounds_toArray, List.set_cons_succ, List.set_cons_zero]
  refine rel_call (f := 28) (args := #[.agg (m1.map (Value.float .f64)).toArray, .agg (ml.map (Value.float .f64)).toArray]) rfl (fun w' hw => by go_simp) (fun w' hw => g28 x y u1 HU.out.2.1 hw) (fun v hv => ?_)
  obtain ⟨mf, rfl, u2, e2⟩ := hv.times
  simp only [Act.put, List.setIfInBounds_toArray, List.set_cons_succ, List.set_cons_zero]
  refine rel_nil ?_
  intro w' hw
  have E := Lib.hid (show ∀ j, j < 16 → mp mf j = timesP (timesP (mp mu) (mp mv)) (mp ml) j from fun j hj => (e2 j hj).trans (timesP_congr e1 (fun _ _ => rfl) hj))
  have T2 := Lib.hid (show w'.there mz 0 (mf.map (Value.float .f64)).toArray.size by rw [List.size_toArray, List.length_map, u2.1]; exact TH.out w' hw)
  have S3 := Lib.hid (size80A mf u2.1)
  have UM := Lib.hid u2
  have HW := Lib.hid hw
  clear e1 e2 u1 u2 hw hv
  go_wp2_with (refine wpList_store_mid rfl 44 (.tmp 7) (.tmp 50) rfl mz 0 (mf.map (Value.float .f64)).toArray rfl rfl T2.out S3.out (one16 mf) ?_)
  exact HF.out _ _ _ _ _ _ _ _ _ _ _ _ _ _ mf HW.out UM.out E.out
theorem hd_range {w : World} {g o : Nat} {b : BX} (h : w.rangeAt g o b.cells) : w.rangeAt g o [.int .u32 (b.sl : Int), .int .u32 (b.gn : Int)] := fun j v hj => h j v (by
  match j, hj with
  | 0, hj => exact hj
  | 1, hj => exact hj)
/-- all new blocks hold one of R -/
def NB (R : List Value → Prop) (w w' : World) : Prop := Below w.heap.size w w' ∧ ∀ g, w.heap.size ≤ g → g < w'.heap.size → ∃ cs, R cs ∧ w'.rangeAt g 0 cs
theorem NB.start (R : List Value → Prop) (w : World) : NB R w { w with drawn := w.drawn + 1 } := ⟨(Below.refl _ _).drew, fun g h1 h2 => absurd h1 (Nat.not_le.2 h2)⟩
theorem NB.drew {R : List Value → Prop} {w w' : World} (n : Nat) (h : NB R w w') : NB R w (w'.drewN n) := ⟨below_drewN h.1, fun g h1 h2 => by
  obtain ⟨cs, hc, hr⟩ := h.2 g h1 h2
  exact ⟨cs, hc, hr⟩⟩
theorem NB.alloc {R : List Value → Prop} {w w' : World} (h : NB R w w') (cs : List Value) (e : TypeId) (hc : R cs) : NB R w (w'.alloc (.cells cs.toArray e)) := ⟨h.1.alloc h.1.size _, fun g h1 h2 => by
  rw [World.size_alloc] at h2
  rcases Nat.lt_or_ge g w'.heap.size with h3 | h3
  · obtain ⟨cs, hc, hr⟩ := h.2 g h1 h3
    exact ⟨cs, hc, range_below hr ((Below.refl w'.heap.size w').alloc (Nat.le_refl _) _) h3⟩
  · have e : g = w'.heap.size := by omega
    subst e
    refine ⟨cs, hc, fun j v hj => ?_⟩
    rw [Nat.zero_add, World.cell?_alloc_new]
    simpa using hj⟩
set_option maxRecDepth 100000 in
set_option maxHeartbeats 2000000 in
theorem rreg13 {Q : Exit → Act → World → Prop} (w : World) (rz gb gl n cb cl i mz ow base m cv : Nat) (pv : Option Addr) (xs : List Value) (ms : List Nat) (b : BX) (l : LK) (u2 u3 u4 u9 u11 u12 u13 u14 u15 u16 u17 u18 u19 u20 u21 u22 u23 u24 u25 u26 u27 u28 u29 u30 u31 u32 u33 u34 u35 u36 u37 u38 u39 u40 u41 u42 u43 u44 u45 u46 u47 u48 u49 u50 u51 u52 u53 u54 u55 u56 u57 u58 u59 u60 u61 u62 u63 u64 u65 u66 u67 u68 u69 u70 u71 u72 u73 u74 u75 u76 : Value) (hst : ∀ g, u71 = .slice (some ⟨g, 0, none⟩) 1 1 → g < w.heap.size) (hm : MU ms) (hl : l.OK) (uo : U ow) (hr : w.rangeAt mz 0 (ms.map (Value.float .f64))) (hr2 : w.rangeAt gl (i * 54) l.cells) (hr3 : w.rangeAt gb (i * 7) b.cells) (hi : i < n)
    (hx : w.cell? ⟨rz, 2, none⟩ = some (.float .f64 b.w)) (hy : w.cell? ⟨rz, 3, none⟩ = some (.float .f64 b.h)) (lb : rz < w.heap.size) (ll : gl < w.heap.size) (lm : mz < w.heap.size) (lg : gb < w.heap.size)
    (hown : w.ownsRow base 60 23 (.slice pv m cv) m xs) (hbase : base ≤ w.heap.size) (hm1 : m < 1048576)
    (hfin : ∀ (v51 v52 v53 v54 v55 v56 v57 v58 v59 v60 v61 v62 v63 v64 v65 v66 v67 v68 v69 v70 v72 v' : Value) (w1 w' : World) (r g : Nat), Below w.heap.size w w1 → U r → pl r = opP .mul (pl ow) (pl l.o) → w'.ownsRow base 60 23 v' (m + 1) (xs ++ itCells b ms r) → w1.grownBy w' (.slice pv m cv : Value).ownBlock → g < w'.heap.size → Q .normal ⟨List.toArray (.slice (some ⟨gb, 0, none⟩) n cb :: .slice (some ⟨gl, 0, none⟩) n cl :: u2 :: u3 :: u4 :: v' :: .int .i64 (i : Int) :: .pointer (some ⟨mz, 0, none⟩) :: .float .f64 ow :: u9 :: .pointer (some ⟨rz, 0, none⟩) :: u11 :: u12 :: u13 :: u14 :: u15 :: u16 :: u17 :: u18 :: u19 :: u20 :: u21 :: u22 :: u23 :: u24 :: u25 :: u26 :: u27 :: u28 :: u29 :: u30 :: u31 :: u32 :: u33 :: u34 :: u35 :: u36 :: u37 :: u38 :: u39 :: u40 :: u41 :: u42 :: u43 :: u44 :: u45 :: u46 :: u47 :: u48 :: u49 :: u50 :: v51 :: v52 :: v53 :: v54 :: v55 :: v56 :: v57 :: v58 :: v59 :: v60 :: v61 :: v62 :: v63 :: v64 :: v65 :: v66 :: v67 :: v68 :: v69 :: v70 :: .slice (some ⟨g, 0, none⟩) 1 1 :: v72 :: u73 :: u74 :: u75 :: u76 :: []), []⟩ w') : Code.wp Try.prog (tr9 13) Q ⟨List.toArray (.slice (some ⟨gb, 0, none⟩) n cb :: .slice (some ⟨gl, 0, none⟩) n cl :: u2 :: u3 :: u4 :: .slice pv m cv :: .int .i64 (i : Int) :: .pointer (some ⟨mz, 0, none⟩) :: .float .f64 ow :: u9 :: .pointer (some ⟨rz, 0, none⟩) :: u11 :: u12 :: u13 :: u14 :: u15 :: u16 :: u17 :: u18 :: u19 :: u20 :: u21 :: u22 :: u23 :: u24 :: u25 :: u26 :: u27 :: u28 :: u29 :: u30 :: u31 :: u32 :: u33 :: u34 :: u35 :: u36 :: u37 :: u38 :: u39 :: u40 :: u41 :: u42 :: u43 :: u44 :: u45 :: u46 :: u47 :: u48 :: u49 :: u50 :: u51 :: u52 :: u53 :: u54 :: u55 :: u56 :: u57 :: u58 :: u59 :: u60 :: u61 :: u62 :: u63 :: u64 :: u65 :: u66 :: u67 :: u68 :: u69 :: u70 :: u71 :: u72 :: u73 :: u74 :: u75 :: u76 :: []), []⟩ w := by
  have HF := Lib.hid hfin
  obtain ⟨R, hR⟩ : ∃ R : List Value → Prop, R = fun cs => ∃ r, RV r (opP .mul (pl ow) (pl l.o)) ∧ cs = itCells b ms r := ⟨_, rfl⟩
  have HR := Lib.hid hR
  have R1 := Lib.hid (show ∀ w', NB R w w' → w'.rangeAt mz 0 (ms.map (Value.float .f64)) from fun w' hb => range_below hr hb.1 lm)
  have R2 := Lib.hid (show ∀ w', NB R w w' → w'.cell? ⟨gl, 0 + (i * 54 + 2), none⟩ = some (.float .f64 l.o) from fun w' hb => by rw [Nat.zero_add]; exact (hb.1.cell (p := ⟨gl, i * 54 + 2, none⟩) ll).trans (lk_oA hr2))
  have R3 := Lib.hid (show ∀ w', NB R w w' → w'.rangeAt gb (i * 7) [.int .u32 (b.sl : Int), .int .u32 (b.gn : Int)] from fun w' hb2 => range_below (hd_range hr3) hb2.1 lg)
  have CX := Lib.hid (show ∀ w', NB R w w' → w'.cell? ⟨rz, 0 + 2, none⟩ = some (.float .f64 b.w) from fun w' hb => (hb.1.cell (p := ⟨rz, 2, none⟩) lb).trans hx)
  have CY := Lib.hid (show ∀ w', NB R w w' → w'.cell? ⟨rz, 0 + 3, none⟩ = some (.float .f64 b.h) from fun w' hb => (hb.1.cell (p := ⟨rz, 3, none⟩) lb).trans hy)
  have S1 := Lib.hid (size80L ms hm.1)
  have HM := Lib.hid (And.intro hm (And.intro uo hl.o))
  have bi2 : (i : Int) < (n : Int) := by omega
  have HO := Lib.hid (show ∀ w', NB R w w' → w'.ownsRow base 60 23 (.slice pv m cv) m xs ∧ base ≤ w'.heap.size from fun w' hb => ⟨owned_at hown fun k _ hl => hb.1.block k hl, Nat.le_trans hbase hb.1.size⟩)
  have HS := Lib.hid hst
  obtain ⟨i6, hi60, hz1, hz2⟩ : ∃ i0, Try.prog.info? 60 = some i0 ∧ i0.size = 23 ∧ i0.bytes = 176 := by
    have h := info60
    cases hx : Try.prog.info? 60 with
    | none => rw [hx] at h; cases h
    | some i0 => rw [hx] at h; simp at h; exact ⟨i0, rfl, h.1, h.2⟩
  obtain ⟨z6, hz0, hz3⟩ : ∃ z, i6.zero = some z ∧ z.cells.size = 23 := by
    have h := zero60
    rw [hi60, Option.bind_some] at h
    cases hx : i6.zero with
    | none => rw [hx] at h; cases h
    | some z => rw [hx] at h; exact ⟨z, rfl, by simpa using h⟩
  have H6 := Lib.hid (And.intro hi60 (And.intro hz0 (And.intro hz1 (And.intro hz2 hz3))))
  have CSZ := Lib.hid (show ((Try.prog.info? 60).map (·.size) = some 23) ∧ (((Try.prog.info? 60).bind (·.zero)).isSome = true) by rw [H6.out.1]; exact ⟨congrArg some H6.out.2.2.1, by rw [Option.bind_some, H6.out.2.1]; rfl⟩)
  clear hfin hr hr2 hr3 hx hy lb ll lm lg hm hl uo hown hbase hi60 hz0 hz1 hz2 hz3 hst hR
  conv => arg 2; whnf
  refine RB.RT.wp_region_slot 21 (fun w' => NB R w w') 71 1 (fun _ _ _ => False) (by kernel_rfl) (by kernel_rfl) (NB.start R w) (fun g hg => HS.out g hg) ?_
  simp only [List.take_succ_cons, List.take_zero, List.drop_succ_cons, List.drop_zero]
  refine RB.RT.rel_move (v := .slice pv m cv) rfl rfl (by decide) ?_
  simp only [Act.put, List.setIfInBounds_toArray, List.set_cons_succ, List.set_cons_zero]
  refine RB.RT.rel_move (v := .slice (some ⟨gb, 0, none⟩) n cb) rfl rfl (by decide) ?_
  simp only [Act.put, List.setIfInBounds_toArray, List.set_cons_succ, List.set_cons_zero]
  refine RB.RT.rel_move (v := .int .i64 (i : Int)) rfl rfl (by decide) ?_
  simp only [Act.put, List.setIfInBounds_toArray, List.set_cons_succ, List.set_cons_zero]
  refine RB.RT.rel_val (v := .pointer (some ⟨gb, i * 7, none⟩)) rfl (by decide) (fun w' hw => by go_simp) ?_
  simp only [Act.put, List.setIfInBounds_toArray, List.set_cons_succ, List.set_cons_zero]
  refine RB.RT.rel_val (v := .pointer (some ⟨gb, i * 7, none⟩)) rfl (by decide) (fun w' hw => by go_simp) ?_
  simp only [Act.put, List.setIfInBounds_toArray, List.set_cons_succ, List.set_cons_zero]
  refine RB.RT.rel_load_row gb (i * 7) [.int .u32 (b.sl : Int), .int .u32 (b.gn : Int)] _ rfl rfl (by decide) R3.out Try.underlying30 rfl sz30 ?_
  simp only [Act.put, List.setIfInBounds_toArray, List.set_cons_succ, List.set_cons_zero]
  refine RB.RT.rel_val (v := .pointer (some ⟨rz, 2, none⟩)) rfl (by decide) (fun w' hw => by go_simp) ?_
  simp only [Act.put, List.setIfInBounds_toArray, List.set_cons_succ, List.set_cons_zero]
  refine RB.RT.rel_loadF rz 2 b.w rfl rfl (by decide) CX.out ?_
  simp only [Act.put, List.setIfInBounds_toArray, List.set_cons_succ, List.set_cons_zero]
  refine RB.RT.rel_val (v := .pointer (some ⟨rz, 3, none⟩)) rfl (by decide) (fun w' hw => by go_simp) ?_
  simp only [Act.put, List.setIfInBounds_toArray, List.set_cons_succ, List.set_cons_zero]
  refine RB.RT.rel_loadF rz 3 b.h rfl rfl (by decide) CY.out ?_
  simp only [Act.put, List.setIfInBounds_toArray, List.set_cons_succ, List.set_cons_zero]
  refine RB.RT.rel_val (v := .agg #[.float .f64 0, .float .f64 0, .float .f64 b.w, .float .f64 b.h]) rfl (by decide) (fun w' hw => by kernel_rfl) ?_
  simp only [Act.put, List.setIfInBounds_toArray, List.set_cons_succ, List.set_cons_zero]
  refine RB.RT.rel_load_row mz 0 (ms.map (Value.float .f64)) _ rfl rfl (by decide) R1.out Try.underlying44 rfl S1.out ?_
  simp only [Act.put, List.setIfInBounds_toArray, List.set_cons_succ, List.set_cons_zero]
  refine RB.RT.rel_move (v := .float .f64 ow) rfl rfl (by decide) ?_
  simp only [Act.put, List.setIfInBounds_toArray, List.set_cons_succ, List.set_cons_zero]
  refine RB.RT.rel_move (v := .slice (some ⟨gl, 0, none⟩) n cl) rfl rfl (by decide) ?_
  simp only [Act.put, List.setIfInBounds_toArray, List.set_cons_succ, List.set_cons_zero]
  refine RB.RT.rel_move (v := .int .i64 (i : Int)) rfl rfl (by decide) ?_
  simp only [Act.put, List.setIfInBounds_toArray, List.set_cons_succ, List.set_cons_zero]
  refine RB.RT.rel_val (v := .pointer (some ⟨gl, i * 54, none⟩)) rfl (by decide) (fun w' hw => by go_simp) ?_
  simp only [Act.put, List.setIfInBounds_toArray, List.set_cons_succ, List.set_cons_zero]
  refine RB.RT.rel_val (v := .pointer (some ⟨gl, i * 54 + 2, none⟩)) rfl (by decide) (fun w' hw => by go_simp) ?_
  simp only [Act.put, List.setIfInBounds_toArray, List.set_cons_succ, List.set_cons_zero]
  refine RB.RT.rel_loadF gl (i * 54 + 2) l.o rfl rfl (by decide) R2.out ?_
  simp only [Act.put, List.setIfInBounds_toArray, List.set_cons_succ, List.set_cons_zero]
  refine RB.RT.rel_fop (op := .mul) rfl rfl rfl (RV.self HM.out.2.1) (RV.self HM.out.2.2) rfl (by decide) (fun w' k h => h.drew k) (fun r hr => ?_)
  simp only [Act.put, List.setIfInBounds_toArray, List.set_cons_succ, List.set_cons_zero]
  have LI := Lib.hid (it_len (b := b) (o := r) HM.out.1)
  refine RB.RT.rel_build (parts := [(0, .tmp 56), (1, .tmp 61), (2, .tmp 62), (3, .tmp 69)]) [(0, .agg #[.int .u32 (b.sl : Int), .int .u32 (b.gn : Int)]), (1, .agg #[.float .f64 0, .float .f64 0, .float .f64 b.w, .float .f64 b.h]), (2, .agg (ms.map (Value.float .f64)).toArray), (3, .float .f64 r)] (itCells b ms r).toArray rfl (built60 b r ms HM.out.1.1) rfl (by decide) ?_
  simp only [Act.put, List.setIfInBounds_toArray, List.set_cons_succ, List.set_cons_zero]
  refine RB.RT.rel_slice1 23 w.heap.size (itCells b ms r).toArray rfl Try.underlying36 CSZ.out.1 CSZ.out.2 (by rw [List.size_toArray]; exact LI.out) (by decide) (by decide) rfl (fun w' h => ⟨h.alloc _ 60 (by rw [HR.out]; exact ⟨r, hr, rfl⟩), h.1.size⟩) (fun g hg => ?_)
  simp only [Act.put, List.setIfInBounds_toArray, List.set_cons_succ, List.set_cons_zero]
  refine RB.RT.rel_nil ?_
  intro w' hw hic
  obtain ⟨cs, hcs, hrg⟩ := hw.2 g hg (hic g rfl)
  rw [HR.out] at hcs
  obtain ⟨r2, hr2, rfl⟩ := hcs
  have HG := Lib.hid (hic g rfl)
  have HW := Lib.hid hw.1
  have HR2 := Lib.hid hr2
  have NC := Lib.hid (show ∀ j u, (itCells b ms r2)[j]? = some u → w'.cell? ((⟨g, 0, none⟩ : Addr).add j) = some u from fun j u hj => by rw [Addr.add_lit]; exact hrg j u hj)
  have LI2 := Lib.hid (it_len (b := b) (o := r2) HM.out.1)
  have OA := Lib.hid (HO.out w' hw)
  have O1 := Lib.hid (it_one b ms r2)
  clear hrg hr2 hr hic hw
  go_wp2_with (at_builtin; refine wpList_append_strong rfl _ _ 36 rfl base 60 i6 z6 23 176 Try.underlying36 H6.out.1 H6.out.2.1 H6.out.2.2.1 H6.out.2.2.2.1 H6.out.2.2.2.2 (by decide) _ _ _ rfl OA.out.1 ⟨g, 0, none⟩ 1 1 (itCells b ms r2) rfl ?c0 NC.out ?c2 ?c3 ?c4 ?c5 (by decide) ?_)
  case c0 => rw [LI2.out]
  case c2 => exact O1.out
  case c3 => unfold maxLen; omega
  case c4 => omega
  case c5 => exact OA.out.2
  intro v3 w3 hown3 hgrow hblk
  have H3 := Lib.hid (And.intro hown3 hgrow)
  have hlt := Nat.lt_of_lt_of_le HG.out hgrow.size
  have HLT := Lib.hid hlt
  clear hown3 hgrow hblk hlt
  go_wp2
  exact HF.out _ _ _ _ _ _ _ _ _ _ _ _ _ _ _ _ _ _ _ _ _ v3 w' w3 r2 g HW.out HR2.out.1 HR2.out.2 H3.out.1 H3.out.2 HLT.out
end Go.Proofs.Ytedkbjimofiphaa
