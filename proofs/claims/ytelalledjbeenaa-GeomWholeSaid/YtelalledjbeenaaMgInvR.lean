/- A region of many loads and calls, walked with its frame unsaid: what each step leaves, slot by slot. A quick check that a region's operations may be walked in the text's order: for regions of hundreds of operations. -/
import Derived.Test.YtelalledjbeenaaInvA
import Derived.Test.YtelalledjbeenaaGeoY
import Derived.Test.YtelalledjbeenaaRelS
namespace Go.Proofs.Ytelalledjbeenaa
open Go.RowKit Fl

/-- a frame that is another one's but for slots from lo on -/
structure Ext (a a' : Act) (lo : Nat) : Prop where
  size : a'.tmps.size = a.tmps.size
  defers : a'.defers = a.defers
  low : ∀ t, t < lo → a'.tmps.getD t undef = a.tmps.getD t undef
theorem Ext.refl (a : Act) (lo : Nat) : Ext a a lo := ⟨rfl, rfl, fun _ _ => rfl⟩
theorem Ext.trans {a b c : Act} {l m : Nat} (h : Ext a b l) (k : Ext b c m) (hl : l ≤ m) : Ext a c l := ⟨k.size.trans h.size, k.defers.trans h.defers, fun t ht => (k.low t (by omega)).trans (h.low t ht)⟩
theorem Ext.put {a : Act} {lo d : Nat} (h : lo ≤ d) (v : Value) : Ext a (a.put (some d) v) lo :=
  ⟨by unfold Act.put; simp, rfl, fun t ht => RB.put_other a (by omega) v⟩
theorem at_put {a : Act} {d : Nat} (h : d < a.tmps.size) (v : Value) : (a.put (some d) v).tmps.getD d undef = v := by
  unfold Act.put
  simp only [Array.getD_eq_getD_getElem?, Array.getElem?_setIfInBounds]
  simp [h]
section
variable {ops : Array Oper} {C : World → Prop} {G : FuncId → Array Value → Value → Prop} {D : Nat → Option Nat} {Q : Act → Prop} {rest : List Oper} {a : Act}
theorem ix80 {d base i b : Nat} {z : Int} {T : TypeId} {pos : String} {af : Array Edge} (hb : a.tmps.getD base undef = .pointer (some ⟨b, 0, none⟩)) (hz : z = (i : Int)) (hi : i < 16) (hd : D d = none)
    (k : RB.wpRel Try.prog ops C G (RB.SA D) Q rest (a.put (some d) (.pointer (some ⟨b, i, none⟩)))) : RB.wpRel Try.prog ops C G (RB.SA D) Q (⟨some d, .indexAddr 80 (.tmp base) (.const (.int .i64 z)), T, pos, af, none⟩ :: rest) a := by
  subst hz
  have h1 : (i : Int) < 16 := by omega
  have h2 : (0 : Int) ≤ (i : Int) := by omega
  have hx : a.eval (.tmp base) = .pointer (some ⟨b, 0, none⟩) := hb
  exact RB.rel_val rfl hd (fun w hc => by
    unfold execOp
    simp only [hx, show a.eval (.const (.int .i64 (i : Int))) = .int .i64 (i : Int) from rfl]
    go_simp) k
theorem ix152 {d base i b : Nat} {z : Int} {T : TypeId} {pos : String} {af : Array Edge} (hb : a.tmps.getD base undef = .pointer (some ⟨b, 0, none⟩)) (hz : z = (i : Int)) (hi : i < 6) (hd : D d = none)
    (k : RB.wpRel Try.prog ops C G (RB.SA D) Q rest (a.put (some d) (.pointer (some ⟨b, i, none⟩)))) : RB.wpRel Try.prog ops C G (RB.SA D) Q (⟨some d, .indexAddr 152 (.tmp base) (.const (.int .i64 z)), T, pos, af, none⟩ :: rest) a := by
  subst hz
  have h1 : (i : Int) < 6 := by omega
  have h2 : (0 : Int) ≤ (i : Int) := by omega
  have hx : a.eval (.tmp base) = .pointer (some ⟨b, 0, none⟩) := hb
  exact RB.rel_val rfl hd (fun w hc => by
    unfold execOp
    simp only [hx, show a.eval (.const (.int .i64 (i : Int))) = .int .i64 (i : Int) from rfl]
    go_simp) k
theorem pair80 {d base i b r : Nat} {z : Int} {T T' : TypeId} {pos pos' : String} {af af' : Array Edge} (hb : a.tmps.getD base undef = .pointer (some ⟨b, 0, none⟩)) (hz : z = (i : Int)) (hi : i < 16) (hD : ∀ t, d ≤ t → t < d + 2 → D t = none)
    (hs : d + 1 < a.tmps.size) (hS : ∀ w, C w → w.cell? ⟨b, 0 + i, none⟩ = some (.float .f64 r))
    (k : ∀ a', Ext a a' d → a'.tmps.getD (d + 1) undef = .float .f64 r → RB.wpRel Try.prog ops C G (RB.SA D) Q rest a') :
    RB.wpRel Try.prog ops C G (RB.SA D) Q (⟨some d, .indexAddr 80 (.tmp base) (.const (.int .i64 z)), T, pos, af, none⟩ :: ⟨some (d + 1), .load 24 (.tmp d), T', pos', af', none⟩ :: rest) a := by
  refine ix80 hb hz hi (hD d (Nat.le_refl _) (by omega)) ?_
  refine RB.rel_loadF b i r (at_put (by omega) _) rfl (hD (d + 1) (by omega) (by omega)) hS ?_
  refine k _ ((Ext.put (Nat.le_refl d) _).trans (Ext.put (Nat.le_refl _) _) (by omega)) (at_put ?_ _)
  rw [(Ext.put (Nat.le_refl d) _).size]; omega
theorem pair152 {d base i b r : Nat} {z : Int} {T T' : TypeId} {pos pos' : String} {af af' : Array Edge} (hb : a.tmps.getD base undef = .pointer (some ⟨b, 0, none⟩)) (hz : z = (i : Int)) (hi : i < 6) (hD : ∀ t, d ≤ t → t < d + 2 → D t = none)
    (hs : d + 1 < a.tmps.size) (hS : ∀ w, C w → w.cell? ⟨b, 0 + i, none⟩ = some (.float .f64 r))
    (k : ∀ a', Ext a a' d → a'.tmps.getD (d + 1) undef = .float .f64 r → RB.wpRel Try.prog ops C G (RB.SA D) Q rest a') :
    RB.wpRel Try.prog ops C G (RB.SA D) Q (⟨some d, .indexAddr 152 (.tmp base) (.const (.int .i64 z)), T, pos, af, none⟩ :: ⟨some (d + 1), .load 24 (.tmp d), T', pos', af', none⟩ :: rest) a := by
  refine ix152 hb hz hi (hD d (Nat.le_refl _) (by omega)) ?_
  refine RB.rel_loadF b i r (at_put (by omega) _) rfl (hD (d + 1) (by omega) (by omega)) hS ?_
  refine k _ ((Ext.put (Nat.le_refl d) _).trans (Ext.put (Nat.le_refl _) _) (by omega)) (at_put ?_ _)
  rw [(Ext.put (Nat.le_refl d) _).size]; omega
/-- six loads, in turn out of the matrix and out of minors -/
theorem pairs6 {s bb bm bq i0 j0 i1 j1 i2 j2 x0 y0 x1 y1 x2 y2 : Nat} {z0 u0 z1 u1 z2 u2 : Int} {T0 T1 T2 T3 T4 T5 T6 T7 T8 T9 T10 T11 : TypeId} {p0 p1 p2 p3 p4 p5 p6 p7 p8 p9 p10 p11 : String} {f0 f1 f2 f3 f4 f5 f6 f7 f8 f9 f10 f11 : Array Edge}
    (hm : a.tmps.getD 1 undef = .pointer (some ⟨bm, 0, none⟩)) (hq : a.tmps.getD bb undef = .pointer (some ⟨bq, 0, none⟩)) (h1 : 1 < s) (hbb : bb < s) (hs : s + 11 < a.tmps.size) (hD : ∀ t, s ≤ t → t < s + 12 → D t = none)
    (e0 : z0 = (i0 : Int) ∧ i0 < 16) (e1 : u0 = (j0 : Int) ∧ j0 < 6) (e2 : z1 = (i1 : Int) ∧ i1 < 16) (e3 : u1 = (j1 : Int) ∧ j1 < 6) (e4 : z2 = (i2 : Int) ∧ i2 < 16) (e5 : u2 = (j2 : Int) ∧ j2 < 6)
    (c0 : ∀ w, C w → w.cell? ⟨bm, 0 + i0, none⟩ = some (.float .f64 x0)) (c1 : ∀ w, C w → w.cell? ⟨bq, 0 + j0, none⟩ = some (.float .f64 y0))
    (c2 : ∀ w, C w → w.cell? ⟨bm, 0 + i1, none⟩ = some (.float .f64 x1)) (c3 : ∀ w, C w → w.cell? ⟨bq, 0 + j1, none⟩ = some (.float .f64 y1))
    (c4 : ∀ w, C w → w.cell? ⟨bm, 0 + i2, none⟩ = some (.float .f64 x2)) (c5 : ∀ w, C w → w.cell? ⟨bq, 0 + j2, none⟩ = some (.float .f64 y2))
    (k : ∀ a', Ext a a' s → a'.tmps.getD (s + 1) undef = .float .f64 x0 → a'.tmps.getD (s + 3) undef = .float .f64 y0 → a'.tmps.getD (s + 5) undef = .float .f64 x1 → a'.tmps.getD (s + 7) undef = .float .f64 y1 → a'.tmps.getD (s + 9) undef = .float .f64 x2 → a'.tmps.getD (s + 11) undef = .float .f64 y2 →
      RB.wpRel Try.prog ops C G (RB.SA D) Q rest a') :
    RB.wpRel Try.prog ops C G (RB.SA D) Q (⟨some s, .indexAddr 80 (.tmp 1) (.const (.int .i64 z0)), T0, p0, f0, none⟩ :: ⟨some (s + 1), .load 24 (.tmp s), T1, p1, f1, none⟩ ::
      ⟨some (s + 2), .indexAddr 152 (.tmp bb) (.const (.int .i64 u0)), T2, p2, f2, none⟩ :: ⟨some (s + 3), .load 24 (.tmp (s + 2)), T3, p3, f3, none⟩ ::
      ⟨some (s + 4), .indexAddr 80 (.tmp 1) (.const (.int .i64 z1)), T4, p4, f4, none⟩ :: ⟨some (s + 5), .load 24 (.tmp (s + 4)), T5, p5, f5, none⟩ ::
      ⟨some (s + 6), .indexAddr 152 (.tmp bb) (.const (.int .i64 u1)), T6, p6, f6, none⟩ :: ⟨some (s + 7), .load 24 (.tmp (s + 6)), T7, p7, f7, none⟩ ::
      ⟨some (s + 8), .indexAddr 80 (.tmp 1) (.const (.int .i64 z2)), T8, p8, f8, none⟩ :: ⟨some (s + 9), .load 24 (.tmp (s + 8)), T9, p9, f9, none⟩ ::
      ⟨some (s + 10), .indexAddr 152 (.tmp bb) (.const (.int .i64 u2)), T10, p10, f10, none⟩ :: ⟨some (s + 11), .load 24 (.tmp (s + 10)), T11, p11, f11, none⟩ :: rest) a := by
  refine pair80 hm e0.1 e0.2 (fun t h h' => hD t (by omega) (by omega)) (by omega) c0 (fun a1 E1 v1 => ?_)
  have z1' := E1.size
  refine pair152 (d := s + 2) ((E1.low bb hbb).trans hq) e1.1 e1.2 (fun t h h' => hD t (by omega) (by omega)) (by omega) c1 (fun a2 E2 v2 => ?_)
  have z2' := E2.size
  have F2 := E1.trans E2 (by omega)
  refine pair80 (d := s + 4) ((F2.low 1 h1).trans hm) e2.1 e2.2 (fun t h h' => hD t (by omega) (by omega)) (by omega) c2 (fun a3 E3 v3 => ?_)
  have z3' := E3.size
  have F3 := F2.trans E3 (by omega)
  refine pair152 (d := s + 6) ((F3.low bb hbb).trans hq) e3.1 e3.2 (fun t h h' => hD t (by omega) (by omega)) (by omega) c3 (fun a4 E4 v4 => ?_)
  have z4' := E4.size
  have F4 := F3.trans E4 (by omega)
  refine pair80 (d := s + 8) ((F4.low 1 h1).trans hm) e4.1 e4.2 (fun t h h' => hD t (by omega) (by omega)) (by omega) c4 (fun a5 E5 v5 => ?_)
  have z5' := E5.size
  have F5 := F4.trans E5 (by omega)
  refine pair152 (d := s + 10) ((F5.low bb hbb).trans hq) e5.1 e5.2 (fun t h h' => hD t (by omega) (by omega)) (by omega) c5 (fun a6 E6 v6 => ?_)
  refine k a6 (F5.trans E6 (by omega)) ?_ ?_ ?_ ?_ ?_ v6
  · exact (E6.low _ (by omega)).trans ((E5.low _ (by omega)).trans ((E4.low _ (by omega)).trans ((E3.low _ (by omega)).trans ((E2.low _ (by omega)).trans v1))))
  · exact (E6.low _ (by omega)).trans ((E5.low _ (by omega)).trans ((E4.low _ (by omega)).trans ((E3.low _ (by omega)).trans v2)))
  · exact (E6.low _ (by omega)).trans ((E5.low _ (by omega)).trans ((E4.low _ (by omega)).trans v3))
  · exact (E6.low _ (by omega)).trans ((E5.low _ (by omega)).trans v4)
  · exact (E6.low _ (by omega)).trans v5
end
end Go.Proofs.Ytelalledjbeenaa

namespace Go.Proofs.Ytelalledjbeenaa
open Go

def waitsOf (o : Oper) : List Nat := o.after.toList.filterMap fun e => if Region.binds .any e then some e.on else none
def looksOf (o : Oper) : List Nat := o.op.operands.toList.filterMap fun | .tmp t => some t | _ => none
def noSel (o : Oper) : Bool := match o.op with | .select .. => false | _ => true
def pairOK (k : Nat) (o p : Oper) : Bool :=
  (waitsOf p).contains k || ((match o.dst with | some d => !(looksOf p).contains d && p.dst != some d | none => true) && (match p.dst with | some d => !(looksOf o).contains d | none => true))
def goL (n : Nat) : List Oper → Nat → Bool
  | [], _ => true
  | o :: rest, k => o.guard.isNone && noSel o && (waitsOf o).all (fun x => decide (x < k)) && (!decide (k < n) || (rest.all (pairOK k o) && rest.any (fun p => (waitsOf p).contains k))) && goL n rest (k + 1)
structure GL (l : List Oper) (n k i : Nat) (o : Oper) : Prop where
  g : o.guard = none
  s : noSel o = true
  w : ∀ x ∈ waitsOf o, x < k + i
  p : k + i < n → ∀ j p, i < j → l[j]? = some p → pairOK (k + i) o p = true
  a : k + i < n → ∃ j p, i < j ∧ l[j]? = some p ∧ k + i ∈ waitsOf p
theorem goL_spec {n : Nat} : ∀ (l : List Oper) (k : Nat), goL n l k = true → ∀ i o, l[i]? = some o → GL l n k i o
  | [], _, _, i, o, h => by simp at h
  | x :: rest, k, hg, i, o, h => by
    simp only [goL, Bool.and_eq_true, Bool.or_eq_true, Bool.not_eq_true', decide_eq_false_iff_not, Option.isNone_iff_eq_none, List.all_eq_true, List.any_eq_true, decide_eq_true_eq, List.contains_iff_mem] at hg
    obtain ⟨⟨⟨⟨h1, h2⟩, h3⟩, h4⟩, h5⟩ := hg
    cases i with
    | zero =>
      simp only [List.getElem?_cons_zero, Option.some.injEq] at h
      subst h
      refine ⟨h1, h2, fun y hy => by have := h3 y hy; omega, fun hk j p hj hp => ?_, fun hk => ?_⟩
      · rcases h4 with h4 | ⟨h4, _⟩
        · omega
        · obtain ⟨j, rfl⟩ : ∃ m, j = m + 1 := ⟨j - 1, by omega⟩
          rw [List.getElem?_cons_succ] at hp
          exact h4 p (List.mem_of_getElem? hp)
      · rcases h4 with h4 | ⟨_, p, hp, hw⟩
        · omega
        · obtain ⟨j, hj, e⟩ := List.mem_iff_getElem.1 hp
          exact ⟨j + 1, p, by omega, by rw [List.getElem?_cons_succ, List.getElem?_eq_getElem hj, e], hw⟩
    | succ i =>
      rw [List.getElem?_cons_succ] at h
      have G := goL_spec rest (k + 1) h5 i o h
      have e : k + 1 + i = k + (i + 1) := by omega
      refine ⟨G.g, G.s, fun y hy => by have := G.w y hy; omega, fun hk j p hj hp => ?_, fun hk => ?_⟩
      · obtain ⟨j, rfl⟩ : ∃ m, j = m + 1 := ⟨j - 1, by omega⟩
        rw [List.getElem?_cons_succ] at hp
        have := G.p (by omega) j p (by omega) hp
        rwa [e] at this
      · obtain ⟨j, p, hj, hp, hw⟩ := G.a (by omega)
        exact ⟨j + 1, p, by omega, by rw [List.getElem?_cons_succ]; exact hp, by rwa [e] at hw⟩
theorem mem_waits {o : Oper} {i : Nat} : i ∈ waitsOf o ↔ ∃ e ∈ o.after, Region.binds .any e = true ∧ e.on = i := by
  unfold waitsOf
  rw [List.mem_filterMap]
  constructor
  · rintro ⟨e, he, h⟩
    by_cases hb : Region.binds .any e = true
    · rw [if_pos hb] at h
      injection h with h
      exact ⟨e, by simpa using he, hb, h⟩
    · rw [if_neg hb] at h; cases h
  · rintro ⟨e, he, hb, h⟩
    exact ⟨e, by simpa using he, by rw [if_pos hb, h]⟩
/-- the first k are listed -/
def LI (N k : Nat) (listed : Array Bool) : Prop := listed.size = N ∧ ∀ j, j < N → listed[j]? = some (decide (j < k))
theorem LI.getD {N k : Nat} {listed : Array Bool} (h : LI N k listed) (j : Nat) (b : Bool) (hj : j < N) : listed.getD j b = decide (j < k) := by
  rw [Array.getD_eq_getD_getElem?, h.2 j hj]; rfl
theorem LI.set {N k : Nat} {listed : Array Bool} (h : LI N k listed) : LI N (k + 1) (listed.setIfInBounds k true) := by
  refine ⟨by simp [h.1], fun j hj => ?_⟩
  rw [Array.getElem?_setIfInBounds]
  by_cases e : k = j
  · subst e
    rw [if_pos rfl, if_pos (by rw [h.1]; exact hj)]
    simp
  · rw [if_neg e, h.2 j hj]
    congr 1
    rw [decide_eq_decide]; omega
section
variable {l : List Oper} {n : Nat}
theorem fast_ready (hg : goL n l 0 = true) {k : Nat} {listed : Array Bool} (hk : k < l.length) (hL : LI l.length k listed) : k ∈ Region.ready .any l.toArray listed := by
  have ho : l[k]? = some l[k] := List.getElem?_eq_getElem hk
  have G := goL_spec l 0 hg k _ ho
  refine mem_ready.2 ⟨by rw [hL.getD k true hk]; simp, l[k], by simp [ho], fun e he hb => ?_⟩
  have hw := G.w e.on (mem_waits.2 ⟨e, he, hb, rfl⟩)
  rw [hL.getD e.on false (by omega)]
  exact decide_eq_true (by omega)
theorem apart_eq {ops : Array Oper} {o p : Oper} (ho : o.guard = none) (hp : p.guard = none) : o.apart ops p = ((match o.dst with | some d => !(looksOf p).contains d && p.dst != some d | none => true) && (match p.dst with | some d => !(looksOf o).contains d | none => true)) := by
  unfold Oper.apart Oper.looksAt looksOf
  rw [ho, hp]
  simp only [List.append_nil]
  cases o.dst <;> cases p.dst <;> rfl
theorem fast_free (hg : goL n l 0 = true) {k : Nat} {listed : Array Bool} (hk : k < l.length) (hn : k < n) (hL : LI l.length k listed) : Region.free .any l.toArray listed k = true := by
  have ho : l[k]? = some l[k] := List.getElem?_eq_getElem hk
  have G := goL_spec l 0 hg k _ ho
  unfold Region.free
  rw [List.getElem?_toArray, ho]
  simp only [List.all_eq_true, List.mem_range, List.size_toArray]
  intro j hj
  by_cases hjk : j ≤ k
  · by_cases e : j = k
    · simp [e]
    · rw [hL.getD j true hj]
      simp [show j < k by omega]
  · have hp : l[j]? = some l[j] := List.getElem?_eq_getElem hj
    have P := G.p (by omega) j _ (by omega) hp
    have G2 := goL_spec l 0 hg j _ hp
    rw [List.getElem?_toArray, hp]
    simp only [Bool.or_eq_true]
    right
    rw [apart_eq G.g G2.g]
    simp only [pairOK, Bool.or_eq_true, List.contains_iff_mem, Nat.zero_add] at P
    rcases P with P | P
    · left
      obtain ⟨e, he, hb, hon⟩ := mem_waits.1 P
      exact Array.any_eq_true'.2 ⟨e, he, by rw [hb, hon]; simp⟩
    · right; exact P
theorem fast_lex (hg : goL n l 0 = true) (hN : l.length = n + 1) : ∀ (f k : Nat) (listed : Array Bool), k + f = n → LI l.length k listed → Region.lexHead .any l.toArray 1 f k listed = true
  | 0, k, listed, hk, hL => by
    have hkn : k = n := by omega
    subst hkn
    unfold Region.lexHead Region.seqB Region.seqB
    have h1 : Region.ready .any l.toArray listed = [k] := by
      have hm := fast_ready hg (show k < l.length by omega) hL
      have hall : ∀ j ∈ Region.ready .any l.toArray listed, j = k := fun j hj => by
        obtain ⟨hu, o, ho, _⟩ := mem_ready.1 hj
        have hjl : j < l.length := by rw [List.getElem?_toArray] at ho; exact (List.getElem?_eq_some_iff.1 ho).1
        rw [hL.getD j true hjl] at hu
        have := of_decide_eq_false hu
        omega
      have hnd : (Region.ready .any l.toArray listed).Nodup := by unfold Region.ready; exact List.Nodup.sublist List.filter_sublist List.nodup_range
      generalize Region.ready .any l.toArray listed = r at *
      match r, hm, hall, hnd with
      | [x], _, hall, _ => rw [hall x (by simp)]
      | x :: y :: r, _, hall, hnd =>
        have e1 := hall x (by simp)
        have e2 := hall y (by simp)
        simp [e1, e2] at hnd
    have h2 : Region.ready .any l.toArray (listed.setIfInBounds k true) = [] := by
      have hL' := hL.set
      refine List.eq_nil_iff_forall_not_mem.2 fun j hj => ?_
      obtain ⟨hu, o, ho, _⟩ := mem_ready.1 hj
      have hjl : j < l.length := by rw [List.getElem?_toArray] at ho; exact (List.getElem?_eq_some_iff.1 ho).1
      rw [hL'.getD j true hjl] at hu
      have := of_decide_eq_false hu
      omega
    rw [h1, h2]
    simp
  | f + 1, k, listed, hk, hL => by
    unfold Region.lexHead
    rw [fast_lex hg hN f (k + 1) _ (by omega) hL.set, fast_free hg (by omega) (by omega) hL]
    simp only [Bool.and_true, List.contains_iff_mem]
    exact fast_ready hg (by omega) hL
theorem fast_relB (h : (goL n l 0 && decide (l.length = n + 1)) = true) : RB.relB l.toArray n = true := by
  simp only [Bool.and_eq_true, decide_eq_true_eq] at h
  obtain ⟨hg, hN⟩ := h
  unfold RB.relB
  simp only [Bool.and_eq_true, Bool.or_eq_true, decide_eq_true_eq, List.size_toArray]
  refine ⟨⟨?_, .inr ⟨⟨by omega, ?_⟩, ?_⟩⟩, ?_⟩
  · unfold Region.noSelect
    rw [List.all_toArray, List.all_eq_true]
    intro o ho
    obtain ⟨i, hi, rfl⟩ := List.mem_iff_getElem.1 ho
    exact (goL_spec l 0 hg i _ (List.getElem?_eq_getElem hi)).s
  · unfold Region.sinkB
    simp only [List.all_eq_true, List.mem_range, List.any_eq_true, Bool.and_eq_true, decide_eq_true_eq]
    intro i hi
    obtain ⟨j, p, hj, hp, hw⟩ := (goL_spec l 0 hg i _ (List.getElem?_eq_getElem (show i < l.length by omega))).a (by omega)
    have hjl : j < l.length := (List.getElem?_eq_some_iff.1 hp).1
    refine ⟨j, by omega, hj, ?_⟩
    unfold Region.waitsFor
    rw [List.getElem?_toArray, hp]
    rw [Nat.zero_add] at hw
    obtain ⟨e, he, hb, hon⟩ := mem_waits.1 hw
    exact Array.any_eq_true'.2 ⟨e, he, by rw [hb, hon]; simp⟩
  · unfold Region.chainB
    simp only [List.all_eq_true, List.mem_range, List.size_toArray, Bool.or_eq_true, decide_eq_true_eq]
    intro t ht
    left; omega
  · rw [hN, show n + 1 - n = 1 by omega]
    refine fast_lex hg hN n 0 _ (by omega) ⟨by simp [hN], fun j hj => ?_⟩
    rw [hN] at hj
    simp [hj]
end
end Go.Proofs.Ytelalledjbeenaa
