/- The law SceneStands: shapes opened with their bounds; what is built; who stands where (plain). -/
import Derived.Test.YtedkbjimofiphaaStX
namespace Go.Proofs.Ytedkbjimofiphaa
open Go.ChangeShapes Go.WideShapes Go.RowKit Go.Deep Fl

def SH.Z (s : SH) : Prop := -9223372036854775808 ≤ s.ab ∧ s.ab ≤ 9223372036854775807
section
variable {H : Type} {enc : TypeId × Value → H} {w : World}
set_option maxRecDepth 100000 in
theorem open_shapeZ {n : Nat} {cs : List Value} {y : DataW H × List MemPlace} (h : DataW.trod enc Try.prog w 0 (fun _ => true) true n 56 cs = some y) : ∃ s : SH, cs = s.cells ∧ s.OK ∧ s.Z := by
  obtain ⟨s, rfl, ok⟩ := open_shape h
  refine ⟨s, rfl, ok, ?_⟩
  obtain ⟨xs, n', _, _, hl, hxl, hf⟩ := DataW.trod_struct Try.underlying56 h
  have hxl : xs.length = 6 := hxl
  have e1 : DataW.trod enc Try.prog w 0 (fun _ => true) true n' 3 (List.take (Try.prog.cellsOf 3) (List.drop 1 s.cells)) = some (xs[1]'(by omega)) := (hf 1 _ rfl).trans (List.getElem?_eq_getElem (by omega))
  rw [cO3] at e1
  obtain ⟨b, hb, _, wf⟩ := DataW.trod_int Try.underlying3 e1
  have hb : [Value.int .i64 s.ab] = [.int .i64 b] := hb
  injection hb with hb
  injection hb with _ hb
  subst hb
  exact wf_i64S wf
end
set_option maxRecDepth 100000 in
theorem open_shapesZ {H : Type} {enc : TypeId × Value → H} {w : World} {r : Reach} {B0 : Nat} {v : Value} {d : DataW H} {p : List MemPlace} (hv : Value.okWide Try.prog w r B0 22 v) (h : DataW.Trod enc Try.prog w 0 (fun _ => true) true 22 v d p) :
    ∃ (A : Option Addr) (S : Nat → SH) (n c : Nat), v = .slice A n c ∧ SL w A n 24 S SH.cells ∧ (∀ k, k < n → (S k).OK ∧ (S k).Z) ∧ n ≤ c ∧ LenD d c :=
  open_structs A0s SH.cells (fun s => s.OK ∧ s.Z) 24 (by decide) Try.underlying22 cO56 (fun q h => sh_len h.1) (fun n cs y h => by obtain ⟨s, h1, h2, h3⟩ := open_shapeZ h; exact ⟨s, h1, h2, h3⟩) hv h
def bxs (G : Nat → SH) (k : Nat) : BX := (G k).bx
theorem Up.congr {n : Nat} {ab ab' : Nat → Option Nat} {i x : Nat} (H : ∀ i k, ab i = some k → k < i) (h : Up n ab i x) : (∀ y, y ≤ x → ab' y = ab y) → Up n ab' i x := by
  induction h with
  | self => exact fun _ => .self
  | step hx ha _ ih => exact fun e => .step hx ((e _ (Nat.le_refl _)).trans ha) (ih fun y hy => e y (by have := H _ _ ha; omega))
/-- shapes as they are built: of m at most -/
structure BU (m : Nat) (lo : Bool) (G : Nat → SH) (i : Nat) : Prop where
  ok : ∀ k, k < i → (G k).OK
  sl : ∀ k, k < i → (G k).slot = (k : Int) + 1
  lw : lo = true → ∀ k, k < i → (G k).v = 0 ∧ ((G k).ab = -1 ∨ ∃ a : Nat, (G k).ab = (a : Int) ∧ a < k ∧ Up m (abO (bxs G)) a (k - 1))
/-- the box above that is climbed to -/
def CZ (m : Nat) (G : Nat → SH) (i : Nat) (z : Int) : Prop := z = -1 ∨ ∃ a : Nat, z = (a : Int) ∧ a < i ∧ Up m (abO (bxs G)) a (i - 1)
theorem CZ.start (m : Nat) (G : Nat → SH) (i : Nat) : CZ m G i ((i : Int) - 1) := by
  rcases Nat.eq_zero_or_pos i with h | h
  · subst h; exact .inl rfl
  · exact .inr ⟨i - 1, by omega, by omega, .self⟩
theorem CZ.step {m : Nat} {G : Nat → SH} {i a : Nat} (h : CZ m G i (a : Int)) (hb : BU m true G i) (hi : i < m) : CZ m G i (G a).ab := by
  rcases h with h | ⟨a', h1, h2, h3⟩
  · omega
  · obtain rfl : a = a' := by omega
    rcases (hb.lw rfl a h2).2 with e | ⟨c, e, hc, hu⟩
    · exact .inl e
    · refine .inr ⟨c, e, by omega, Up.trans (.step (by omega) ?_ .self) h3⟩
      show abO (bxs G) a = some c
      unfold abO
      rw [if_pos (show 0 ≤ (bxs G a).ab ∧ (bxs G a).ab < (a : Int) by show 0 ≤ (G a).ab ∧ (G a).ab < (a : Int); omega)]
      show some (G a).ab.toNat = some c
      rw [e]; rfl
def upd (G : Nat → SH) (i : Nat) (s : SH) (k : Nat) : SH := if k = i then s else G k
theorem BU.add {m i : Nat} {lo : Bool} {G : Nat → SH} {s : SH} (h : BU m lo G i) (ok : s.OK) (sl : s.slot = (i : Int) + 1) (lw : lo = true → s.v = 0 ∧ CZ m G i s.ab) : BU m lo (upd G i s) (i + 1) := by
  have old : ∀ k, k < i → upd G i s k = G k := fun k hk => if_neg (by omega)
  have new : upd G i s i = s := if_pos rfl
  have up : ∀ a x, x < i → Up m (abO (bxs G)) a x → Up m (abO (bxs (upd G i s))) a x := fun a x hx hu => hu.congr (fun i k h => abO_lt h) fun y hy => by
    unfold abO
    rw [show bxs (upd G i s) y = bxs G y by unfold bxs; rw [old y (by omega)]]
  refine ⟨fun k hk => ?_, fun k hk => ?_, fun hl k hk => ?_⟩
  · by_cases e : k = i
    · subst e; rw [new]; exact ok
    · rw [old k (by omega)]; exact h.ok k (by omega)
  · by_cases e : k = i
    · subst e; rw [new]; exact sl
    · rw [old k (by omega)]; exact h.sl k (by omega)
  · by_cases e : k = i
    · subst e
      rw [new]
      refine ⟨(lw hl).1, ?_⟩
      rcases (lw hl).2 with e | ⟨a, e, ha, hu⟩
      · exact .inl e
      · exact .inr ⟨a, e, ha, up a (k - 1) (by omega) hu⟩
    · rw [old k (by omega)]
      refine ⟨(h.lw hl k (by omega)).1, ?_⟩
      rcases (h.lw hl k (by omega)).2 with e | ⟨a, e, ha, hu⟩
      · exact .inl e
      · exact .inr ⟨a, e, ha, up a (k - 1) (by omega) hu⟩
theorem BU.same {m i : Nat} {lo : Bool} {G G' : Nat → SH} (h : BU m lo G i) (e : ∀ k, k < i → G' k = G k) : ∀ k, k < i → (G' k).OK := fun k hk => by rw [e k hk]; exact h.ok k hk
/-- the order in which boxes are painted -/
def WH (G : Nat → SH) (m : Nat) : List Nat := whole m (abO (bxs G)) (kf (lvO (lkR G)))
theorem WH.len (G : Nat → SH) (m : Nat) : (WH G m).length = m := whole_length (abO_OK (b := bxs G) (n := m))
theorem WH.nodup (G : Nat → SH) (m : Nat) : (WH G m).Nodup := whole_nodup (abO_OK (b := bxs G) (n := m))
theorem WH.mem {G : Nat → SH} {m x : Nat} : x ∈ WH G m ↔ x < m := mem_whole (abO_OK (b := bxs G) (n := m))
theorem WH.low {G : Nat → SH} {m : Nat} (h : BU m true G m) : WH G m = List.range m := by
  refine whole_range (abO_OK (b := bxs G) (n := m)) (fun j k hj hk => ?_) fun x y hx hy => ?_
  · have ha : 0 ≤ (G j).ab ∧ (G j).ab < (j : Int) ∧ (G j).ab.toNat = k := by
      unfold abO at hk
      split at hk
      · rename_i hc; injection hk with hk; exact ⟨hc.1, hc.2, hk⟩
      · cases hk
    rcases (h.lw rfl j hj).2 with e | ⟨a, e, hl, hu⟩
    · omega
    · obtain rfl : a = k := by omega
      exact ⟨by omega, hu⟩
  · have z : ∀ x, x < m → lvO (lkR G) x = 0 := fun x hx => by
      have hv : (lkR G x).v = 0 := (h.lw rfl _ (Nat.lt_of_le_of_lt (least_le _ _) hx)).1
      unfold lvO; rw [hv]; split <;> rfl
    unfold kf; rw [z x hx, z y hy]
/-- how many stand beneath, of those before t -/
def belowT (G : Nat → SH) (m : Nat) : Nat → Nat → Nat
  | 0, _ => 0
  | t + 1, k => belowT G m t k + if abO (bxs G) t = some k then cnt m (abO (bxs G)) (kf (lvO (lkR G))) t else 0
def cntG (G : Nat → SH) (m i : Nat) : Nat := cnt m (abO (bxs G)) (kf (lvO (lkR G))) i
theorem belowT_sum (G : Nat → SH) (m k t : Nat) : belowT G m t k = (((List.range t).filter fun i => abO (bxs G) i == some k).map (cntG G m)).sum := by
  induction t with
  | zero => rfl
  | succ t ih =>
    unfold belowT
    rw [List.range_succ, List.filter_append, List.map_append, List.sum_append, ih]
    congr 1
    by_cases e : abO (bxs G) t = some k
    · rw [if_pos e, List.filter_cons_of_pos (by rw [e]; simp)]; simp [cntG]
    · rw [if_neg e, List.filter_cons_of_neg (by simpa using e)]; rfl
theorem belowT_all (G : Nat → SH) (m k : Nat) : cntG G m k = 1 + belowT G m m k := by
  rw [belowT_sum]
  exact cntT_step (abO_OK (b := bxs G) (n := m)) k
theorem belowT_low (G : Nat → SH) (m k t : Nat) (h : t ≤ k + 1) : belowT G m t k = 0 := by
  induction t with
  | zero => rfl
  | succ t ih =>
    unfold belowT
    rw [ih (by omega), if_neg fun e => by have := abO_lt e; omega]
theorem cnt_le (G : Nat → SH) (m i : Nat) (hi : i < m) : cntG G m i ≤ m := by
  obtain ⟨P, Q, e⟩ := whole_infix (abO_OK (b := bxs G) (n := m)) (key := kf (lvO (lkR G))) i hi
  have := WH.len G m
  unfold WH at this
  rw [e] at this
  simp only [List.length_append] at this
  unfold cntG cnt
  omega
theorem belowT_mono (G : Nat → SH) (m k : Nat) {t u : Nat} (h : t ≤ u) : belowT G m t k ≤ belowT G m u k := by
  induction u with
  | zero => obtain rfl : t = 0 := by omega
            exact Nat.le_refl _
  | succ u ih =>
    rcases Nat.lt_or_ge u t with h2 | h2
    · obtain rfl : t = u + 1 := by omega
      exact Nat.le_refl _
    · exact Nat.le_trans (ih h2) (Nat.le_add_right _ _)
/-- where one stands, and how far what is beneath it goes -/
theorem WH.inside {G : Nat → SH} {m i x p q : Nat} (hx : x < m) (ha : abO (bxs G) x = some i) (hp : (WH G m)[p]? = some i) (hq : (WH G m)[q]? = some x) : p < q ∧ q + belowT G m m x ≤ p + belowT G m m i := by
  have cut : ∀ (l : List Nat) (k y : Nat), l[k]? = some y → ∃ P Q, l = P ++ y :: Q ∧ P.length = k := fun l k y h => by
    obtain ⟨hl, e⟩ := List.getElem?_eq_some_iff.1 h
    refine ⟨l.take k, l.drop (k + 1), ?_, by rw [List.length_take]; omega⟩
    rw [← e, ← List.drop_eq_getElem_cons hl, List.take_append_drop]
  obtain ⟨P, Q, e1, l1⟩ := cut _ _ _ hp
  obtain ⟨P', Q', e2, l2⟩ := cut _ _ _ hq
  have := Go.Proofs.Ytedkbjimofiphaa.inside (abO_OK (b := bxs G) (n := m)) (key := kf (lvO (lkR G))) hx ha e1 e2
  have c1 := belowT_all G m x
  have c2 := belowT_all G m i
  unfold cntG at c1 c2
  omega
end Go.Proofs.Ytedkbjimofiphaa
namespace Go.Proofs.Ytedkbjimofiphaa
open Go.RowKit Fl

noncomputable def tr4 (n : Nat) : Code := (Try.f4.body.bind (findRegion n)).getD .skip
def Z24 : Array Value := #[.int .i64 0, .int .i64 0, .float .f64 0, .float .f64 0, .float .f64 0, .float .f64 0, .float .f64 0, .float .f64 0, .float .f64 0, .float .f64 0, .float .f64 0, .float .f64 0, .float .f64 0, .float .f64 0, .float .f64 0, .float .f64 0, .float .f64 0, .float .f64 0, .float .f64 0, .float .f64 0, .float .f64 0, .float .f64 0, .float .f64 0, .float .f64 0]
theorem infoS : (Try.prog.info? 56).map (fun i => (i.zero, i.size, i.bytes)) = some (some (.agg Z24), 24, 192) := by kernel_rfl
theorem sh_one (s : SH) : ∀ u ∈ s.cells, u.oneCell' = true := fun u hu => by
  unfold SH.cells at hu
  rcases List.mem_append.1 hu with h | h
  · simp only [List.mem_cons, List.not_mem_nil, or_false] at h
    rcases h with rfl | rfl | rfl | rfl | rfl | rfl <;> rfl
  · rcases List.mem_append.1 h with h | h
    · obtain ⟨x, _, rfl⟩ := List.mem_map.1 h; rfl
    · simp only [List.mem_cons, List.not_mem_nil, or_false] at h
      rcases h with rfl | rfl <;> rfl
theorem flatMap_eq {α β : Type} {l : List α} {f g : α → List β} (h : ∀ x ∈ l, f x = g x) : l.flatMap f = l.flatMap g := by
  induction l with
  | nil => rfl
  | cons x l ih => rw [List.flatMap_cons, List.flatMap_cons, h x (List.mem_cons_self ..), ih fun y hy => h y (List.mem_cons_of_mem _ hy)]
/-- a shape of the round's own -/
structure SP (w0 w : World) (p : Nat) (s : SH) : Prop where
  r : w.rangeAt p 0 s.cells
  t : w.there p 0 24
  e : w0.heap.size ≤ p
  l : p < w.heap.size
  b : Below w0.heap.size w0 w
theorem SP.cell {w0 w : World} {p j : Nat} {s : SH} {v : Value} (h : SP w0 w p s) (hj : s.cells[j]? = some v) : w.cell? ⟨p, j, none⟩ = some v := by
  have := h.r j v hj; rwa [Nat.zero_add] at this
theorem SP.fro {w0 w : World} {p j : Nat} {s : SH} (h : SP w0 w p s) (hj : j < 24) : w.frozen? ⟨p, j, none⟩ = false := by
  have := (h.t j hj).2; rwa [Nat.zero_add] at this
theorem SP.set {w0 w : World} {p j : Nat} {s s' : SH} {v : Value} (h : SP w0 w p s) (e : s'.cells = s.cells.set j v) : SP w0 (w.setCell ⟨p, j, none⟩ v) p s' :=
  ⟨by rw [e]; exact range_setV h.r v, there_set h.t _ _, h.e, by rw [World.size_setCell]; exact h.l, (Keep.set (Keep.of_below (ex := fun _ => False) h.b) ⟨p, j, none⟩ v fun hp => by have := h.e; have hp : p < w0.heap.size := hp; omega).below _ (Nat.le_refl _) fun _ _ h => h⟩
theorem SP.set0 {w0 w : World} {p : Nat} {s : SH} (h : SP w0 w p s) (z : Int) : SP w0 (w.setCell ⟨p, 0, none⟩ (.int .i64 z)) p { s with slot := z } := h.set rfl
theorem SP.set1 {w0 w : World} {p : Nat} {s : SH} (h : SP w0 w p s) (z : Int) : SP w0 (w.setCell ⟨p, 1, none⟩ (.int .i64 z)) p { s with ab := z } := h.set rfl
theorem SP.set23 {w0 w : World} {p : Nat} {s : SH} (h : SP w0 w p s) (hm : s.m.length = 16) (x : Nat) : SP w0 (w.setCell ⟨p, 23, none⟩ (.float .f64 x)) p { s with v := x } := h.set (by
  obtain ⟨slot, ab, x, y, ww, hh, m, o, v⟩ := s
  obtain ⟨a0, a1, a2, a3, a4, a5, a6, a7, a8, a9, a10, a11, a12, a13, a14, a15, rfl⟩ := list16 hm
  rfl)
theorem sh_22 {s : SH} (hm : s.m.length = 16) : s.cells[23]? = some (.float .f64 s.v) := by
  obtain ⟨slot, ab, x, y, ww, hh, m, o, v⟩ := s
  obtain ⟨a0, a1, a2, a3, a4, a5, a6, a7, a8, a9, a10, a11, a12, a13, a14, a15, rfl⟩ := list16 hm
  rfl
/-- the row of shapes -/
structure ST (w0 w : World) (v : Value) (G : Nat → SH) (i : Nat) : Prop where
  o : w.ownsRow w0.heap.size 56 24 v i ((List.range i).flatMap fun k => (G k).cells)
  b : Below w0.heap.size w0 w
theorem ST.below {w0 w w' : World} {v : Value} {G : Nat → SH} {i : Nat} (h : ST w0 w v G i) (hb : Below w.heap.size w w') : ST w0 w' v G i :=
  ⟨owned_at h.o fun k _ hl => hb.block k hl, h.b.trans (hb.mono h.b.size)⟩
theorem ST.push {w0 w w1 w3 : World} {v v3 : Value} {G : Nat → SH} {i : Nat} {s : SH} (h : ST w0 w v G i) (hb : Below w.heap.size w w1) (ho : w3.ownsRow w0.heap.size 56 24 v3 (i + 1) ((List.range i).flatMap (fun k => (G k).cells) ++ s.cells)) (hg : w1.grownBy w3 v.ownBlock) : ST w0 w3 v3 (upd G i s) (i + 1) := by
  have h1 := h.below hb
  refine ⟨?_, h1.b.trans ?_⟩
  · rw [List.range_succ, List.flatMap_append]
    have e : (List.range i).flatMap (fun k => (upd G i s k).cells) = (List.range i).flatMap fun k => (G k).cells := flatMap_eq fun k hk => by
      rw [show upd G i s k = G k from if_neg (by have := List.mem_range.1 hk; omega)]
    rw [e]
    have e2 : upd G i s i = s := if_pos rfl
    simpa [e2] using ho
  · exact ((grown_keep h1.o hg h1.b.size (fun _ => False)).below _ (Nat.le_refl _) (fun _ _ h => h))
theorem ST.above {w0 w : World} {g c i k : Nat} {G : Nat → SH} (hG : ∀ k, k < i → (G k).OK) (h : ST w0 w (.slice (some ⟨g, 0, none⟩) i c) G i) (hk : k < i) : w.cell? ⟨g, k * 24 + 1, none⟩ = some (.int .i64 (G k).ab) :=
  owned_rec (f := fun k => (G k).cells) (fun k hk => sh_len (hG k hk)) h.o hk 1 _ rfl
theorem made58 (w : World) (m : Nat) (hm : m ≤ 300) : ∃ w', (Instr.makeSlice 58 (.int .i64 (m : Int)) (.int .i64 (m : Int))).run Try.prog w = .ok (.slice (some ⟨w.heap.size, 0, none⟩) m m) w' ∧ Below w.heap.size w w' ∧ DAt w' w.heap.size (List.replicate m 0) := by
  obtain ⟨i0, hi, hz0, hz1, hz2⟩ := info_parts info3
  obtain ⟨w', h1, h2, h3⟩ := run_make_full (P := Try.prog) w w.heap.size 58 3 i0 _ 1 Try.underlying58 hi hz0 hz1 .i64 .i64 m (by rw [hz2]; omega) (by unfold maxLen; omega) (Nat.le_refl _)
  have e : (madeCells (Value.int .i64 0).cells (m * 1)).toList = List.replicate m (iv 0) := made_one (.int .i64 0) m
  rw [e] at h2
  refine ⟨w', h1, (Keep.of_grown2 (ex := fun _ => False) h3 (Nat.le_refl _) (fun k hk => by cases hk)).below _ (Nat.le_refl _) (fun _ _ h => h), fun j v hj => ?_, fun j hj => ?_, (h2.lt _ rfl).2⟩
  · rw [List.map_replicate] at hj
    have hl := (List.getElem?_eq_some_iff.1 hj).1
    rw [List.length_replicate] at hl
    rw [Nat.zero_add, h2.cellAt j (by omega)]; exact hj
  · rw [List.length_replicate] at hj
    rw [Nat.zero_add]
    refine ⟨?_, h2.frozenAt j⟩
    rw [h2.cellAt j (by omega), List.getElem?_replicate, if_pos hj]; rfl
/-- what row answers, none or some -/
theorem row_any (w : World) (p : Option Addr) (m c : Nat) (G : Nat → SH) (w0 : World) (hG : ∀ k, k < m → (G k).OK) (h : ST w0 w (.slice p m c) G m) (hm : m ≤ 300) :
    Calls Try.prog 7 #[.slice p m c] w fun e w' => ∃ bv lv, e = .returned (.tuple #[bv, lv]) ∧ RS w w' G m bv lv ∧ (m = 0 → bv = .slice none 0 0 ∧ lv = .slice none 0 0) := by
  rcases Nat.eq_zero_or_pos m with h0 | h0
  · subst h0
    exact (c7z w p c).mono fun e w' ⟨he, hw⟩ => ⟨_, _, he, ⟨World.ownsRow_nil .., World.ownsRow_nil .., hw ▸ Below.refl _ _⟩, fun _ => ⟨rfl, rfl⟩⟩
  · obtain ⟨g, rfl, -, hg⟩ := owned_some h.o h0
    exact (c7 w g 0 m c G hG (fun k hk => by rw [Nat.zero_add]; exact owned_rec (f := fun k => (G k).cells) (fun k hk => sh_len (hG k hk)) h.o hk) hg (by omega)).mono fun e w' ⟨bv, lv, he, hr⟩ => ⟨bv, lv, he, hr, fun e => by omega⟩
/-- the slots of what is painted -/
def PWs (w : World) (p : Option Addr) (G : Nat → SH) (m : Nat) : Prop := m = 0 ∨ ∃ g, p = some ⟨g, 0, none⟩ ∧ g < w.heap.size ∧ ∀ k x : Nat, (WH G m)[k]? = some x → w.cell? ⟨g, k * 23, none⟩ = some (.int .u32 ((x : Int) + 1))
theorem painted_any (w0 w : World) (m : Nat) (lo : Bool) (G : Nat → SH) (bv lv : Value) (hB : BU m lo G m) (hR : RS w0 w G m bv lv) (hz : m = 0 → bv = .slice none 0 0 ∧ lv = .slice none 0 0) (hm : m ≤ 300) :
    Calls Try.prog 8 #[bv, lv] w fun e w' => ∃ po co av, e = .returned (.tuple #[.slice po m co, av]) ∧ PWs w' po G m ∧ Below w.heap.size w w' := by
  rcases Nat.eq_zero_or_pos m with h0 | h0
  · obtain ⟨rfl, rfl⟩ := hz h0
    subst h0
    exact (c8n w none 0).mono fun e w' ⟨ov, he, ho, hb⟩ => by
      obtain ⟨po, co, rfl, -⟩ := owned_slice ho
      exact ⟨po, co, _, he, .inl rfl, hb⟩
  · obtain ⟨pb, cb, rfl, -⟩ := owned_slice hR.ob
    obtain ⟨pl', cl, rfl, -⟩ := owned_slice hR.ol
    obtain ⟨gb, rfl, -, gb2⟩ := owned_some hR.ob h0
    obtain ⟨gl, rfl, -, gl2⟩ := owned_some hR.ol h0
    refine (c8 w gb gl m cb cl (bxs G) (lkR G) (fun k hk => owned_rec (f := fun k => (G k).bx.cells) (fun k hk => rfl) hR.ob hk) (fun k hk => owned_rec (f := fun k => (lkR G k).cells) (fun k hk => lk_len (lkR_OK (i := k) hB.ok hk)) hR.ol hk) gb2 gl2 (fun i hi => bxOK (hB.ok i hi)) (fun i hi => lkR_OK hB.ok hi) (by omega) (same_lkR G m)).mono fun e w' ⟨ov, av, MS, OS, he, pr, ho, ha, hb⟩ => ?_
    obtain ⟨po, co, rfl, -⟩ := owned_slice ho
    obtain ⟨go, rfl, -, go2⟩ := owned_some ho h0
    refine ⟨_, co, av, he, .inr ⟨go, rfl, go2, fun k x hx => ?_⟩, hb⟩
    have hk : k < m := by have := (List.getElem?_eq_some_iff.1 hx).1; rwa [WH.len] at this
    have hxm : x < m := WH.mem.1 (List.mem_of_getElem? hx)
    have hc := PA_at (b := bxs G) (L := lkR G) (fun i hi => bxOK (hB.ok i hi)) pr ho k hk 0 _ rfl
    rw [Nat.add_zero] at hc
    rw [hc]
    have e1 : (whole m (abO (bxs G)) (kf (lvO (lkR G)))).getD k 0 = x := by rw [List.getD_eq_getElem?_getD]; unfold WH at hx; rw [hx]; rfl
    show some (Value.int .u32 ((bxs G ((whole m (abO (bxs G)) (kf (lvO (lkR G)))).getD k 0)).sl : Int)) = _
    rw [e1]
    have e2 : (bxs G x).sl = x + 1 := by
      show ((G x).slot % 4294967296).toNat = x + 1
      rw [hB.sl x hxm]; omega
    rw [e2]; rfl
/-- the rows of ints while what is painted is looked through -/
structure L3 (w0 w : World) (ga gn : Nat) (G : Nat → SH) (m i : Nat) (d e : List Nat) : Prop where
  b : Below w0.heap.size w0 w
  ha : w0.heap.size ≤ ga
  hn : w0.heap.size ≤ gn
  ne : ga ≠ gn
  da : DAt w ga d
  de : DAt w gn e
  ld : d.length = m
  le : e.length = m
  fd : ∀ j x, j < i → (WH G m)[j]? = some x → d[x]? = some j
  fe : ∀ x, x < m → (∀ j, j < i → (WH G m)[j]? ≠ some x) → e[x]? = some 0
theorem below_set {w0 w : World} (h : Below w0.heap.size w0 w) {p : Addr} (hp : w0.heap.size ≤ p.block) (v : Value) : Below w0.heap.size w0 (w.setCell p v) :=
  (Keep.set (Keep.of_below (ex := fun _ => False) h) p v fun h2 => by omega).below _ (Nat.le_refl _) fun _ _ h => h
theorem L3.next {w0 w : World} {ga gn m i x : Nat} {G : Nat → SH} {d e : List Nat} (h : L3 w0 w ga gn G m i d e) (hx : (WH G m)[i]? = some x) :
    L3 w0 ((w.setCell ⟨gn, x, none⟩ (.int .i64 1)).setCell ⟨ga, x, none⟩ (.int .i64 (i : Int))) ga gn G m (i + 1) (d.set x i) (e.set x 1) := by
  have hxm : x < m := WH.mem.1 (List.mem_of_getElem? hx)
  refine ⟨below_set (below_set h.b h.hn _) h.ha _, h.ha, h.hn, h.ne, ?_, ?_, by rw [List.length_set]; exact h.ld, by rw [List.length_set]; exact h.le, fun j y hj hy => ?_, fun y hy hne => ?_⟩
  · exact (h.da.only ((Only.refl gn w).setCell (.int .i64 1)) h.ne).set x i
  · exact (h.de.set x 1).only ((Only.refl ga _).setCell _) (Ne.symm h.ne)
  · by_cases e : j = i
    · subst e
      rw [hx] at hy; injection hy with hy; subst hy
      exact List.getElem?_set_self (by rw [h.ld]; exact hxm)
    · have hne : x ≠ y := fun e2 => by
        subst e2
        obtain ⟨b1, v1⟩ := List.getElem?_eq_some_iff.1 hy
        obtain ⟨b2, v2⟩ := List.getElem?_eq_some_iff.1 hx
        exact e ((List.getElem_inj (WH.nodup G m)).1 (v1.trans v2.symm))
      rw [List.getElem?_set_ne hne]
      exact h.fd j y (by omega) hy
  · have hne2 : x ≠ y := fun e2 => hne i (by omega) (by rw [hx, e2])
    rw [List.getElem?_set_ne hne2]
    exact h.fe y hy fun j hj => hne j (by omega)
theorem L3.free {w0 w : World} {ga gn m i x : Nat} {G : Nat → SH} {d e : List Nat} (h : L3 w0 w ga gn G m i d e) (hx : (WH G m)[i]? = some x) : e[x]? = some 0 :=
  h.fe x (WH.mem.1 (List.mem_of_getElem? hx)) fun j hj h2 => by
    obtain ⟨b1, v1⟩ := List.getElem?_eq_some_iff.1 h2
    obtain ⟨b2, v2⟩ := List.getElem?_eq_some_iff.1 hx
    have := (List.getElem_inj (WH.nodup G m)).1 (v1.trans v2.symm)
    omega
/-- how many stand beneath, while it is counted -/
structure L4 (w0 w : World) (ga gm : Nat) (G : Nat → SH) (m t : Nat) (d e : List Nat) : Prop where
  b : Below w0.heap.size w0 w
  hm : w0.heap.size ≤ gm
  ne : ga ≠ gm
  da : DAt w ga d
  dm : DAt w gm e
  le : e.length = m
  f : ∀ k, k < m → ∃ y, e[k]? = some y ∧ y + belowT G m t k = belowT G m m k
theorem L4.skip {w0 w : World} {ga gm m i : Nat} {G : Nat → SH} {d e : List Nat} (h : L4 w0 w ga gm G m (i + 1) d e) (ha : abO (bxs G) i = none) : L4 w0 w ga gm G m i d e :=
  ⟨h.b, h.hm, h.ne, h.da, h.dm, h.le, fun k hk => by
    obtain ⟨y, e1, e2⟩ := h.f k hk
    refine ⟨y, e1, ?_⟩
    have : belowT G m (i + 1) k = belowT G m i k := by
      show belowT G m i k + (if abO (bxs G) i = some k then _ else 0) = _
      rw [if_neg (by rw [ha]; exact fun h => by cases h)]; rfl
    omega⟩
theorem L4.drew {w0 w : World} {ga gm m t q : Nat} {G : Nat → SH} {d e : List Nat} (h : L4 w0 w ga gm G m t d e) : L4 w0 (w.drewN q) ga gm G m t d e :=
  ⟨below_drewN h.b, h.hm, h.ne, h.da.drew, h.dm.drew, h.le, h.f⟩
theorem L4.drew1 {w0 w : World} {ga gm m t : Nat} {G : Nat → SH} {d e : List Nat} (h : L4 w0 w ga gm G m t d e) : L4 w0 w.drew ga gm G m t d e :=
  ⟨(h.drew (q := 1)).b, h.hm, h.ne, h.da.drew1, h.dm.drew1, h.le, h.f⟩
theorem L4.next {w0 w : World} {ga gm m i u y z : Nat} {G : Nat → SH} {d e : List Nat} (h : L4 w0 w ga gm G m (i + 1) d e) (him : i < m) (ha : abO (bxs G) i = some u) (hy : e[u]? = some y) (hz : e[i]? = some z) :
    L4 w0 (w.setCell ⟨gm, u, none⟩ (.int .i64 ((y + 1 + z : Nat) : Int))) ga gm G m i d (e.set u (y + 1 + z)) := by
  have hui := abO_lt ha
  refine ⟨below_set h.b h.hm _, h.hm, h.ne, h.da.only ((Only.refl gm w).setCell _) h.ne, h.dm.set u _, by rw [List.length_set]; exact h.le, fun k hk => ?_⟩
  have st : belowT G m (i + 1) k = belowT G m i k + if abO (bxs G) i = some k then cntG G m i else 0 := rfl
  obtain ⟨yk, e1, e2⟩ := h.f k hk
  by_cases e : k = u
  · subst e
    rw [if_pos ha] at st
    rw [hy] at e1
    injection e1 with e1
    subst e1
    obtain ⟨yi, f1, f2⟩ := h.f i him
    rw [hz] at f1
    injection f1 with f1
    subst f1
    rw [belowT_low G m i (i + 1) (Nat.le_refl _)] at f2
    have := belowT_all G m i
    exact ⟨_, List.getElem?_set_self (by rw [h.le]; exact hk), by omega⟩
  · rw [if_neg (by rw [ha]; exact fun h => e (by injection h with h; exact h.symm))] at st
    exact ⟨yk, by rw [List.getElem?_set_ne (fun h => e h.symm)]; exact e1, by omega⟩
/-- counts are small -/
theorem belowT_le (G : Nat → SH) (m k : Nat) (hk : k < m) : belowT G m m k < m := by
  have := belowT_all G m k
  have := cnt_le G m k hk
  omega
theorem abO_some {G : Nat → SH} {i : Nat} {u : Nat} (h : (G i).ab = (u : Int)) (hu : u < i) : abO (bxs G) i = some u := by
  unfold abO
  rw [if_pos (show 0 ≤ (bxs G i).ab ∧ (bxs G i).ab < (i : Int) by show 0 ≤ (G i).ab ∧ (G i).ab < (i : Int); omega)]
  show some (G i).ab.toNat = some u
  rw [h]; rfl
theorem abO_none {G : Nat → SH} {i : Nat} (h : ¬ (0 ≤ (G i).ab ∧ (G i).ab < (i : Int))) : abO (bxs G) i = none := if_neg h
set_option maxRecDepth 100000 in
set_option maxHeartbeats 2000000 in
theorem streg4 {Q : Exit → Act → World → Prop} (w : World) (A : Option Addr) (n c i : Nat) (t : Bool) (u1 u2 u3 u4 u5 u6 u8 u9 u10 u11 u12 u13 u14 u15 u16 u17 u18 u19 u20 u21 u22 u23 u24 u25 u26 u27 u28 u29 u30 u31 u32 u33 u34 u35 u36 u37 u38 u39 u40 u41 u42 u43 u44 u45 u46 u47 u48 u49 u50 u51 u52 u53 u54 u55 u56 u57 u58 u59 u60 u61 u62 u63 u64 u65 u66 u67 u68 u69 u70 u71 u72 u73 u74 u75 u76 u77 u78 u79 u80 u81 u82 u83 u84 u85 u86 u87 u88 u89 u90 u91 u92 u93 u94 u95 u96 u97 u98 u99 u100 u101 u102 u103 u104 u105 u106 u107 u108 u109 u110 u111 u112 u113 u114 u115 u116 u117 u118 u119 u120 u121 u122 u123 u124 u125 u126 u127 u128 u129 u130 u131 u132 u133 u134 u135 u136 u137 u138 u139 u140 u141 u142 u143 u144 u145 u146 u147 u148 u149 u150 u151 u152 u153 u154 u155 u156 u157 u158 u159 u160 u161 u162 u163 u164 u165 u166 u167 u168 u169 u170 u171 u172 u173 u174 u175 u176 u177 u178 u179 u180 u181 u182 u183 u184 u185 u186 u187 u188 u189 u190 u191 u192 u193 u194 u195 u196 u197 u198 u199 u200 u201 u202 u203 u204 u205 u206 u207 u208 u209 u210 u211 u212 u213 u214 u215 u216 u217 u218 u219 u220 u221 u222 : Value) (ht : t = true ↔ i < n ∧ i < 300)
    (hfin : ∀ (v25 v26 v27 v28 v29 v30 v31 : Value), Q .normal ⟨List.toArray (.slice A n c :: u1 :: u2 :: u3 :: u4 :: u5 :: u6 :: .int .i64 (i : Int) :: u8 :: u9 :: u10 :: u11 :: u12 :: u13 :: u14 :: u15 :: u16 :: u17 :: u18 :: u19 :: u20 :: u21 :: u22 :: u23 :: u24 :: v25 :: v26 :: v27 :: v28 :: v29 :: v30 :: v31 :: .bool t :: u33 :: u34 :: u35 :: u36 :: u37 :: u38 :: u39 :: u40 :: u41 :: u42 :: u43 :: u44 :: u45 :: u46 :: u47 :: u48 :: u49 :: u50 :: u51 :: u52 :: u53 :: u54 :: u55 :: u56 :: u57 :: u58 :: u59 :: u60 :: u61 :: u62 :: u63 :: u64 :: u65 :: u66 :: u67 :: u68 :: u69 :: u70 :: u71 :: u72 :: u73 :: u74 :: u75 :: u76 :: u77 :: u78 :: u79 :: u80 :: u81 :: u82 :: u83 :: u84 :: u85 :: u86 :: u87 :: u88 :: u89 :: u90 :: u91 :: u92 :: u93 :: u94 :: u95 :: u96 :: u97 :: u98 :: u99 :: u100 :: u101 :: u102 :: u103 :: u104 :: u105 :: u106 :: u107 :: u108 :: u109 :: u110 :: u111 :: u112 :: u113 :: u114 :: u115 :: u116 :: u117 :: u118 :: u119 :: u120 :: u121 :: u122 :: u123 :: u124 :: u125 :: u126 :: u127 :: u128 :: u129 :: u130 :: u131 :: u132 :: u133 :: u134 :: u135 :: u136 :: u137 :: u138 :: u139 :: u140 :: u141 :: u142 :: u143 :: u144 :: u145 :: u146 :: u147 :: u148 :: u149 :: u150 :: u151 :: u152 :: u153 :: u154 :: u155 :: u156 :: u157 :: u158 :: u159 :: u160 :: u161 :: u162 :: u163 :: u164 :: u165 :: u166 :: u167 :: u168 :: u169 :: u170 :: u171 :: u172 :: u173 :: u174 :: u175 :: u176 :: u177 :: u178 :: u179 :: u180 :: u181 :: u182 :: u183 :: u184 :: u185 :: u186 :: u187 :: u188 :: u189 :: u190 :: u191 :: u192 :: u193 :: u194 :: u195 :: u196 :: u197 :: u198 :: u199 :: u200 :: u201 :: u202 :: u203 :: u204 :: u205 :: u206 :: u207 :: u208 :: u209 :: u210 :: u211 :: u212 :: u213 :: u214 :: u215 :: u216 :: u217 :: u218 :: u219 :: u220 :: u221 :: u222 :: []), []⟩ w) : Code.wp Try.prog (tr4 4) Q ⟨List.toArray (.slice A n c :: u1 :: u2 :: u3 :: u4 :: u5 :: u6 :: .int .i64 (i : Int) :: u8 :: u9 :: u10 :: u11 :: u12 :: u13 :: u14 :: u15 :: u16 :: u17 :: u18 :: u19 :: u20 :: u21 :: u22 :: u23 :: u24 :: u25 :: u26 :: u27 :: u28 :: u29 :: u30 :: u31 :: u32 :: u33 :: u34 :: u35 :: u36 :: u37 :: u38 :: u39 :: u40 :: u41 :: u42 :: u43 :: u44 :: u45 :: u46 :: u47 :: u48 :: u49 :: u50 :: u51 :: u52 :: u53 :: u54 :: u55 :: u56 :: u57 :: u58 :: u59 :: u60 :: u61 :: u62 :: u63 :: u64 :: u65 :: u66 :: u67 :: u68 :: u69 :: u70 :: u71 :: u72 :: u73 :: u74 :: u75 :: u76 :: u77 :: u78 :: u79 :: u80 :: u81 :: u82 :: u83 :: u84 :: u85 :: u86 :: u87 :: u88 :: u89 :: u90 :: u91 :: u92 :: u93 :: u94 :: u95 :: u96 :: u97 :: u98 :: u99 :: u100 :: u101 :: u102 :: u103 :: u104 :: u105 :: u106 :: u107 :: u108 :: u109 :: u110 :: u111 :: u112 :: u113 :: u114 :: u115 :: u116 :: u117 :: u118 :: u119 :: u120 :: u121 :: u122 :: u123 :: u124 :: u125 :: u126 :: u127 :: u128 :: u129 :: u130 :: u131 :: u132 :: u133 :: u134 :: u135 :: u136 :: u137 :: u138 :: u139 :: u140 :: u141 :: u142 :: u143 :: u144 :: u145 :: u146 :: u147 :: u148 :: u149 :: u150 :: u151 :: u152 :: u153 :: u154 :: u155 :: u156 :: u157 :: u158 :: u159 :: u160 :: u161 :: u162 :: u163 :: u164 :: u165 :: u166 :: u167 :: u168 :: u169 :: u170 :: u171 :: u172 :: u173 :: u174 :: u175 :: u176 :: u177 :: u178 :: u179 :: u180 :: u181 :: u182 :: u183 :: u184 :: u185 :: u186 :: u187 :: u188 :: u189 :: u190 :: u191 :: u192 :: u193 :: u194 :: u195 :: u196 :: u197 :: u198 :: u199 :: u200 :: u201 :: u202 :: u203 :: u204 :: u205 :: u206 :: u207 :: u208 :: u209 :: u210 :: u211 :: u212 :: u213 :: u214 :: u215 :: u216 :: u217 :: u218 :: u219 :: u220 :: u221 :: u222 :: []), []⟩ w := by
  have HF := Lib.hid hfin
  clear hfin
  conv => arg 2; whnf
  by_cases h1 : i < n
  · have e1 : (i : Int) < (n : Int) := by omega
    have d1 : decide ((i : Int) < (n : Int)) = true := decide_eq_true e1
    by_cases h2 : i < 300
    · have e2 : (i : Int) < 300 := by omega
      have d2 : decide ((i : Int) < 300) = true := decide_eq_true e2
      obtain rfl : t = true := ht.2 ⟨h1, h2⟩
      clear ht
      go_wp2
      exact HF.out _ _ _ _ _ _ _
    · have e2 : ¬ (i : Int) < 300 := by omega
      have d2 : decide ((i : Int) < 300) = false := decide_eq_false e2
      obtain rfl : t = false := by cases t with | false => rfl | true => exact absurd (ht.1 rfl).2 h2
      clear ht
      go_wp2
      exact HF.out _ _ _ _ _ _ _
  · have e1 : ¬ (i : Int) < (n : Int) := by omega
    have d1 : decide ((i : Int) < (n : Int)) = false := decide_eq_false e1
    obtain rfl : t = false := by cases t with | false => rfl | true => exact absurd (ht.1 rfl).1 h1
    clear ht
    go_wp2
    exact HF.out _ _ _ _ _ _ _
set_option maxRecDepth 100000 in
set_option maxHeartbeats 2000000 in
theorem streg11 {Q : Exit → Act → World → Prop} (w : World) (q z : Int) (t : Bool) (u0 u1 u2 u3 u4 u5 u6 u7 u8 u11 u12 u13 u14 u15 u16 u17 u18 u19 u20 u21 u22 u23 u24 u25 u26 u27 u28 u29 u30 u31 u32 u33 u34 u35 u36 u37 u38 u39 u40 u41 u42 u43 u44 u45 u46 u47 u48 u49 u50 u51 u52 u53 u54 u55 u56 u57 u58 u59 u60 u61 u62 u63 u64 u65 u66 u67 u68 u69 u70 u71 u72 u73 u74 u75 u76 u77 u78 u79 u80 u81 u82 u83 u84 u85 u86 u87 u88 u89 u90 u91 u92 u93 u94 u95 u96 u97 u98 u99 u100 u101 u102 u103 u104 u105 u106 u107 u108 u109 u110 u111 u112 u113 u114 u115 u116 u117 u118 u119 u120 u121 u122 u123 u124 u125 u126 u127 u128 u129 u130 u131 u132 u133 u134 u135 u136 u137 u138 u139 u140 u141 u142 u143 u144 u145 u146 u147 u148 u149 u150 u151 u152 u153 u154 u155 u156 u157 u158 u159 u160 u161 u162 u163 u164 u165 u166 u167 u168 u169 u170 u171 u172 u173 u174 u175 u176 u177 u178 u179 u180 u181 u182 u183 u184 u185 u186 u187 u188 u189 u190 u191 u192 u193 u194 u195 u196 u197 u198 u199 u200 u201 u202 u203 u204 u205 u206 u207 u208 u209 u210 u211 u212 u213 u214 u215 u216 u217 u218 u219 u220 u221 u222 : Value) (ht : t = true ↔ 0 < q ∧ 0 ≤ z)
    (hfin : ∀ (v48 v49 v50 v51 v52 : Value), Q .normal ⟨List.toArray (u0 :: u1 :: u2 :: u3 :: u4 :: u5 :: u6 :: u7 :: u8 :: .int .i64 z :: .int .i64 q :: u11 :: u12 :: u13 :: u14 :: u15 :: u16 :: u17 :: u18 :: u19 :: u20 :: u21 :: u22 :: u23 :: u24 :: u25 :: u26 :: u27 :: u28 :: u29 :: u30 :: u31 :: u32 :: u33 :: u34 :: u35 :: u36 :: u37 :: u38 :: u39 :: u40 :: u41 :: u42 :: u43 :: u44 :: u45 :: u46 :: u47 :: v48 :: v49 :: v50 :: v51 :: v52 :: .bool t :: u54 :: u55 :: u56 :: u57 :: u58 :: u59 :: u60 :: u61 :: u62 :: u63 :: u64 :: u65 :: u66 :: u67 :: u68 :: u69 :: u70 :: u71 :: u72 :: u73 :: u74 :: u75 :: u76 :: u77 :: u78 :: u79 :: u80 :: u81 :: u82 :: u83 :: u84 :: u85 :: u86 :: u87 :: u88 :: u89 :: u90 :: u91 :: u92 :: u93 :: u94 :: u95 :: u96 :: u97 :: u98 :: u99 :: u100 :: u101 :: u102 :: u103 :: u104 :: u105 :: u106 :: u107 :: u108 :: u109 :: u110 :: u111 :: u112 :: u113 :: u114 :: u115 :: u116 :: u117 :: u118 :: u119 :: u120 :: u121 :: u122 :: u123 :: u124 :: u125 :: u126 :: u127 :: u128 :: u129 :: u130 :: u131 :: u132 :: u133 :: u134 :: u135 :: u136 :: u137 :: u138 :: u139 :: u140 :: u141 :: u142 :: u143 :: u144 :: u145 :: u146 :: u147 :: u148 :: u149 :: u150 :: u151 :: u152 :: u153 :: u154 :: u155 :: u156 :: u157 :: u158 :: u159 :: u160 :: u161 :: u162 :: u163 :: u164 :: u165 :: u166 :: u167 :: u168 :: u169 :: u170 :: u171 :: u172 :: u173 :: u174 :: u175 :: u176 :: u177 :: u178 :: u179 :: u180 :: u181 :: u182 :: u183 :: u184 :: u185 :: u186 :: u187 :: u188 :: u189 :: u190 :: u191 :: u192 :: u193 :: u194 :: u195 :: u196 :: u197 :: u198 :: u199 :: u200 :: u201 :: u202 :: u203 :: u204 :: u205 :: u206 :: u207 :: u208 :: u209 :: u210 :: u211 :: u212 :: u213 :: u214 :: u215 :: u216 :: u217 :: u218 :: u219 :: u220 :: u221 :: u222 :: []), []⟩ w) : Code.wp Try.prog (tr4 11) Q ⟨List.toArray (u0 :: u1 :: u2 :: u3 :: u4 :: u5 :: u6 :: u7 :: u8 :: .int .i64 z :: .int .i64 q :: u11 :: u12 :: u13 :: u14 :: u15 :: u16 :: u17 :: u18 :: u19 :: u20 :: u21 :: u22 :: u23 :: u24 :: u25 :: u26 :: u27 :: u28 :: u29 :: u30 :: u31 :: u32 :: u33 :: u34 :: u35 :: u36 :: u37 :: u38 :: u39 :: u40 :: u41 :: u42 :: u43 :: u44 :: u45 :: u46 :: u47 :: u48 :: u49 :: u50 :: u51 :: u52 :: u53 :: u54 :: u55 :: u56 :: u57 :: u58 :: u59 :: u60 :: u61 :: u62 :: u63 :: u64 :: u65 :: u66 :: u67 :: u68 :: u69 :: u70 :: u71 :: u72 :: u73 :: u74 :: u75 :: u76 :: u77 :: u78 :: u79 :: u80 :: u81 :: u82 :: u83 :: u84 :: u85 :: u86 :: u87 :: u88 :: u89 :: u90 :: u91 :: u92 :: u93 :: u94 :: u95 :: u96 :: u97 :: u98 :: u99 :: u100 :: u101 :: u102 :: u103 :: u104 :: u105 :: u106 :: u107 :: u108 :: u109 :: u110 :: u111 :: u112 :: u113 :: u114 :: u115 :: u116 :: u117 :: u118 :: u119 :: u120 :: u121 :: u122 :: u123 :: u124 :: u125 :: u126 :: u127 :: u128 :: u129 :: u130 :: u131 :: u132 :: u133 :: u134 :: u135 :: u136 :: u137 :: u138 :: u139 :: u140 :: u141 :: u142 :: u143 :: u144 :: u145 :: u146 :: u147 :: u148 :: u149 :: u150 :: u151 :: u152 :: u153 :: u154 :: u155 :: u156 :: u157 :: u158 :: u159 :: u160 :: u161 :: u162 :: u163 :: u164 :: u165 :: u166 :: u167 :: u168 :: u169 :: u170 :: u171 :: u172 :: u173 :: u174 :: u175 :: u176 :: u177 :: u178 :: u179 :: u180 :: u181 :: u182 :: u183 :: u184 :: u185 :: u186 :: u187 :: u188 :: u189 :: u190 :: u191 :: u192 :: u193 :: u194 :: u195 :: u196 :: u197 :: u198 :: u199 :: u200 :: u201 :: u202 :: u203 :: u204 :: u205 :: u206 :: u207 :: u208 :: u209 :: u210 :: u211 :: u212 :: u213 :: u214 :: u215 :: u216 :: u217 :: u218 :: u219 :: u220 :: u221 :: u222 :: []), []⟩ w := by
  have HF := Lib.hid hfin
  clear hfin
  conv => arg 2; whnf
  by_cases h1 : 0 < q
  · have d1 : decide (0 < q) = true := decide_eq_true h1
    by_cases h2 : 0 ≤ z
    · have d2 : decide (0 ≤ z) = true := decide_eq_true h2
      obtain rfl : t = true := ht.2 ⟨h1, h2⟩
      clear ht
      go_wp2
      exact HF.out _ _ _ _ _
    · have d2 : decide (0 ≤ z) = false := decide_eq_false h2
      obtain rfl : t = false := by cases t with | false => rfl | true => exact absurd (ht.1 rfl).2 h2
      clear ht
      go_wp2
      exact HF.out _ _ _ _ _
  · have d1 : decide (0 < q) = false := decide_eq_false h1
    obtain rfl : t = false := by cases t with | false => rfl | true => exact absurd (ht.1 rfl).1 h1
    clear ht
    go_wp2
    exact HF.out _ _ _ _ _
set_option maxRecDepth 100000 in
set_option maxHeartbeats 2000000 in
theorem streg36 {Q : Exit → Act → World → Prop} (w : World) (i : Nat) (z : Int) (t : Bool) (u0 u1 u2 u3 u4 u5 u6 u7 u8 u9 u10 u11 u12 u13 u14 u15 u16 u17 u18 u19 u22 u23 u24 u25 u26 u27 u28 u29 u30 u31 u32 u33 u34 u35 u36 u37 u38 u39 u40 u41 u42 u43 u44 u45 u46 u47 u48 u49 u50 u51 u52 u53 u54 u55 u56 u57 u58 u59 u60 u61 u62 u63 u64 u65 u66 u67 u68 u69 u70 u71 u72 u73 u74 u75 u76 u77 u78 u79 u80 u81 u82 u83 u84 u85 u86 u87 u88 u89 u90 u91 u92 u93 u94 u95 u96 u97 u98 u99 u100 u101 u102 u103 u104 u105 u106 u107 u108 u109 u110 u111 u112 u113 u114 u115 u116 u117 u118 u119 u120 u121 u122 u123 u124 u125 u126 u127 u128 u129 u130 u131 u132 u133 u134 u135 u136 u137 u138 u139 u140 u141 u142 u143 u144 u145 u146 u147 u148 u149 u150 u151 u152 u153 u154 u155 u156 u157 u158 u159 u160 u161 u162 u163 u164 u165 u166 u167 u168 u169 u170 u171 u172 u173 u174 u175 u176 u177 u178 u179 u180 u181 u182 u183 u184 u185 u186 u187 u188 u189 u190 u191 u192 u193 u194 u195 u196 u197 u198 u199 u200 u201 u202 u203 u204 u205 u206 u207 u208 u209 u210 u211 u212 u213 u214 u215 u216 u217 u218 u219 u220 u221 u222 : Value) (ht : t = true ↔ 0 ≤ z ∧ z < (i : Int))
    (hfin : ∀ (v153 v154 v155 v156 v157 v158 : Value), Q .normal ⟨List.toArray (u0 :: u1 :: u2 :: u3 :: u4 :: u5 :: u6 :: u7 :: u8 :: u9 :: u10 :: u11 :: u12 :: u13 :: u14 :: u15 :: u16 :: u17 :: u18 :: u19 :: .int .i64 (i : Int) :: .int .i64 z :: u22 :: u23 :: u24 :: u25 :: u26 :: u27 :: u28 :: u29 :: u30 :: u31 :: u32 :: u33 :: u34 :: u35 :: u36 :: u37 :: u38 :: u39 :: u40 :: u41 :: u42 :: u43 :: u44 :: u45 :: u46 :: u47 :: u48 :: u49 :: u50 :: u51 :: u52 :: u53 :: u54 :: u55 :: u56 :: u57 :: u58 :: u59 :: u60 :: u61 :: u62 :: u63 :: u64 :: u65 :: u66 :: u67 :: u68 :: u69 :: u70 :: u71 :: u72 :: u73 :: u74 :: u75 :: u76 :: u77 :: u78 :: u79 :: u80 :: u81 :: u82 :: u83 :: u84 :: u85 :: u86 :: u87 :: u88 :: u89 :: u90 :: u91 :: u92 :: u93 :: u94 :: u95 :: u96 :: u97 :: u98 :: u99 :: u100 :: u101 :: u102 :: u103 :: u104 :: u105 :: u106 :: u107 :: u108 :: u109 :: u110 :: u111 :: u112 :: u113 :: u114 :: u115 :: u116 :: u117 :: u118 :: u119 :: u120 :: u121 :: u122 :: u123 :: u124 :: u125 :: u126 :: u127 :: u128 :: u129 :: u130 :: u131 :: u132 :: u133 :: u134 :: u135 :: u136 :: u137 :: u138 :: u139 :: u140 :: u141 :: u142 :: u143 :: u144 :: u145 :: u146 :: u147 :: u148 :: u149 :: u150 :: u151 :: u152 :: v153 :: v154 :: v155 :: v156 :: v157 :: v158 :: .bool t :: u160 :: u161 :: u162 :: u163 :: u164 :: u165 :: u166 :: u167 :: u168 :: u169 :: u170 :: u171 :: u172 :: u173 :: u174 :: u175 :: u176 :: u177 :: u178 :: u179 :: u180 :: u181 :: u182 :: u183 :: u184 :: u185 :: u186 :: u187 :: u188 :: u189 :: u190 :: u191 :: u192 :: u193 :: u194 :: u195 :: u196 :: u197 :: u198 :: u199 :: u200 :: u201 :: u202 :: u203 :: u204 :: u205 :: u206 :: u207 :: u208 :: u209 :: u210 :: u211 :: u212 :: u213 :: u214 :: u215 :: u216 :: u217 :: u218 :: u219 :: u220 :: u221 :: u222 :: []), []⟩ w) : Code.wp Try.prog (tr4 36) Q ⟨List.toArray (u0 :: u1 :: u2 :: u3 :: u4 :: u5 :: u6 :: u7 :: u8 :: u9 :: u10 :: u11 :: u12 :: u13 :: u14 :: u15 :: u16 :: u17 :: u18 :: u19 :: .int .i64 (i : Int) :: .int .i64 z :: u22 :: u23 :: u24 :: u25 :: u26 :: u27 :: u28 :: u29 :: u30 :: u31 :: u32 :: u33 :: u34 :: u35 :: u36 :: u37 :: u38 :: u39 :: u40 :: u41 :: u42 :: u43 :: u44 :: u45 :: u46 :: u47 :: u48 :: u49 :: u50 :: u51 :: u52 :: u53 :: u54 :: u55 :: u56 :: u57 :: u58 :: u59 :: u60 :: u61 :: u62 :: u63 :: u64 :: u65 :: u66 :: u67 :: u68 :: u69 :: u70 :: u71 :: u72 :: u73 :: u74 :: u75 :: u76 :: u77 :: u78 :: u79 :: u80 :: u81 :: u82 :: u83 :: u84 :: u85 :: u86 :: u87 :: u88 :: u89 :: u90 :: u91 :: u92 :: u93 :: u94 :: u95 :: u96 :: u97 :: u98 :: u99 :: u100 :: u101 :: u102 :: u103 :: u104 :: u105 :: u106 :: u107 :: u108 :: u109 :: u110 :: u111 :: u112 :: u113 :: u114 :: u115 :: u116 :: u117 :: u118 :: u119 :: u120 :: u121 :: u122 :: u123 :: u124 :: u125 :: u126 :: u127 :: u128 :: u129 :: u130 :: u131 :: u132 :: u133 :: u134 :: u135 :: u136 :: u137 :: u138 :: u139 :: u140 :: u141 :: u142 :: u143 :: u144 :: u145 :: u146 :: u147 :: u148 :: u149 :: u150 :: u151 :: u152 :: u153 :: u154 :: u155 :: u156 :: u157 :: u158 :: u159 :: u160 :: u161 :: u162 :: u163 :: u164 :: u165 :: u166 :: u167 :: u168 :: u169 :: u170 :: u171 :: u172 :: u173 :: u174 :: u175 :: u176 :: u177 :: u178 :: u179 :: u180 :: u181 :: u182 :: u183 :: u184 :: u185 :: u186 :: u187 :: u188 :: u189 :: u190 :: u191 :: u192 :: u193 :: u194 :: u195 :: u196 :: u197 :: u198 :: u199 :: u200 :: u201 :: u202 :: u203 :: u204 :: u205 :: u206 :: u207 :: u208 :: u209 :: u210 :: u211 :: u212 :: u213 :: u214 :: u215 :: u216 :: u217 :: u218 :: u219 :: u220 :: u221 :: u222 :: []), []⟩ w := by
  have HF := Lib.hid hfin
  clear hfin
  conv => arg 2; whnf
  by_cases h1 : 0 ≤ z
  · have d1 : decide (0 ≤ z) = true := decide_eq_true h1
    by_cases h2 : z < (i : Int)
    · have d2 : decide (z < (i : Int)) = true := decide_eq_true h2
      obtain rfl : t = true := ht.2 ⟨h1, h2⟩
      clear ht
      go_wp2
      exact HF.out _ _ _ _ _ _
    · have d2 : decide (z < (i : Int)) = false := decide_eq_false h2
      obtain rfl : t = false := by cases t with | false => rfl | true => exact absurd (ht.1 rfl).2 h2
      clear ht
      go_wp2
      exact HF.out _ _ _ _ _ _
  · have d1 : decide (0 ≤ z) = false := decide_eq_false h1
    obtain rfl : t = false := by cases t with | false => rfl | true => exact absurd (ht.1 rfl).1 h1
    clear ht
    go_wp2
    exact HF.out _ _ _ _ _ _
end Go.Proofs.Ytedkbjimofiphaa
