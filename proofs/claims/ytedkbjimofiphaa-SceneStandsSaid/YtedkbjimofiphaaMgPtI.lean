/- The law's painted: Paint with the looks by nodes, told of whom it asked. Region 10 of the law's row: a box's node against the shape's. The law's row: whose look a box gets (plain); rows of records. -/
import Derived.Test.YtedkbjimofiphaaMgPtH
import Derived.Test.YtedkbjimofiphaaMgPtC
import Derived.Test.YtedkbjimofiphaaMgPtD
namespace Go.Proofs.Ytedkbjimofiphaa
open Go.RowKit Fl
/-- same node, same look -/
def Same (n : Nat) (b : Nat → BX) (L : Nat → LK) : Prop := ∀ i k, i < n → k < n → (b k).sl = (b i).sl → (b k).gn = (b i).gn → L k = L i
def I26 (aq bq lq gb gl n cb cl B : Nat) (b : Nat → BX) (L : Nat → LK) (i : Nat) (w : World) : Prop := CI w bq lq gb gl n cb cl b L ∧ AK w aq B i b
theorem AK.lt {w : World} {aq B m : Nat} {b : Nat → BX} (hA : AK w aq B m b) {k : Nat} (hk : akX aq w k) : k < w.heap.size ∧ (k = aq ∨ B ≤ k) := by
  obtain ⟨v, c1, c2⟩ := hA.c
  rcases hk with rfl | ⟨v', h3, h4⟩
  · exact ⟨Nat.lt_of_lt_of_le hA.l hA.hB, Or.inl rfl⟩
  · rw [c1] at h3; cases h3; exact ⟨(c2.lt k h4).2, Or.inr (c2.lt k h4).1⟩
theorem lf26 (aq bq lq gb gl n cb cl B : Nat) (b : Nat → BX) (L : Nat → LK) (hb : bq < B ∧ lq < B ∧ gb < B ∧ gl < B) (hne : bq ≠ aq ∧ lq ≠ aq ∧ gb ≠ aq ∧ gl ≠ aq) (hn : n ≤ 1048576) (hs : Same n b L) (ho : ∀ k, k < n → (L k).OK) :
    LF 26 #[.pointer (some ⟨aq, 0, none⟩), .pointer (some ⟨bq, 0, none⟩), .pointer (some ⟨lq, 0, none⟩)] b L n B (I26 aq bq lq gb gl n cb cl B b L) (akX aq) where
  call i w hi hI hB := (c26 w aq bq lq gb gl n cb cl B i b L hI.1 hI.2 hb hne hi hn (fun k hk => hs i k hi hk) ho).mono fun e w' ⟨he, h1, h2, h3, h4⟩ => ⟨he, ⟨h1, h2⟩, h3, h4⟩
  lt i w k hI hk := (hI.2.lt hk).1
  stay i w w' hI hK := by
    obtain ⟨hA, hX⟩ := hI.2.move hK.size fun k hk => hK.block k (hI.2.lt hk).1 fun h => h.1 hk
    exact ⟨⟨hI.1.keep hK (by have := hb; omega), hA⟩, hX⟩
theorem start8 (w : World) (x y : Value) : ∃ W, W = ((w.alloc (.cells #[x] 24)).alloc (.cells #[y] 25)).alloc (.cells #[.slice none 0 0] 37) ∧ Below w.heap.size w W ∧ W.cell? ⟨w.heap.size, 0, none⟩ = some x ∧ W.cell? ⟨w.heap.size + 1, 0, none⟩ = some y ∧ W.cell? ⟨w.heap.size + 2, 0, none⟩ = some (.slice none 0 0) ∧ W.frozen? ⟨w.heap.size + 2, 0, none⟩ = false ∧ W.heap.size = w.heap.size + 3 := by
  refine ⟨_, rfl, (((Below.refl _ _).alloc (Nat.le_refl _) _).alloc (by simp) _).alloc (by simp; omega) _, ?_, ?_, ?_, ?_, ?_⟩
  · simp [go_sem]
  · simp [go_sem]
  · simp [go_sem]
  · simp [go_sem]
  · simp
set_option maxRecDepth 100000 in
set_option maxHeartbeats 1000000 in
theorem c8 (w : World) (gb gl n cb cl : Nat) (b : Nat → BX) (L : Nat → LK) (hb : ∀ i, i < n → w.rangeAt gb (i * 7) (b i).cells) (hl : ∀ i, i < n → w.rangeAt gl (i * 54) (L i).cells) (g1 : gb < w.heap.size) (g2 : gl < w.heap.size)
    (bo : ∀ i, i < n → (b i).OK) (lo : ∀ i, i < n → (L i).OK) (hn : n ≤ 1048576) (hs : Same n b L) :
    Calls Try.prog 8 #[.slice (some ⟨gb, 0, none⟩) n cb, .slice (some ⟨gl, 0, none⟩) n cl] w fun e w' => ∃ ov av MS OS, e = .returned (.tuple #[ov, av]) ∧ PR b L n MS OS ∧
      w'.ownsRow w.heap.size 60 23 ov n ((whole n (abO b) (kf (lvO L))).flatMap (fun i => itCells (b i) (MS i) (OS i))) ∧ w'.ownsRow w.heap.size 30 2 av n ((List.range n).flatMap (fun k => (b k).nd)) ∧ Below w.heap.size w w' := by
  obtain ⟨W, hW, B1, x1, x2, x3, x4, x5⟩ := start8 w (.slice (some ⟨gb, 0, none⟩) n cb) (.slice (some ⟨gl, 0, none⟩) n cl)
  have HW := Lib.hid hW
  have BH := Lib.hid B1
  have X5 := Lib.hid x5
  have hCI : CI W w.heap.size (w.heap.size + 1) gb gl n cb cl b L := ⟨x1, x2, fun k hk => range_below (hb k hk) B1 g1, fun k hk => range_below (hl k hk) B1 g2, by omega⟩
  have hAK : AK W (w.heap.size + 2) W.heap.size 0 b := ⟨⟨_, x3, World.ownsRow_nil ..⟩, x4, by omega, Nat.le_refl _⟩
  have hx : ¬ akX (w.heap.size + 2) W gb := fun h => by
    rcases (hAK.lt h).2 with h | h <;> omega
  have HC := Lib.hid (c13a W (w.heap.size + 2) w.heap.size (w.heap.size + 1) n gb cb b L _ _ ⟨lf26 (w.heap.size + 2) w.heap.size (w.heap.size + 1) gb gl n cb cl W.heap.size b L (by omega) (by omega) hn hs lo, ⟨hCI, hAK⟩, fun i hi => hCI.rb i hi, hCI.l.2.2.1, hx, bo, lo, hn⟩)
  have HA := Lib.hid hAK
  clear hb hl bo lo hs hCI hAK hx x3 x4
  clear B1 x2 x5
  go_enter Try.func8, Try.ntmps8
  go_upto_region 2 with fail
  show Code.wp _ _ _ _ (((w.alloc (.cells #[.slice (some ⟨gb, 0, none⟩) n cb] 24)).alloc (.cells #[.slice (some ⟨gl, 0, none⟩) n cl] 25)).alloc (.cells #[.slice none 0 0] 37))
  rw [← hW]
  clear hW
  go_wp2_with fail
  go_at_call 13
  refine HC.out.mono fun e w2 ⟨ov, MS, OS, he, pr, ho, hi, hk⟩ => ?_
  subst he
  obtain ⟨av, y1, y2⟩ := hi.2.c
  have hk2 : Below w.heap.size W w2 := hk.below _ (by rw [X5.out]; omega) fun k h1 h2 => by
    rcases (HA.out.lt h2).2 with h | h
    · omega
    · rw [X5.out] at h; omega
  have PO := Lib.hid (And.intro pr (And.intro ho (And.intro y2 hk2)))
  clear pr ho hi hk hk2 y2 HC x1
  obtain ⟨po, co, rfl, -⟩ := owned_slice PO.out.2.1
  obtain ⟨pa, ca, rfl, -⟩ := owned_slice PO.out.2.2.1
  go_upto_region 3 with fail
  go_quiet (fail)
  go_wp2
  go_ret2
  have h1 := X5.out
  have h2 := PO.out
  refine ⟨_, _, MS, OS, rfl, h2.1, owned_at (owned_rebase h2.2.1 fun g hg => by have := (h2.2.1.lt g hg).1; omega) fun _ _ _ => rfl, owned_at (owned_rebase h2.2.2.1 fun g hg => by have := (h2.2.2.1.lt g hg).1; omega) fun _ _ _ => rfl, below_drewN (BH.out.trans (h2.2.2.2.mono (by omega)))⟩
end Go.Proofs.Ytedkbjimofiphaa

namespace Go.Proofs.Ytedkbjimofiphaa
open Go.RowKit Fl
noncomputable def tr7 (n : Nat) : Code := (Try.f7.body.bind (findRegion n)).getD .skip
theorem hfd35 (w : World) (b : BX) : (Instr.field 35 (.agg #[.int .u32 (b.sl : Int), .int .u32 (b.gn : Int), .int .i64 b.ab, .float .f64 b.x, .float .f64 b.y, .float .f64 b.w, .float .f64 b.h]) 0).run Try.prog w = .ok (.agg #[.int .u32 (b.sl : Int), .int .u32 (b.gn : Int)]) w := by kernel_rfl
theorem sz30 : (Try.prog.info? 30).map (·.size) = some 2 := by kernel_rfl
theorem sz56 : (Try.prog.info? 56).map (·.size) = some 24 := by kernel_rfl
set_option maxRecDepth 100000 in
set_option maxHeartbeats 2000000 in
theorem reg7 {Q : Exit → Act → World → Prop} (w : World) (gs os n cs gb nb cb i k : Nat) (s : SH) (bk : BX) (u1 u2 u3 u5 u7 u9 u10 u11 u12 u13 u14 u15 u16 u17 u18 u19 u20 u21 u22 u23 u24 u25 u26 u27 u28 u29 u30 u31 u32 u33 u34 u35 u36 u37 u38 u39 u40 u41 u42 u43 u44 u45 u46 u47 u48 u49 u50 u51 u52 u53 u54 u55 : Value) (hs : s.OK) (hr : w.rangeAt gs (os + i * 24) s.cells) (hb : w.rangeAt gb (k * 7) bk.cells) (hi : i < n) (hk : k < nb) (lg : gs < w.heap.size) (lb : gb < w.heap.size)
    (hfin : ∀ (v26 v27 v28 v29 v30 v31 v32 v33 v34 v35 v36 : Value) (w' : World), Below w.heap.size w w' → Q .normal ⟨List.toArray (.slice (some ⟨gs, os, none⟩) n cs :: u1 :: u2 :: u3 :: .slice (some ⟨gb, 0, none⟩) nb cb :: u5 :: .int .i64 (i : Int) :: u7 :: .int .i64 (k : Int) :: u9 :: u10 :: u11 :: u12 :: u13 :: u14 :: u15 :: u16 :: u17 :: u18 :: u19 :: u20 :: u21 :: u22 :: u23 :: u24 :: u25 :: v26 :: v27 :: v28 :: v29 :: v30 :: v31 :: v32 :: v33 :: v34 :: v35 :: v36 :: .bool ((bk.sl : Int) == (s.bx.sl : Int) && (bk.gn : Int) == (s.bx.gn : Int)) :: u38 :: u39 :: u40 :: u41 :: u42 :: u43 :: u44 :: u45 :: u46 :: u47 :: u48 :: u49 :: u50 :: u51 :: u52 :: u53 :: u54 :: u55 :: []), []⟩ w') : Code.wp Try.prog (tr7 10) Q ⟨List.toArray (.slice (some ⟨gs, os, none⟩) n cs :: u1 :: u2 :: u3 :: .slice (some ⟨gb, 0, none⟩) nb cb :: u5 :: .int .i64 (i : Int) :: u7 :: .int .i64 (k : Int) :: u9 :: u10 :: u11 :: u12 :: u13 :: u14 :: u15 :: u16 :: u17 :: u18 :: u19 :: u20 :: u21 :: u22 :: u23 :: u24 :: u25 :: u26 :: u27 :: u28 :: u29 :: u30 :: u31 :: u32 :: u33 :: u34 :: u35 :: u36 :: u37 :: u38 :: u39 :: u40 :: u41 :: u42 :: u43 :: u44 :: u45 :: u46 :: u47 :: u48 :: u49 :: u50 :: u51 :: u52 :: u53 :: u54 :: u55 :: []), []⟩ w := by
  have HF := Lib.hid hfin
  have R1 := Lib.hid (show ∀ w', Below w.heap.size w w' → w'.rangeAt gs (os + i * 24) s.cells from fun w' h => range_below hr h lg)
  have R2 := Lib.hid (show ∀ w', Below w.heap.size w w' → w'.rangeAt gb (k * 7) bk.nd from fun w' h j v hj => range_below hb h lb j v (by match j, hj with | 0, hj => exact hj | 1, hj => exact hj))
  have S1 := Lib.hid (show (Try.prog.info? 56).map (·.size) = some s.cells.length by rw [sh_len hs]; exact sz56)
  have HS := Lib.hid hs
  have hi2 : (i : Int) < (n : Int) := by omega
  have hk2 : (k : Int) < (nb : Int) := by omega
  clear hfin hr hb lg lb hs
  conv => arg 2; whnf
  refine wp_region_rel 12 (fun w' => Below w.heap.size w w') (fun _ _ v => v = .agg s.bx.cells.toArray) (by kernel_rfl) (by kernel_rfl) ((Below.refl _ _).drew) ?_
  simp only [List.take_succ_cons, List.take_zero, List.drop_succ_cons, List.drop_zero]
  refine rel_move (v := .slice (some ⟨gb, 0, none⟩) nb cb) rfl rfl ?_
  simp only [Act.put, List.setIfInBounds_toArray, List.set_cons_succ, List.set_cons_zero]
  refine rel_move (v := .int .i64 (k : Int)) rfl rfl ?_
  simp only [Act.put, List.setIfInBounds_toArray, List.set_cons_succ, List.set_cons_zero]
  refine rel_val (v := .pointer (some ⟨gb, k * 7, none⟩)) rfl (fun w' hw => by go_simp) ?_
  simp only [Act.put, List.setIfInBounds_toArray, List.set_cons_succ, List.set_cons_zero]
  refine rel_val (v := .pointer (some ⟨gb, k * 7, none⟩)) rfl (fun w' hw => by go_simp) ?_
  simp only [Act.put, List.setIfInBounds_toArray, List.set_cons_succ, List.set_cons_zero]
  refine rel_load_row gb (k * 7) bk.nd _ rfl rfl R2.out Try.underlying30 rfl sz30 ?_
  simp only [Act.put, List.setIfInBounds_toArray, List.set_cons_succ, List.set_cons_zero]
  refine rel_move (v := .slice (some ⟨gs, os, none⟩) n cs) rfl rfl ?_
  simp only [Act.put, List.setIfInBounds_toArray, List.set_cons_succ, List.set_cons_zero]
  refine rel_move (v := .int .i64 (i : Int)) rfl rfl ?_
  simp only [Act.put, List.setIfInBounds_toArray, List.set_cons_succ, List.set_cons_zero]
  refine rel_val (v := .pointer (some ⟨gs, os + i * 24, none⟩)) rfl (fun w' hw => by go_simp) ?_
  simp only [Act.put, List.setIfInBounds_toArray, List.set_cons_succ, List.set_cons_zero]
  refine rel_load_row gs (os + i * 24) s.cells _ rfl rfl R1.out Try.underlying56 rfl S1.out ?_
  simp only [Act.put, List.setIfInBounds_toArray, List.set_cons_succ, List.set_cons_zero]
  refine rel_call (f := 25) (args := #[.agg s.cells.toArray]) rfl (fun w' hw => by go_simp) (fun w' hw => (c25B w' s HS.out).mono fun e w2 ⟨he, h⟩ => ⟨_, he, rfl, hw.trans (h.mono hw.size)⟩) (fun v hv => ?_)
  subst hv
  simp only [Act.put, List.setIfInBounds_toArray, List.set_cons_succ, List.set_cons_zero]
  refine rel_val (v := .agg s.bx.nd.toArray) rfl (fun w' hw => by unfold BX.cells BX.nd; go_simp; rw [hfd35]; rfl) ?_
  simp only [Act.put, List.setIfInBounds_toArray, List.set_cons_succ, List.set_cons_zero]
  refine rel_val (v := .bool ((bk.sl : Int) == (s.bx.sl : Int) && (bk.gn : Int) == (s.bx.gn : Int))) rfl (fun w' hw => by have h := eq30 w' bk.sl bk.gn s.bx.sl s.bx.gn; unfold BX.nd; go_simp; by_cases e1 : (bk.sl : Int) = (s.bx.sl : Int) <;> by_cases e2 : (bk.gn : Int) = (s.bx.gn : Int) <;> simp [e1, e2]) ?_
  simp only [Act.put, List.setIfInBounds_toArray, List.set_cons_succ, List.set_cons_zero]
  refine rel_nil ?_
  intro w' hw
  refine wpList_nil ?_
  exact HF.out _ _ _ _ _ _ _ _ _ _ _ w' hw
end Go.Proofs.Ytedkbjimofiphaa

namespace Go.Proofs.Ytedkbjimofiphaa
open Go.RowKit Fl
/-- the first k < n with p, else n -/
def least (p : Nat → Bool) : Nat → Nat
  | 0 => 0
  | n + 1 => if least p n < n then least p n else if p n then n else n + 1
theorem least_le (p : Nat → Bool) (n : Nat) : least p n ≤ n := by
  induction n with
  | zero => exact Nat.le_refl _
  | succ n ih => unfold least; split
                 · omega
                 · split <;> omega
theorem least_hit (p : Nat → Bool) (n : Nat) (h : least p n < n) : p (least p n) = true := by
  induction n with
  | zero => omega
  | succ n ih =>
    unfold least at h ⊢
    split
    · rename_i h1; exact ih h1
    · rename_i h1; rw [if_neg h1] at h
      split
      · assumption
      · rename_i h2; rw [if_neg h2] at h; omega
theorem least_miss (p : Nat → Bool) (n j : Nat) (h : j < least p n) : p j = false := by
  induction n with
  | zero => simp [least] at h
  | succ n ih =>
    unfold least at h
    split at h
    · exact ih h
    · rename_i h1
      have hl := least_le p n
      split at h
      · exact ih (by omega)
      · rename_i h2
        by_cases e : j < n
        · exact ih (by omega)
        · have : j = n := by omega
          subst this
          simpa using h2
theorem least_uniq {p : Nat → Bool} {n m : Nat} (h1 : m ≤ n) (h2 : m < n → p m = true) (h3 : ∀ j, j < m → p j = false) : least p n = m := by
  have a := least_le p n
  rcases Nat.lt_trichotomy (least p n) m with h | h | h
  · have := least_hit p n (by omega)
    rw [h3 _ h] at this; cases this
  · exact h
  · have := least_miss p n m h
    rw [h2 (by omega)] at this; cases this
def sm (S : Nat → SH) (j i : Nat) : Bool := ((S j).bx.sl : Int) == ((S i).bx.sl : Int) && ((S j).bx.gn : Int) == ((S i).bx.gn : Int)
theorem sm_iff {S : Nat → SH} {j i : Nat} : sm S j i = true ↔ (S j).bx.sl = (S i).bx.sl := by
  have e : ∀ k, (S k).bx.gn = 1 := fun _ => rfl
  unfold sm
  rw [e, e]
  simp only [Bool.and_eq_true, beq_iff_eq, and_true]
  omega
theorem sm_self (S : Nat → SH) (i : Nat) : sm S i i = true := sm_iff.2 rfl
theorem sm_congr {S : Nat → SH} {j i k : Nat} (h : sm S i k = true) : sm S j i = sm S j k := by
  have h' := sm_iff.1 h
  have : sm S j i = true ↔ sm S j k = true := by rw [sm_iff, sm_iff, h']
  cases h1 : sm S j i <;> cases h2 : sm S j k <;> simp_all
def lkR (S : Nat → SH) (i : Nat) : LK := (S (least (fun j => sm S j i) i)).lk
theorem lkR_eq {S : Nat → SH} {i m : Nat} (h1 : sm S m i = true) (h2 : m ≤ i) (h3 : ∀ j, j < m → sm S j i = false) : lkR S i = (S m).lk := by
  unfold lkR
  rw [least_uniq (p := fun j => sm S j i) h2 (fun _ => h1) h3]
theorem lkR_sm {S : Nat → SH} {i k : Nat} (h : sm S i k = true) : lkR S i = lkR S k := by
  have ex : ∀ i, ∃ m, m ≤ i ∧ sm S m i = true ∧ ∀ j, j < m → sm S j i = false := fun i => by
    refine ⟨least (fun j => sm S j i) i, least_le _ _, ?_, fun j hj => least_miss _ _ j hj⟩
    rcases Nat.lt_or_ge (least (fun j => sm S j i) i) i with h | h
    · exact least_hit (fun j => sm S j i) i h
    · have := least_le (fun j => sm S j i) i
      rw [show least (fun j => sm S j i) i = i by omega]; exact sm_self S i
  obtain ⟨m, a1, a2, a3⟩ := ex i
  obtain ⟨m', b1, b2, b3⟩ := ex k
  rw [lkR_eq a2 a1 a3, lkR_eq b2 b1 b3]
  have e : m = m' := by
    rcases Nat.lt_trichotomy m m' with h1 | h1 | h1
    · have := b3 m h1; rw [← sm_congr h, a2] at this; cases this
    · exact h1
    · have := a3 m' h1; rw [sm_congr h, b2] at this; cases this
  rw [e]
theorem same_lkR (S : Nat → SH) (n : Nat) : Same n (fun i => (S i).bx) (lkR S) := fun i k _ _ h1 _ => lkR_sm (sm_iff.2 h1)
theorem lkR_OK {S : Nat → SH} {n i : Nat} (h : ∀ k, k < n → (S k).OK) (hi : i < n) : (lkR S i).OK := lk_OK (h _ (Nat.lt_of_le_of_lt (least_le _ _) hi))
/-- the look while p boxes are still to be asked -/
def Rk (S : Nat → SH) (i p : Nat) (x : LK) : Prop := ∃ m, p ≤ m ∧ m ≤ i ∧ sm S m i = true ∧ (∀ j, p ≤ j → j < m → sm S j i = false) ∧ x = if m = i then (S i).lk else lkR S m
theorem Rk.start (S : Nat → SH) (i : Nat) : Rk S i i (S i).lk := ⟨i, Nat.le_refl _, Nat.le_refl _, sm_self S i, fun j h1 h2 => by omega, by rw [if_pos rfl]⟩
theorem Rk.hit {S : Nat → SH} {i p : Nat} (hp : p < i) (h : sm S p i = true) : Rk S i p (lkR S p) := ⟨p, Nat.le_refl _, by omega, h, fun j h1 h2 => by omega, by rw [if_neg (by omega)]⟩
theorem Rk.miss {S : Nat → SH} {i p : Nat} {x : LK} (hx : Rk S i (p + 1) x) (h : sm S p i = false) : Rk S i p x := by
  obtain ⟨m, a1, a2, a3, a4, a5⟩ := hx
  exact ⟨m, by omega, a2, a3, fun j h1 h2 => by
    by_cases e : j = p
    · subst e; exact h
    · exact a4 j (by omega) h2, a5⟩
theorem Rk.done {S : Nat → SH} {i : Nat} {x : LK} (hx : Rk S i 0 x) : x = lkR S i := by
  obtain ⟨m, -, a2, a3, a4, rfl⟩ := hx
  split
  · rename_i e
    subst e
    exact (lkR_eq a3 (Nat.le_refl _) fun j hj => a4 j (Nat.zero_le _) hj).symm
  · exact lkR_sm a3
theorem Rk.OK {S : Nat → SH} {n i p : Nat} {x : LK} (hx : Rk S i p x) (h : ∀ k, k < n → (S k).OK) (hi : i < n) : x.OK := by
  obtain ⟨m, -, a2, -, -, rfl⟩ := hx
  split
  · exact lk_OK (h i hi)
  · exact lkR_OK h (by omega)
/-- a record of an own row -/
theorem flatR_len {f : Nat → List Value} {s : Nat} : ∀ n : Nat, (∀ k, k < n → (f k).length = s) → ((List.range n).flatMap f).length = n * s := by
  intro n
  induction n with
  | zero => intro _; simp
  | succ n ih =>
    intro hf
    rw [List.range_succ, List.flatMap_append, List.length_append, ih fun k hk => hf k (by omega)]
    simp [hf n (by omega)]
    rw [Nat.add_mul, Nat.one_mul]
theorem flatR_get {f : Nat → List Value} {s : Nat} : ∀ (n k j : Nat), (∀ k, k < n → (f k).length = s) → k < n → j < s → ((List.range n).flatMap f)[k * s + j]? = (f k)[j]? := by
  intro n
  induction n with
  | zero => intro k j _ hk; omega
  | succ n ih =>
    intro k j hf hk hj
    have hl := flatR_len n fun k hk => hf k (by omega)
    rw [List.range_succ, List.flatMap_append]
    by_cases e : k < n
    · rw [List.getElem?_append_left (by rw [hl]; have : (k + 1) * s ≤ n * s := Nat.mul_le_mul_right _ e; rw [Nat.add_mul] at this; omega)]
      exact ih k j (fun k hk => hf k (by omega)) e hj
    · have : k = n := by omega
      subst this
      rw [List.getElem?_append_right (by rw [hl]; omega), hl]
      simp
theorem owned_rec {w : World} {base s n : Nat} {e : TypeId} {g c : Nat} {f : Nat → List Value} (hf : ∀ k, k < n → (f k).length = s) (h : w.ownsRow base e s (.slice (some ⟨g, 0, none⟩) n c) n ((List.range n).flatMap f)) {k : Nat} (hk : k < n) : w.rangeAt g (k * s) (f k) := fun j v hj => by
  have hl := (List.getElem?_eq_some_iff.1 hj).1
  rw [hf k hk] at hl
  have := flatR_get n k j hf hk hl
  have hb : k * s + j < n * s := by have : (k + 1) * s ≤ n * s := Nat.mul_le_mul_right _ hk; rw [Nat.add_mul] at this; omega
  rw [h.cellAt (k * s + j) hb, this]; exact hj
end Go.Proofs.Ytedkbjimofiphaa
