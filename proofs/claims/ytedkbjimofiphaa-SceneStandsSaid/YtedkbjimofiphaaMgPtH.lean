/- The law's looks by nodes: painted$1. Paint of no boxes. -/
import Derived.Test.YtedkbjimofiphaaMgPtD
import Derived.Laws.StructEq
import Derived.Deep.Upon
namespace Go.Proofs.Ytedkbjimofiphaa
open Go.RowKit Fl
theorem fields30 : (Try.prog.fieldsOf 30).toList.map (fun f => (f.name, f.type, f.offset)) = [("Slot", 28, 0), ("Gen", 28, 1)] := by kernel_rfl
theorem agg28 (w : World) : (isAgg 28).run Try.prog w = .ok false w := by kernel_rfl
theorem equal30 (D : Nat) (w : World) (a b c d : Int) : (Op.equalIn (D + 1 + 1) 30 (.agg #[.int .u32 a, .int .u32 b]) (.agg #[.int .u32 c, .int .u32 d])).run Try.prog w = .ok (a == c && b == d) w := by
  rw [run_equalIn_struct w (D + 1) 30 _ _ (by kernel_rfl) (by kernel_rfl)]
  have hf := fields30
  obtain ⟨f, g, hl, ⟨n1, t1, o1⟩, n2, t2, o2⟩ : ∃ f g, (Try.prog.fieldsOf 30).toList = [f, g] ∧ (f.name = "Slot" ∧ f.type = 28 ∧ f.offset = 0) ∧ g.name = "Gen" ∧ g.type = 28 ∧ g.offset = 1 := by
    generalize (Try.prog.fieldsOf 30).toList = L at *
    cases L with
    | nil => cases hf
    | cons f L =>
      cases L with
      | nil => simp at hf
      | cons g L =>
        cases L with
        | nil => simp only [List.map_cons, List.map_nil, List.cons.injEq, Prod.mk.injEq, and_true] at hf; exact ⟨f, g, rfl, hf⟩
        | cons x L => simp at hf
  rw [hl]
  have p : ∀ (x y : Value) (w : World), (part 28 #[x, y] 0).run Try.prog w = .ok x w := fun x y w => by unfold part; rw [Sem.run_bind, agg28]; rfl
  have q : ∀ (x y : Value) (w : World), (part 28 #[x, y] 1).run Try.prog w = .ok y w := fun x y w => by unfold part; rw [Sem.run_bind, agg28]; rfl
  have e : ∀ (x y : Int) (w : World), (Op.equalIn (D + 1) 28 (.int .u32 x) (.int .u32 y)).run Try.prog w = .ok (x == y) w := fun x y w => run_equalIn_int w D 28 .u32 .u32 x y Try.underlying28
  simp only [Op.eqFields, n1, n2, t1, t2, o1, o2, ne_eq, String.reduceEq, not_false_eq_true, if_true, Sem.run_bind, p, q, e, Result.andThen_ok]
  cases h1 : (a == c)
  · simp
  · cases h2 : (b == d) <;> simp [p, q, e, h2]
theorem eq30 (w : World) (a b c d : Int) : (binOp .eql 30 (.agg #[.int .u32 a, .int .u32 b]) (.agg #[.int .u32 c, .int .u32 d])).run Try.prog w = .ok (.bool (a == c && b == d)) w := by
  have h := equal30 9998 w a b c d
  rw [show (9998 + 1 + 1 : Nat) = Op.maxDepth from rfl] at h
  have h2 : (Op.equal 30 (.agg #[.int .u32 a, .int .u32 b]) (.agg #[.int .u32 c, .int .u32 d])).run Try.prog w = .ok (a == c && b == d) w := h
  unfold binOp
  simp only [Sem.run_bind, h2, Result.andThen_ok, Sem.run_pure]
def BX.nd (b : BX) : List Value := [.int .u32 (b.sl : Int), .int .u32 (b.gn : Int)]
/-- what painted$1 reads -/
structure CI (w : World) (bq lq gb gl n cb cl : Nat) (b : Nat → BX) (L : Nat → LK) : Prop where
  cb : w.cell? ⟨bq, 0, none⟩ = some (.slice (some ⟨gb, 0, none⟩) n cb)
  cl : w.cell? ⟨lq, 0, none⟩ = some (.slice (some ⟨gl, 0, none⟩) n cl)
  rb : ∀ k, k < n → w.rangeAt gb (k * 7) (b k).cells
  rl : ∀ k, k < n → w.rangeAt gl (k * 54) (L k).cells
  l : bq < w.heap.size ∧ lq < w.heap.size ∧ gb < w.heap.size ∧ gl < w.heap.size
theorem CI.keep {w w' : World} {bq lq gb gl n cb cl : Nat} {b : Nat → BX} {L : Nat → LK} {e : Nat → Prop} (h : CI w bq lq gb gl n cb cl b L) (hk : Keep w.heap.size e w w') (h1 : ¬ e bq ∧ ¬ e lq ∧ ¬ e gb ∧ ¬ e gl) : CI w' bq lq gb gl n cb cl b L :=
  ⟨(hk.cell (p := ⟨bq, 0, none⟩) h.l.1 h1.1).trans h.cb, (hk.cell (p := ⟨lq, 0, none⟩) h.l.2.1 h1.2.1).trans h.cl, fun k hk2 => range_keep (h.rb k hk2) hk h.l.2.2.1 h1.2.2.1, fun k hk2 => range_keep (h.rl k hk2) hk h.l.2.2.2 h1.2.2.2,
    by have := hk.size; obtain ⟨a, b, c, d⟩ := h.l; omega⟩
/-- who was asked for -/
structure AK (w : World) (aq B i : Nat) (b : Nat → BX) : Prop where
  c : ∃ av, w.cell? ⟨aq, 0, none⟩ = some av ∧ w.ownsRow B 30 2 av i ((List.range i).flatMap (fun k => (b k).nd))
  f : w.frozen? ⟨aq, 0, none⟩ = false
  l : aq < B
  hB : B ≤ w.heap.size
def akX (aq : Nat) (w : World) (k : Nat) : Prop := k = aq ∨ ∃ av, w.cell? ⟨aq, 0, none⟩ = some av ∧ av.ownBlock = some k
theorem below_drewN {B q : Nat} {w w' : World} (h : Below B w w') : Below B w (w'.drewN q) := ⟨h.os, h.tape, h.output, h.size, h.block⟩
theorem new_row2 (w : World) (l : List Value) (e : TypeId) : ∀ j u, l[j]? = some u → (w.alloc (.cells ([Value.agg l.toArray].flatMap fun v => v.cells.toList).toArray e)).cell? ((⟨w.heap.size, 0, none⟩ : Addr).add j) = some u := fun j u hj => by
  rw [Addr.add_lit, Nat.zero_add, World.cell?_alloc_new]
  rw [show ([Value.agg l.toArray].flatMap fun v => v.cells.toList) = l by simp [Value.cells]]
  rw [List.getElem?_toArray, hj]
theorem info30 : (Try.prog.info? 30).map (fun i => (i.zero, i.size, i.bytes)) = some (some (.agg #[.int .u32 0, .int .u32 0]), 2, 8) := by kernel_rfl
theorem AK.told {w W1 w3 : World} {aq B i N : Nat} {b : Nat → BX} {av v3 : Value} {o : Obj} (hA : AK w aq B i b) (B1 : Below w.heap.size w W1) (hN : w.heap.size ≤ N) (hN2 : N < W1.heap.size)
    (a1 : w.cell? ⟨aq, 0, none⟩ = some av) (OA0 : W1.ownsRow B 30 2 av i ((List.range i).flatMap (fun k => (b k).nd)))
    (hown : w3.ownsRow B 30 2 v3 (i + 1) ((List.range i).flatMap (fun k => (b k).nd) ++ (b i).nd)) (hgrow : (W1.alloc o).grownBy w3 av.ownBlock) (hblk : v3.ownBlock = av.ownBlock ∨ (v3.ownBlock = some (W1.heap.size + 1) ∧ Below (W1.heap.size + 1) (W1.alloc o) w3)) :
    w3.cell? ⟨aq, 0, none⟩ = some av ∧ w3.frozen? ⟨aq, 0, none⟩ = false ∧ AK (w3.setCell ⟨aq, 0, none⟩ v3) aq B (i + 1) b ∧ Keep w.heap.size (akX aq w) w (w3.setCell ⟨aq, 0, none⟩ v3) ∧
    (∀ k, akX aq (w3.setCell ⟨aq, 0, none⟩ v3) k → akX aq w k ∨ W1.heap.size ≤ k) ∧ (∀ k, w.heap.size ≤ k → k < W1.heap.size → (w3.setCell ⟨aq, 0, none⟩ v3).heap[k]? = W1.heap[k]?) ∧ W1.heap.size ≤ w3.heap.size ∧ ∀ k, akX aq w k → k < w.heap.size := by
  obtain ⟨av', c1, c2⟩ := hA.c
  have e : av' = av := by rw [a1] at c1; exact (Option.some.inj c1).symm
  subst e
  have hlt : ∀ k, av'.ownBlock = some k → B ≤ k ∧ k < w.heap.size := fun k hk => c2.lt k hk
  have lq := hA.l
  have lB := hA.hB
  have s1 := B1.size
  have K3 : Keep W1.heap.size (fun k => av'.ownBlock = some k) W1 w3 := (Keep.of_below ((Below.refl W1.heap.size W1).alloc (Nat.le_refl _) o)).trans (Keep.of_grown2 hgrow (by simp) fun k hk => hk)
  have naq : av'.ownBlock ≠ some aq := fun h => by have := hlt aq h; omega
  have bq : w3.heap[aq]? = w.heap[aq]? := (K3.block aq (by omega) naq).trans (B1.block aq (by omega))
  have q1 : w3.cell? ⟨aq, 0, none⟩ = some av' := (World.cell?_of_block (w := w) bq).trans a1
  have q2 : w3.frozen? ⟨aq, 0, none⟩ = false := (World.frozen?_of_block (w := w) bq).trans hA.f
  have s3 := K3.size
  have hv3 : ∀ k, v3.ownBlock = some k → av'.ownBlock = some k ∨ W1.heap.size ≤ k := fun k hk => by
    rcases hblk with h | ⟨h, -⟩
    · exact Or.inl (h ▸ hk)
    · rw [h] at hk; cases hk; exact Or.inr (by omega)
  have cq : (w3.setCell ⟨aq, 0, none⟩ v3).cell? ⟨aq, 0, none⟩ = some v3 := World.cell?_setCell_same _ _ _ q1
  refine ⟨q1, q2, ⟨⟨v3, cq, ?_⟩, ?_, lq, ?_⟩, ?_, ?_, ?_, s3, ?_⟩
  · rw [List.range_succ, List.flatMap_append]
    simpa using owned_set hown (p := ⟨aq, 0, none⟩) (by exact lq) v3
  · exact (World.frozen?_setCell ..).trans q2
  · have : (w3.setCell ⟨aq, 0, none⟩ v3).heap.size = w3.heap.size := by simp [World.setCell]
    omega
  · exact ((Keep.of_below B1).trans (K3.mono (by omega) fun k hk h => Or.inr ⟨av', a1, h⟩)).set _ _ fun _ => Or.inl rfl
  · intro k hk
    rcases hk with rfl | ⟨v, hv, h⟩
    · exact Or.inl (Or.inl rfl)
    · rw [cq] at hv
      cases hv
      rcases hv3 k h with h | h
      · exact Or.inl (Or.inr ⟨av', a1, h⟩)
      · exact Or.inr h
  · intro k h1 h2
    refine (Below.heap_setCell _ _ _ _ (show k ≠ aq by omega)).trans (K3.block k h2 fun h => ?_)
    have := hlt k h
    omega
  · intro k hk
    rcases hk with rfl | ⟨v, hv, h⟩
    · omega
    · rw [a1] at hv; cases hv; exact (hlt k h).2
theorem AK.move {w w' : World} {aq B m : Nat} {b : Nat → BX} (hA : AK w aq B m b) (hs : w.heap.size ≤ w'.heap.size) (h : ∀ k, akX aq w k → w'.heap[k]? = w.heap[k]?) : AK w' aq B m b ∧ ∀ k, akX aq w' k → akX aq w k := by
  obtain ⟨av, c1, c2⟩ := hA.c
  have e := h aq (Or.inl rfl)
  have c1' : w'.cell? ⟨aq, 0, none⟩ = some av := (World.cell?_of_block (w := w) e).trans c1
  refine ⟨⟨⟨av, c1', owned_at c2 fun k hk _ => h k (Or.inr ⟨av, c1, hk⟩)⟩, (World.frozen?_of_block (w := w) e).trans hA.f, hA.l, Nat.le_trans hA.hB hs⟩, fun k hk => ?_⟩
  rcases hk with rfl | ⟨v, hv, hk⟩
  · exact Or.inl rfl
  · rw [c1'] at hv; cases hv; exact Or.inr ⟨av, c1, hk⟩
set_option maxRecDepth 100000 in
set_option maxHeartbeats 2000000 in
theorem c26 (w : World) (aq bq lq gb gl n cb cl B i : Nat) (b : Nat → BX) (L : Nat → LK) (hC : CI w bq lq gb gl n cb cl b L) (hA : AK w aq B i b) (hb : bq < B ∧ lq < B ∧ gb < B ∧ gl < B) (hne : bq ≠ aq ∧ lq ≠ aq ∧ gb ≠ aq ∧ gl ≠ aq) (hi : i < n) (hn : n ≤ 1048576)
    (hs : ∀ k, k < n → (b k).sl = (b i).sl → (b k).gn = (b i).gn → L k = L i) (ho : ∀ k, k < n → (L k).OK) :
    Calls Try.prog 26 #[.agg #[.int .u32 ((b i).sl : Int), .int .u32 ((b i).gn : Int)], .pointer (some ⟨aq, 0, none⟩), .pointer (some ⟨bq, 0, none⟩), .pointer (some ⟨lq, 0, none⟩)] w
      fun e w' => e = .returned (.agg (L i).cells.toArray) ∧ CI w' bq lq gb gl n cb cl b L ∧ AK w' aq B (i + 1) b ∧ Keep w.heap.size (akX aq w) w w' ∧ ∀ k, akX aq w' k → akX aq w k ∨ w.heap.size ≤ k := by
  obtain ⟨i0, hi30, hz0, hz1, hz2⟩ := info_parts info30
  have HI := Lib.hid (And.intro hi30 (And.intro hz0 (And.intro hz1 hz2)))
  obtain ⟨av, a1, a2⟩ := hA.c
  have HA := Lib.hid (And.intro hA (And.intro hb hne))
  have HC := Lib.hid hC
  have HS := Lib.hid (And.intro hs (And.intro ho hi))
  have B1 := Lib.hid (show Below w.heap.size w ((w.alloc (.cells #[.int .u32 ((b i).sl : Int), .int .u32 ((b i).gn : Int)] 30)).alloc (.cells Z54 52)) from ((Below.refl _ _).alloc (Nat.le_refl _) _).alloc (by simp) _)
  have T1 := Lib.hid (show ((w.alloc (.cells #[.int .u32 ((b i).sl : Int), .int .u32 ((b i).gn : Int)] 30)).alloc (.cells Z54 52)).there (w.heap.size + 1) 0 54 by
    have := there_new (w.alloc (.cells #[.int .u32 ((b i).sl : Int), .int .u32 ((b i).gn : Int)] 30)) Z54 52 54 rfl
    rwa [show (w.alloc (.cells #[.int .u32 ((b i).sl : Int), .int .u32 ((b i).gn : Int)] 30)).heap.size = w.heap.size + 1 by simp] at this)
  have R0 := range_new w (b i).nd 30
  have R1 := Lib.hid (show ((w.alloc (.cells #[.int .u32 ((b i).sl : Int), .int .u32 ((b i).gn : Int)] 30)).alloc (.cells Z54 52)).rangeAt w.heap.size 0 (b i).nd from range_below R0 ((Below.refl (w.alloc (.cells #[.int .u32 ((b i).sl : Int), .int .u32 ((b i).gn : Int)] 30)).heap.size _).alloc (Nat.le_refl _) (.cells Z54 52)) (by simp))
  have Z1 := Lib.hid (show ((w.alloc (.cells #[.int .u32 ((b i).sl : Int), .int .u32 ((b i).gn : Int)] 30)).alloc (.cells Z54 52)).heap.size = w.heap.size + 2 by simp)
  clear hi30 hz0 hz1 hz2 hA hb hne hC hs ho R0 a1 a2
  go_enter Try.func26, Try.ntmps26
  go_upto_region 1 with fail
  obtain ⟨W1, hW1⟩ : ∃ W1, W1 = (w.alloc (.cells #[.int .u32 ((b i).sl : Int), .int .u32 ((b i).gn : Int)] 30)).alloc (.cells Z54 52) := ⟨_, rfl⟩
  rw [← hW1] at B1 T1 R1 Z1
  show Code.wp _ _ _ _ ((w.alloc (.cells #[.int .u32 ((b i).sl : Int), .int .u32 ((b i).gn : Int)] 30)).alloc (.cells Z54 52))
  rw [← hW1]
  clear hW1
  obtain ⟨av, a1, a2⟩ := HA.out.1.c
  have lq := HA.out.1.l
  have lB := HA.out.1.hB
  have ca : W1.cell? ⟨aq, 0, none⟩ = some av := (World.cell?_of_block (w := w) (B1.out.block aq (by omega))).trans a1
  have fa : W1.frozen? ⟨aq, 0, none⟩ = false := (World.frozen?_of_block (w := w) (B1.out.block aq (by omega))).trans HA.out.1.f
  have OA0 := Lib.hid (owned_at a2 fun k hk hl => B1.out.block k hl)
  have OA := Lib.hid (OA0.out.alloc (.cells ([Value.agg (b i).nd.toArray].flatMap fun v => v.cells.toList).toArray 30))
  have NC := Lib.hid (new_row2 W1 (b i).nd 30)
  clear a1 a2 lq lB
  go_wp2_with (first
    | (refine wpList_load_mid rfl 30 (.tmp 4) rfl w.heap.size 0 rfl (b i).nd _ R1.out Try.underlying30 rfl (by rw [HI.out.1]; exact congrArg some HI.out.2.2.1) ?_)
    | (refine Go.Great.wpList_buildRows rfl 37 30 #[(0, .tmp 8)] 2 [.agg (b i).nd.toArray] rfl (fun _ => 8) W1.heap.size rfl (some 9) rfl Try.underlying37 (by rw [HI.out.1]; exact congrArg some HI.out.2.2.1) (by rw [HI.out.1, Option.bind_some, HI.out.2.1]; rfl) (by decide) (Nat.succ_pos 0) (show 1 * 2 ≤ 2 ^ 24 by decide) rfl (fun v hv => by rw [List.mem_singleton.1 hv]; rfl) (fun k hk => by match k, hk with | 0, _ => rfl) ?_)
    | (at_builtin; refine wpList_append_strong rfl _ _ 37 rfl B 30 i0 (.agg #[.int .u32 0, .int .u32 0]) 2 8 Try.underlying37 HI.out.1 HI.out.2.1 HI.out.2.2.1 HI.out.2.2.2 rfl (by decide) _ _ _ rfl OA.out ⟨W1.heap.size, 0, none⟩ 1 1 (b i).nd rfl ?c0 NC.out ?c2 ?c3 ?c4 ?c5 (by decide) ?_))
  case c0 => rfl
  case c2 => intro u hu; simp only [BX.nd, List.mem_cons, List.not_mem_nil, or_false] at hu; rcases hu with rfl | rfl <;> rfl
  case c3 => unfold maxLen; omega
  case c4 => omega
  case c5 => have := HA.out.1.hB; have := Z1.out; simp; omega
  intro v3 w3 hown hgrow hblk
  obtain ⟨av', hc'⟩ : ∃ x, x = av := ⟨_, rfl⟩
  have a1 : w.cell? ⟨aq, 0, none⟩ = some av := by rw [← ca]; exact (World.cell?_of_block (w := w) (B1.out.block aq (by have := HA.out.1.l; have := HA.out.1.hB; omega))).symm
  obtain ⟨q1, q2, AK4, K4, X4, E4, S4, N4⟩ := HA.out.1.told (N := w.heap.size) B1.out (Nat.le_refl _) (by rw [Z1.out]; omega) a1 OA0.out hown hgrow (by simpa using hblk)
  have P4 := Lib.hid (And.intro AK4 (And.intro K4 X4))
  have RW := Lib.hid (And.intro R1.out T1.out)
  have E4h := Lib.hid E4
  have S4h := Lib.hid S4
  have nak := Lib.hid (show ¬ akX aq w bq ∧ ¬ akX aq w lq ∧ ¬ akX aq w gb ∧ ¬ akX aq w gl from by
    obtain ⟨v, c1, c2⟩ := HA.out.1.c
    have hb := HA.out.2.1
    have hn := HA.out.2.2
    have H : ∀ k, k < B → k ≠ aq → ¬ akX aq w k := fun k h1 h2 h3 => by
      rcases h3 with h3 | ⟨v', h3, h4⟩
      · exact h2 h3
      · rw [c1] at h3; cases h3; have := (c2.lt k h4).1; omega
    exact ⟨H _ hb.1 hn.1, H _ hb.2.1 hn.2.1, H _ hb.2.2.1 hn.2.2.1, H _ hb.2.2.2 hn.2.2.2⟩)
  have NAK := Lib.hid N4
  obtain ⟨p3, c3, rfl, -⟩ := owned_slice hown
  clear hown hgrow hblk OA OA0 NC ca fa a1 AK4 K4 X4 E4 S4 N4 hc'
  go_wp2_with fail
  have hsz : w.heap.size + 2 ≤ w3.heap.size := by rw [← Z1.out]; exact S4h.out
  obtain ⟨w4, hw4⟩ : ∃ x, x = w3.setCell ⟨aq, 0, none⟩ (.slice p3 (i + 1 : Nat) c3) := ⟨_, rfl⟩
  have hsz4 : w.heap.size + 2 ≤ w4.heap.size := by rw [hw4]; simpa [World.setCell] using hsz
  rw [← hw4] at P4 E4h
  show Code.wp _ _ _ _ (w3.setCell ⟨aq, 0, none⟩ (.slice p3 (i + 1 : Nat) c3))
  rw [← hw4]
  have HI4 := Lib.hid (show CI w4 bq lq gb gl n cb cl b L ∧ w4.rangeAt w.heap.size 0 (b i).nd ∧ w4.there (w.heap.size + 1) 0 54 from by
    refine ⟨HC.out.keep P4.out.2.1 nak.out, ?_, ?_⟩
    · exact fun j v hj => (World.cell?_of_block (w := W1) (E4h.out w.heap.size (Nat.le_refl _) (by rw [Z1.out]; omega))).trans (RW.out.1 j v hj)
    · intro j hj
      have := E4h.out (w.heap.size + 1) (by omega) (by rw [Z1.out]; omega)
      rw [World.cell?_of_block (w := W1) this, World.frozen?_of_block (w := W1) this]
      exact RW.out.2 j hj)
  clear hw4 hsz E4h RW B1 T1 R1 q1 q2
  have B0 := Lib.hid (Below.refl w4.heap.size w4)
  go_loopw [6] (fun jj wx => ∃ j : Nat, jj = .int .i64 (j : Int) ∧ j ≤ i ∧ Hid (Below w4.heap.size w4 wx)) (fun jj _ => n - (intOf jj).toNat)
  case atStart => exact ⟨0, rfl, by omega, B0⟩
  case round =>
    obtain ⟨j, rfl, hj, hB⟩ := hrel
    have HJ := Lib.hid hj
    generalize wr = w5 at *
    have bxc : w5.cell? ⟨bq, 0, none⟩ = some (.slice (some ⟨gb, 0, none⟩) n cb) := (World.cell?_of_block (w := w4) (hB.out.block bq HI4.out.1.l.1)).trans HI4.out.1.cb
    have lkc : w5.cell? ⟨lq, 0, none⟩ = some (.slice (some ⟨gl, 0, none⟩) n cl) := (World.cell?_of_block (w := w4) (hB.out.block lq HI4.out.1.l.2.1)).trans HI4.out.1.cl
    have hjn : (j : Int) < (n : Int) := by have := HS.out.2.2; omega
    have rj := range_below (HI4.out.1.rb j (by omega)) hB.out HI4.out.1.l.2.2.1
    have r0 := range_below HI4.out.2.1 hB.out (by omega)
    have cj0 : w5.cell? ⟨gb, j * 7, none⟩ = some (.int .u32 ((b j).sl : Int)) := rj 0 _ rfl
    have cj1 : w5.cell? ⟨gb, j * 7 + 1, none⟩ = some (.int .u32 ((b j).gn : Int)) := rj 1 _ rfl
    have ch0 : w5.cell? ⟨w.heap.size, 0, none⟩ = some (.int .u32 ((b i).sl : Int)) := r0 0 _ rfl
    have ch1 : w5.cell? ⟨w.heap.size, 1, none⟩ = some (.int .u32 ((b i).gn : Int)) := r0 1 _ rfl
    have dj : decide ((j : Int) < (n : Int)) = true := decide_eq_true hjn
    have eq := eq30
    clear rj r0
    go_upto_region 5 with fail
    go_quiet (fail)
    have B6 := Lib.hid (below_drewN (q := nq) hB.out)
    generalize w5.drewN nq = w6 at *
    clear bxc lkc cj0 cj1 ch0 ch1 eq hB
    obtain ⟨t, ht⟩ : ∃ t, t = (((b j).sl : Int) == ((b i).sl : Int) && ((b j).gn : Int) == ((b i).gn : Int)) := ⟨_, rfl⟩
    have HT := Lib.hid ht
    rw [← ht]
    clear ht
    have lkc : w6.cell? ⟨lq, 0, none⟩ = some (.slice (some ⟨gl, 0, none⟩) n cl) := (World.cell?_of_block (w := w4) (B6.out.block lq HI4.out.1.l.2.1)).trans HI4.out.1.cl
    cases t with
    | true =>
      have hT := HT.out
      rw [eq_comm, Bool.and_eq_true, beq_iff_eq, beq_iff_eq] at hT
      have hL : L j = L i := HS.out.1 j (by omega) (by omega) (by omega)
      have rl := range_below (HI4.out.1.rl j (by omega)) B6.out HI4.out.1.l.2.2.2
      rw [hL] at rl
      have RL := Lib.hid rl
      have okL := HS.out.2.1 i hi
      have SZ := Lib.hid (lk_sz okL)
      have SZL := Lib.hid (show (Try.prog.info? 52).map (·.size) = some (L i).cells.length by have := lk_sz okL; rwa [List.size_toArray] at this)
      have OL := Lib.hid (all_oneCell_toArray (lk_one (L i)))
      have T6 := Lib.hid (show w6.there (w.heap.size + 1) 0 (L i).cells.toArray.size by
        have e : (L i).cells.toArray.size = 54 := by rw [List.size_toArray]; exact lk_len okL
        rw [e]; exact there_below HI4.out.2.2 B6.out (by omega))
      clear rl okL hT hL
      go_wp2_with (first
        | (refine wpList_load_mid rfl 52 (.tmp 26) rfl gl (j * 54) rfl (L i).cells _ RL.out Try.underlying52 rfl SZL.out ?_)
        | (refine wpList_store_mid rfl 52 (.tmp 5) (.tmp 27) rfl (w.heap.size + 1) 0 (L i).cells.toArray rfl rfl T6.out SZ.out OL.out ?_))
      refine bodyPost_ret (v := .agg (L i).cells.toArray) (ret_row Try.prog Try.results26 rfl (L i).cells (by have := T6.out; rwa [List.size_toArray] at this) Try.underlying52 rfl SZL.out) rfl ?_
      have HB7 : Below (w.heap.size + 1) w4 (w6.setCells (w.heap.size + 1) 0 (L i).cells) := below_setCells (B6.out.mono (by omega)) (Nat.le_refl _) 0 _
      have KK := P4.out.2.1.trans (Keep.of_below (HB7.mono (by omega)))
      have hs6 : w4.heap.size ≤ w6.heap.size := B6.out.size
      obtain ⟨A7, X7⟩ := P4.out.1.move (w' := w6.setCells (w.heap.size + 1) 0 (L i).cells) (by rw [size_setCells]; exact hs6) fun k hk => by
        have h1 := P4.out.2.2 k hk
        have hk4 : k < w4.heap.size := by
          obtain ⟨v, c1, c2⟩ := P4.out.1.c
          rcases hk with rfl | ⟨v', h3, h4⟩
          · exact Nat.lt_of_lt_of_le P4.out.1.l P4.out.1.hB
          · rw [c1] at h3; cases h3; exact (c2.lt k h4).2
        rw [World.heap_setCells_other w6 _ 0 _ (by omega) (by
          rcases h1 with h1 | h1
          · have := NAK.out k h1; omega
          · have := Z1.out; omega)]
        exact B6.out.block k hk4
      exact ⟨rfl, HC.out.keep KK nak.out, A7, KK, fun k hk => (P4.out.2.2 k (X7 k hk)).imp_right fun h => by have := Z1.out; omega⟩
    | false =>
      have hne : j ≠ i := fun h => by
        subst h
        have := HT.out
        simp at this
      have hlt : j + 1 ≤ i := by omega
      clear lkc
      go_wp2_with fail
      go_roundw
      case rel => exact ⟨j + 1, by simp, hlt, B6⟩
      case measure => show n - (j + 1) < n - j; omega
end Go.Proofs.Ytedkbjimofiphaa

namespace Go.Proofs.Ytedkbjimofiphaa
open Go.RowKit Fl
theorem PH.none {w : World} {D ga c : Nat} {lv : Nat → Nat} (hg : ga < w.heap.size) (hD : D ≤ w.heap.size) : PH w D ga 0 c lv (fun _ => List.replicate 23 (.bool false)) (fun _ => .slice none 0 0) (fun _ => none) (.slice none 0 0) :=
  ⟨⟨fun _ => rfl, fun _ u hu => by rw [List.eq_of_mem_replicate hu]; rfl, fun i hi => absurd hi (Nat.not_lt_zero _), fun i hi => absurd hi (Nat.not_lt_zero _), fun i hi => absurd hi (Nat.not_lt_zero _), fun i g hi => absurd hi (Nat.not_lt_zero _), fun i j g hi => absurd hi (Nat.not_lt_zero _)⟩,
    fun i hi => absurd hi (Nat.not_lt_zero _), fun i hi => absurd hi (Nat.not_lt_zero _), hg, hD, Or.inl ⟨rfl, rfl⟩, fun g h => (by cases h), fun i k hi => absurd hi (Nat.not_lt_zero _), by omega⟩
end Go.Proofs.Ytedkbjimofiphaa
