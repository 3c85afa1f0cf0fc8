/- Boxes, looks, items: their cells; what Paint makes of them, by places. What stands while Paint goes from box to box. -/
import Derived.Test.YtedkbjimofiphaaSrL
import Derived.Test.YtedkbjimofiphaaGeoX
import Derived.Test.YtedkbjimofiphaaMgInvC
import Derived.Test.YtedkbjimofiphaaMgLen
namespace Go.Proofs.Ytedkbjimofiphaa
open Go.RowKit Fl
structure BX where
  sl : Nat
  gn : Nat
  ab : Int
  x : Nat
  y : Nat
  w : Nat
  h : Nat
def BX.cells (b : BX) : List Value := [.int .u32 (b.sl : Int), .int .u32 (b.gn : Int), .int .i64 b.ab, .float .f64 b.x, .float .f64 b.y, .float .f64 b.w, .float .f64 b.h]
structure BX.OK (b : BX) : Prop where
  x : U b.x
  y : U b.y
  w : U b.w
  h : U b.h
structure LK where
  o : Nat
  v : Nat
  m : List Nat
structure LK.OK (l : LK) : Prop where
  o : U l.o
  v : U l.v
  m : MU l.m
def lkPre (o : Nat) : List Value := [.int .i64 0, .float .f64 0, .float .f64 o, .float .f64 0, .int .i64 0, .float .f64 0, .int .i64 0, .float .f64 0, .int .i64 0, .float .f64 0, .int .i64 0, .float .f64 0, .int .i64 0, .float .f64 0, .int .i64 0, .float .f64 0, .int .i64 0, .float .f64 0, .int .i64 0,
  .float .f64 0, .int .i64 0, .float .f64 0, .int .i64 0, .float .f64 0, .int .i64 0, .float .f64 0, .int .i64 0, .float .f64 0, .int .i64 0, .float .f64 0, .int .i64 0, .float .f64 0, .float .f64 0, .float .f64 0, .int .i64 0, .float .f64 0, .int .i64 0]
def LK.cells (l : LK) : List Value := lkPre l.o ++ (l.m.map (Value.float .f64) ++ [.float .f64 l.v])
theorem lk_len {l : LK} (h : l.OK) : l.cells.length = 54 := by
  unfold LK.cells
  rw [List.length_append, List.length_append, List.length_map, h.m.1]; rfl
theorem lk_one (l : LK) : ∀ u ∈ l.cells, u.oneCell' = true := fun u hu => by
  unfold LK.cells at hu
  rcases List.mem_append.1 hu with h | h
  · unfold lkPre at h
    simp only [List.mem_cons, List.not_mem_nil, or_false] at h
    rcases h with rfl | rfl | rfl | rfl | rfl | rfl | rfl | rfl | rfl | rfl | rfl | rfl | rfl | rfl | rfl | rfl | rfl | rfl | rfl | rfl | rfl | rfl | rfl | rfl | rfl | rfl | rfl | rfl | rfl | rfl | rfl | rfl | rfl | rfl | rfl | rfl | rfl <;> rfl
  · rcases List.mem_append.1 h with h | h
    · obtain ⟨_, _, rfl⟩ := List.mem_map.1 h; rfl
    · rw [List.mem_singleton.1 h]; rfl
def itCells (b : BX) (ms : List Nat) (o : Nat) : List Value := [.int .u32 (b.sl : Int), .int .u32 (b.gn : Int), .float .f64 0, .float .f64 0, .float .f64 b.w, .float .f64 b.h] ++ (ms.map (Value.float .f64) ++ [.float .f64 o])
theorem it_len {b : BX} {ms : List Nat} {o : Nat} (h : MU ms) : (itCells b ms o).length = 23 := by
  unfold itCells
  rw [List.length_append, List.length_append, List.length_map, h.1]; rfl
theorem it_one (b : BX) (ms : List Nat) (o : Nat) : ∀ u ∈ itCells b ms o, u.oneCell' = true := fun u hu => by
  unfold itCells at hu
  rcases List.mem_append.1 hu with h | h
  · simp only [List.mem_cons, List.not_mem_nil, or_false] at h
    rcases h with rfl | rfl | rfl | rfl | rfl | rfl <;> rfl
  · rcases List.mem_append.1 h with h | h
    · obtain ⟨_, _, rfl⟩ := List.mem_map.1 h; rfl
    · rw [List.mem_singleton.1 h]; rfl
def abO (b : Nat → BX) (i : Nat) : Option Nat := if 0 ≤ (b i).ab ∧ (b i).ab < (i : Int) then some (b i).ab.toNat else none
theorem abO_lt {b : Nat → BX} {i k : Nat} (h : abO b i = some k) : k < i := by
  unfold abO at h
  split at h
  · injection h with h; omega
  · cases h
/-- the matrix above, by places; the opacity above -/
def upM (MS : Nat → List Nat) (a : Option Nat) (j : Nat) : Int := match a with
  | some k => mp (MS k) j
  | none => mp idL j
def upO (OS : Nat → Nat) (a : Option Nat) : Int := match a with
  | some k => pl (OS k)
  | none => pl 4607182418800017408
/-- the painted matrices and opacities of the first boxes -/
structure PR (b : Nat → BX) (l : Nat → LK) (n : Nat) (MS : Nat → List Nat) (OS : Nat → Nat) : Prop where
  mu : ∀ i, i < n → MU (MS i)
  me : ∀ i, i < n → ∀ j, j < 16 → mp (MS i) j = timesP (timesP (upM MS (abO b i)) (mp (moveL (b i).x (b i).y 0))) (mp (l i).m) j
  ou : ∀ i, i < n → U (OS i)
  oe : ∀ i, i < n → pl (OS i) = opP .mul (upO OS (abO b i)) (pl (l i).o)
theorem timesP_congr {a a' b b' : Nat → Int} (ha : ∀ j, j < 16 → a j = a' j) (hb : ∀ j, j < 16 → b j = b' j) {j : Nat} (hj : j < 16) : timesP a b j = timesP a' b' j := by
  unfold timesP
  rw [hb _ (by omega), hb _ (by omega), hb _ (by omega), hb _ (by omega)]
  unfold rowP
  rw [ha _ (by omega), ha _ (by omega), ha _ (by omega), ha _ (by omega)]
theorem PR.next {b : Nat → BX} {l : Nat → LK} {i : Nat} {MS : Nat → List Nat} {OS : Nat → Nat} (h : PR b l i MS OS) {ms : List Nat} {o : Nat} (hm : MU ms) (ho : U o)
    (he : ∀ j, j < 16 → mp ms j = timesP (timesP (upM MS (abO b i)) (mp (moveL (b i).x (b i).y 0))) (mp (l i).m) j) (hp : pl o = opP .mul (upO OS (abO b i)) (pl (l i).o)) :
    PR b l (i + 1) (fun k => if k = i then ms else MS k) (fun k => if k = i then o else OS k) := by
  have hk : ∀ k, k < i → (if k = i then ms else MS k) = MS k := fun k hk => if_neg (by omega)
  have hk2 : ∀ k, k < i → (if k = i then o else OS k) = OS k := fun k hk => if_neg (by omega)
  have um : ∀ a, (∀ k, a = some k → k < i) → upM (fun k => if k = i then ms else MS k) a = upM MS a := fun a ha => by
    cases a with
    | none => rfl
    | some k => funext j; show mp (if k = i then ms else MS k) j = _; rw [hk k (ha k rfl)]; rfl
  have uo : ∀ a, (∀ k, a = some k → k < i) → upO (fun k => if k = i then o else OS k) a = upO OS a := fun a ha => by
    cases a with
    | none => rfl
    | some k => show pl (if k = i then o else OS k) = _; rw [hk2 k (ha k rfl)]; rfl
  refine ⟨fun k hk1 => ?_, fun k hk1 => ?_, fun k hk1 => ?_, fun k hk1 => ?_⟩
  · show MU (if k = i then ms else MS k)
    split
    · exact hm
    · exact h.mu k (by omega)
  · show ∀ j, j < 16 → mp (if k = i then ms else MS k) j = _
    rw [um _ fun q hq => by have := abO_lt hq; omega]
    by_cases e : k = i
    · subst e; rw [if_pos rfl]; exact he
    · rw [if_neg e]; exact h.me k (by omega)
  · show U (if k = i then o else OS k)
    split
    · exact ho
    · exact h.ou k (by omega)
  · show pl (if k = i then o else OS k) = _
    rw [uo _ fun q hq => by have := abO_lt hq; omega]
    by_cases e : k = i
    · subst e; rw [if_pos rfl]; exact hp
    · rw [if_neg e]; exact h.oe k (by omega)
/-- the levels that the order reads -/
def lvO (l : Nat → LK) (i : Nat) : Nat := if isN (l i).v then 0 else (l i).v
end Go.Proofs.Ytedkbjimofiphaa

namespace Go.Proofs.Ytedkbjimofiphaa
open Go.RowKit Fl
def BX.hd (b : BX) : Value := .agg #[.int .u32 (b.sl : Int), .int .u32 (b.gn : Int)]
/-- a function that tells looks, box by box: I: what it needs; ex: the blocks that it writes -/
structure LF (fn : Nat) (caps : Array Value) (b : Nat → BX) (l : Nat → LK) (n base : Nat) (I : Nat → World → Prop) (ex : World → Nat → Prop) : Prop where
  call : ∀ i w, i < n → I i w → base ≤ w.heap.size → Calls Try.prog fn (#[(b i).hd] ++ caps) w fun e w' => e = .returned (.agg (l i).cells.toArray) ∧ I (i + 1) w' ∧ Keep w.heap.size (ex w) w w' ∧ (∀ k, ex w' k → ex w k ∨ w.heap.size ≤ k)
  lt : ∀ i w k, I i w → ex w k → k < w.heap.size
  stay : ∀ i w w', I i w → Keep w.heap.size (fun k => ¬ ex w k ∧ base ≤ k) w w' → I i w' ∧ ∀ k, ex w' k → ex w k
theorem owned_keep {base size n N : Nat} {e : TypeId} {v : Value} {xs : List Value} {w w' : World} {ex : Nat → Prop} (ho : w.ownsRow base e size v n xs) (hk : Keep N ex w w') (hN : N = w.heap.size) (hx : ∀ k, v.ownBlock = some k → ¬ ex k) : w'.ownsRow base e size v n xs :=
  owned_at ho fun k hk2 hl => hk.block k (by omega) (hx k hk2)
/-- m calls are done, q boxes are put to their likes, i are painted -/
structure PT (w0 w : World) (base ga n : Nat) (b : Nat → BX) (l : Nat → LK) (I : Nat → World → Prop) (ex : World → Nat → Prop) (m q i : Nat) (MS : Nat → List Nat) (OS : Nat → Nat) (kv : Nat → Value) (tv : Value) : Prop where
  hB : base ≤ w.heap.size
  gB : base ≤ ga
  gl : ga < w.heap.size
  th : w.there ga 0 (n * 25)
  it : ∀ k, k < i → w.rangeAt ga (k * 25) (itCells (b k) (MS k) (OS k))
  lv : ∀ k, k < i → w.cell? ⟨ga, k * 25 + 23, none⟩ = some (.float .f64 (lvO l k))
  kc : ∀ k, k < n → w.cell? ⟨ga, k * 25 + 24, none⟩ = some (kv k)
  ko : ∀ k, k < n → w.ownsRow base 3 1 (kv k) (kids q (abO b) (some k)).length ((kids q (abO b) (some k)).map iv)
  tp : w.ownsRow base 3 1 tv (kids q (abO b) none).length ((kids q (abO b) none).map iv)
  ap : ∀ k j g, k < n → j < n → (kv k).ownBlock = some g → (kv j).ownBlock = some g → k = j
  aq : ∀ k g, k < n → (kv k).ownBlock = some g → tv.ownBlock ≠ some g
  ng : ∀ k, k < n → (kv k).ownBlock ≠ some ga
  nt : tv.ownBlock ≠ some ga
  xg : ¬ ex w ga
  xk : ∀ k g, k < n → (kv k).ownBlock = some g → ¬ ex w g
  xt : ∀ g, tv.ownBlock = some g → ¬ ex w g
  inv : I m w
  kp : Keep base (ex w0) w0 w
  px : ∀ k, k < base → ex w k → ex w0 k
  pr : PR b l i MS OS
section
variable {fn : Nat} {caps : Array Value} {w0 w w' : World} {base ga n : Nat} {b : Nat → BX} {l : Nat → LK} {I : Nat → World → Prop} {ex : World → Nat → Prop} {m q i : Nat} {MS : Nat → List Nat} {OS : Nat → Nat} {kv : Nat → Value} {tv : Value}
theorem range_keep {g o N : Nat} {xs : List Value} {e : Nat → Prop} (h : w.rangeAt g o xs) (hk : Keep N e w w') (hg : g < N) (hn : ¬ e g) : w'.rangeAt g o xs := fun j v hj => (hk.cell (p := ⟨g, o + j, none⟩) hg hn).trans (h j v hj)
theorem there_keep {g o N c : Nat} {e : Nat → Prop} (h : w.there g o c) (hk : Keep N e w w') (hg : g < N) (hn : ¬ e g) : w'.there g o c := fun j hj => by rw [hk.cell (p := ⟨g, o + j, none⟩) hg hn, hk.frozen (p := ⟨g, o + j, none⟩) hg hn]; exact h j hj
/-- what is not written stays -/
theorem PT.keep {e : Nat → Prop} {m' : Nat} (h : PT w0 w base ga n b l I ex m q i MS OS kv tv) (hk : Keep w.heap.size e w w') (h1 : ¬ e ga) (h2 : ∀ k g, k < n → (kv k).ownBlock = some g → ¬ e g) (h3 : ∀ g, tv.ownBlock = some g → ¬ e g) (hI : I m' w')
    (hx : ∀ k, ex w' k → ex w k ∨ w.heap.size ≤ k) (h4 : ∀ k, k < base → e k → ex w0 k) : PT w0 w' base ga n b l I ex m' q i MS OS kv tv := by
  have own : ∀ {v : Value} {c : Nat} {xs : List Value}, w.ownsRow base 3 1 v c xs → ∀ g, v.ownBlock = some g → g < w.heap.size := fun ho g hg => (ho.lt g hg).2
  exact ⟨Nat.le_trans h.hB hk.size, h.gB, Nat.lt_of_lt_of_le h.gl hk.size, there_keep h.th hk h.gl h1, fun k hk2 => range_keep (h.it k hk2) hk h.gl h1, fun k hk2 => (hk.cell (p := ⟨ga, k * 25 + 23, none⟩) h.gl h1).trans (h.lv k hk2),
    fun k hk2 => (hk.cell (p := ⟨ga, k * 25 + 24, none⟩) h.gl h1).trans (h.kc k hk2), fun k hk2 => owned_keep (h.ko k hk2) hk rfl (h2 k · hk2), owned_keep h.tp hk rfl h3, h.ap, h.aq, h.ng, h.nt,
    fun hx2 => by rcases hx _ hx2 with h5 | h5; exact h.xg h5; have := h.gl; omega,
    fun k g hk2 hg hx2 => by rcases hx _ hx2 with h5 | h5; exact h.xk k g hk2 hg h5; have := own (h.ko k hk2) g hg; omega,
    fun g hg hx2 => by rcases hx _ hx2 with h5 | h5; exact h.xt g hg h5; have := own h.tp g hg; omega, hI, h.kp.trans (hk.mono h.hB h4),
    fun k hk2 hx2 => by rcases hx _ hx2 with h5 | h5; exact h.px k hk2 h5; have := h.hB; omega, h.pr⟩
theorem PT.below (h : PT w0 w base ga n b l I ex m q i MS OS kv tv) (H : LF fn caps b l n base I ex) (hb : Below w.heap.size w w') : PT w0 w' base ga n b l I ex m q i MS OS kv tv := by
  have st := H.stay m w w' h.inv (Keep.of_below hb)
  exact h.keep (e := fun _ => False) (Keep.of_below hb) (fun h => h) (fun _ _ _ _ h => h) (fun _ _ h => h) st.1 (fun k hk => Or.inl (st.2 k hk)) (fun _ _ h => h.elim)
theorem PT.called (h : PT w0 w base ga n b l I ex m q i MS OS kv tv) (hk : Keep w.heap.size (ex w) w w') (hI : I (m + 1) w') (hx : ∀ k, ex w' k → ex w k ∨ w.heap.size ≤ k) : PT w0 w' base ga n b l I ex (m + 1) q i MS OS kv tv :=
  h.keep hk h.xg h.xk h.xt hI hx h.px
/-- a block that is not the function's -/
theorem LF.fresh (H : LF fn caps b l n base I ex) (hI : I m w) (hb : Below w.heap.size w w') {k : Nat} (hk : w.heap.size ≤ k) : ¬ ex w' k := fun hx => by
  have := (H.stay m w w' hI (Keep.of_below hb)).2 k hx
  have := H.lt m w k hI this
  omega
theorem PT.start {cs : List Value} (H : LF fn caps b l n w0.heap.size I ex) (hI : I 0 w0) (hown : w.ownsRow w0.heap.size 90 25 (.slice (some ⟨w0.heap.size, 0, none⟩) n n) n cs) (hg : w0.grownBy w none)
    (hc : ∀ k, k < n → cs[k * 25 + 24]? = some (.slice none 0 0)) : PT w0 w w0.heap.size w0.heap.size n b l I ex 0 0 0 MS OS (fun _ => .slice none 0 0) (.slice none 0 0) := by
  have kp : Keep w0.heap.size (fun _ => False) w0 w := Keep.of_grown2 hg (Nat.le_refl _) (fun k hk => by cases hk)
  have st := H.stay 0 w0 w hI (kp.mono (Nat.le_refl _) (fun _ _ h => h.elim))
  have gl : w0.heap.size < w.heap.size := (hown.lt _ rfl).2
  have xn : ¬ ex w w0.heap.size := fun hx => by have := H.lt 0 w0 _ hI (st.2 _ hx); omega
  have kn : ∀ p, kids 0 (abO b) p = [] := fun p => rfl
  refine ⟨hg.size, Nat.le_refl _, gl, fun j hj => ?_, fun k hk => absurd hk (Nat.not_lt_zero _), fun k hk => absurd hk (Nat.not_lt_zero _), fun k hk => ?_, fun k _ => ?_, ?_, fun k j g _ _ h => (by cases h), fun k g _ h => (by cases h), fun k _ h => (by cases h), fun h => (by cases h), xn, fun k g _ h => (by cases h), fun g h => (by cases h), st.1, kp.mono (Nat.le_refl _) (fun _ _ h => h.elim), fun k _ hx => st.2 k hx, ⟨fun i hi => absurd hi (Nat.not_lt_zero _), fun i hi => absurd hi (Nat.not_lt_zero _), fun i hi => absurd hi (Nat.not_lt_zero _), fun i hi => absurd hi (Nat.not_lt_zero _)⟩⟩
  · rw [Nat.zero_add]
    refine ⟨?_, hown.frozenAt j⟩
    rw [hown.cellAt j hj, List.getElem?_eq_getElem (by rw [hown.1]; exact hj)]; rfl
  · rw [hown.cellAt _ (by omega)]; exact hc k hk
  · rw [kn]; exact World.ownsRow_nil ..
  · rw [kn]; exact World.ownsRow_nil ..
end
theorem zero90 : (Try.prog.info? 90).map (fun i => (i.zero, i.size, i.bytes)) = some (some (.agg #[.int .u32 0, .int .u32 0, .float .f64 0, .float .f64 0, .float .f64 0, .float .f64 0, .float .f64 0, .float .f64 0, .float .f64 0, .float .f64 0, .float .f64 0, .float .f64 0, .float .f64 0, .float .f64 0, .float .f64 0, .float .f64 0,
  .float .f64 0, .float .f64 0, .float .f64 0, .float .f64 0, .float .f64 0, .float .f64 0, .float .f64 0, .float .f64 0, .slice none 0 0]), 25, 208) := by kernel_rfl
theorem made_at {n j : Nat} (z : Array Value) (hj : j < n) (hm : j % 25 = 24) (hz : z.size = 25 := by rfl) : (madeCells z n).toList[j]? = z[24]? := by
  simp only [madeCells, Array.toList_map, List.getElem?_map, Array.getElem?_toList, Array.getElem?_range]
  rw [if_pos hj, Option.map_some, hz, hm, getElem!_pos z 24 (by omega), Array.getElem?_eq_getElem (by omega)]
set_option maxRecDepth 10000 in
theorem made90 (w : World) (n : Nat) (hn : n ≤ 1048576) : ∃ w', (Instr.makeSlice 87 (.int .i64 (n : Int)) (.int .i64 (n : Int))).run Try.prog w = .ok (.slice (some ⟨w.heap.size, 0, none⟩) n n) w' ∧ w.grownBy w' none ∧
    ∃ cs, w'.ownsRow w.heap.size 90 25 (.slice (some ⟨w.heap.size, 0, none⟩) n n) n cs ∧ ∀ k, k < n → cs[k * 25 + 24]? = some (.slice none 0 0) := by
  obtain ⟨i0, hi, hz0, hz1, hz2⟩ := info_parts zero90
  obtain ⟨w', h1, h2, h3⟩ := run_make_full (P := Try.prog) w w.heap.size 87 90 i0 _ 25 Try.underlying87 hi hz0 hz1 .i64 .i64 n (by rw [hz2]; omega) (by unfold maxLen; omega) (Nat.le_refl _)
  refine ⟨w', h1, h3, _, h2, fun k hk => ?_⟩
  have hl : k * 25 + 24 < n * 25 := by omega
  exact made_at _ hl (by omega)
/-- a new row, filled -/
theorem new_row (w : World) (zs : Array Value) (t : TypeId) (cs : List Value) (h : zs.size = cs.length) : Below w.heap.size w ((w.alloc (.cells zs t)).setCells w.heap.size 0 cs) ∧ ((w.alloc (.cells zs t)).setCells w.heap.size 0 cs).rangeAt w.heap.size 0 cs ∧
    ((w.alloc (.cells zs t)).setCells w.heap.size 0 cs).there w.heap.size 0 cs.length ∧ ((w.alloc (.cells zs t)).setCells w.heap.size 0 cs).heap.size = w.heap.size + 1 := by
  have th := there_new w zs t cs.length h
  refine ⟨below_setCells ((Below.refl _ _).alloc (Nat.le_refl _) _) (Nat.le_refl _) 0 cs, fun j v hj => ?_, World.there_setCells th _ _ _, by rw [size_setCells]; simp⟩
  have hl := (List.getElem?_eq_some_iff.1 hj).1
  rw [World.cell?_setCells_in w.heap.size cs 0 _ (fun k hk => (th k hk).1) j hl, ← hj, List.getElem?_eq_getElem hl]
theorem box_one (b : BX) : b.cells.toArray.all (·.oneCell') = true := all_oneCell_toArray fun u hu => by
  unfold BX.cells at hu
  simp only [List.mem_cons, List.not_mem_nil, or_false] at hu
  rcases hu with rfl | rfl | rfl | rfl | rfl | rfl | rfl <;> rfl
/-- a row of the round's own: cells, and that none other writes there -/
structure Loc (w : World) (ex : World → Nat → Prop) (base g : Nat) (cs : List Value) : Prop where
  r : w.rangeAt g 0 cs
  t : w.there g 0 cs.length
  l : g < w.heap.size
  b : base ≤ g
  x : ¬ ex w g
theorem Loc.get {w : World} {ex : World → Nat → Prop} {base g j : Nat} {cs : List Value} {v : Value} (h : Loc w ex base g cs) (hj : cs[j]? = some v) : w.cell? ⟨g, j, none⟩ = some v := by
  have := h.r j v hj; rwa [Nat.zero_add] at this
theorem Loc.keep {w w' : World} {e : Nat → Prop} {ex : World → Nat → Prop} {base g : Nat} {cs : List Value} (h : Loc w ex base g cs) (hk : Keep w.heap.size e w w') (hn : ¬ e g) (hx : ∀ k, ex w' k → ex w k ∨ w.heap.size ≤ k) : Loc w' ex base g cs :=
  ⟨range_keep h.r hk h.l hn, there_keep h.t hk h.l hn, Nat.lt_of_lt_of_le h.l hk.size, h.b, fun h2 => by rcases hx _ h2 with h3 | h3; exact h.x h3; have := h.l; omega⟩
section
variable {fn : Nat} {caps : Array Value} {w0 w w' : World} {base ga n : Nat} {b : Nat → BX} {l : Nat → LK} {I : Nat → World → Prop} {ex : World → Nat → Prop} {m q i : Nat} {MS : Nat → List Nat} {OS : Nat → Nat} {kv : Nat → Value} {tv : Value}
theorem PT.xb (h : PT w0 w base ga n b l I ex m q i MS OS kv tv) (H : LF fn caps b l n base I ex) (hb : Below w.heap.size w w') : ∀ k, ex w' k → ex w k ∨ w.heap.size ≤ k := fun k hk => Or.inl ((H.stay m w w' h.inv (Keep.of_below hb)).2 k hk)
/-- a new row of the round's own -/
theorem PT.newRow (h : PT w0 w base ga n b l I ex m q i MS OS kv tv) (H : LF fn caps b l n base I ex) (zs : Array Value) (t : TypeId) (cs : List Value) (hl : zs.size = cs.length) :
    PT w0 ((w.alloc (.cells zs t)).setCells w.heap.size 0 cs) base ga n b l I ex m q i MS OS kv tv ∧ Loc ((w.alloc (.cells zs t)).setCells w.heap.size 0 cs) ex base w.heap.size cs ∧ Below w.heap.size w ((w.alloc (.cells zs t)).setCells w.heap.size 0 cs) ∧ ((w.alloc (.cells zs t)).setCells w.heap.size 0 cs).heap.size = w.heap.size + 1 ∧
    ∀ k, ex ((w.alloc (.cells zs t)).setCells w.heap.size 0 cs) k → ex w k := by
  obtain ⟨h1, h2, h3, h4⟩ := new_row w zs t cs hl
  exact ⟨h.below H h1, ⟨h2, h3, by omega, h.hB, H.fresh h.inv h1 (Nat.le_refl _)⟩, h1, h4, fun k hk => (H.stay m w _ h.inv (Keep.of_below h1)).2 k hk⟩
end
end Go.Proofs.Ytedkbjimofiphaa
