/- scene.painted: the items of all boxes, in order. -/
import Derived.Test.YtedkbjimofiphaaMgSrJ
import Derived.Great.CaseRows
import Derived.Deep.MidRow
namespace Go.Proofs.Ytedkbjimofiphaa
open Go.RowKit Fl
theorem zero60 : (Try.prog.info? 60).bind (fun i => i.zero.map (fun z => z.cells.size)) = some 23 := by kernel_rfl
theorem info60 : (Try.prog.info? 60).map (fun i => (i.size, i.bytes)) = some (23, 176) := by kernel_rfl
/-- the spots: their items' cells, their kids -/
structure Spots (w : World) (D ga n : Nat) (it : Nat → List Value) (kv : Nat → Value) (kd : Nat → List Nat) : Prop where
  il : ∀ i, (it i).length = 23
  i1 : ∀ i, ∀ u ∈ it i, u.oneCell' = true
  ir : ∀ i, i < n → w.rangeAt ga (i * 25) (it i)
  kc : ∀ i, i < n → w.cell? ⟨ga, i * 25 + 24, none⟩ = some (kv i)
  kk : ∀ i, i < n → KV w (kv i) (kd i)
  kb : ∀ i g, i < n → (kv i).ownBlock = some g → D ≤ g ∧ g < w.heap.size ∧ g ≠ ga
  ap : ∀ i j g, i < n → j < n → (kv i).ownBlock = some g → (kv j).ownBlock = some g → i = j
def lenV : Value → Nat
  | .slice _ k _ => k
  | _ => 0
/-- what stands at each turn: the stack S, the items of O told, the kids of R untouched -/
structure PM (w0 w : World) (bx lb tb B ga n c : Nat) (lv : Nat → Nat) (it : Nat → List Value) (kv : Nat → Value) (ab : Nat → Option Nat) (tv : Value) (S O R : List Nat) (ov : Value) : Prop where
  ce : CE w bx ga n c lv
  ps : PS w B lb tb bx S
  out : w.ownsRow w0.heap.size 60 23 ov O.length (O.flatMap it)
  ob : ∀ k, ov.ownBlock = some k → k = bx + 2 ∨ B ≤ k
  kp : Keep w0.heap.size (fun k => (∃ i, i < n ∧ (kv i).ownBlock = some k) ∨ tv.ownBlock = some k) w0 w
  pn : ∀ i, i ∈ R → KV w (kv i) (kids n ab (some i))
structure PH (w0 : World) (D ga n c : Nat) (lv : Nat → Nat) (it : Nat → List Value) (kv : Nat → Value) (ab : Nat → Option Nat) (tv : Value) : Prop where
  sp : Spots w0 D ga n it kv (fun i => kids n ab (some i))
  hlv : ∀ i, i < n → w0.cell? ⟨ga, i * 25 + 23, none⟩ = some (.float .f64 (lv i))
  hu : ∀ i, i < n → U (lv i) ∧ pl (lv i) ≠ 9223372036854775807
  hga : ga < w0.heap.size
  hD : D ≤ w0.heap.size
  ht : KV w0 tv (kids n ab none)
  htb : ∀ g, tv.ownBlock = some g → D ≤ g ∧ g < w0.heap.size ∧ g ≠ ga ∧ ∀ i, i < n → (kv i).ownBlock ≠ some g
  H : ∀ i k, i < n → ab i = some k → k < i
  hn : n ≤ 1048576
section
variable {w0 w : World} {bx lb tb B D ga n c : Nat} {lv : Nat → Nat} {it : Nat → List Value} {kv : Nat → Value} {ab : Nat → Option Nat} {tv ov : Value} {S O R : List Nat}
theorem PH.ga_not (h : PH w0 D ga n c lv it kv ab tv) : ¬ ((∃ i, i < n ∧ (kv i).ownBlock = some ga) ∨ tv.ownBlock = some ga) := fun e => by
  rcases e with ⟨i, hi, e⟩ | e
  · exact (h.sp.kb i ga hi e).2.2 rfl
  · exact (h.htb ga e).2.2.1 rfl
theorem PM.range (h : PM w0 w bx lb tb B ga n c lv it kv ab tv S O R ov) (H : PH w0 D ga n c lv it kv ab tv) {i : Nat} (hi : i < n) : w.rangeAt ga (i * 25) (it i) := fun j v hj =>
  (h.kp.cell (p := ⟨ga, i * 25 + j, none⟩) H.hga H.ga_not).trans (H.sp.ir i hi j v hj)
theorem PM.kid (h : PM w0 w bx lb tb B ga n c lv it kv ab tv S O R ov) (H : PH w0 D ga n c lv it kv ab tv) {i : Nat} (hi : i < n) : w.cell? ⟨ga, i * 25 + 24, none⟩ = some (kv i) :=
  (h.kp.cell (p := ⟨ga, i * 25 + 24, none⟩) H.hga H.ga_not).trans (H.sp.kc i hi)
/-- what is not written stays -/
theorem PM.keep {ex : Nat → Prop} {w' : World} {S' O' R' : List Nat} {ov' : Value} (h : PM w0 w bx lb tb B ga n c lv it kv ab tv S O R ov) (H : PH w0 D ga n c lv it kv ab tv) (hk : Keep w.heap.size ex w w') (h1 : ¬ ex bx) (h2 : ¬ ex ga)
    (hout : w'.ownsRow w0.heap.size 60 23 ov' O'.length (O'.flatMap it)) (hob : ∀ k, ov'.ownBlock = some k → k = bx + 2 ∨ B ≤ k)
    (h4 : ∀ k, k < w0.heap.size → ex k → (∃ i, i < n ∧ (kv i).ownBlock = some k) ∨ tv.ownBlock = some k) (hR : ∀ i, i ∈ R' → i ∈ R ∧ i < n ∧ ∀ k, (kv i).ownBlock = some k → ¬ ex k) (hps : PS w' B lb tb bx S') :
    PM w0 w' bx lb tb B ga n c lv it kv ab tv S' O' R' ov' :=
  ⟨hk.ce h.ce h.ce.lb h.ce.la h1 h2, hps, hout, hob, h.kp.trans (hk.mono h.kp.size h4), fun i hi => (h.pn i (hR i hi).1).keep hk fun k hk2 => ⟨Nat.lt_of_lt_of_le (H.sp.kb i k (hR i hi).2.1 hk2).2.1 h.kp.size, (hR i hi).2.2 k hk2⟩⟩
theorem todo_block {B lb tb bx : Nat} {S : List Nat} {w : World} (h : PS w B lb tb bx S) {k : Nat} (hk : ∃ tv, w.cell? ⟨tb, 0, none⟩ = some tv ∧ tv.ownBlock = some k) : B ≤ k := by
  obtain ⟨tv, h1, h2⟩ := hk
  obtain ⟨tv2, h3, h4⟩ := h.td
  rw [h1] at h3
  injection h3 with h3
  subst h3
  exact (h4.lt _ h2).1
/-- the stack's cell written -/
theorem PM.popped (h : PM w0 w bx lb tb B ga n c lv it kv ab tv S O R ov) (H : PH w0 D ga n c lv it kv ab tv) (hbx : bx = w0.heap.size) (htb : tb = bx + 3) (hB : B = bx + 4) (hR : ∀ i ∈ R, i < n) {u : Value} {S' : List Nat}
    (hps : PS (w.setCell ⟨tb, 0, none⟩ u) B lb tb bx S') : PM w0 (w.setCell ⟨tb, 0, none⟩ u) bx lb tb B ga n c lv it kv ab tv S' O R ov := by
  have hg := H.hga
  refine h.keep H ((Keep.refl w.heap.size (fun k => k = tb) w).set _ _ (fun _ => rfl)) (by omega) (by omega) (owned_at h.out fun k hk hl => Below.heap_setCell _ _ _ _ (fun e => by have e2 : k = tb := e; have := h.ob k hk; omega)) h.ob (fun k hk e => by omega) (fun i hi => ⟨hi, hR i hi, fun k hk e => by have := (H.sp.kb i k (hR i hi) hk).2.1; omega⟩) hps
/-- an item told -/
theorem PM.told {w' : World} {v' : Value} {i : Nat} (h : PM w0 w bx lb tb B ga n c lv it kv ab tv S O R ov) (H : PH w0 D ga n c lv it kv ab tv) (hbx : bx = w0.heap.size) (hlb : lb = bx + 1) (htb : tb = bx + 3) (hB : B = bx + 4) (hR : ∀ i ∈ R, i < n) (o : Obj)
    (hown : w'.ownsRow w0.heap.size 60 23 v' (O.length + 1) (O.flatMap it ++ it i)) (hg : (w.alloc o).grownBy w' ov.ownBlock) (hd : v'.ownBlock = ov.ownBlock ∨ (v'.ownBlock = some (w.alloc o).heap.size ∧ Below (w.alloc o).heap.size (w.alloc o) w')) :
    PM w0 w' bx lb tb B ga n c lv it kv ab tv S (O ++ [i]) R v' := by
  have hg0 := H.hga
  have sz : (w.alloc o).heap.size = w.heap.size + 1 := by simp
  have k1 : Keep w.heap.size (fun k => ov.ownBlock = some k) w w' := ((Keep.refl w.heap.size _ w).alloc (Nat.le_refl _) o).trans (Keep.of_grown2 hg (by omega) (fun k hk => hk))
  have nx : ∀ k, k < B → k ≠ bx + 2 → ¬ ov.ownBlock = some k := fun k h1 h2 e => by have := h.ob k e; omega
  refine h.keep H k1 (nx _ (by omega) (by omega)) (nx _ (by omega) (by omega)) (by rw [List.flatMap_append, List.flatMap_cons, List.flatMap_nil, List.append_nil, List.length_append, List.length_singleton]; exact hown) (fun k hk => ?_) (fun k hk e => by have := nx k (by omega) (by omega) e; exact this.elim)
    (fun j hj => ⟨hj, hR j hj, fun k hk e => by have := (H.sp.kb j k (hR j hj) hk).2.1; exact nx k (by omega) (by omega) e⟩) (h.ps.keep k1 rfl (nx _ (by omega) (by omega)) (nx _ (by omega) (by omega)) fun tv k ht hk e => ?_)
  · rcases hd with hd | ⟨hd, -⟩
    · exact h.ob k (hd ▸ hk)
    · rw [hd] at hk
      injection hk with hk
      have := h.ps.hB
      omega
  · obtain ⟨tv2, h3, h4⟩ := h.ps.td
    rw [ht] at h3
    injection h3 with h3
    subst h3
    exact owned_apart h4 h.out (by decide) k hk e
/-- the kids put upon the stack -/
theorem PM.pushed {w' : World} {i : Nat} {S' R' : List Nat} (h : PM w0 w bx lb tb B ga n c lv it kv ab tv S O R ov) (H : PH w0 D ga n c lv it kv ab tv) (hbx : bx = w0.heap.size) (hlb : lb = bx + 1) (htb : tb = bx + 3) (hB : B = bx + 4) (hi : i < n)
    (hps : PS w' B lb tb bx S') (hk : Keep w.heap.size (fun k => (kv i).ownBlock = some k ∨ k = tb ∨ ∃ tv, w.cell? ⟨tb, 0, none⟩ = some tv ∧ tv.ownBlock = some k) w w') (hR : ∀ j ∈ R', j ∈ R ∧ j < n ∧ j ≠ i) :
    PM w0 w' bx lb tb B ga n c lv it kv ab tv S' O R' ov := by
  have hg0 := H.hga
  have kl : ∀ k, (kv i).ownBlock = some k → k < w0.heap.size ∧ k ≠ ga := fun k hk => (H.sp.kb i k hi hk).2
  refine h.keep H hk ?_ ?_ (owned_at h.out fun k hk2 hl => hk.block k hl ?_) h.ob (fun k hk2 e => ?_) (fun j hj => ⟨(hR j hj).1, (hR j hj).2.1, fun k hk2 e => ?_⟩) hps
  · intro e
    rcases e with e | e | e
    · have := kl _ e; omega
    · omega
    · have := todo_block h.ps e; omega
  · intro e
    rcases e with e | e | e
    · exact (kl _ e).2 rfl
    · omega
    · have := todo_block h.ps e; omega
  · intro e
    have ob := h.ob k hk2
    rcases e with e | e | ⟨tv, h1, h2⟩
    · have := kl _ e; omega
    · omega
    · obtain ⟨tv2, h3, h4⟩ := h.ps.td
      rw [h1] at h3
      injection h3 with h3
      subst h3
      exact owned_apart h4 h.out (by decide) k h2 hk2
  · rcases e with e | e | e
    · exact Or.inl ⟨i, hi, e⟩
    · omega
    · have := todo_block h.ps e; omega
  · have := (H.sp.kb j k (hR j hj).2.1 hk2).2.1
    rcases e with e | e | e
    · exact (hR j hj).2.2 (H.sp.ap j i k (hR j hj).2.1 hi hk2 e)
    · omega
    · have := todo_block h.ps e; omega
theorem flat_ge {l : List Nat} {g : Nat → List Nat} (h : ∀ x, 0 < (g x).length) : l.length ≤ (l.flatMap g).length := by
  induction l with
  | nil => exact Nat.le_refl _
  | cons x l ih => rw [List.flatMap_cons, List.length_append, List.length_cons]; have := h x; omega
theorem stack_le (H : PH w0 D ga n c lv it kv ab tv) (e : O ++ S.reverse.flatMap (tr n ab (kf lv)) = whole n ab (kf lv)) : O.length + S.length ≤ n := by
  have h1 := whole_length H.H (key := kf lv)
  rw [← e, List.length_append] at h1
  have h2 := flat_ge (l := S.reverse) (g := tr n ab (kf lv)) (fun x => by rw [tr_step H.H]; exact Nat.succ_pos _)
  rw [List.length_reverse] at h2
  omega
theorem PM.first {W : World} (H : PH w0 D ga n c lv it kv ab tv) (hb : Below w0.heap.size w0 W) (ho : W.ownsRow w0.heap.size 60 23 (.slice (some ⟨bx + 1 + 1, 0, none⟩) 0 0) 0 []) (hce : CE W bx ga n c lv) (hps : PS W B lb tb bx [])
    (hbx : bx = w0.heap.size) (htb : tb = bx + 3) (hB : B = bx + 4) (p1 : PS w B lb tb bx S) (k1 : Keep W.heap.size (fun k => tv.ownBlock = some k ∨ k = tb ∨ ∃ tv, W.cell? ⟨tb, 0, none⟩ = some tv ∧ tv.ownBlock = some k) W w) :
    PM w0 w bx lb tb B ga n c lv it kv ab tv S [] (whole n ab (kf lv)) (.slice (some ⟨bx + 1 + 1, 0, none⟩) 0 0) := by
  have nx : ∀ k, k < B → k ≠ tb → tv.ownBlock ≠ some k → ¬ (tv.ownBlock = some k ∨ k = tb ∨ ∃ tv, W.cell? ⟨tb, 0, none⟩ = some tv ∧ tv.ownBlock = some k) := fun k h1 h2 h3 h => by
    rcases h with h | h | h
    · exact h3 h
    · exact h2 h
    · have := todo_block hps h; omega
  have tvlt : ∀ k, tv.ownBlock = some k → k < w0.heap.size := fun k hk => (H.htb k hk).2.1
  refine ⟨k1.ce hce hce.lb hce.la (nx bx (by omega) (by omega) fun e => by have := tvlt _ e; omega) (nx ga (by have := H.hga; omega) (by have := H.hga; omega) fun e => (H.htb ga e).2.2.1 rfl), p1, ?_, fun k hk => Or.inl (by cases hk; rfl), ?_, fun i hi => ?_⟩
  · exact owned_at ho fun k hk hl => k1.block k hl (by have e : bx + 1 + 1 = k := Option.some.inj hk; exact nx k (by omega) (by omega) fun e => by have := tvlt _ e; omega)
  · refine (Keep.of_below hb).trans (k1.mono hb.size fun k hk h => ?_)
    rcases h with h | h | h
    · exact Or.inr h
    · omega
    · have := todo_block hps h; omega
  · have hin := (mem_whole H.H).1 hi
    refine (H.sp.kk i hin).keep ((Keep.of_below (ex := fun k => k = tb ∨ tv.ownBlock = some k) hb).trans (k1.mono hb.size fun k hk h => ?_)) fun k hk => ⟨(H.sp.kb i k hin hk).2.1, fun h => ?_⟩
    · rcases h with h | h | h
      · exact Or.inr h
      · exact Or.inl h
      · have := todo_block hps h; omega
    · rcases h with h | h
      · have := (H.sp.kb i k hin hk).2.1; omega
      · exact (H.htb k h).2.2.2 i hin hk
end
theorem new_cells (w : World) (l : List Value) (e : TypeId) (hl : l.length = 23) : ∀ j u, l[j]? = some u → (w.alloc (.cells ([Value.agg l.toArray].flatMap fun v => v.cells.toList).toArray e)).cell? ((⟨w.heap.size, 0, none⟩ : Addr).add j) = some u := fun j u hj => by
  rw [Addr.add_lit, Nat.zero_add, World.cell?_alloc_new]
  rw [show ([Value.agg l.toArray].flatMap fun v => v.cells.toList) = l by simp [Value.cells]]
  rw [List.getElem?_toArray, hj]
theorem start38 (w : World) (v : Value) : ∃ W, W = (((w.alloc (.cells #[v] 87)).alloc (.cells #[.func (.func 57) #[] #[.pointer (some ⟨w.heap.size, 0, none⟩)]] 57)).alloc (.cells #[] 60)).alloc (.cells #[.slice none 0 0] 58) ∧
    Below w.heap.size w W ∧ W.cell? ⟨w.heap.size, 0, none⟩ = some v ∧ PS W (w.heap.size + 4) (w.heap.size + 1) (w.heap.size + 3) w.heap.size [] ∧ W.ownsRow w.heap.size 60 23 (.slice (some ⟨w.heap.size + 2, 0, none⟩) 0 0) 0 [] ∧ w.heap.size + 4 = W.heap.size := by
  refine ⟨_, rfl, ?_, ?_, ⟨?_, ⟨.slice none 0 0, ?_, World.ownsRow_nil ..⟩, ?_, by omega, by omega, ?_, by omega⟩, ⟨rfl, Or.inr ⟨w.heap.size + 2, 0, #[], rfl, by omega, ?_, Nat.le_refl _, by unfold maxLen; omega, rfl, rfl⟩⟩, ?_⟩
  · exact ((((Below.refl _ _).alloc (Nat.le_refl _) _).alloc (by simp) _).alloc (by simp; omega) _).alloc (by simp; omega) _
  · simp [go_sem]
  · simp [go_sem]
  · simp [go_sem]
  · simp [go_sem]
  · simp
  · have e1 := heap_alloc_new ((w.alloc (.cells #[v] 87)).alloc (.cells #[.func (.func 57) #[] #[.pointer (some ⟨w.heap.size, 0, none⟩)]] 57)) (.cells #[] 60)
    have e2 : ((w.alloc (.cells #[v] 87)).alloc (.cells #[.func (.func 57) #[] #[.pointer (some ⟨w.heap.size, 0, none⟩)]] 57)).heap.size = w.heap.size + 2 := by simp
    rw [e2] at e1
    rw [heap_alloc_old _ _ (by simp)]
    exact e1
  · simp
set_option maxRecDepth 100000 in
set_option maxHeartbeats 1000000 in
theorem c38 (w : World) (D ga n c : Nat) (lv : Nat → Nat) (it : Nat → List Value) (kv : Nat → Value) (ab : Nat → Option Nat) (tv : Value) (H : PH w D ga n c lv it kv ab tv) :
    Calls Try.prog 38 #[.slice (some ⟨ga, 0, none⟩) n c, tv] w fun e w' => ∃ ov, e = .returned ov ∧ w'.ownsRow w.heap.size 60 23 ov n ((whole n ab (kf lv)).flatMap it) ∧ Below D w w' ∧ Keep w.heap.size (fun k => (∃ i, i < n ∧ (kv i).ownBlock = some k) ∨ tv.ownBlock = some k) w w' := by
  have st : (store ⟨w.heap.size + 1, 0, none⟩ (.func (.func 57) #[] #[.pointer (some ⟨w.heap.size, 0, none⟩)])).run Try.prog ((w.alloc (.cells #[.slice (some ⟨ga, 0, none⟩) n c] 87)).alloc (.cells #[.nilFunc] 57)) =
      .ok () (((w.alloc (.cells #[.slice (some ⟨ga, 0, none⟩) n c] 87)).alloc (.cells #[.nilFunc] 57)).setCell ⟨w.heap.size + 1, 0, none⟩ (.func (.func 57) #[] #[.pointer (some ⟨w.heap.size, 0, none⟩)])) := by
    rw [run_store Try.prog _ _ _ _ rfl]; simp [go_sem]
  obtain ⟨W, hW, hb, hc, hp, ho, hz⟩ := start38 w (.slice (some ⟨ga, 0, none⟩) n c)
  obtain ⟨bx, lb, tb, B, e1, e2, e3, e4⟩ : ∃ bx lb tb B, bx = w.heap.size ∧ lb = bx + 1 ∧ tb = bx + 1 + 1 + 1 ∧ B = bx + 4 := ⟨_, _, _, _, rfl, rfl, rfl, rfl⟩
  have hce : CE W bx ga n c lv := ⟨by rw [e1]; exact hc, fun i hi => (hb.cell (p := ⟨ga, i * 25 + 23, none⟩) H.hga).trans (H.hlv i hi), H.hu, by omega, Nat.lt_of_lt_of_le H.hga hb.size⟩
  have hps : PS W B lb tb bx [] := by subst e1 e2 e3 e4; exact hp
  have hkb : ∀ g, tv.ownBlock = some g → g < B ∧ g ≠ lb ∧ g ≠ tb ∧ bx ≠ g ∧ ga ≠ g := fun g hg => by
    have := H.htb g hg
    omega
  have hkv : KV W tv (kids n ab none) := H.ht.keep (Keep.of_below (ex := fun _ => False) hb) (fun k hk => ⟨(H.htb k hk).2.1, fun h => h⟩)
  have hkl : (kids n ab none).length ≤ 1048576 := by
    have := List.length_filter_le (fun i => ab i == none) (List.range n)
    rw [List.length_range] at this
    exact Nat.le_trans this H.hn
  have C0 := Lib.hid (c58k (lb := lb) (tb := tb) hce hkv (fun x hx => (mem_kids.1 hx).1) (by rw [List.length_nil]; omega) hps hkb)
  have HH := Lib.hid H
  have HS := Lib.hid (And.intro hb (And.intro ho (And.intro hz (And.intro hce hps))))
  have HW := Lib.hid hW
  have HE := Lib.hid (And.intro e1 (And.intro e2 (And.intro e3 e4)))
  obtain ⟨i0, hi60, hz1, hz2⟩ : ∃ i0, Try.prog.info? 60 = some i0 ∧ i0.size = 23 ∧ i0.bytes = 176 := by
    have h := info60
    cases hx : Try.prog.info? 60 with
    | none => rw [hx] at h; cases h
    | some i0 => rw [hx] at h; simp at h; exact ⟨i0, rfl, h.1, h.2⟩
  obtain ⟨z, hz0, hz3⟩ : ∃ z, i0.zero = some z ∧ z.cells.size = 23 := by
    have h := zero60
    rw [hi60, Option.bind_some] at h
    cases hx : i0.zero with
    | none => rw [hx] at h; cases h
    | some z => rw [hx] at h; exact ⟨z, rfl, by simpa using h⟩
  have HI := Lib.hid (And.intro hi60 (And.intro hz0 (And.intro hz1 (And.intro hz2 hz3))))
  clear hi60 hz0 hz1 hz2 hz3
  clear H hb hc hp ho hz hW hce hps hkb hkv hkl e1 e2 e3 e4
  go_enter Try.func38, Try.ntmps38
  go_upto_region 5 with fail
  rw [← HW.out]
  clear st HW
  rw [← HE.out.1, ← HE.out.2.2.1, ← HE.out.2.1]
  go_wp2_with fail
  go_at_call 58
  refine C0.out.mono fun e w1 ⟨he, p1, k1⟩ => ?_
  subst he
  have P1 := Lib.hid (PM.first HH.out HS.out.1 (by have := HS.out.2.1; rw [HE.out.1] at *; exact this) HS.out.2.2.2.1 HS.out.2.2.2.2 HE.out.1 HE.out.2.2.1 HE.out.2.2.2 p1 k1)
  have HF := Lib.hid (show [] ++ ([] ++ (stab (kf lv) (kids n ab none)).reverse).reverse.flatMap (tr n ab (kf lv)) = whole n ab (kf lv) by rw [List.nil_append, List.nil_append, List.reverse_reverse]; rfl)
  have P1 := Lib.hid (show PM w w1 bx lb tb B ga n c lv it kv ab tv ([] ++ (stab (kf lv) (kids n ab none)).reverse) [] (([] ++ (stab (kf lv) (kids n ab none)).reverse).reverse.flatMap (tr n ab (kf lv))) (.slice (some ⟨bx + 1 + 1, 0, none⟩) 0 0) by
    have e := HF.out
    rw [List.nil_append] at e
    rw [e]
    exact P1.out)
  clear C0 p1 k1
  generalize hS0 : [] ++ (stab (kf lv) (kids n ab none)).reverse = S0 at *
  clear hS0
  go_wp2_with fail
  go_loopw [6, 9] (fun ov _ wx => ∃ S O, Hid (PM w wx bx lb tb B ga n c lv it kv ab tv S O (S.reverse.flatMap (tr n ab (kf lv))) ov) ∧ Hid (O ++ S.reverse.flatMap (tr n ab (kf lv)) = whole n ab (kf lv))) (fun ov _ _ => n - lenV ov)
  case atStart => exact ⟨S0, [], by have e := P1; rw [← HE.out.2.1] at e; exact e, HF⟩
  case round =>
    obtain ⟨S, O, hP, hE⟩ := hrel
    clear P1 HF
    rcases (show S = [] ∨ ∃ S' i, S = S' ++ [i] by
      rcases Nat.eq_zero_or_pos S.length with h | h
      · exact Or.inl (List.length_eq_zero_iff.1 h)
      · obtain ⟨x, t, e, _⟩ := snoc_of_len (l := S) (n := S.length - 1) (by omega)
        exact Or.inr ⟨t, x, e⟩) with rfl | ⟨S', i, rfl⟩
    · obtain ⟨tv2, h1, h2⟩ := hP.out.ps.td
      obtain ⟨p2, c2, rfl, -⟩ := owned_slice h2
      have FIN := Lib.hid (show wr.ownsRow w.heap.size 60 23 u6 n ((whole n ab (kf lv)).flatMap it) ∧ Below D w wr ∧ Keep w.heap.size (fun k => (∃ i, i < n ∧ (kv i).ownBlock = some k) ∨ tv.ownBlock = some k) w wr by
        have e := hE.out
        rw [List.reverse_nil, List.flatMap_nil, List.append_nil] at e
        refine ⟨?_, hP.out.kp.below D HH.out.hD fun k hk h => ?_, hP.out.kp⟩
        · have o := hP.out.out
          have := whole_length HH.out.H (key := kf lv)
          rw [← e] at this
          rw [this, e] at o
          exact o
        · rcases h with ⟨i, hi, h⟩ | h
          · have := HH.out.sp.kb i k hi h; omega
          · have := HH.out.htb k h; omega)
      clear h2 hE
      go_wp2_with fail
      go_ret
      exact ⟨_, rfl, FIN.out⟩
    · have hi : i < n := by
        refine (mem_whole HH.out.H (key := kf lv)).1 ?_
        rw [← hE.out, List.reverse_append]
        exact List.mem_append_right _ (List.mem_flatMap.2 ⟨i, by simp, tr_self HH.out.H i⟩)
      have HIN := Lib.hid hi
      obtain ⟨tg, c2, t1, t2, t3, p2⟩ := hP.out.ps.pop
      have bxc := hP.out.ce.box
      have fz := hP.out.ps.fz
      have P2 := Lib.hid p2
      have t3i : ((S'.length : Nat) : Int) + 1 ≤ (c2 : Int) := by omega
      have hsl : O.length + S'.length + 1 ≤ 1048576 := by
        have := stack_le HH.out hE.out
        have := HH.out.hn
        rw [List.length_append, List.length_singleton] at *
        omega
      clear p2 hi
      have hR : ∀ j ∈ (S' ++ [i]).reverse.flatMap (tr n ab (kf lv)), j < n := fun j hj => (mem_whole HH.out.H (key := kf lv)).1 (by rw [← hE.out]; exact List.mem_append_right _ hj)
      have HR := Lib.hid hR
      have PA := Lib.hid (hP.out.popped HH.out HE.out.1 HE.out.2.2.1 HE.out.2.2.2 hR P2.out)
      have HSL := Lib.hid hsl
      clear hR
      go_upto_region 9 with fail
      generalize wr.setCell ⟨tb, 0, none⟩ (.slice (some ⟨tg, 0, none⟩) S'.length c2) = w2 at *
      clear t1 t2 t3 t3i bxc fz P2 hsl
      have bxc := PA.out.ce.box
      have RNG := Lib.hid (PA.out.range HH.out HIN.out)
      have hii : (i : Int) < (n : Int) := by have := HIN.out; omega
      have SZ : (Try.prog.info? 60).map (·.size) = some (it i).length := by rw [HI.out.1, HH.out.sp.il]; exact congrArg some HI.out.2.2.1
      have SZ2 := Lib.hid SZ
      have CSZ := Lib.hid (show ((Try.prog.info? 60).map (·.size) = some 23) ∧ (((Try.prog.info? 60).bind (·.zero)).isSome = true) by rw [HI.out.1]; exact ⟨congrArg some HI.out.2.2.1, by rw [Option.bind_some, HI.out.2.1]; rfl⟩)
      have V1 := Lib.hid (show ∀ v ∈ [Value.agg (it i).toArray], v.cells.size = 23 from fun v hv => by rw [List.mem_singleton.1 hv]; show (it i).toArray.size = 23; rw [List.size_toArray]; exact HH.out.sp.il i)
      have NC := Lib.hid (new_cells w2 (it i) 60 (HH.out.sp.il i))
      have LI := Lib.hid (HH.out.sp.il i)
      have OA := Lib.hid (PA.out.out.alloc (.cells ([Value.agg (it i).toArray].flatMap fun v => v.cells.toList).toArray 60))
      clear SZ
      go_wp2_with (first
        | (refine wpList_load_mid rfl 60 (.tmp 34) rfl ga (i * 25) rfl (it i) _ RNG.out Try.underlying60 rfl SZ2.out ?_)
        | (refine Go.Great.wpList_buildRows rfl 36 60 #[(0, .tmp 35)] 23 [.agg (it i).toArray] rfl (fun _ => 35) w2.heap.size rfl (some 36) rfl Try.underlying36 CSZ.out.1 CSZ.out.2 (by decide) (Nat.succ_pos 0) (show 1 * 23 ≤ 2 ^ 24 by decide) rfl V1.out (fun k hk => by match k, hk with | 0, _ => rfl) ?_)
        | (at_builtin; refine wpList_append_strong rfl _ _ 36 rfl w.heap.size 60 i0 z 23 176 Try.underlying36 HI.out.1 HI.out.2.1 HI.out.2.2.1 HI.out.2.2.2.1 HI.out.2.2.2.2 (by decide) _ _ _ rfl OA.out ⟨w2.heap.size, 0, none⟩ 1 1 (it i) rfl ?c0 NC.out ?c2 ?c3 ?c4 ?c5 (by decide) ?_))
      case c0 => rw [LI.out]
      case c2 => exact HH.out.sp.i1 i
      case c3 => have := HSL.out; unfold maxLen; omega
      case c4 => have := HSL.out; omega
      case c5 => have := PA.out.kp.size; simp; omega
      intro v3 w3 hown hgrow hblk
      have PB := Lib.hid (PA.out.told HH.out HE.out.1 HE.out.2.1 HE.out.2.2.1 HE.out.2.2.2 HR.out _ hown hgrow (by simpa using hblk))
      obtain ⟨p3, c3, rfl, -⟩ := owned_slice hown
      clear hown hgrow hblk OA NC V1 CSZ SZ2 RNG bxc
      have bxc := PB.out.ce.box
      have kic := PB.out.kid HH.out HIN.out
      have eR : (S' ++ [i]).reverse.flatMap (tr n ab (kf lv)) = i :: (S' ++ (stab (kf lv) (kids n ab (some i))).reverse).reverse.flatMap (tr n ab (kf lv)) := by
        rw [List.reverse_append, List.reverse_singleton, List.singleton_append, List.flatMap_cons, tr_step HH.out.H, List.reverse_append, List.reverse_reverse, List.flatMap_append, List.cons_append]
      have HN2 := Lib.hid (show ∀ j ∈ (S' ++ (stab (kf lv) (kids n ab (some i))).reverse).reverse.flatMap (tr n ab (kf lv)), j ∈ (S' ++ [i]).reverse.flatMap (tr n ab (kf lv)) ∧ j < n ∧ j ≠ i from fun j hj => by
        have hm : j ∈ (S' ++ [i]).reverse.flatMap (tr n ab (kf lv)) := by rw [eR]; exact List.mem_cons_of_mem _ hj
        refine ⟨hm, HR.out j hm, fun e => ?_⟩
        have nd := whole_nodup HH.out.H (key := kf lv)
        rw [← hE.out, eR] at nd
        have := (List.nodup_append.1 nd).2.1
        exact (List.nodup_cons.1 this).1 (e ▸ hj))
      have HE2 := Lib.hid (show (O ++ [i]) ++ (S' ++ (stab (kf lv) (kids n ab (some i))).reverse).reverse.flatMap (tr n ab (kf lv)) = whole n ab (kf lv) by
        rw [← hE.out, eR, List.append_assoc, List.singleton_append])
      have hkb : ∀ g, (kv i).ownBlock = some g → g < B ∧ g ≠ lb ∧ g ≠ tb ∧ bx ≠ g ∧ ga ≠ g := fun g hg => by
        have := HH.out.sp.kb i g HIN.out hg
        have := HE.out
        omega
      have hkl : S'.length + (kids n ab (some i)).length ≤ 1099511627776 := by
        have := List.length_filter_le (fun j => ab j == some i) (List.range n)
        rw [List.length_range] at this
        have := HSL.out
        have := HH.out.hn
        unfold kids
        omega
      have CP := Lib.hid (c58k PB.out.ce (PB.out.pn i (by rw [eR]; exact List.mem_cons_self ..)) (fun x hx => (mem_kids.1 hx).1) hkl PB.out.ps hkb)
      clear eR hkb hkl
      go_wp2_with fail
      go_at_call 58
      refine CP.out.mono fun e w4 ⟨he, p4, k4⟩ => ?_
      subst he
      have PC := Lib.hid (PB.out.pushed HH.out HE.out.1 HE.out.2.1 HE.out.2.2.1 HE.out.2.2.2 HIN.out p4 k4 HN2.out)
      clear p4 k4 CP bxc kic
      go_wp2_with fail
      go_roundw
      case rel => exact ⟨S' ++ (stab (kf lv) (kids n ab (some i))).reverse, O ++ [i], PC, HE2⟩
      case measure =>
        obtain ⟨p0, c0, h0, -⟩ := owned_slice hP.out.out
        have := stack_le HH.out hE.out
        rw [List.length_append, List.length_singleton] at this
        rw [h0]
        show n - (O.length + 1) < n - O.length
        omega
end Go.Proofs.Ytedkbjimofiphaa
