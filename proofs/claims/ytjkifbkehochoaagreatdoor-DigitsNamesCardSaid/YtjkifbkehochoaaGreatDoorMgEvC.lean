/- The evaluator of closed calls, part EvC. The evaluator of closed calls, part EvD. The evaluator of closed calls, part EvE. -/
import Derived.Test.YtjkifbkehochoaaGreatDoorMgEvA
set_option linter.unusedSimpArgs false
set_option linter.unusedVariables false
namespace Go.Proofs.YtjkifbkehochoaaGreatDoor.Ev
theorem Step.write {φ : Ren} {C C' : Nat → Option Blk} {n : Nat} {w w' : World} (hr : HR φ C n w) {i b : Nat} {B : Blk} (hi : φ i = some b) (hl : Blk.live (C i)) (hs : w'.heap.size = w.heap.size)
    (hf : ∀ c, c ≠ b → w'.heap[c]? = w.heap[c]?) (hb : BR φ i (some B) w'.heap[b]?) (hB : Blk.live (some B)) (h1 : C' i = some B) (h2 : ∀ j, j ≠ i → C' j = C j) (hz : Same w w' := by first | exact ⟨rfl, rfl, rfl⟩ | exact Same.setCells .. | (subst_vars; exact ⟨rfl, rfl, rfl⟩) | assumption) : Step φ C n w φ C' n w' := by
  have hin := (hr.lt i b hi).1
  have live' : ∀ j, j < n → Blk.live (C' j) → Blk.live (C j) := fun j hj h => by
    by_cases e : j = i
    · subst e; exact hl
    · rw [h2 j e] at h; exact h
  have there' : ∀ j, j < n → Blk.there (C' j) → Blk.there (C j) := fun j hj h => by
    by_cases e : j = i
    · subst e; exact Blk.live_there hl
    · rw [h2 j e] at h; exact h
  have ro' : ∀ j cs, C' j = some (.ro cs) → C j = some (.ro cs) := fun j cs h => by
    by_cases e : j = i
    · subst e; rw [h1] at h; cases h; exact hB.elim
    · rw [h2 j e] at h; exact h
  refine ⟨⟨hr.bnd, fun j cs h => hr.ro j cs (ro' j cs h), fun j c h => ⟨(hr.lt j c h).1, by rw [hs]; exact (hr.lt j c h).2⟩, fun j k c hj hk a1 a2 => hr.inj j k c hj hk (live' j (hr.lt j c hj).1 a1) (there' k (hr.lt k c hk).1 a2), fun j c hj => ?_⟩,
    φ.le_refl, fun _ _ _ h => h, Nat.le_refl _, live', ro', fun j c h1 h2 _ => absurd (hr.lt j c h2).1 (by omega), by omega, fun c hc hno => hf c fun e => hno i (e ▸ hi) hl, hz⟩
  by_cases e : j = i
  · subst e
    rw [hi] at hj
    cases hj
    rw [h1]; exact hb
  · rw [h2 j e]
    by_cases hc : c = b
    · subst hc
      by_cases ht : Blk.there (C j)
      · exact absurd (hr.inj i j c hi hj hl ht).symm e
      · unfold Blk.there at ht
        split at ht
        · rename_i hd; rw [hd]; trivial
        · rename_i hd; rw [hd]; trivial
        · exact absurd trivial ht
    · rw [hf c hc]; exact hr.row j c hj
def Ren.at (φ : Ren) (i b q : Nat) : Ren := ⟨fun j => if j = i then some b else φ j, fun j => if j = i then q else φ.k j⟩
theorem Ren.at_same (φ : Ren) (i b q : Nat) : φ.at i b q i = some b := by simp [Ren.at]
theorem Ren.at_k (φ : Ren) (i b q : Nat) : (φ.at i b q).k i = q := by simp [Ren.at]
theorem Ren.at_ne (φ : Ren) {i b q j : Nat} (h : j ≠ i) : φ.at i b q j = φ j := by simp [Ren.at, h]
theorem Ren.at_nek (φ : Ren) {i b q j : Nat} (h : j ≠ i) : (φ.at i b q).k j = φ.k j := by simp [Ren.at, h]
theorem Ren.at_ext {φ : Ren} {i b q : Nat} (h : φ i = none) : φ.le (φ.at i b q) := fun j c hj => by
  have : j ≠ i := fun e => by rw [e, h] at hj; cases hj
  exact ⟨by rw [Ren.at_ne φ this]; exact hj, Ren.at_nek φ this⟩
/-- a new block under the name i, which had none -/
theorem HR.alloc {φ : Ren} {C C' : Nat → Option Blk} {n n' : Nat} {w w' : World} (hr : HR φ C n w) {i : Nat} {B : Blk} {o : Obj} (hi : φ i = none) (hin : i < n') (hnn : n ≤ n') (hb' : n' ≤ 65536)
    (hw : w'.heap = w.heap.push o) {q : Nat} (hb : BR (φ.at i w.heap.size q) i (some B) (some o)) (hB : Blk.live (some B)) (h1 : C' i = some B) (h2 : ∀ j, j ≠ i → C' j = C j) : HR (φ.at i w.heap.size q) C' n' w' := by
  have old : ∀ j c, φ.at i w.heap.size q j = some c → j ≠ i → φ j = some c := fun j c h e => by rw [Ren.at_ne φ e] at h; exact h
  have hsz : w'.heap.size = w.heap.size + 1 := by rw [hw]; simp
  have ne : ∀ j c, φ j = some c → j ≠ i := fun j c hj e => by rw [e, hi] at hj; cases hj
  refine ⟨hb', fun j cs h => ?_, fun j c hj => ?_, fun j k c hj hk a1 a2 => ?_, fun j c hj => ?_⟩
  · by_cases e : j = i
    · subst e; rw [h1] at h; cases h; exact hB.elim
    · rw [h2 j e] at h; have := hr.ro j cs h; exact ⟨by omega, by rw [Ren.at_ne φ e]; exact this.2⟩
  · by_cases e : j = i
    · subst e; rw [Ren.at_same] at hj; cases hj; exact ⟨hin, by omega⟩
    · have := hr.lt j c (old j c hj e); exact ⟨by omega, by omega⟩
  · by_cases e : j = i <;> by_cases f : k = i
    · rw [e, f]
    · subst e
      rw [Ren.at_same] at hj
      cases hj
      have := (hr.lt k _ (old k _ hk f)).2
      omega
    · subst f
      rw [Ren.at_same] at hk
      cases hk
      have := (hr.lt j _ (old j _ hj e)).2
      omega
    · have hj := old j c hj e
      have hk := old k c hk f
      rw [h2 j e] at a1
      rw [h2 k f] at a2
      exact hr.inj j k c hj hk a1 a2
  · by_cases e : j = i
    · subst e
      rw [Ren.at_same] at hj
      cases hj
      rw [h1, hw]
      simp only [Array.getElem?_push_size]
      exact hb
    · have hj := old j c hj e
      rw [h2 j e, hw, Array.getElem?_push_lt (hr.lt j c hj).2]
      have := hr.row j c hj
      rw [Array.getElem?_eq_getElem (hr.lt j c hj).2] at this
      exact this.mono (Ren.at_ext hi) (Ren.at_nek φ e)
theorem HR.fresh {φ : Ren} {C : Nat → Option Blk} {n : Nat} {w : World} (hr : HR φ C n w) : φ n = none := by
  cases h : φ n with
  | none => rfl
  | some b => exact absurd (hr.lt n b h).1 (by omega)
theorem Step.alloc {φ : Ren} {C C' : Nat → Option Blk} {n : Nat} {w w' : World} (hr : HR φ C n w) {B : Blk} {o : Obj} (hb' : n + 1 ≤ 65536) (hw : w'.heap = w.heap.push o) {q : Nat} (hb : BR (φ.at n w.heap.size q) n (some B) (some o)) (hB : Blk.live (some B)) (h1 : C' n = some B) (h2 : ∀ j, j ≠ n → C' j = C j) (hz : Same w w' := by first | exact ⟨rfl, rfl, rfl⟩ | exact Same.setCells .. | (subst_vars; exact ⟨rfl, rfl, rfl⟩) | assumption) :
    Step φ C n w (φ.at n w.heap.size q) C' (n + 1) w' := by
  have hi := hr.fresh
  have hsz : w'.heap.size = w.heap.size + 1 := by rw [hw]; simp
  refine ⟨hr.alloc hi (by omega) (by omega) hb' hw hb hB h1 h2, Ren.at_ext hi, fun j c hj h => ?_, by omega, fun j hj h => by rw [h2 j (by omega)] at h; exact h, fun j cs h => ?_, fun j c hj h hl => ?_, by omega, fun c hc _ => ?_, hz⟩
  · rw [Ren.at_ne φ (by omega)] at h; exact h
  · by_cases e : j = n
    · subst e; rw [h1] at h; cases h; exact hB.elim
    · rw [h2 j e] at h; exact h
  · by_cases e : j = n
    · subst e; rw [Ren.at_same] at h; cases h; exact .inl (Nat.le_refl _)
    · rw [Ren.at_ne φ e] at h; have := (hr.lt j c h).1; omega
  · rw [hw, Array.getElem?_push_lt hc, Array.getElem?_eq_getElem hc]
/-- a block's name is no longer to be used -/
theorem HR.kill {φ : Ren} {C C' : Nat → Option Blk} {n : Nat} {w : World} (hr : HR φ C n w) (h2 : ∀ j, C' j = C j ∨ C' j = some .dead) : Step φ C n w φ C' n w := by
  have live' : ∀ j, j < n → Blk.live (C' j) → Blk.live (C j) := fun j hj h => by
    rcases h2 j with e | e
    · rw [e] at h; exact h
    · rw [e] at h; exact h.elim
  have there' : ∀ j, j < n → Blk.there (C' j) → Blk.there (C j) := fun j hj h => by
    rcases h2 j with e | e
    · rw [e] at h; exact h
    · rw [e] at h; exact h.elim
  have ro' : ∀ j cs, C' j = some (.ro cs) → C j = some (.ro cs) := fun j cs h => by
    rcases h2 j with e | e
    · rw [e] at h; exact h
    · rw [e] at h; cases h
  refine ⟨⟨hr.bnd, fun j cs h => hr.ro j cs (ro' j cs h), hr.lt, fun j k c hj hk a1 a2 => hr.inj j k c hj hk (live' j (hr.lt j c hj).1 a1) (there' k (hr.lt k c hk).1 a2), fun j c hj => ?_⟩, φ.le_refl, fun _ _ _ h => h, Nat.le_refl _, live', ro',
    fun j c h1 h2 _ => absurd (hr.lt j c h2).1 (by omega), Nat.le_refl _, fun _ _ _ => rfl, .refl w⟩
  rcases h2 j with e | e
  · rw [e]; exact hr.row j c hj
  · rw [e]; trivial
theorem HR.heap {φ : Ren} {C : Nat → Option Blk} {n : Nat} {w w' : World} (hr : HR φ C n w) (h : w'.heap = w.heap) : HR φ C n w' :=
  ⟨hr.bnd, hr.ro, fun i b hi => by rw [h]; exact hr.lt i b hi, hr.inj, fun i b hi => by rw [h]; exact hr.row i b hi⟩
theorem HR.world {φ : Ren} {C : Nat → Option Blk} {n : Nat} {w w' : World} (hr : HR φ C n w) (h : w'.heap = w.heap) (hz : Same w w' := by first | exact ⟨rfl, rfl, rfl⟩ | exact Same.setCells .. | (subst_vars; exact ⟨rfl, rfl, rfl⟩) | assumption) : Step φ C n w φ C n w' :=
  ⟨⟨hr.bnd, hr.ro, fun i b hi => by rw [h]; exact hr.lt i b hi, hr.inj, fun i b hi => by rw [h]; exact hr.row i b hi⟩, φ.le_refl, fun _ _ _ h => h, Nat.le_refl _, fun _ _ h => h, fun _ _ h => h, fun i b hi hb => absurd (hr.lt i b hb).1 (by omega), by rw [h]; exact Nat.le_refl _, fun _ _ _ => by rw [h], hz⟩
/-- a live block gets a new name, its old one is dead; it is written -/
theorem Step.rename {φ : Ren} {C C' : Nat → Option Blk} {n : Nat} {w w' : World} (hr : HR φ C n w) {i b : Nat} {B : Blk} (hi : φ i = some b) (hl : Blk.live (C i)) (hb' : n + 1 ≤ 65536) (hs : w'.heap.size = w.heap.size)
    (hf : ∀ c, c ≠ b → w'.heap[c]? = w.heap[c]?) {q : Nat} (hb : BR (φ.at n b q) n (some B) w'.heap[b]?) (hB : Blk.live (some B)) (h0 : C' n = some B) (h1 : C' i = some .dead) (h2 : ∀ j, j ≠ n → j ≠ i → C' j = C j) (hz : Same w w' := by first | exact ⟨rfl, rfl, rfl⟩ | exact Same.setCells .. | (subst_vars; exact ⟨rfl, rfl, rfl⟩) | assumption) : Step φ C n w (φ.at n b q) C' (n + 1) w' := by
  have hn := hr.fresh
  have hin := (hr.lt i b hi).1
  have old : ∀ j c, φ.at n b q j = some c → j ≠ n → φ j = some c := fun j c h e => by rw [Ren.at_ne φ e] at h; exact h
  have live' : ∀ j, j < n → Blk.live (C' j) → j ≠ i ∧ Blk.live (C j) := fun j hj h => by
    by_cases e : j = i
    · subst e; rw [h1] at h; exact h.elim
    · rw [h2 j (by omega) e] at h; exact ⟨e, h⟩
  have there' : ∀ j, j < n → Blk.there (C' j) → j ≠ i ∧ Blk.there (C j) := fun j hj h => by
    by_cases e : j = i
    · subst e; rw [h1] at h; exact h.elim
    · rw [h2 j (by omega) e] at h; exact ⟨e, h⟩
  have ro' : ∀ j cs, C' j = some (.ro cs) → C j = some (.ro cs) := fun j cs h => by
    by_cases e : j = n
    · subst e; rw [h0] at h; cases h; exact hB.elim
    · by_cases f : j = i
      · subst f; rw [h1] at h; cases h
      · rw [h2 j e f] at h; exact h
  refine ⟨⟨hb', fun j cs h => by have := hr.ro j cs (ro' j cs h); exact ⟨by omega, by rw [Ren.at_ne φ (by omega)]; exact this.2⟩, fun j c hj => ?_, fun j k c hj hk a1 a2 => ?_, fun j c hj => ?_⟩, Ren.at_ext hn, fun j c hj h => ?_, by omega, fun j hj h => (live' j hj h).2, ro', fun j c hj h hlv => ?_, by omega, fun c hc hno => hf c fun e => hno i (e ▸ hi) hl, hz⟩
  · by_cases e : j = n
    · subst e; rw [Ren.at_same] at hj; cases hj; exact ⟨by omega, by rw [hs]; exact (hr.lt i b hi).2⟩
    · have := hr.lt j c (old j c hj e); exact ⟨by omega, by omega⟩
  · by_cases e : j = n <;> by_cases f : k = n
    · rw [e, f]
    · subst e
      rw [Ren.at_same] at hj
      cases hj
      have hk := old k _ hk f
      have hkn := (hr.lt k _ hk).1
      obtain ⟨q1, q2⟩ := there' k hkn a2
      exact absurd (hr.inj i k b hi hk hl q2).symm q1
    · subst f
      rw [Ren.at_same] at hk
      cases hk
      have hj := old j _ hj e
      have hjn := (hr.lt j _ hj).1
      obtain ⟨q1, q2⟩ := live' j hjn a1
      exact absurd (hr.inj j i b hj hi q2 (Blk.live_there hl)) q1
    · have hj := old j c hj e
      have hk := old k c hk f
      exact hr.inj j k c hj hk (live' j (hr.lt j c hj).1 a1).2 (there' k (hr.lt k c hk).1 a2).2
  · by_cases e : j = n
    · subst e
      rw [Ren.at_same] at hj
      cases hj
      rw [h0]
      exact hb
    · replace hj := old j c hj e
      have hjn := (hr.lt j c hj).1
      by_cases ei : j = i
      · subst ei; rw [h1]; trivial
      · rw [h2 j e ei]
        by_cases hc : c = b
        · subst hc
          by_cases ht : Blk.there (C j)
          · exact absurd (hr.inj i j c hi hj hl ht).symm ei
          · unfold Blk.there at ht
            split at ht
            · rename_i hd; rw [hd]; trivial
            · rename_i hd; rw [hd]; trivial
            · exact absurd trivial ht
        · rw [hf c hc]; exact (hr.row j c hj).mono (Ren.at_ext hn) (Ren.at_nek φ e)
  · rw [Ren.at_ne φ (by omega)] at h; exact h
  · by_cases e : j = n
    · subst e; rw [Ren.at_same] at h; cases h; exact .inr ⟨i, hi, hl⟩
    · have := (hr.lt j c (old j c h e)).1; omega
theorem heap_setCells (b : Nat) : ∀ (vs : List Value) (o : Nat) (w : World), (w.setCells b o vs).heap.size = w.heap.size ∧ (∀ c, c ≠ b → (w.setCells b o vs).heap[c]? = w.heap[c]?) ∧
    ∀ (cs : Array Value) (e : TypeId) (f : Nat × Nat), w.heap[b]? = some (.cells cs e f) → o + vs.length ≤ cs.size → ∃ cs', (w.setCells b o vs).heap[b]? = some (.cells cs' e f) ∧ cs'.size = cs.size ∧ ∀ i, cs'[i]? = if o ≤ i ∧ i < o + vs.length then vs[i - o]? else cs[i]?
  | [], o, w => by
    refine ⟨rfl, fun _ _ => rfl, fun cs e f h _ => ⟨cs, h, rfl, fun i => by rw [if_neg]; simp⟩⟩
  | v :: vs, o, w => by
    obtain ⟨h1, h2, h3⟩ := heap_setCells b vs (o + 1) (w.setCell ⟨b, o, none⟩ v)
    refine ⟨by rw [World.setCells, h1]; simp [World.setCell], fun c hc => ?_, fun cs e f h hl => ?_⟩
    · rw [World.setCells, h2 c hc]
      simp only [World.setCell]
      rw [Array.getElem?_modify]
      rw [if_neg (fun e => hc e.symm)]
    · have hb : b < w.heap.size := (Array.getElem?_eq_some_iff.1 h).1
      have hw : (w.setCell ⟨b, o, none⟩ v).heap[b]? = some (.cells (cs.setIfInBounds o v) e f) := by
        simp only [World.setCell, Array.getElem?_modify, if_true, h]
        simp
      obtain ⟨cs', q1, q2, q3⟩ := h3 _ e f hw (by simp at hl ⊢; omega)
      refine ⟨cs', by rw [World.setCells]; exact q1, by rw [q2]; simp, fun i => ?_⟩
      rw [q3 i]
      simp only [List.length_cons] at hl ⊢
      by_cases hi : i = o
      · subst hi
        rw [if_neg (by omega), if_pos (by omega), Nat.sub_self, Array.getElem?_setIfInBounds_self_of_lt (by omega)]
        rfl
      · by_cases hc : o + 1 ≤ i ∧ i < o + 1 + vs.length
        · rw [if_pos hc, if_pos (by omega), show i - o = (i - (o + 1)) + 1 by omega]
          simp
        · rw [if_neg hc, if_neg (by omega), Array.getElem?_setIfInBounds_ne (by omega)]
noncomputable def oneB : Value → Bool
  | .agg _ | .tuple _ => false
  | _ => true
theorem VR.one {φ : Ren} {v v' : Value} (h : VR φ v v') (k : oneB v = true) : v'.oneCell' = true := by cases h <;> first | rfl | (cases k; done)
noncomputable def writeRow (h : Hp) (id off : Nat) (vs : List Value) : Option Hp :=
  match vs.all oneB, h.get id with
  | true, some (.cells cs e ex fz) => match (match fz with | none => true | some k => Nat.ble k off) with
    | true => ob (over cs off vs) fun r => some (h.put id (.cells r e ex fz))
    | false => none
  | _, _ => none
theorem writeRow_run {P : Program} {φ : Ren} {h h' : Hp} {w : World} (hr : HR φ h.get h.n w) {id b off : Nat} {vs vs' : List Value} (hb : φ.f id = some b) (hv : LR φ vs vs') (hh : writeRow h id off vs = some h') :
    (storeCells ⟨b, off, none⟩ vs').run P w = .ok () (w.setCells b off vs') ∧ h'.n = h.n ∧ Step φ h.get h.n w φ h'.get h'.n (w.setCells b off vs') := by
  unfold writeRow at hh
  split at hh
  · rename_i cs e ex fz hone hC
    split at hh
    · rename_i hfz
      replace hh := ob_some hh
      obtain ⟨r, hr1, hh⟩ := hh
      cases hh
      obtain ⟨o1, o2, o3⟩ := over_spec _ _ _ _ hr1
      have hrow := hr.row id b hb
      rw [hC] at hrow
      obtain ⟨c, f, q1, q2, q3, q4⟩ := hrow
      have hlen := hv.1
      have hcs : cs.length ≤ c.size := by
        rcases Nat.eq_zero_or_pos cs.length with h0 | h0
        · omega
        · obtain ⟨y, hy, -⟩ := q3 (cs.length - 1) cs[cs.length - 1] (List.getElem?_eq_getElem (by omega))
          have := (Array.getElem?_eq_some_iff.1 hy).1
          omega
      have hfro : ∀ j, j < vs'.length → w.frozen? ⟨b, off + j, none⟩ = false := fun j hj => by
        obtain ⟨lo, hi⟩ := f
        simp only [World.frozen?, q1]
        cases fz with
        | none => cases q4; simp
        | some k =>
          have := Nat.le_of_ble_eq_true hfz
          have := q4 (off + j) (by omega) (by omega)
          simp only at this
          simp
          omega
      obtain ⟨s1, s2, s3⟩ := heap_setCells b vs' off w
      obtain ⟨c', t1, t2, t3⟩ := s3 c e f q1 (by omega)
      have hbn := (hr.lt id b hb).1
      have hbd := hr.bnd
      refine ⟨?_, rfl, ?_⟩
      · have := run_storeCells_cells (P := P) b off vs' 0 w (fun j hj => by simp [World.cell?, q1]; omega) (fun j hj => by simpa using hfro j hj) (fun v hvm => by
          obtain ⟨i, hi⟩ := List.getElem?_of_mem hvm
          have hil : i < vs.length := by rw [hlen]; exact (List.getElem?_eq_some_iff.1 hi).1
          exact (hv.2 i vs[i] v (List.getElem?_eq_getElem hil) hi).one (List.all_eq_true.1 hone _ (List.getElem_mem hil)))
        simpa using this
      · refine Step.write (i := id) (b := b) (B := .cells r e ex fz) hr hb (by rw [hC]; trivial) s1 s2 ⟨c', f, t1, by rw [t2, o1]; exact q2, fun i x hx => ?_, by rw [t2]; exact q4⟩ trivial ?_ fun j hne => ?_
        · rw [o3] at hx
          rw [t3, ← hlen]
          split at hx
          · rename_i hc
            rw [if_pos hc]
            exact hv.at hx
          · rename_i hc
            rw [if_neg hc]
            exact q3 i x hx
        · rw [Hp.get_put h _ (by omega), if_pos rfl]
        · rw [Hp.get_put h _ (by omega), if_neg hne]
    · cases hh
  · cases hh
noncomputable def storeV (P : Program) (t : TypeId) (x v : Value) (h : Hp) : Option Hp := match x with
  | .pointer (some ⟨id, off, none⟩) => ob (sizeB P t) fun s => match Nat.beq (cellsV v).length s with
    | true => writeRow h id off (cellsV v)
    | false => none
  | _ => none
theorem storeV_run {P : Program} {φ : Ren} {h h' : Hp} {w : World} (hr : HR φ h.get h.n w) {t : TypeId} {x v x' v' : Value} (hx : VR φ x x') (hv : VR φ v v') (hh : storeV P t x v h = some h') :
    ∃ a, x' = .pointer (some a) ∧ ∃ w', (storeVar t a v').run P w = .ok () w' ∧ h'.n = h.n ∧ Step φ h.get h.n w φ h'.get h'.n w' := by
  unfold storeV at hh
  split at hh
  · rename_i id off
    replace hh := ob_some hh
    obtain ⟨s, hs, hh⟩ := hh
    split at hh
    · rename_i hl
      have hl := Nat.eq_of_beq_eq_true hl
      cases hx with
      | ptr hb =>
        rename_i b
        obtain ⟨h1, h2, h3⟩ := writeRow_run (P := P) hr hb hv.cells hh
        refine ⟨_, rfl, _, ?_, h2, h3⟩
        have := hv.cells.1
        simp only [Array.length_toList] at this
        unfold storeVar
        simp [sizeB_run hs, h1]
        omega
    · cases hh
  · cases hh
end Go.Proofs.YtjkifbkehochoaaGreatDoor.Ev
namespace Go.Proofs.YtjkifbkehochoaaGreatDoor.Ev
inductive Mk where
  | ptr
  | sl (n c : Nat)
  | mp
def Mk.val : Mk → Nat → Value
  | .ptr, i => .pointer (some ⟨i, 0, none⟩)
  | .sl n c, i => .slice (some ⟨i, 0, none⟩) n c
  | .mp, i => .map (some i)
noncomputable def Mk.ok : Mk → Bool
  | .sl _ c => Nat.ble (c + 1) unk
  | _ => true
theorem Mk.VR {φ : Ren} {mk : Mk} (h : mk.ok = true) {i b : Nat} (hb : φ i = some b) : VR φ (mk.val i) (mk.val b) := by
  cases mk with
  | ptr => exact .ptr hb
  | sl n c => exact .sl hb (CR.known (Nat.le_of_ble_eq_true h))
  | mp => exact .map hb
noncomputable def repl {α : Type} (l : List α) : Nat → List α
  | 0 => []
  | n + 1 => l ++ repl l n
theorem repl_eq (z : Array Value) : ∀ n, repl z.toList n = ((Array.range (n * z.size)).map fun i => z[i % z.size]!).toList := by
  intro n
  apply List.ext_getElem?
  intro i
  rw [Array.toList_map, Array.toList_range, List.getElem?_map]
  induction n generalizing i with
  | zero => simp [repl]
  | succ n ih =>
    simp only [repl]
    have hm : (n + 1) * z.size = n * z.size + z.size := by rw [Nat.add_mul]; omega
    by_cases hi : i < z.size
    · rw [List.getElem?_append_left (by simpa using hi), List.getElem?_range (by omega)]
      simp [Nat.mod_eq_of_lt hi, hi]
    · rw [List.getElem?_append_right (by simp; omega), Array.length_toList, ih]
      by_cases hj : i - z.size < n * z.size
      · rw [List.getElem?_range hj, List.getElem?_range (by omega)]
        simp only [Option.map_some]
        rw [show i % z.size = (i - z.size) % z.size from by rw [← Nat.sub_add_cancel (show z.size ≤ i by omega)]; simp]
      · rw [List.getElem?_eq_none (by simp; omega), List.getElem?_eq_none (by simp; omega)]
theorem map_range0 {α : Type} (f : Nat → α) : (Array.range 0).map f = #[] := by
  apply Array.ext'
  simp
theorem wrap64 (x : Int) (h : 0 ≤ x) (k : x ≤ 9223372036854775807) : IntKind.i64.wrap x = x := by
  have e : (2 ^ IntKind.i64.bits : Int) = 18446744073709551616 := by decide
  have f : (2 ^ (IntKind.i64.bits - 1) : Int) = 9223372036854775808 := by decide
  unfold IntKind.wrap
  rw [e, f]
  have : x % 18446744073709551616 = x := by omega
  simp only [this]
  rw [if_neg (by simp; omega)]
noncomputable def evA (P : Program) (ρ : Operand → Option Value) (o : Oper) : Option (Blk × Mk) := match o.op with
  | .alloc e => ob (zeroB P e) fun z => some (.cells (cellsV z) e none none, .ptr)
  | .box e x => ob (ρ x) fun v => some (.cells (cellsV v) e none none, .ptr)
  | .buildSlice t len parts => match P.underlying t with
    | some (.slice e) => ob (sizeB P e) fun s => ob (zeroB P e) fun z => match Nat.ble (len * s) 16777216 && Nat.beq (cellsV z).length s with
      | true => ob (mapO (fun p => ob (ρ p.2) fun v => some (p.1, v)) parts.toList) fun ps => ob (fillV (fun i => some (i * s, s)) (repl (cellsV z) len) ps) fun cs => some (.cells cs e none none, .sl len len)
      | false => none
    | _ => none
  | .makeSlice t l c => match P.underlying t, ρ l, ρ c with
    | some (.slice e), some (.int _ l), some (.int _ c) => ob (zeroB P e) fun z => match P.info? e with
      | some i => match Nat.ble i.bytes 100000 && Nat.beq (cellsV z).length i.size with
        | true => if 0 ≤ l ∧ l ≤ c ∧ c ≤ 1000000 then some (.cells (repl (cellsV z) c.toNat) e none none, .sl l.toNat c.toNat) else none
        | false => none
      | none => none
    | _, _, _ => none
  | .makeMap t r => match r with
    | none => some (.obj (.map #[] 0), .mp)
    | some x => match ρ x, P.underlying t with
      | some (.int _ _), some (.map _ _) => some (.obj (.map #[] 0), .mp)
      | _, _ => none
  | _ => none
theorem BR.row' {φ : Ren} {i : Nat} {cs : List Value} {c : Array Value} {e : TypeId} (h : LR φ cs c.toList) : BR φ i (some (.cells cs e none none)) (some (.cells c e (0, 0))) := by
  refine ⟨c, (0, 0), rfl, by have := h.1; simpa [EX] using this.symm, fun j x hx => ?_, rfl⟩
  obtain ⟨y, hy, hv⟩ := h.at hx
  exact ⟨y, by simpa using hy, hv⟩
set_option maxHeartbeats 2000000 in
theorem evA_run {P : Program} {φ : Ren} {w : World} {ρ : Operand → Option Value} {ρ' : Operand → Value} (hρ : ∀ x v, ρ x = some v → VR φ v (ρ' x)) {o : Oper} {B : Blk} {mk : Mk} (h : evA P ρ o = some (B, mk)) :
    ∃ o', (execOp ρ' o).run P w = .ok (.value (mk.val w.heap.size)) { w with heap := w.heap.push o' } ∧ (∀ φ' i, φ.le φ' → BR φ' i (some B) (some o')) ∧ Blk.live (some B) := by
  obtain ⟨dst, op, ty, pos, after, guard⟩ := o
  unfold evA at h
  cases op <;> simp only at h <;> first | (cases h; done) | skip
  case alloc e =>
    replace h := ob_some h
    obtain ⟨z, hz, h⟩ := h
    cases h
    obtain ⟨z1, z2⟩ := zeroB_run hz w
    refine ⟨.cells z.cells e, ?_, fun φ' i hle => BR.row' (VR.self 20 z z2).cells, trivial⟩
    have hs : (Instr.alloc e true (.tuple #[])).run P w = .ok (.pointer (some ⟨w.heap.size, 0, none⟩)) { w with heap := w.heap.push (.cells z.cells e) } := by
      simp [Instr.alloc, z1, newVar, newRow]
    exact exec_value rfl hs
  case box e x =>
    replace h := ob_some h
    obtain ⟨v, hv, h⟩ := h
    cases h
    refine ⟨.cells (ρ' x).cells e, ?_, fun φ' i hle => BR.row' ((hρ _ _ hv).mono hle).cells, trivial⟩
    exact exec_value (s := Instr.box e (ρ' x)) rfl (by simp [Instr.box, newVar, newRow, Mk.val])
  case buildSlice t len parts =>
    split at h
    · rename_i e hu
      replace h := ob_some h
      obtain ⟨s, hs, h⟩ := h
      replace h := ob_some h
      obtain ⟨z, hz, h⟩ := h
      split at h
      · rename_i hc
        simp only [Bool.and_eq_true] at hc
        have h24 := Nat.le_of_ble_eq_true hc.1
        have hzs := Nat.eq_of_beq_eq_true hc.2
        replace h := ob_some h
        obtain ⟨ps, hps, h⟩ := h
        replace h := ob_some h
        obtain ⟨cs, hcs, h⟩ := h
        cases h
        obtain ⟨z1, z2⟩ := zeroB_run hz w
        have hzc : z.cells.size = s := by rw [← hzs, cellsV_eq]; simp
        have hcell : LR φ (repl (cellsV z) len) ((Array.range (len * s)).map fun i => z.cells[i % s]!).toList := by
          rw [cellsV_eq, repl_eq, hzc]
          have hzr := (VR.self (φ := φ) 20 z z2).cells
          refine ⟨rfl, fun i x y hx hy => ?_⟩
          rw [hx] at hy
          cases hy
          simp only [Array.toList_map, List.getElem?_map] at hx
          cases hr : (Array.range (len * s)).toList[i]? with
          | none => rw [hr] at hx; cases hx
          | some j =>
            rw [hr] at hx
            cases hx
            have hil := (List.getElem?_eq_some_iff.1 hr).1
            simp at hil
            have hs0 : 0 < s := by
              rcases Nat.eq_zero_or_pos s with h0 | h0
              · subst h0; simp at hil
              · exact h0
            have hlt : j % s < z.cells.toList.length := by rw [Array.length_toList, hzc]; exact Nat.mod_lt _ hs0
            have hg : z.cells.toList[j % s]? = some z.cells[j % s]! := by
              rw [List.getElem?_eq_getElem hlt]
              congr 1
              simp at hlt
              simp [hlt]
            rw [cellsV_eq] at hzr
            exact hzr.2 _ _ _ hg hg
        obtain ⟨r', h1, h2⟩ := fill_sim (parts' := (parts.map fun (i, x) => (i, ρ' x)).toList) (parts_run hρ hps) hcell hcs
        refine ⟨.cells r' e, ?_, fun φ' i hle => BR.row' (h2.mono hle), trivial⟩
        refine exec_value rfl ?_
        have hgoal : ∀ (ps' : Array (Nat × Value)), Instr.fill (fun i => some (i * s, s)) ((Array.range (len * s)).map fun i => z.cells[i % s]!) ps'.toList = some r' → (Instr.buildSlice t len ps').run P w = .ok (Mk.val (.sl len len) w.heap.size) { w with heap := w.heap.push (.cells r' e) } := ?_
        · exact hgoal _ h1
        clear h1 hps hcs hcell
        intro ps' h1
        unfold Instr.buildSlice
        simp only [Sem.run_bind, run_underlying' hu, Result.andThen_ok, sizeB_run hs]
        rw [Sem.run_ite, if_neg (by omega)]
        by_cases h0 : len * s = 0
        · have e0 : ((Array.range (len * s)).map fun i => z.cells[i % s]!) = #[] := by rw [h0, map_range0]
          rw [e0] at h1
          simp only [h0, if_true, Sem.run_pure, Result.andThen_ok]
          have e1 : ((Array.range 0).map fun x => (#[] : Array Value)[x % (#[] : Array Value).size]!) = #[] := map_range0 _
          simp only [Sem.run_bind, Sem.run_pure, Result.andThen_ok]
          rw [e1, h1]
          simp [newRow, Mk.val]
        · simp only [h0, if_false, Sem.run_bind, z1, Result.andThen_ok, Sem.run_pure]
          rw [hzc, h1]
          simp [newRow, Mk.val]
      · cases h
    · cases h
  case makeSlice t l c =>
    split at h
    · rename_i e k1 l' k2 c' hu hl hc
      replace h := ob_some h
      obtain ⟨z, hz, h⟩ := h
      split at h
      · rename_i i hi
        split at h
        · rename_i hb
          simp only [Bool.and_eq_true] at hb
          have hbytes := Nat.le_of_ble_eq_true hb.1
          have hzs := Nat.eq_of_beq_eq_true hb.2
          split at h
          · rename_i hcond
            cases h
            obtain ⟨c0, c1, c2⟩ := hcond
            obtain ⟨z1, z2⟩ := zeroB_run hz w
            have hl' := (hρ _ _ hl).int'
            have hc' := (hρ _ _ hc).int'
            have hzc : z.cells.size = i.size := by rw [← hzs, cellsV_eq]; simp
            have hs : (sizeOf e).run P w = .ok i.size w := by unfold sizeOf; simp [run_typeInfo' hi]
            have wl := wrap64 l' c0 (by omega)
            have wc := wrap64 c' (by omega) (by omega)
            refine ⟨.cells ((Array.range (c'.toNat * z.cells.size)).map fun j => z.cells[j % z.cells.size]!) e, ?_, fun φ' j hle => BR.row' ?_, trivial⟩
            · refine exec_value (s := Instr.makeSlice t (ρ' l) (ρ' c)) rfl ?_
              rw [hl', hc']
              unfold Instr.makeSlice
              have hbc : ¬ ((i.bytes : Int) * c' > 2 ^ 48) := by
                have : (i.bytes : Int) * c' ≤ 100000 * 1000000 := Int.mul_le_mul (by omega) (by omega) (by omega) (by omega)
                have e48 : (2 : Int) ^ 48 = 281474976710656 := by decide
                rw [e48]
                omega
              simp only [asInt, asIntOf, Sem.run_bind, run_underlying' hu, Result.andThen_ok, Sem.run_pure, run_typeInfo' hi, wl, wc]
              rw [Sem.run_ite, if_neg (by simp only [Bool.or_eq_true, decide_eq_true_eq]; omega)]
              simp only [Sem.run_bind, Sem.run_pure, Result.andThen_ok, run_askRoom, hs]
              by_cases h0 : c'.toNat * i.size = 0
              · simp only [h0, if_true, Sem.run_pure, Result.andThen_ok]
                rw [hzc, h0, map_range0]
                simp only [Sem.run_bind, Sem.run_pure, Result.andThen_ok]
                rw [map_range0]
                simp [newRow, Mk.val]
              · simp only [h0, if_false, Sem.run_bind, z1, Result.andThen_ok, Sem.run_pure]
                rw [hzc]
                simp [newRow, Mk.val]
            · rw [cellsV_eq, repl_eq]
              have hzr := (VR.self (φ := φ') 20 z z2).cells
              refine ⟨rfl, fun q x y hx hy => ?_⟩
              rw [hx] at hy
              cases hy
              simp only [Array.toList_map, List.getElem?_map] at hx
              cases hr : (Array.range (c'.toNat * z.cells.size)).toList[q]? with
              | none => rw [hr] at hx; cases hx
              | some j =>
                rw [hr] at hx
                cases hx
                have hil := (List.getElem?_eq_some_iff.1 hr).1
                simp at hil
                have hs0 : 0 < z.cells.size := by
                  rcases Nat.eq_zero_or_pos z.cells.size with h0 | h0
                  · rw [h0] at hil; simp at hil
                  · exact h0
                have hlt : j % z.cells.size < z.cells.toList.length := by rw [Array.length_toList]; exact Nat.mod_lt _ hs0
                have hg : z.cells.toList[j % z.cells.size]? = some z.cells[j % z.cells.size]! := by
                  rw [List.getElem?_eq_getElem hlt]
                  congr 1
                  simp at hlt
                  simp [hlt]
                rw [cellsV_eq] at hzr
                exact hzr.2 _ _ _ hg hg
          · cases h
        · cases h
      · cases h
    · cases h
  case makeMap t r =>
    split at h
    · cases h
      exact ⟨.map #[] 0, exec_value (s := Instr.makeMap t none) rfl (by simp [Instr.makeMap, Mk.val]), fun φ' i hle => ⟨_, rfl, rfl, rfl, fun i x y hx => by simp at hx⟩, trivial⟩
    · rename_i x
      split at h
      · rename_i k n kt e hx hu
        cases h
        have := (hρ _ _ hx).int'
        refine ⟨.map #[] 0, exec_value (s := Instr.makeMap t (some (ρ' x))) rfl ?_, fun φ' i hle => ⟨_, rfl, rfl, rfl, fun i x y hx => by simp at hx⟩, trivial⟩
        rw [this]
        simp [Instr.makeMap, run_underlying' hu, asInt, asIntOf, Mk.val]
      · cases h
end Go.Proofs.YtjkifbkehochoaaGreatDoor.Ev
namespace Go.Proofs.YtjkifbkehochoaaGreatDoor.Ev
noncomputable def notInt : TypeDesc → Bool
  | .int _ => false
  | _ => true
noncomputable def addCells (P : Program) (C : Nat → Option Blk) (s : Nat) (t : TypeId) (x : Value) : Option (List Value × Nat) :=
  match P.underlying t, x with
  | some (.slice _), .slice none n _ => match n with
    | 0 => some ([], 0)
    | _ => none
  | some (.slice _), .slice (some ⟨id, off, none⟩) n _ => ob (rowAt C id off (n * s)) fun l => some (l, n)
  | some .string, .string z => match s with
    | 1 => some (z.data.toList.map (fun b => .int .u8 b.toNat), z.data.toList.length)
    | _ => none
  | _, _ => none
theorem bytes_LR {φ : Ren} (l : List UInt8) : LR φ (l.map fun b => Value.int .u8 b.toNat) (l.map fun b => Value.int .u8 b.toNat) := by
  refine ⟨rfl, fun i x y hx hy => ?_⟩
  rw [hx] at hy
  cases hy
  rw [List.getElem?_map] at hx
  cases hr : l[i]? with
  | none => rw [hr] at hx; cases hx
  | some b => rw [hr] at hx; cases hx; exact .int _ _
theorem addCells_run {P : Program} {φ : Ren} {C : Nat → Option Blk} {n : Nat} {w : World} (hr : HR φ C n w) {s : Nat} {t : TypeId} {x x' : Value} {nw : List Value × Nat} (hx : VR φ x x') (h : addCells P C s t x = some nw) :
    (∃ d, P.underlying t = some d ∧ notInt d = true) ∧ (∀ w, (Builtin.lenOf x').run P w = .ok nw.2 w) ∧ ∃ l', LR φ nw.1 l' ∧ nw.1.length = nw.2 * s ∧ ∀ w', w'.heap = w.heap → (Builtin.firstCells s nw.2 x').run P w' = .ok l'.toArray w' := by
  unfold addCells at h
  split at h
  · rename_i e n0 c0 hu
    split at h
    · cases h
      cases hx
      exact ⟨⟨_, hu, rfl⟩, fun w => rfl, [], LR.nil, by simp, fun w' _ => rfl⟩
    · cases h
  · rename_i e id off n0 c0 hu
    replace h := ob_some h
    obtain ⟨l, hl, h⟩ := h
    cases h
    cases hx with
    | sl hb hc =>
      obtain ⟨l', h1, h2, h3, h4⟩ := rowAt_run (P := P) hr hb hl
      refine ⟨⟨_, hu, rfl⟩, fun w => rfl, l', h2, h1, fun w' hw => ?_⟩
      obtain ⟨l2, k1, k2, k3, k4⟩ := rowAt_run (P := P) (hr.heap hw) hb hl
      have : l2 = l' := by
        have e1 : l.length = l2.length := k2.1
        have e2 : l.length = l'.length := h2.1
        apply List.ext_getElem?
        intro i
        by_cases hi : i < l'.length
        · have hi2 : i < l2.length := by rw [← k2.1, h2.1]; exact hi
          have a := h3 i l'[i] (List.getElem?_eq_getElem hi)
          have b := k3 i l2[i] (List.getElem?_eq_getElem hi2)
          have e : ∀ (x : Addr), w'.cell? x = w.cell? x := fun x => by simp [World.cell?, hw]
          rw [e, a] at b
          rw [List.getElem?_eq_getElem hi, List.getElem?_eq_getElem hi2]
          exact b.symm
        · rw [List.getElem?_eq_none (by omega), List.getElem?_eq_none (by omega)]
      rw [this] at k4
      exact k4
  · rename_i z hu
    split at h
    · cases h
      cases hx
      refine ⟨⟨_, hu, rfl⟩, fun w => rfl, _, bytes_LR _, by simp, fun w' _ => ?_⟩
      unfold Builtin.firstCells
      simp only [Sem.run_pure]
      congr 1
      rw [extract_bytes]
      apply Array.ext'
      simp only [Array.toList_map, List.drop_zero, Nat.sub_zero]
      rw [List.take_of_length_le (Nat.le_refl _)]
    · cases h
  · cases h
noncomputable def growOK (P : Program) (e : TypeId) (sz need : Nat) : Bool := match P.info? e, zeroB P e with
  | some i, some z => Nat.ble need 1000000 && Nat.ble (need * i.bytes) 1000000000000 && Nat.beq (cellsV z).length sz
  | _, _ => false
theorem growOK_spec {P : Program} {e : TypeId} {sz need : Nat} (h : growOK P e sz need = true) : ∃ i z, P.info? e = some i ∧ zeroB P e = some z ∧ need ≤ 1000000 ∧ need * i.bytes ≤ 1000000000000 ∧ z.cells.size = sz := by
  unfold growOK at h
  split at h
  · rename_i i z hi hz
    simp only [Bool.and_eq_true] at h
    exact ⟨i, z, hi, hz, Nat.le_of_ble_eq_true h.1.1, Nat.le_of_ble_eq_true h.1.2, by have := Nat.eq_of_beq_eq_true h.2; rw [cellsV_eq] at this; simpa using this⟩
  · cases h
theorem zeroCells_size (z : Array Value) (n : Nat) : (Builtin.zeroCells z n).size = n * z.size := by simp [Builtin.zeroCells]
/-- append, where the new row does not fit -/
theorem append_grow {P : Program} {w : World} {sT xT ty e : TypeId} {dx : TypeDesc} {s x : Value} {base : Option Addr} {len cap n sz : Nat} {old new : List Value} (hs : s = .slice base len cap) (hu : P.underlying sT = some (.slice e)) (hdx : P.underlying xT = some dx) (hint : notInt dx = true)
    (hsz : sizeB P e = some sz) (hn : ∀ w, (Builtin.lenOf x).run P w = .ok n w) (hgt : cap < len + n) (hg : growOK P e sz (len + n) = true)
    (hold : ∀ w', w'.heap = w.heap → (Builtin.firstCells sz len s).run P w' = .ok old.toArray w') (hnew : ∀ w', w'.heap = w.heap → (Builtin.firstCells sz n x).run P w' = .ok new.toArray w') (hol : old.length = len * sz) (hnl : new.length = n * sz) :
    ∃ k rest w', len + n ≤ k ∧ (Builtin.append_ #[sT, xT] ty #[s, x]).run P w = .ok (.slice (some ⟨w.heap.size, 0, none⟩) (len + n) k) w' ∧ w'.heap = w.heap.push (.cells (old ++ new ++ rest).toArray e) ∧ (old ++ new ++ rest).length = k * sz ∧ Same w w' := by
  obtain ⟨i, z, hi, hz, q1, q2, q3⟩ := growOK_spec hg
  obtain ⟨z1, z2⟩ := zeroB_run hz w
  subst hs
  have hty : (typeInfo e).run P w = .ok i w := run_typeInfo' hi w
  have hfit := growslice_fits (need := len + n) (old := cap) (bytes := i.bytes) hgt (by omega)
  have hi64 : IntKind.i64.max = 9223372036854775807 := by decide
  have e48 : (2 : Nat) ^ 48 = 281474976710656 := by decide
  have e63 : (2 : Nat) ^ 63 = 9223372036854775808 := by decide
  obtain ⟨k, hk⟩ : ∃ k, k = (Question.appendCap (len + n) cap e).cut (w.tape w.drawn (.appendCap (len + n) cap e)) := ⟨_, rfl⟩
  have hkn : len + n ≤ k := by rw [hk]; simp [Question.cut]
  have earr : old.toArray ++ new.toArray ++ Builtin.zeroCells z.cells (k - (len + n)) = (old ++ new ++ (Builtin.zeroCells z.cells (k - (len + n))).toList).toArray := by
    apply Array.ext'
    simp
  refine ⟨k, (Builtin.zeroCells z.cells (k - (len + n))).toList, { w with drawn := w.drawn + 1, heap := w.heap.push (.cells (old ++ new ++ (Builtin.zeroCells z.cells (k - (len + n))).toList).toArray e) }, hkn, ?_, rfl, ?_, ⟨rfl, rfl, rfl⟩⟩
  · cases dx <;> first | (cases hint; done) | skip
    all_goals
      unfold Builtin.append_
      simp only [show (#[sT, xT] : Array TypeId)[0]? = some sT from rfl, show (#[sT, xT] : Array TypeId)[1]? = some xT from rfl, show (#[Value.slice base len cap, x] : Array Value)[0]? = some (.slice base len cap) from rfl, show (#[Value.slice base len cap, x] : Array Value)[1]? = some x from rfl]
      simp only [Sem.run_bind, run_underlying' hu, run_underlying' hdx, Result.andThen_ok, sizeB_run hsz, Sem.run_pure, Bool.false_eq_true, if_false, hn]
      rw [Sem.run_ite, if_neg (by omega)]
      rw [Sem.run_bind, hty]
      simp only [Result.andThen_ok]
      rw [Sem.run_ite, if_neg (by rw [hi64]; omega)]
      simp only [Sem.run_bind, hty, Result.andThen_ok, Sem.run_pure]
      rw [Sem.run_ite, if_neg (by rw [e48]; omega)]
      simp only [Sem.run_bind, run_choose, Question.forced, Bool.false_eq_true, if_false, Result.andThen_ok, ← hk]
      rw [run_typeInfo' hi]
      simp only [Result.andThen_ok, run_askRoom]
      rw [hold { w with drawn := w.drawn + 1 } rfl]
      simp only [Result.andThen_ok]
      simp only [Bool.not_false, if_true, Bool.false_eq_true, if_false]
      rw [hnew { w with drawn := w.drawn + 1 } rfl]
      simp only [Result.andThen_ok]
      rw [(zeroB_run hz { w with drawn := w.drawn + 1 }).1]
      simp only [Result.andThen_ok, newRow, Sem.run_bind, run_newObj, Sem.run_pure]
      rw [earr]
  · simp only [List.length_append, Array.length_toList, hol, hnl, zeroCells_size, q3]
    rw [← Nat.add_mul, ← Nat.add_mul]
    congr 1
    omega
theorem append_fits {P : Program} {w w' : World} {sT xT ty e : TypeId} {dx : TypeDesc} {x : Value} {a : Addr} {len cap n sz : Nat} {new : List Value} (hu : P.underlying sT = some (.slice e)) (hdx : P.underlying xT = some dx) (hint : notInt dx = true)
    (hsz : sizeB P e = some sz) (hn : ∀ w, (Builtin.lenOf x).run P w = .ok n w) (hle : len + n ≤ cap)
    (hnew : (Builtin.firstCells sz n x).run P w = .ok new.toArray w) (hst : (storeCells (a.add (len * sz)) new).run P w = .ok () w') :
    (Builtin.append_ #[sT, xT] ty #[.slice (some a) len cap, x]).run P w = .ok (.slice (some a) (len + n) cap) w' := by
  cases dx <;> first | (cases hint; done) | skip
  all_goals
    unfold Builtin.append_
    simp only [show (#[sT, xT] : Array TypeId)[0]? = some sT from rfl, show (#[sT, xT] : Array TypeId)[1]? = some xT from rfl, show (#[Value.slice (some a) len cap, x] : Array Value)[0]? = some (.slice (some a) len cap) from rfl, show (#[Value.slice (some a) len cap, x] : Array Value)[1]? = some x from rfl]
    simp only [Sem.run_bind, run_underlying' hu, run_underlying' hdx, Result.andThen_ok, sizeB_run hsz, Sem.run_pure, Bool.false_eq_true, if_false, hn]
    rw [Sem.run_ite, if_pos hle]
    simp only [Bool.not_false, if_true, Bool.false_eq_true, if_false, Sem.run_bind, hnew, Result.andThen_ok, hst, Sem.run_pure]
end Go.Proofs.YtjkifbkehochoaaGreatDoor.Ev
namespace Go.Proofs.YtjkifbkehochoaaGreatDoor.Ev
noncomputable def fzOk (fz : Option Nat) (k : Nat) : Bool := match fz with
  | none => true
  | some q => Nat.ble q k
noncomputable def growV (P : Program) (e : TypeId) (sz need : Nat) (old new : List Value) (fz : Option Nat) (h : Hp) : Option (Value × Hp) :=
  match growOK P e sz need && Nat.ble (h.n + 1) 65536 with
  | true => some (.slice (some ⟨h.n, 0, none⟩) need unk, h.new (.cells (old ++ new) e (some sz) fz))
  | false => none
noncomputable def appendV (P : Program) (sT xT : TypeId) (s x : Value) (h : Hp) : Option (Value × Hp) :=
  match P.underlying sT, s with
  | some (.slice e), .slice base len cap => ob (sizeB P e) fun sz => ob (addCells P h.get sz xT x) fun nw =>
    match base with
    | none => match Nat.beq len 0 && Nat.beq cap 0 with
      | true => match Nat.beq nw.2 0 with
        | true => some (.slice none 0 0, h)
        | false => growV P e sz (len + nw.2) [] nw.1 none h
      | false => none
    | some ⟨id, off, none⟩ => match Nat.beq cap unk with
      | false => match Nat.ble (len + nw.2) cap with
        | true => match Nat.beq nw.2 0 with
          | true => some (.slice (some ⟨id, off, none⟩) len cap, h)
          | false => ob (writeRow h id (off + len * sz) nw.1) fun h' => some (.slice (some ⟨id, off, none⟩) (len + nw.2) cap, h')
        | false => ob (rowAt h.get id off (len * sz)) fun old => growV P e sz (len + nw.2) old nw.1 none h
      | true => match Nat.beq nw.2 0 with
        | true => some (.slice (some ⟨id, off, none⟩) len cap, h)
        | false => match off, h.get id with
          | 0, some (.cells cs e' (some s') fz) => match Nat.beq e e' && Nat.beq s' sz && fzOk fz (len * sz) && Nat.ble (len * sz) cs.length && nw.1.all oneB with
            | true => growV P e sz (len + nw.2) (cs.take (len * sz)) nw.1 fz (h.put id .dead)
            | false => none
          | _, _ => none
    | _ => none
  | _, _ => none
theorem growV_run {P : Program} {φ : Ren} {h h' h0 : Hp} {w : World} (hr : HR φ h0.get h0.n w) (hn0 : h.n = h0.n) (hk : ∀ j, h.get j = h0.get j ∨ h.get j = some .dead) {sT xT ty e : TypeId} {dx : TypeDesc} {s' x' v : Value} {base : Option Addr} {len cap n sz : Nat} {old old' new new' : List Value} {fz : Option Nat}
    (hs : s' = .slice base len cap) (hu : P.underlying sT = some (.slice e)) (hdx : P.underlying xT = some dx) (hint : notInt dx = true) (hsz : sizeB P e = some sz) (hn : ∀ w, (Builtin.lenOf x').run P w = .ok n w) (hgt : cap < len + n)
    (hold : ∀ w', w'.heap = w.heap → (Builtin.firstCells sz len s').run P w' = .ok old'.toArray w') (hnew : ∀ w', w'.heap = w.heap → (Builtin.firstCells sz n x').run P w' = .ok new'.toArray w') (ho : LR φ old old') (hw : LR φ new new') (hol : old.length = len * sz) (hnl : new.length = n * sz)
    (hh : growV P e sz (len + n) old new fz h = some (v, h')) :
    ∃ φ' v' w', VR φ' v v' ∧ (Builtin.append_ #[sT, xT] ty #[s', x']).run P w = .ok v' w' ∧ Step φ h0.get h0.n w φ' h'.get h'.n w' := by
  unfold growV at hh
  split at hh
  · rename_i hc
    simp only [Bool.and_eq_true] at hc
    have hb := Nat.le_of_ble_eq_true hc.2
    cases hh
    obtain ⟨k, rest, w', g1, g2, g3, g4, g5⟩ := append_grow (P := P) (w := w) (ty := ty) hs hu hdx hint hsz hn hgt hc.1 hold hnew (by rw [← ho.1]; exact hol) (by rw [← hw.1]; exact hnl)
    have hst := hr.kill (C' := h.get) hk
    rw [← hn0] at hst
    have hn' : h.n = h0.n := hn0
    have hal : Step φ h.get h.n w (φ.at h.n w.heap.size k) (h.new (.cells (old ++ new) e (some sz) fz)).get (h.n + 1) w' := by
      refine Step.alloc (B := .cells (old ++ new) e (some sz) fz) (o := .cells (old' ++ new' ++ rest).toArray e) hst.hr hb g3 ⟨_, (0, 0), rfl, ?_, fun i x hx => ?_, ?_⟩ trivial ?_ fun j hj => ?_
      · simp only [EX, Ren.at_k]
        simpa using g4
      · obtain ⟨y, hy, hv⟩ := (ho.append hw).at hx
        refine ⟨y, ?_, hv.mono (Ren.at_ext hst.hr.fresh)⟩
        have hlt := (List.getElem?_eq_some_iff.1 hy).1
        rw [List.getElem?_toArray, List.getElem?_append_left hlt]
        exact hy
      · cases fz with
        | none => rfl
        | some q => intro i _ _ hc; simp at hc
      · rw [Hp.get_new h _ (by omega), if_pos rfl]
      · rw [Hp.get_new h _ (by omega), if_neg hj]
    have hall := (show Step φ h0.get h0.n w φ h.get h.n w by rw [hn0] at hst ⊢; exact hst).trans hal
    refine ⟨_, _, w', ?_, g2, hall⟩
    refine .sl (Ren.at_same ..) (.inl ⟨rfl, g1, fun _ => (Ren.at_k ..).symm⟩)
  · cases hh
end Go.Proofs.YtjkifbkehochoaaGreatDoor.Ev
namespace Go.Proofs.YtjkifbkehochoaaGreatDoor.Ev
theorem rowAt_len {φ : Ren} {C : Nat → Option Blk} {n : Nat} {w : World} (hr : HR φ C n w) {P : Program} {id b off k len cap : Nat} {l : List Value} {sz : Nat} (hb : φ id = some b) (h : rowAt C id off (len * sz) = some l) :
    ∃ l', LR φ l l' ∧ l.length = len * sz ∧ ∀ w', w'.heap = w.heap → (Builtin.firstCells sz len (.slice (some ⟨b, off, none⟩) len cap)).run P w' = .ok l'.toArray w' := by
  obtain ⟨l', h1, h2, h3, h4⟩ := rowAt_run (P := P) hr hb h
  refine ⟨l', h2, h1, fun w' hw => ?_⟩
  obtain ⟨l2, k1, k2, k3, k4⟩ := rowAt_run (P := P) (hr.heap hw) hb h
  have : l2 = l' := by
    have e1 : l.length = l2.length := k2.1
    have e2 : l.length = l'.length := h2.1
    apply List.ext_getElem?
    intro i
    by_cases hi : i < l'.length
    · have hi2 : i < l2.length := by omega
      have a := h3 i l'[i] (List.getElem?_eq_getElem hi)
      have b := k3 i l2[i] (List.getElem?_eq_getElem hi2)
      have e : ∀ (x : Addr), w'.cell? x = w.cell? x := fun x => by simp [World.cell?, hw]
      rw [e, a] at b
      rw [List.getElem?_eq_getElem hi, List.getElem?_eq_getElem hi2]
      exact b.symm
    · rw [List.getElem?_eq_none (by omega), List.getElem?_eq_none (by omega)]
  rw [this] at k4
  exact k4
theorem rowAt_cells {C : Nat → Option Blk} {id off k : Nat} {cs : List Value} {e : TypeId} {ex fz : Option Nat} (hC : C id = some (.cells cs e ex fz)) (h : off + k ≤ cs.length) : rowAt C id off k = some ((cs.drop off).take k) := by
  cases k with
  | zero => simp [rowAt]
  | succ k =>
    unfold rowAt
    simp only [hC]
    have : ((cs.drop off).take (k + 1)).length.beq (k + 1) = true := by
      rw [List.length_take, List.length_drop, Nat.min_eq_left (by omega), Nat.beq_refl]
    simp only [this]
theorem appendV_run {P : Program} {φ : Ren} {h h' : Hp} {w : World} (hr : HR φ h.get h.n w) {sT xT ty : TypeId} {s x s' x' v : Value} (hs : VR φ s s') (hx : VR φ x x') (hh : appendV P sT xT s x h = some (v, h')) :
    ∃ φ' v' w', VR φ' v v' ∧ (Builtin.append_ #[sT, xT] ty #[s', x']).run P w = .ok v' w' ∧ Step φ h.get h.n w φ' h'.get h'.n w' := by
  unfold appendV at hh
  split at hh
  · rename_i e base len cap hu
    replace hh := ob_some hh
    obtain ⟨sz, hsz, hh⟩ := hh
    replace hh := ob_some hh
    obtain ⟨nw, hnw, hh⟩ := hh
    obtain ⟨⟨dx, hdx, hint⟩, hlen, l', hl1, hl2, hl3⟩ := addCells_run (P := P) hr hx hnw
    split at hh
    · -- nil
      split at hh
      · rename_i hc
        simp only [Bool.and_eq_true] at hc
        have hl0 := Nat.eq_of_beq_eq_true hc.1
        have hc0 := Nat.eq_of_beq_eq_true hc.2
        subst hl0 hc0
        cases hs
        split at hh
        · rename_i hn0
          have hn0 := Nat.eq_of_beq_eq_true hn0
          cases hh
          have hl' : l' = [] := by
            have := hl1.1
            rw [hl2, hn0] at this
            cases l' with
            | nil => rfl
            | cons a b => simp at this
          refine ⟨φ, _, w, .sl0 0 0, ?_, Step.refl hr⟩
          have hnew := hl3 w rfl
          rw [hn0, hl'] at hnew
          cases dx <;> first | (cases hint; done) | skip
          all_goals
            unfold Builtin.append_
            simp only [show (#[sT, xT] : Array TypeId)[0]? = some sT from rfl, show (#[sT, xT] : Array TypeId)[1]? = some xT from rfl, show (#[Value.slice none 0 0, x'] : Array Value)[0]? = some (.slice none 0 0) from rfl, show (#[Value.slice none 0 0, x'] : Array Value)[1]? = some x' from rfl]
            simp only [Sem.run_bind, run_underlying' hu, run_underlying' hdx, Result.andThen_ok, sizeB_run hsz, Sem.run_pure, Bool.false_eq_true, if_false, hlen, hn0]
            rw [Sem.run_ite, if_pos (by omega)]
            simp only [Bool.not_false, if_true, Sem.run_bind, hnew, Result.andThen_ok, Sem.run_pure]
        · rename_i hn0
          have hpos : 0 < nw.2 := by
            rcases Nat.eq_zero_or_pos nw.2 with h0 | h0
            · rw [h0] at hn0; cases hn0
            · exact h0
          exact growV_run hr rfl (fun _ => .inl rfl) (n := nw.2) (old' := []) (new' := l') rfl hu hdx hint hsz hlen (by omega) (fun w' _ => rfl) hl3 LR.nil hl1 (by simp) hl2 hh
      · cases hh
    · rename_i id off
      cases hs with
      | @sl _ _ b _ _ cap' hb hc =>
        split at hh
        · rename_i hcu
          have hce := hc.of_known hcu
          subst hce
          have hne : cap' ≠ unk := fun he => by
            rw [he, Nat.beq_refl] at hcu
            cases hcu
          have hcr : ∀ n, CR (φ.k id) off n cap' cap' := fun n => .inr ⟨hne, rfl⟩
          split at hh
          · rename_i hle
            have hle := Nat.le_of_ble_eq_true hle
            split at hh
            · rename_i hn0
              have hn0 := Nat.eq_of_beq_eq_true hn0
              cases hh
              have hl' : l' = [] := by
                have := hl1.1
                rw [hl2, hn0] at this
                cases l' with
                | nil => rfl
                | cons a b => simp at this
              refine ⟨φ, _, w, .sl hb hc, ?_, Step.refl hr⟩
              have := append_fits (P := P) (w := w) (w' := w) (ty := ty) (a := ⟨b, off, none⟩) (len := len) (cap := cap') (n := nw.2) (new := l') hu hdx hint hsz hlen hle (hl3 w rfl) (by rw [hl']; rfl)
              rw [hn0] at this
              exact this
            · replace hh := ob_some hh
              obtain ⟨h1, hw1, hh⟩ := hh
              cases hh
              obtain ⟨g1, g2, g3⟩ := writeRow_run (P := P) hr hb hl1 hw1
              refine ⟨φ, _, _, .sl hb (hcr _), append_fits hu hdx hint hsz hlen hle (hl3 w rfl) (by rw [add_none]; exact g1), g3⟩
          · rename_i hle
            have hgt : cap' < len + nw.2 := by
              rcases Nat.lt_or_ge cap' (len + nw.2) with h0 | h0
              · exact h0
              · rw [Nat.ble_eq_true_of_le h0] at hle; cases hle
            replace hh := ob_some hh
            obtain ⟨old, hold, hh⟩ := hh
            obtain ⟨o', o1, o2, o3⟩ := rowAt_len (P := P) (k := 0) (cap := cap') hr hb hold
            exact growV_run hr rfl (fun _ => .inl rfl) (n := nw.2) rfl hu hdx hint hsz hlen hgt o3 hl3 o1 hl1 o2 hl2 hh
        · rename_i hcu
          obtain ⟨he, hle, hq⟩ := hc.of_unk hcu
          split at hh
          · rename_i hn0
            have hn0 := Nat.eq_of_beq_eq_true hn0
            cases hh
            have hl' : l' = [] := by
              have := hl1.1
              rw [hl2, hn0] at this
              cases l' with
              | nil => rfl
              | cons a b => simp at this
            refine ⟨φ, _, w, .sl hb hc, ?_, Step.refl hr⟩
            have := append_fits (P := P) (w := w) (w' := w) (ty := ty) (a := ⟨b, off, none⟩) (len := len) (cap := cap') (n := nw.2) (new := l') hu hdx hint hsz hlen (by omega) (hl3 w rfl) (by rw [hl']; rfl)
            rw [hn0] at this
            exact this
          · rename_i hn0
            have hpos : 0 < nw.2 := by
              rcases Nat.eq_zero_or_pos nw.2 with h0 | h0
              · rw [h0] at hn0; cases hn0
              · exact h0
            split at hh
            · rename_i cs e' s1 fz hC
              split at hh
              · rename_i hcond
                simp only [Bool.and_eq_true] at hcond
                obtain ⟨⟨⟨⟨c1, c2⟩, c3⟩, c4⟩, c5⟩ := hcond
                have c1 := Nat.eq_of_beq_eq_true c1
                have c2 := Nat.eq_of_beq_eq_true c2
                have c4 := Nat.le_of_ble_eq_true c4
                subst c1 c2
                have hidn := (hr.lt id b hb).1
                have hbd := hr.bnd
                have hrow := hr.row id b hb
                rw [hC] at hrow
                obtain ⟨c, f, q1, q2, q3, q4⟩ := hrow
                have hlive : Blk.live (h.get id) := by rw [hC]; trivial
                have hkill : ∀ j, (h.put id .dead).get j = h.get j ∨ (h.put id .dead).get j = some .dead := fun j => by
                  rw [Hp.get_put h _ (by omega)]
                  by_cases hji : j = id
                  · rw [if_pos hji]; exact .inr rfl
                  · rw [if_neg hji]; exact .inl rfl
                have hrowAt : rowAt h.get id 0 (len * s1) = some (cs.take (len * s1)) := by
                  have := rowAt_cells (k := len * s1) (off := 0) hC (by omega)
                  rw [List.drop_zero] at this
                  exact this
                obtain ⟨o', o1, o2, o3⟩ := rowAt_len (P := P) (k := 0) (cap := cap') hr hb hrowAt
                by_cases hfit : len + nw.2 ≤ cap'
                · -- in place
                  unfold growV at hh
                  split at hh
                  · rename_i hg
                    simp only [Bool.and_eq_true] at hg
                    have hbn := Nat.le_of_ble_eq_true hg.2
                    have hn1 : (h.put id .dead).n = h.n := rfl
                    rw [hn1] at hbn
                    cases hh
                    have hcap := hq rfl
                    simp only [EX] at q2
                    have hsize : (len + nw.2) * s1 ≤ c.size := by
                      rw [q2, ← hcap]
                      exact Nat.mul_le_mul_right _ hfit
                    rw [Nat.add_mul] at hsize
                    have hll : l'.length = nw.2 * s1 := by rw [← hl1.1, hl2]
                    obtain ⟨t1, t2, t3⟩ := heap_setCells b l' (0 + len * s1) w
                    obtain ⟨c', u1, u2, u3⟩ := t3 c e f q1 (by omega)
                    have hst : (storeCells ((⟨b, 0, none⟩ : Addr).add (len * s1)) l').run P w = .ok () (w.setCells b (0 + len * s1) l') := by
                      rw [add_none]
                      have := run_storeCells_cells (P := P) b (0 + len * s1) l' 0 w (fun j hj => by simp [World.cell?, q1]; omega) (fun j hj => by
                        obtain ⟨lo, hi⟩ := f
                        simp only [World.frozen?, q1]
                        cases fz with
                        | none => cases q4; simp
                        | some k =>
                          have := Nat.le_of_ble_eq_true c3
                          have := q4 (0 + len * s1 + 0 + j) (by omega) (by omega)
                          simp only at this
                          simp
                          omega) (fun v hvm => by
                          obtain ⟨i, hi⟩ := List.getElem?_of_mem hvm
                          have hil : i < nw.1.length := by rw [hl1.1]; exact (List.getElem?_eq_some_iff.1 hi).1
                          exact (hl1.2 i nw.1[i] v (List.getElem?_eq_getElem hil) hi).one (List.all_eq_true.1 c5 _ (List.getElem_mem hil)))
                      simpa using this
                    have hstep : Step φ h.get h.n w (φ.at h.n b cap') ((h.put id .dead).new (.cells (cs.take (len * s1) ++ nw.1) e (some s1) fz)).get (h.n + 1) (w.setCells b (0 + len * s1) l') := by
                      refine Step.rename (B := .cells (cs.take (len * s1) ++ nw.1) e (some s1) fz) hr hb hlive hbn t1 t2 ⟨c', f, u1, ?_, fun i x hx => ?_, by rw [u2]; exact q4⟩ trivial ?_ ?_ fun j hj hne => ?_
                      · simp only [EX, Ren.at_k]
                        rw [u2, q2, hcap]
                      · rw [u3]
                        by_cases hi : i < len * s1
                        · rw [List.getElem?_append_left (by rw [List.length_take]; omega), List.getElem?_take, if_pos hi] at hx
                          rw [if_neg (by omega)]
                          obtain ⟨y, hy, hv⟩ := q3 i x hx
                          exact ⟨y, hy, hv.mono (Ren.at_ext hr.fresh)⟩
                        · rw [List.getElem?_append_right (by rw [List.length_take]; omega), List.length_take, Nat.min_eq_left c4] at hx
                          have hlt := (List.getElem?_eq_some_iff.1 hx).1
                          rw [if_pos (by omega)]
                          obtain ⟨y, hy, hv⟩ := hl1.at hx
                          exact ⟨y, by rw [Nat.zero_add]; exact hy, hv.mono (Ren.at_ext hr.fresh)⟩
                      · rw [Hp.get_new _ _ (by rw [hn1]; omega), if_pos hn1.symm]
                      · rw [Hp.get_new _ _ (by rw [hn1]; omega), if_neg (by rw [hn1]; omega), Hp.get_put h _ (by omega), if_pos rfl]
                      · rw [Hp.get_new _ _ (by rw [hn1]; omega), if_neg (by rw [hn1]; exact hj), Hp.get_put h _ (by omega), if_neg hne]
                    refine ⟨_, _, _, ?_, append_fits hu hdx hint hsz hlen hfit (hl3 w rfl) hst, hstep⟩
                    refine .sl (Ren.at_same ..) (.inl ⟨rfl, hfit, fun _ => (Ren.at_k ..).symm⟩)
                  · cases hh
                · exact growV_run (h := h.put id .dead) (h0 := h) hr rfl hkill (n := nw.2) rfl hu hdx hint hsz hlen (by omega) o3 hl3 o1 hl1 o2 hl2 hh
              · cases hh
            · cases hh
    · cases hh
  · cases hh
end Go.Proofs.YtjkifbkehochoaaGreatDoor.Ev

set_option linter.unusedSimpArgs false
set_option linter.unusedVariables false
namespace Go.Proofs.YtjkifbkehochoaaGreatDoor.Ev
/-- what copy reads -/
noncomputable def srcV (P : Program) (C : Nat → Option Blk) (s dLen : Nat) (x : Value) : Option (List Value × Nat) := match x with
  | .slice none n _ => match n with
    | 0 => some ([], 0)
    | _ => none
  | .slice (some ⟨id, off, none⟩) n _ => ob (rowAt C id off (Nat.min n dLen * s)) fun l => some (l, Nat.min n dLen)
  | .string z => match s with
    | 1 => some ((z.data.toList.take (Nat.min z.data.toList.length dLen)).map (fun b => .int .u8 b.toNat), Nat.min z.data.toList.length dLen)
    | _ => none
  | _ => none
theorem srcV_run {P : Program} {φ : Ren} {C : Nat → Option Blk} {n : Nat} {w : World} (hr : HR φ C n w) {s dLen : Nat} {x x' : Value} {nw : List Value × Nat} (hx : VR φ x x') (h : srcV P C s dLen x = some nw) :
    ∃ m l', (Builtin.lenOf x').run P w = .ok m w ∧ Nat.min m dLen = nw.2 ∧ LR φ nw.1 l' ∧ (Builtin.firstCells s nw.2 x').run P w = .ok l'.toArray w := by
  unfold srcV at h
  split at h
  · split at h
    · cases h
      cases hx
      exact ⟨0, [], rfl, by simp [Nat.min_def], LR.nil, rfl⟩
    · cases h
  · rename_i id off n0 c0
    replace h := ob_some h
    obtain ⟨l, hl, h⟩ := h
    cases h
    cases hx with
    | sl hb hc =>
      obtain ⟨l', h1, h2, h3, h4⟩ := rowAt_run (P := P) hr hb hl
      exact ⟨n0, l', rfl, rfl, h2, h4⟩
  · rename_i z
    split at h
    · cases h
      cases hx
      refine ⟨z.size, _, rfl, rfl, bytes_LR _, ?_⟩
      unfold Builtin.firstCells
      simp only [Sem.run_pure]
      congr 1
      rw [extract_bytes]
      apply Array.ext'
      simp only [Array.toList_map, List.drop_zero, Nat.sub_zero]
    · cases h
  · cases h
noncomputable def copyV (P : Program) (dT : TypeId) (d x : Value) (h : Hp) : Option (Value × Hp) :=
  match P.underlying dT, d with
  | some (.slice e), .slice base dLen _ => ob (sizeB P e) fun s => ob (srcV P h.get s dLen x) fun nw => match base with
    | none => some (.int .i64 nw.2, h)
    | some ⟨id, off, none⟩ => match nw.1 with
      | [] => some (.int .i64 nw.2, h)
      | _ => ob (writeRow h id off nw.1) fun h' => some (.int .i64 nw.2, h')
    | _ => none
  | _, _ => none
theorem copyV_run {P : Program} {φ : Ren} {h h' : Hp} {w : World} (hr : HR φ h.get h.n w) {ts : Array TypeId} {args : Array Value} {dT ty : TypeId} {d x d' x' v : Value} (ht : ts[0]? = some dT) (h0 : args[0]? = some d') (h1 : args[1]? = some x') (hd : VR φ d d') (hx : VR φ x x') (hh : copyV P dT d x h = some (v, h')) :
    ∃ v' w', VR φ v v' ∧ (Builtin.copy_ ts ty args).run P w = .ok v' w' ∧ Step φ h.get h.n w φ h'.get h'.n w' := by
  unfold copyV at hh
  split at hh
  · rename_i e base dLen dCap hu
    replace hh := ob_some hh
    obtain ⟨s, hs, hh⟩ := hh
    replace hh := ob_some hh
    obtain ⟨nw, hnw, hh⟩ := hh
    obtain ⟨m, l', g1, g2, g3, g4⟩ := srcV_run (P := P) hr hx hnw
    split at hh
    · cases hh
      cases hd
      refine ⟨_, w, .int _ _, ?_, Step.refl hr⟩
      unfold Builtin.copy_
      rw [ht, h0, h1]
      simp only [Sem.run_bind, run_underlying' hu, Result.andThen_ok, g1, sizeB_run hs, g2, g4, Sem.run_pure, goInt]
    · rename_i id off
      cases hd with
      | @sl _ _ b _ _ cap' hb hc =>
        split at hh
        · rename_i hnil
          cases hh
          refine ⟨_, w, .int _ _, ?_, Step.refl hr⟩
          have hl' : l' = [] := by
            have := g3.1
            rw [hnil] at this
            cases l' with
            | nil => rfl
            | cons a b => simp at this
          unfold Builtin.copy_
          rw [ht, h0, h1]
          simp only [Sem.run_bind, run_underlying' hu, Result.andThen_ok, g1, sizeB_run hs, g2, g4, Sem.run_pure, goInt, hl']
          rfl
        · replace hh := ob_some hh
          obtain ⟨h2, hw, hh⟩ := hh
          cases hh
          obtain ⟨k1, k2, k3⟩ := writeRow_run (P := P) hr hb g3 hw
          refine ⟨_, _, .int _ _, ?_, k3⟩
          unfold Builtin.copy_
          rw [ht, h0, h1]
          simp only [Sem.run_bind, run_underlying' hu, Result.andThen_ok, g1, sizeB_run hs, g2, g4, Sem.run_pure, goInt, k1]
    · cases hh
  · cases hh
/-- a string's bytes in a row of their own -/
theorem stringToBytes_run {P : Program} {φ : Ren} {h : Hp} {w : World} (hr : HR φ h.get h.n w) (e : TypeId) (s : ByteArray) (hn : h.n + 1 ≤ 65536) :
    ∃ φ' v' w', VR φ' (.slice (some ⟨h.n, 0, none⟩) s.data.toList.length unk) v' ∧ (Conv.stringToBytes e s).run P w = .ok v' w' ∧
      Step φ h.get h.n w φ' (h.new (.cells (s.data.toList.map fun b => .int .u8 b.toNat) e (some 1) (some 0))).get (h.n + 1) w' := by
  obtain ⟨k, hk⟩ : ∃ k, k = (Question.appendCap s.size 0 e).cut (w.tape w.drawn (.appendCap s.size 0 e)) := ⟨_, rfl⟩
  have hkn : s.size ≤ k := by rw [hk]; simp [Question.cut]
  obtain ⟨arr, harr⟩ : ∃ arr : Array Value, arr = s.data.map (fun b => Value.int .u8 b.toNat) ++ Array.replicate (k - s.size) (.int .u8 0) := ⟨_, rfl⟩
  have hsz : arr.size = k := by rw [harr]; simp; have : s.data.size = s.size := rfl; omega
  obtain ⟨w', hw'⟩ : ∃ w' : World, w' = { w with drawn := w.drawn + 1, heap := w.heap.push (.cells arr e (arr.size, arr.size + 1)) } := ⟨_, rfl⟩
  refine ⟨φ.at h.n w.heap.size k, .slice (some ⟨w.heap.size, 0, none⟩) s.size k, w', ?_, ?_, ?_⟩
  · exact .sl (Ren.at_same ..) (.inl ⟨rfl, hkn, fun _ => (Ren.at_k ..).symm⟩)
  · unfold Conv.stringToBytes
    simp only [Sem.run_bind, run_choose, Question.forced, Bool.false_eq_true, if_false, Result.andThen_ok, ← hk]
    rw [← harr]
    simp only [newRow, Sem.run_bind, run_newObj, Result.andThen_ok, Sem.run_pure]
    have hmark : ∀ (w2 : World), w2.heap = w.heap.push (.cells arr e) → (markStringish ⟨w.heap.size, 0, none⟩).run P w2 = .ok () (w2.freeze ⟨w.heap.size, arr.size, none⟩ 1) := fun w2 hw2 => by
      unfold markStringish
      have hshape : w2.shape? w.heap.size = some (e, arr.size) := by
        simp [World.shape?, hw2]
      simp [hshape]
    rw [hmark _ rfl]
    simp only [Result.andThen_ok]
    congr 1
    rw [hw']
    unfold World.freeze
    simp only [show (1 : Nat) = 0 ↔ False from by simp, if_false]
    congr 1
    apply Array.ext
    · simp
    · intro i h1 h2
      simp only [Array.size_modify, Array.size_push] at h1
      rw [Array.getElem_modify]
      by_cases hi : w.heap.size = i
      · subst hi
        simp
      · rw [if_neg hi]
        rw [Array.getElem_push_lt (by omega), Array.getElem_push_lt (by omega)]
  · refine Step.alloc (B := .cells (s.data.toList.map fun b => .int .u8 b.toNat) e (some 1) (some 0)) (o := .cells arr e (arr.size, arr.size + 1)) hr hn (by rw [hw']) ⟨arr, _, rfl, ?_, fun i x hx => ?_, fun i _ hi hc => ?_⟩ trivial ?_ fun j hj => ?_
    · simp only [EX, Ren.at_k, Nat.mul_one]; exact hsz
    · have hx2 := hx
      rw [List.getElem?_map] at hx
      cases hz : s.data.toList[i]? with
      | none => rw [hz] at hx; cases hx
      | some b =>
        rw [hz] at hx
        cases hx
        refine ⟨.int .u8 b.toNat, ?_, .int _ _⟩
        have hlt := (List.getElem?_eq_some_iff.1 hz).1
        have hlt' : i < s.data.size := by simpa using hlt
        rw [harr, Array.getElem?_append_left (by simpa using hlt')]
        rw [Array.getElem?_map]
        have : s.data[i]? = some b := by simpa using hz
        rw [this]
        rfl
    · simp only at hc; omega
    · rw [Hp.get_new h _ (by omega), if_pos rfl]
    · rw [Hp.get_new h _ (by omega), if_neg hj]
end Go.Proofs.YtjkifbkehochoaaGreatDoor.Ev
namespace Go.Proofs.YtjkifbkehochoaaGreatDoor.Ev
inductive Out where
  | val (v : Value)
  | skip
  | call (f : FuncId) (args : List Value)
def OutOK (P : Program) (φ : Ren) (h : Hp) (w : World) (s : Sem Next) (out : Out) (h' : Hp) : Prop := match out with
  | .val v => ∃ φ' v' w', VR φ' v v' ∧ s.run P w = .ok (.value v') w' ∧ Step φ h.get h.n w φ' h'.get h'.n w'
  | .skip => ∃ φ' w', s.run P w = .ok .skip w' ∧ Step φ h.get h.n w φ' h'.get h'.n w'
  | .call f args => h' = h ∧ ∃ args', LR φ args args' ∧ s.run P w = .ok (.enter f ⟨args'⟩) w
/-- what is known of functions without a body -/
def ExtOK (P : Program) (X : FuncId → List Value → Option Value) : Prop :=
  ∀ f args v, X f args = some v → ∀ φ args', LR φ args args' → ∃ v', VR φ v v' ∧ ∀ w, (callFunc f ⟨args'⟩).run P w = .ok (.value v') w
noncomputable def callV (P : Program) (X : FuncId → List Value → Option Value) (f : FuncId) (args : List Value) (h : Hp) : Option (Out × Hp) :=
  match P.funcs[f]? with
  | some fn => match fn.body with
    | some _ => match fn.name == "runtime.NumGoroutine" with
      | false => some (.call f args, h)
      | true => none
    | none => ob (X f args) fun v => some (.val v, h)
  | none => none
theorem callV_run {P : Program} {X : FuncId → List Value → Option Value} (hX : ExtOK P X) {φ : Ren} {h h' : Hp} {w : World} (hr : HR φ h.get h.n w) {f : FuncId} {args args' : List Value} {out : Out} (ha : LR φ args args') (hh : callV P X f args h = some (out, h')) :
    OutOK P φ h w (callFunc f ⟨args'⟩) out h' := by
  unfold callV at hh
  split at hh
  · rename_i fn hf
    split at hh
    · rename_i c hb
      split at hh
      · rename_i hname
        cases hh
        refine ⟨rfl, args', ha, ?_⟩
        have hne : ¬ fn.name = "runtime.NumGoroutine" := by simpa using hname
        unfold callFunc
        simp [hf, hne, hb]
      · cases hh
    · replace hh := ob_some hh
      obtain ⟨v, hv, hh⟩ := hh
      cases hh
      obtain ⟨v', h1, h2⟩ := hX f args v hv φ args' ha
      exact ⟨φ, v', w, h1, h2 w, Step.refl hr⟩
  · cases hh
noncomputable def putV (P : Program) (t : TypeId) (m k v : Value) (h : Hp) : Option Hp :=
  match P.underlying t, m with
  | some (.map kt _), .map (some r) => match P.underlying kt with
    | some kd => match keyKind kd with
      | true => ob (entriesV h.get (some r)) fun es => ob (findV kd k es.1 0) fun q => match q with
        | none => some (h.put r (.obj (.map ⟨es.1 ++ [⟨k, v, es.2⟩]⟩ (es.2 + 1))))
        | some _ => none
      | false => none
    | none => none
  | _, _ => none
theorem putV_run {P : Program} {φ : Ren} {h h' : Hp} {w : World} (hr : HR φ h.get h.n w) {t : TypeId} {m k v m' k' v' : Value} (hm : VR φ m m') (hk : VR φ k k') (hv : VR φ v v') (hh : putV P t m k v h = some h') :
    ∃ w', (Instr.mapUpdate t m' k' v').run P w = .ok () w' ∧ h'.n = h.n ∧ Step φ h.get h.n w φ h'.get h'.n w' := by
  unfold putV at hh
  split at hh
  · rename_i kt et r hu
    split at hh
    · rename_i kd hkd
      split at hh
      · rename_i hkk
        replace hh := ob_some hh
        obtain ⟨es, hes, hh⟩ := hh
        replace hh := ob_some hh
        obtain ⟨q, hq, hh⟩ := hh
        split at hh
        · cases hh
          rcases entriesV_run (P := P) hr hm hes with ⟨h1, -, -⟩ | ⟨r1, b, es', c, h1, hb, rfl, hC, ho, hc, hE⟩
          · cases h1
          · cases h1
            obtain ⟨q', f1, f2⟩ := findV_run hk hE hq
            cases q' with
            | some z => exact f2.elim
            | none =>
              have hck : ∀ (b : Bool) (n : Nat), (Instr.checkKey b (n + 1) kt k').run P w = .ok () w := fun b n => by
                unfold Instr.checkKey
                simp only [Sem.run_bind, run_underlying' hkd, Result.andThen_ok]
                cases kd <;> first | (simp [keyKind] at hkk; done) | rfl
              have hfk : (Instr.findKey kt k' es'.toList).run P w = .ok none w := by
                unfold Instr.findKey
                simp only [Sem.run_bind, run_underlying' hkd, Result.andThen_ok, f1, Sem.run_pure]
              have hg : (getObj b).run P w = .ok (.map es' c) w := by simp [getObj, Sem.run, ho]
              obtain ⟨w', hw'⟩ : ∃ w' : World, w' = { w with heap := w.heap.setIfInBounds b (.map (es'.push ⟨k', v', c⟩) (c + 1)) } := ⟨_, rfl⟩
              have hset : (setObj b (.map (es'.push ⟨k', v', c⟩) (c + 1))).run P w = .ok () w' := by
                simp [setObj, Sem.run, ho, hw']
              have hlt := (hr.lt r b hb)
              have hbd := hr.bnd
              refine ⟨w', ?_, rfl, ?_⟩
              · unfold Instr.mapUpdate
                simp only [Sem.run_bind, run_underlying' hu, Result.andThen_ok, hg]
                rw [show (10000 : Nat) = 9999 + 1 from rfl, hck]
                simp only [Result.andThen_ok, hfk, hset]
              · refine Step.write (i := r) (b := b) (B := .obj (.map ⟨es.1 ++ [⟨k, v, es.2⟩]⟩ (es.2 + 1))) hr hb (by rw [hC]; trivial) (by rw [hw']; simp) (fun c' hc' => by rw [hw']; simp [Array.getElem?_setIfInBounds_ne (Ne.symm hc')]) ?_ trivial ?_ fun j hne => ?_
                · refine ⟨.map (es'.push ⟨k', v', c⟩) (c + 1), by rw [hw']; exact Array.getElem?_setIfInBounds_self_of_lt hlt.2, by rw [hc], ?_, fun i x y hx hy => ?_⟩
                  · have := hE.1; simp at this ⊢; omega
                  · have hl := hE.1
                    simp only [Array.length_toList] at hl
                    have hx : (es.1 ++ [(⟨k, v, es.2⟩ : MapEntry)])[i]? = some x := by simpa using hx
                    by_cases hi : i < es.1.length
                    · rw [List.getElem?_append_left hi] at hx
                      rw [Array.getElem?_push_lt (by omega)] at hy
                      refine hE.2 i x y hx ?_
                      rw [← hy]
                      simp
                    · rw [List.getElem?_append_right (by omega)] at hx
                      have hi2 : i = es.1.length := by
                        have := (List.getElem?_eq_some_iff.1 hx).1
                        simp at this
                        omega
                      subst hi2
                      simp at hx
                      subst hx
                      rw [hl] at hy
                      simp at hy
                      subst hy
                      exact ⟨hk, hv, hc.symm⟩
                · rw [Hp.get_put h _ (by omega), if_pos rfl]
                · rw [Hp.get_put h _ (by omega), if_neg hne]
        · cases hh
      · cases hh
    · cases hh
  · cases hh
noncomputable def evE (P : Program) (X : FuncId → List Value → Option Value) (ρ : Operand → Option Value) (o : Oper) (h : Hp) : Option (Out × Hp) :=
  match o.op with
  | .store t x y => ob (ρ x) fun a => ob (ρ y) fun v => ob (storeV P t a v h) fun h' => some (.skip, h')
  | .mapUpdate t m k x | .insert t m k x => ob (ρ m) fun m => ob (ρ k) fun k => ob (ρ x) fun v => ob (putV P t m k v h) fun h' => some (.skip, h')
  | .convert s d x => match P.underlying d, ρ x with
    | some (.slice e), some (.string z) => match P.underlying e, P.underlying s, Nat.ble (h.n + 1) 65536 with
      | some (.int .u8), some _, true => some (.val (.slice (some ⟨h.n, 0, none⟩) z.data.toList.length unk), h.new (.cells (z.data.toList.map fun b => .int .u8 b.toNat) e (some 1) (some 0)))
      | _, _, _ => none
    | _, _ => none
  | .range t x => match P.underlying t, ρ x with
    | some .string, some (.string s) => match Nat.ble (h.n + 1) 65536 with
      | true => some (.val (.pointer (some ⟨h.n, 0, none⟩)), h.new (.obj (.stringIter s 0)))
      | false => none
    | _, _ => none
  | .next it isStr => match isStr, ρ it with
    | true, some (.pointer (some ⟨r, 0, none⟩)) => match h.get r with
      | some (.obj (.stringIter s pos)) => match Nat.ble (pos + 1) s.data.toList.length with
        | true => some (.val (.tuple ⟨[.bool true, .int .i64 pos, .int .i32 (Utf8.decode s pos).1]⟩), h.put r (.obj (.stringIter s (pos + (Utf8.decode s pos).2))))
        | false => some (.val (.tuple ⟨[.bool false]⟩), h)
      | _ => none
    | _, _ => none
  | .call c => match c.callee with
    | .value f => match ρ f with
      | some (.func (.func f) a b) => ob (mapO ρ c.args.toList) fun args => callV P X f (a.toList ++ args ++ b.toList) h
      | _ => none
    | .invoke r name => match ρ r with
      | some (.iface t v) => ob (mapO ρ c.args.toList) fun args => match P.info? t, P.underlying t with
        | some i, some d => match i.methods.find? (·.name == name) with
          | some m => match m.path.toList, m.func with
            | [], some (f, pr) => match (match d with | .pointer _ => pr | _ => !pr) with
              | true => callV P X f (v :: args) h
              | false => none
            | _, _ => none
          | none => none
        | _, _ => none
      | _ => none
    | .builtin .append => match c.args.toList, c.argTypes.toList with
      | [x, y], [tx, ty] => ob (ρ x) fun s => ob (ρ y) fun v => ob (appendV P tx ty s v h) fun r => some (.val r.1, r.2)
      | _, _ => none
    | .builtin .copy => match c.args.toList, c.argTypes.toList with
      | [x, y], tx :: _ => ob (ρ x) fun s => ob (ρ y) fun v => ob (copyV P tx s v h) fun r => some (.val r.1, r.2)
      | _, _ => none
    | _ => none
  | _ => none
theorem arr2 {α : Type} {a : Array α} {x y : α} (h : a.toList = [x, y]) : a = #[x, y] := by apply Array.ext'; simpa using h
theorem evE_run {P : Program} {X : FuncId → List Value → Option Value} (hX : ExtOK P X) {φ : Ren} {h h' : Hp} {w : World} (hr : HR φ h.get h.n w) {ρ : Operand → Option Value} {ρ' : Operand → Value} (hρ : ∀ x v, ρ x = some v → VR φ v (ρ' x)) {o : Oper} {out : Out} (hh : evE P X ρ o h = some (out, h')) :
    OutOK P φ h w (execOp ρ' o) out h' := by
  have hbd := hr.bnd
  obtain ⟨dst, op, ty, pos, after, guard⟩ := o
  unfold evE at hh
  cases op <;> simp only at hh <;> first | (cases hh; done) | skip
  case store t x y =>
    replace hh := ob_some hh
    obtain ⟨a, ha, hh⟩ := hh
    replace hh := ob_some hh
    obtain ⟨v, hv, hh⟩ := hh
    replace hh := ob_some hh
    obtain ⟨h1, hs, hh⟩ := hh
    cases hh
    obtain ⟨a', e1, w', k1, k2, k3⟩ := storeV_run (P := P) hr (hρ _ _ ha) (hρ _ _ hv) hs
    refine ⟨φ, w', ?_, k3⟩
    simp [execOp, Instr.storeAt, e1, Instr.sureAddr, k1]
  case mapUpdate t m k x =>
    replace hh := ob_some hh
    obtain ⟨m1, hm, hh⟩ := hh
    replace hh := ob_some hh
    obtain ⟨k1, hk, hh⟩ := hh
    replace hh := ob_some hh
    obtain ⟨v1, hv, hh⟩ := hh
    replace hh := ob_some hh
    obtain ⟨h1, hs, hh⟩ := hh
    cases hh
    obtain ⟨w', q1, q2, q3⟩ := putV_run (P := P) hr (hρ _ _ hm) (hρ _ _ hk) (hρ _ _ hv) hs
    exact ⟨φ, w', by simp [execOp, q1], q3⟩
  case insert t m k x =>
    replace hh := ob_some hh
    obtain ⟨m1, hm, hh⟩ := hh
    replace hh := ob_some hh
    obtain ⟨k1, hk, hh⟩ := hh
    replace hh := ob_some hh
    obtain ⟨v1, hv, hh⟩ := hh
    replace hh := ob_some hh
    obtain ⟨h1, hs, hh⟩ := hh
    cases hh
    obtain ⟨w', q1, q2, q3⟩ := putV_run (P := P) hr (hρ _ _ hm) (hρ _ _ hk) (hρ _ _ hv) hs
    exact ⟨φ, w', by simp [execOp, q1], q3⟩
  case convert s d x =>
    split at hh
    · rename_i e z hd hx
      split at hh
      · rename_i dd he hs hb
        cases hh
        have hb := Nat.le_of_ble_eq_true hb
        have e1 := (hρ _ _ hx).str'
        obtain ⟨φ', v', w', q1, q2, q3⟩ := stringToBytes_run (P := P) hr e z hb
        refine ⟨φ', v', w', q1, ?_, q3⟩
        refine exec_value (s := convert s d (ρ' x)) rfl ?_
        rw [e1]
        unfold convert
        simp only [Sem.run_bind, run_underlying' hs, run_underlying' hd, Result.andThen_ok]
        cases dd <;> simp only [Sem.run_bind, run_underlying' he, Result.andThen_ok, q2]
      · cases hh
    · cases hh
  case range t x =>
    split at hh
    · rename_i s hu hx
      split at hh
      · rename_i hb
        cases hh
        have hb := Nat.le_of_ble_eq_true hb
        have e1 := (hρ _ _ hx).str'
        refine ⟨φ.at h.n w.heap.size 0, .pointer (some ⟨w.heap.size, 0, none⟩), { w with heap := w.heap.push (.stringIter s 0) }, .ptr (Ren.at_same ..), ?_, ?_⟩
        · refine exec_value (s := Instr.range t (ρ' x)) rfl ?_
          rw [e1]
          simp [Instr.range, run_underlying' hu]
        · refine Step.alloc (B := .obj (.stringIter s 0)) (o := .stringIter s 0) hr hb rfl ⟨_, rfl, rfl, rfl⟩ trivial ?_ fun j hj => ?_
          · rw [Hp.get_new h _ (by omega), if_pos rfl]
          · rw [Hp.get_new h _ (by omega), if_neg hj]
      · cases hh
    · cases hh
  case next it isStr =>
    split at hh
    · rename_i r hx
      split at hh
      · rename_i s pos hC
        have hp := hρ _ _ hx
        generalize hy : ρ' it = y at hp
        cases hp with
        | @ptr _ _ b hb =>
          have hrow := hr.row r b hb
          rw [hC] at hrow
          obtain ⟨o1, ho, hor⟩ := hrow
          cases o1 <;> first | exact hor.elim | skip
          rename_i s' pos'
          obtain ⟨rfl, rfl⟩ := hor
          have hg : (getObj b).run P w = .ok (.stringIter s pos) w := by simp [getObj, Sem.run, ho]
          split at hh
          · rename_i hle
            cases hh
            have hle := Nat.le_of_ble_eq_true hle
            have hlt : pos < s.size := hle
            have hbb := (hr.lt r b hb)
            obtain ⟨w', hw'⟩ : ∃ w' : World, w' = { w with heap := w.heap.setIfInBounds b (.stringIter s (pos + (Utf8.decode s pos).2)) } := ⟨_, rfl⟩
            have hset : (setObj b (.stringIter s (pos + (Utf8.decode s pos).2))).run P w = .ok () w' := by
              simp [setObj, Sem.run, ho, hw']
            refine ⟨φ, _, w', VR.ofTuple (LR.cons (.bool _) (LR.cons (.int _ _) (LR.cons (.int _ _) LR.nil))), ?_, ?_⟩
            · refine exec_value (s := Instr.next (ρ' it) true ty) rfl ?_
              rw [hy]
              unfold Instr.next
              simp only [Sem.run_bind, hg, Result.andThen_ok]
              rw [Sem.run_ite, if_pos hlt]
              simp only [Sem.run_bind, hset, Result.andThen_ok, Sem.run_pure]
              rfl
            · refine Step.write (i := r) (b := b) (B := .obj (.stringIter s (pos + (Utf8.decode s pos).2))) hr hb (by rw [hC]; trivial) (by rw [hw']; simp) (fun c' hc' => by rw [hw']; simp [Array.getElem?_setIfInBounds_ne (Ne.symm hc')]) ⟨.stringIter s (pos + (Utf8.decode s pos).2), by rw [hw']; exact Array.getElem?_setIfInBounds_self_of_lt hbb.2, ⟨rfl, rfl⟩⟩ trivial ?_ fun j hne => ?_
              · rw [Hp.get_put h _ (by omega), if_pos rfl]
              · rw [Hp.get_put h _ (by omega), if_neg hne]
          · rename_i hle
            cases hh
            have hlt : ¬ pos < s.size := fun h0 => by
              have : Nat.ble (pos + 1) s.data.toList.length = true := Nat.ble_eq_true_of_le h0
              rw [this] at hle; cases hle
            refine ⟨φ, _, w, VR.ofTuple (LR.cons (.bool _) LR.nil), ?_, Step.refl hr⟩
            refine exec_value (s := Instr.next (ρ' it) true ty) rfl ?_
            rw [hy]
            unfold Instr.next
            simp only [Sem.run_bind, hg, Result.andThen_ok]
            rw [Sem.run_ite, if_neg hlt]
            rfl
      · cases hh
    · cases hh
  case call c =>
    obtain ⟨callee, args, ats⟩ := c
    cases callee with
    | value f =>
      simp only at hh
      split at hh
      · rename_i f1 a b hf
        replace hh := ob_some hh
        obtain ⟨r, hr1, hh⟩ := hh
        have ha := args_run hρ hr1
        have hfv := hρ _ _ hf
        generalize hy : ρ' f = y at hfv
        cases hfv with
        | @func _ a1 a2 c1 c2 hl hh1 kl kk =>
          have hall : LR φ (a1 ++ r ++ c1) (a2 ++ (args.map ρ').toList ++ c2) := (LR.append ⟨hl, hh1⟩ ha).append ⟨kl, kk⟩
          have hk := callV_run hX hr hall hh
          have heq : execOp ρ' ⟨dst, .call ⟨.value f, args, ats⟩, ty, pos, after, guard⟩ = callFunc f1 ⟨a2 ++ (args.map ρ').toList ++ c2⟩ := by
            simp only [execOp, resolve, hy, Deferred.ofValue, pure_bind, invoke]
            congr 1
            apply Array.ext'
            simp
          rw [heq]
          exact hk
      · cases hh
    | invoke r name =>
      simp only at hh
      split at hh
      · rename_i t v hf
        replace hh := ob_some hh
        obtain ⟨r1, hr1, hh⟩ := hh
        have ha := args_run hρ hr1
        have hfv := hρ _ _ hf
        generalize hy : ρ' r = y at hfv
        cases hfv with
        | @iface _ _ v' hv =>
          split at hh
          · rename_i i d hi hu
            split at hh
            · rename_i m hm
              split at hh
              · rename_i f pr hpath hfun
                split at hh
                · rename_i hpr
                  have hall : LR φ (v :: r1) (v' :: (args.map ρ').toList) := LR.cons hv ha
                  have hk := callV_run hX hr hall hh
                  have hpath' : m.path = #[] := by apply Array.ext'; simpa using hpath
                  have hmeth : ∀ w2 : World, (method (P.types.size + Made.depth) t v' name).run P w2 = .ok (f, v') w2 := fun w2 => by
                    rw [show P.types.size + Made.depth = (P.types.size + 99) + 1 from rfl]
                    unfold method
                    simp only [Sem.run_bind, run_typeInfo' hi, Result.andThen_ok, hm, hpath', follow, Sem.run_pure, hfun]
                    have hrec : (receiverAt t (.val v') pr (if (#[] : Array FieldStep).isEmpty then some ((name.splitOn ".").getLastD name) else none)).run P w2 = .ok v' w2 := by
                      unfold receiverAt
                      simp only [Sem.run_bind, run_underlying' hu, Result.andThen_ok]
                      cases d <;> cases pr <;> simp at hpr <;> rfl
                    rw [hrec]
                    rfl
                  have heq : ∀ w2 : World, (execOp ρ' ⟨dst, .call ⟨.invoke r name, args, ats⟩, ty, pos, after, guard⟩).run P w2 = (callFunc f ⟨v' :: (args.map ρ').toList⟩).run P w2 := fun w2 => by
                    have e2 : (#[Value.iface t v'] ++ args.map ρ')[0]? = some (.iface t v') := by
                      rw [Array.getElem?_append_left (by simp)]
                      rfl
                    have e3 : (#[Value.iface t v'] ++ args.map ρ').extract 1 (#[Value.iface t v'] ++ args.map ρ').size = args.map ρ' := by
                      apply Array.ext'
                      simp only [Array.toList_extract, Array.toList_append, List.extract_eq_take_drop, Array.size_append]
                      rw [show [Value.iface t v'] = [Value.iface t v'] from rfl, List.cons_append, List.nil_append, List.drop_succ_cons, List.drop_zero]
                      exact List.take_of_length_le (by simp)
                    simp only [execOp, resolve, hy, pure_bind, invoke, e2, e3, callMethod, Sem.run_bind, run_program, Result.andThen_ok, hmeth]
                    congr 2
                    apply Array.ext'
                    simp
                  unfold OutOK at hk ⊢
                  cases out with
                  | val u => obtain ⟨a1, a2, a3, a4, a5, a6⟩ := hk; exact ⟨a1, a2, a3, a4, by rw [heq]; exact a5, a6⟩
                  | skip => obtain ⟨a1, a3, a5, a6⟩ := hk; exact ⟨a1, a3, by rw [heq]; exact a5, a6⟩
                  | call g as => obtain ⟨a1, a2, a3, a4⟩ := hk; exact ⟨a1, a2, a3, by rw [heq]; exact a4⟩
                · cases hh
              · cases hh
            · cases hh
          · cases hh
      · cases hh
    | builtin b =>
      cases b <;> simp only at hh <;> first | (cases hh; done) | skip
      case append =>
        split at hh
        · rename_i x y tx ty' hargs hats
          replace hh := ob_some hh
          obtain ⟨s1, hs1, hh⟩ := hh
          replace hh := ob_some hh
          obtain ⟨v1, hv1, hh⟩ := hh
          replace hh := ob_some hh
          obtain ⟨r, hr1, hh⟩ := hh
          cases hh
          obtain ⟨φ', v', w', q1, q2, q3⟩ := appendV_run (P := P) (ty := ty) hr (hρ _ _ hs1) (hρ _ _ hv1) (h' := r.2) (v := r.1) hr1
          refine ⟨φ', v', w', q1, ?_, q3⟩
          rw [arr2 hargs, arr2 hats]
          simp only [execOp, resolve, invoke, builtin, pure_bind]
          have e1 : (#[x, y] : Array Operand).map ρ' = #[ρ' x, ρ' y] := by simp
          rw [e1]
          simp [q2]
        · cases hh
      case copy =>
        split at hh
        · rename_i x y tx l hargs hats
          replace hh := ob_some hh
          obtain ⟨s1, hs1, hh⟩ := hh
          replace hh := ob_some hh
          obtain ⟨v1, hv1, hh⟩ := hh
          replace hh := ob_some hh
          obtain ⟨r, hr1, hh⟩ := hh
          cases hh
          have e1 : args.map ρ' = #[ρ' x, ρ' y] := by rw [arr2 hargs]; simp
          obtain ⟨v', w', q1, q2, q3⟩ := copyV_run (P := P) (ts := ats) (ty := ty) (args := #[ρ' x, ρ' y]) (dT := tx) hr (by rw [← Array.getElem?_toList, hats]; rfl) rfl rfl (hρ _ _ hs1) (hρ _ _ hv1) (h' := r.2) (v := r.1) hr1
          refine ⟨φ, v', w', q1, ?_, q3⟩
          simp only [execOp, resolve, invoke, builtin, pure_bind, e1]
          simp [q2]
        · cases hh
end Go.Proofs.YtjkifbkehochoaaGreatDoor.Ev
namespace Go.Proofs.YtjkifbkehochoaaGreatDoor.Ev
/-- what is put off: a call, or what a range over a function has put off -/
inductive DI where
  | call (f : FuncId) (args : List Value)
  | mark (i : Nat)
structure St where
  T : TT
  k : Nat
  h : Hp
  D : List DI
/-- calls that are put off -/
inductive DL (φ : Ren) : List DI → List Deferred → Prop
  | nil : DL φ [] []
  | cons {f : FuncId} {args : List Value} {dargs cap : Array Value} {l : List DI} {ds : List Deferred} : LR φ args (dargs ++ cap).toList → DL φ l ds → DL φ (.call f args :: l) ({ target := .fn (.func f) cap, args := dargs } :: ds)
  | mark {i b : Nat} {l : List DI} {ds : List Deferred} : φ i = some b → DL φ l ds → DL φ (.mark i :: l) ({ target := .collected b, args := #[] } :: ds)
theorem DL.mono {φ φ' : Ren} (hφ : φ.le φ') : ∀ {l : List DI} {ds : List Deferred}, DL φ l ds → DL φ' l ds
  | _, _, .nil => .nil
  | _, _, .cons h k => .cons (h.mono hφ) (k.mono hφ)
  | _, _, .mark h k => .mark (hφ _ _ h).1 (k.mono hφ)
noncomputable def opnd (s : St) : Operand → Option Value
  | .tmp t => match Nat.ble (Nat.add t 1) s.k with
    | true => s.T.get t
    | false => none
  | .const v => match plainF v with
    | true => some v
    | false => none
  | .func f => some (.func (.func f) #[] #[])
  | .global g => match s.h.get g with
    | some (.ro _) => some (.pointer (some ⟨g, 0, none⟩))
    | _ => none
noncomputable def St.put (s : St) (d : Option Tmp) (v : Value) : Option St := match d with
  | none => some s
  | some d => match Nat.ble (Nat.add d 1) s.k with
    | true => some ⟨s.T.set d v, s.k, s.h, s.D⟩
    | false => none
structure AR (φ : Ren) (s : St) (a : Act) : Prop where
  d : DL φ s.D a.defers
  n : a.tmps.size = s.k
  b : s.k ≤ 4096
  t : ∀ t v, t < s.k → s.T.get t = some v → ∃ v', a.tmps[t]? = some v' ∧ VR φ v v'
theorem AR.mono {φ φ' : Ren} {s : St} {a : Act} (hφ : φ.le φ') (h : AR φ s a) : AR φ' s a :=
  ⟨h.d.mono hφ, h.n, h.b, fun t v ht hv => let ⟨v', h1, h2⟩ := h.t t v ht hv; ⟨v', h1, h2.mono hφ⟩⟩
theorem AR.heap {φ : Ren} {s : St} {a : Act} (h : AR φ s a) (h' : Hp) : AR φ ⟨s.T, s.k, h', s.D⟩ a := ⟨h.d, h.n, h.b, h.t⟩
theorem opnd_run {φ : Ren} {s : St} {a : Act} {w : World} (hr : HR φ s.h.get s.h.n w) (h : AR φ s a) (x : Operand) (v : Value) (hx : opnd s x = some v) : VR φ v (a.eval x) := by
  unfold opnd at hx
  split at hx
  · rename_i t
    split at hx
    · rename_i hle
      obtain ⟨v', h1, h2⟩ := h.t t v (Nat.le_of_ble_eq_true hle) hx
      simp [Act.eval, h1, h2]
    · cases hx
  · split at hx
    · rename_i hp
      rw [plainF_eq] at hp
      cases hx; exact VR.self 20 _ hp
    · cases hx
  · cases hx
    exact .func _ rfl (fun i x y hx => by simp at hx) rfl (fun i x y hx => by simp at hx)
  · split at hx
    · rename_i hg
      cases hx
      exact .ptr (hr.ro _ _ hg).2
    · cases hx
theorem put_run {φ : Ren} {s s' : St} {a : Act} (h : AR φ s a) {d : Option Tmp} {v v' : Value} (hv : VR φ v v') (hp : s.put d v = some s') : AR φ s' (a.put d v') ∧ s'.h = s.h := by
  unfold St.put at hp
  split at hp
  · cases hp; exact ⟨h, rfl⟩
  · rename_i d
    split at hp
    · rename_i hle
      cases hp
      have hle := Nat.le_of_ble_eq_true hle
      have hb := h.b
      have hd : d < 4096 := Nat.lt_of_lt_of_le hle hb
      refine ⟨⟨h.d, by simp [Act.put, h.n], h.b, fun t u ht hu => ?_⟩, rfl⟩
      simp only at ht hu
      by_cases e : t = d
      · subst e
        rw [TT.get_same _ _ _ (by omega)] at hu
        cases hu
        refine ⟨v', ?_, hv⟩
        simp only [Act.put]
        exact Array.getElem?_setIfInBounds_self_of_lt (by rw [h.n]; exact ht)
      · rw [TT.get_ne s.T d t v hd (by omega) (fun x => e x.symm)] at hu
        obtain ⟨u', h1, h2⟩ := h.t t u ht hu
        refine ⟨u', ?_, h2⟩
        simp only [Act.put]
        rw [Array.getElem?_setIfInBounds_ne (fun x => e x.symm)]
        exact h1
    · cases hp
noncomputable def evOp (P : Program) (X : FuncId → List Value → Option Value) (ρ : Operand → Option Value) (o : Oper) (h : Hp) : Option (Out × Hp) :=
  match evV P h.get ρ o with
  | some v => some (.val v, h)
  | none => match evA P ρ o with
    | some (B, mk) => match Nat.ble (h.n + 1) 65536 && mk.ok with
      | true => some (.val (mk.val h.n), h.new B)
      | false => none
    | none => evE P X ρ o h
theorem evOp_run {P : Program} {X : FuncId → List Value → Option Value} (hX : ExtOK P X) {φ : Ren} {h h' : Hp} {w : World} (hr : HR φ h.get h.n w) {ρ : Operand → Option Value} {ρ' : Operand → Value} (hρ : ∀ x v, ρ x = some v → VR φ v (ρ' x)) {o : Oper} {out : Out} (hh : evOp P X ρ o h = some (out, h')) :
    OutOK P φ h w (execOp ρ' o) out h' := by
  unfold evOp at hh
  split at hh
  · rename_i v hv
    cases hh
    obtain ⟨v', h1, h2⟩ := evV_run (P := P) hr hρ hv
    exact ⟨φ, v', w, h1, h2, Step.refl hr⟩
  · split at hh
    · rename_i B mk hA
      split at hh
      · rename_i hc
        cases hh
        simp only [Bool.and_eq_true] at hc
        have hb := Nat.le_of_ble_eq_true hc.1
        obtain ⟨o', h1, h2, h3⟩ := evA_run (P := P) (w := w) hρ hA
        have hbd := hr.bnd
        refine ⟨φ.at h.n w.heap.size 0, _, _, Mk.VR hc.2 (Ren.at_same ..), h1, ?_⟩
        refine Step.alloc (B := B) (o := o') hr hb rfl (h2 _ _ (Ren.at_ext hr.fresh)) h3 ?_ fun j hj => ?_
        · rw [Hp.get_new h _ (by omega), if_pos rfl]
        · rw [Hp.get_new h _ (by omega), if_neg hj]
      · cases hh
    · exact evE_run hX hr hρ hh
abbrev CallF := FuncId → List Value → Hp → Option (Value × Hp)
def CallOK (P : Program) (call : CallF) : Prop :=
  ∀ f args h v h', call f args h = some (v, h') → ∀ φ args' w, HR φ h.get h.n w → LR φ args args' →
    Calls P f ⟨args'⟩ w fun e w' => ∃ φ' v', e = .returned v' ∧ VR φ' v v' ∧ Step φ h.get h.n w φ' h'.get h'.n w'
noncomputable def isDefer (o : Oper) : Bool := match o.op with
  | .defer _ => true
  | _ => false
noncomputable def deferV (ρ : Operand → Option Value) (o : Oper) : Option (FuncId × List Value) := match o.op with
  | .defer c => match c.callee with
    | .value f => match ρ f with
      | some (.func (.func g) a b) => ob (mapO ρ c.args.toList) fun args => some (g, a.toList ++ args ++ b.toList)
      | _ => none
    | _ => none
  | _ => none
theorem deferV_run {P : Program} {φ : Ren} {w : World} {ρ : Operand → Option Value} {ρ' : Operand → Value} (hρ : ∀ x v, ρ x = some v → VR φ v (ρ' x)) {o : Oper} {x : FuncId × List Value} (hh : deferV ρ o = some x) :
    ∃ dargs cap, LR φ x.2 (dargs ++ cap).toList ∧ (execOp ρ' o).run P w = .ok (.defer { target := .fn (.func x.1) cap, args := dargs }) w := by
  obtain ⟨dst, op, ty, pos, after, guard⟩ := o
  unfold deferV at hh
  cases op <;> simp only at hh <;> first | (cases hh; done) | skip
  rename_i c
  obtain ⟨callee, args, ats⟩ := c
  cases callee <;> simp only at hh <;> first | (cases hh; done) | skip
  rename_i f
  split at hh
  · rename_i f1 a b hf
    replace hh := ob_some hh
    obtain ⟨r, hr1, hh⟩ := hh
    cases hh
    have ha := args_run hρ hr1
    have hfv := hρ _ _ hf
    generalize hy : ρ' f = y at hfv
    cases hfv with
    | @func _ a1 a2 c1 c2 hl hh1 kl kk =>
      have hall : LR φ (a1 ++ r ++ c1) (a2 ++ (args.map ρ').toList ++ c2) := (LR.append ⟨hl, hh1⟩ ha).append ⟨kl, kk⟩
      refine ⟨⟨a2⟩ ++ args.map ρ', ⟨c2⟩, ?_, ?_⟩
      · simpa using hall
      · simp [execOp, resolve, hy, Deferred.ofValue]
  · cases hh
noncomputable def evStep0 (P : Program) (X : FuncId → List Value → Option Value) (call : CallF) (o : Oper) (s : St) : Option St :=
  match evOp P X (opnd s) o s.h with
  | some (.val v, h) => St.put ⟨s.T, s.k, h, s.D⟩ o.dst v
  | some (.skip, h) => St.put ⟨s.T, s.k, h, s.D⟩ o.dst undef
  | some (.call f args, h) => ob (call f args h) fun r => St.put ⟨s.T, s.k, r.2, s.D⟩ o.dst r.1
  | none => none
noncomputable def evStep (P : Program) (X : FuncId → List Value → Option Value) (call : CallF) (o : Oper) (s : St) : Option St :=
  match isDefer o with
  | false => evStep0 P X call o s
  | true => ob (deferV (opnd s) o) fun x => St.put ⟨s.T, s.k, s.h, .call x.1 x.2 :: s.D⟩ o.dst undef
theorem VR.undef {φ : Ren} : VR φ undef undef := VR.ofTuple LR.nil
theorem evStep0_wp {P : Program} {X : FuncId → List Value → Option Value} {call : CallF} (hX : ExtOK P X) (hC : CallOK P call) {o : Oper} {s s' : St} (hh : evStep0 P X call o s = some s') {φ : Ren} {a : Act} {w : World} (hr : HR φ s.h.get s.h.n w) (ha : AR φ s a)
    {K : Act → World → Prop} {Q : Exit → Act → World → Prop} (hK : ∀ φ' a' w', Step φ s.h.get s.h.n w φ' s'.h.get s'.h.n w' → AR φ' s' a' → K a' w') : o.wp P a w K Q := by
  unfold evStep0 at hh
  unfold Oper.wp
  split at hh
  · rename_i v h ho
    obtain ⟨φ', v', w', h1, h2, h3⟩ := evOp_run hX hr (opnd_run hr ha) ho
    rw [h2]
    obtain ⟨p1, p2⟩ := put_run ((ha.mono h3.ext).heap h) h1 hh
    refine hK φ' _ w' ?_ p1
    rw [p2]; exact h3
  · rename_i h ho
    obtain ⟨φ', w', h2, h3⟩ := evOp_run hX hr (opnd_run hr ha) ho
    rw [h2]
    obtain ⟨p1, p2⟩ := put_run ((ha.mono h3.ext).heap h) VR.undef hh
    refine hK φ' _ w' ?_ p1
    rw [p2]; exact h3
  · rename_i f args h ho
    obtain ⟨rfl, args', h1, h2⟩ := evOp_run hX hr (opnd_run hr ha) ho
    rw [h2]
    replace hh := ob_some hh
    obtain ⟨r, hc, hh⟩ := hh
    refine (hC f args _ r.1 r.2 hc φ args' w hr h1).mono ?_
    rintro e w' ⟨φ', v', rfl, h3, h4⟩
    obtain ⟨p1, p2⟩ := put_run ((ha.mono h4.ext).heap r.2) h3 hh
    refine hK φ' _ w' ?_ p1
    rw [p2]; exact h4
  · cases hh
theorem evStep_wp {P : Program} {X : FuncId → List Value → Option Value} {call : CallF} (hX : ExtOK P X) (hC : CallOK P call) {o : Oper} {s s' : St} (hh : evStep P X call o s = some s') {φ : Ren} {a : Act} {w : World} (hr : HR φ s.h.get s.h.n w) (ha : AR φ s a)
    {K : Act → World → Prop} {Q : Exit → Act → World → Prop} (hK : ∀ φ' a' w', Step φ s.h.get s.h.n w φ' s'.h.get s'.h.n w' → AR φ' s' a' → K a' w') : o.wp P a w K Q := by
  unfold evStep at hh
  split at hh
  · exact evStep0_wp hX hC hh hr ha hK
  · replace hh := ob_some hh
    obtain ⟨x, hx, hh⟩ := hh
    obtain ⟨dargs, cap, h1, h2⟩ := deferV_run (P := P) (w := w) (opnd_run hr ha) hx
    unfold Oper.wp
    rw [h2]
    have hAR : AR φ ⟨s.T, s.k, s.h, .call x.1 x.2 :: s.D⟩ { a with defers := { target := .fn (.func x.1) cap, args := dargs } :: a.defers } := ⟨.cons h1 ha.d, ha.n, ha.b, ha.t⟩
    obtain ⟨p1, p2⟩ := put_run hAR VR.undef hh
    refine hK φ _ w ?_ p1
    rw [p2]
    exact Step.refl hr
noncomputable def wantB (ops : List Oper) (s : St) (o : Oper) : Option Bool := match o.guard with
  | none => some true
  | some (j, want) => match nth ops j with
    | some p => match p.dst with
      | some d => match Nat.ble (Nat.add d 1) s.k with
        | true => match s.T.get d with
          | some (.bool b) => some (b == want)
          | some _ => some false
          | none => none
        | false => none
      | none => none
    | none => none
theorem wantB_run {φ : Ren} {s : St} {a : Act} (ha : AR φ s a) {ops : Array Oper} {o : Oper} {b : Bool} (h : wantB ops.toList s o = some b) : Region.wanted o (yielded ops a.tmps) = b := by
  unfold wantB at h
  unfold Region.wanted
  split at h
  · rename_i hg; cases h; simp [hg]
  · rename_i j want hg
    simp only [hg]
    split at h
    · rename_i p hp
      rw [nth_eq] at hp
      have hp' : ops[j]? = some p := by simpa using hp
      split at h
      · rename_i d hd
        split at h
        · rename_i hle
          have hle := Nat.le_of_ble_eq_true hle
          split at h
          · rename_i b0 hb
            cases h
            obtain ⟨v', h1, h2⟩ := ha.t d _ hle hb
            have := h2.bool'
            subst this
            simp only [yielded, hp', Option.bind_some, hd, h1]
            cases b0 <;> cases want <;> rfl
          · rename_i v hnb hv
            cases h
            obtain ⟨v', h1, h2⟩ := ha.t d _ hle hv
            simp only [yielded, hp', Option.bind_some, hd, h1]
            cases h2 <;> first | rfl | exact (hnb _ rfl).elim
          · cases h
        · cases h
      · cases h
    · cases h
noncomputable def evR (P : Program) (X : FuncId → List Value → Option Value) (call : CallF) (all : List Oper) (l : List Oper) : St → Option St :=
  List.rec (motive := fun _ => St → Option St) (fun s => some s) (fun o _ ih s => match wantB all s o with
    | some true => ob (evStep P X call o s) ih
    | some false => ob (s.put o.dst undef) ih
    | none => none) l
theorem evR_wp {P : Program} {X : FuncId → List Value → Option Value} {call : CallF} (hX : ExtOK P X) (hC : CallOK P call) {ops : Array Oper} {Q : Exit → Act → World → Prop} : ∀ (l : List Oper) (i : Nat), ops.toList.drop i = l → ∀ (s s' : St), evR P X call ops.toList l s = some s' →
    ∀ (φ : Ren) (a : Act) (w : World), HR φ s.h.get s.h.n w → AR φ s a → (∀ φ' a' w', Step φ s.h.get s.h.n w φ' s'.h.get s'.h.n w' → AR φ' s' a' → Q .normal a' w') → wpOps P ops Q (List.range' i l.length) a w
  | [], i, hl, s, s', h, φ, a, w, hr, ha, hQ => by
    cases h
    exact hQ φ a w (Step.refl hr) ha
  | o :: l, i, hl, s, s', h, φ, a, w, hr, ha, hQ => by
    have ho : ops[i]? = some o := by
      have : (ops.toList.drop i)[0]? = some o := by rw [hl]; rfl
      rw [List.getElem?_drop] at this
      simpa using this
    have hl' : ops.toList.drop (i + 1) = l := by
      have : (ops.toList.drop i).drop 1 = l := by rw [hl]; rfl
      rw [List.drop_drop] at this
      exact this
    replace h : (match wantB ops.toList s o with
      | some true => ob (evStep P X call o s) (evR P X call ops.toList l)
      | some false => ob (s.put o.dst undef) (evR P X call ops.toList l)
      | none => none) = some s' := h
    rw [List.length_cons, List.range'_succ]
    simp only [wpOps, ho]
    split at h
    · rename_i hw
      rw [if_pos (wantB_run ha hw)]
      replace h := ob_some h
      obtain ⟨s1, h1, h⟩ := h
      refine .inl (evStep_wp hX hC h1 hr ha fun φ' a' w' hst ha' => ?_)
      exact evR_wp hX hC l (i + 1) hl' s1 s' h φ' a' w' hst.hr ha' fun φ'' a'' w'' hst2 ha2 => hQ φ'' a'' w'' (hst.trans hst2) ha2
    · rename_i hw
      rw [if_neg (by rw [wantB_run ha hw]; simp)]
      replace h := ob_some h
      obtain ⟨s1, h1, h⟩ := h
      obtain ⟨p1, p2⟩ := put_run ha VR.undef h1
      refine evR_wp hX hC l (i + 1) hl' s1 s' h φ _ w (by rw [p2]; exact hr) p1 fun φ'' a'' w'' hst2 ha2 => hQ φ'' a'' w'' (by rw [p2] at hst2; exact hst2) ha2
    · cases h
end Go.Proofs.YtjkifbkehochoaaGreatDoor.Ev
namespace Go.Proofs.YtjkifbkehochoaaGreatDoor.Ev
/-- an operation that acts, with its call -/
noncomputable def evEff (P : Program) (X : FuncId → List Value → Option Value) (call : CallF) (ρ : Operand → Option Value) (o : Oper) (h : Hp) : Option (Value × Hp) :=
  match evE P X ρ o h with
  | some (.val v, h) => some (v, h)
  | some (.skip, h) => some (undef, h)
  | some (.call f args, h) => call f args h
  | none => none
theorem evEff_wp {P : Program} {X : FuncId → List Value → Option Value} {call : CallF} (hX : ExtOK P X) (hC : CallOK P call) {ρ : Operand → Option Value} {o : Oper} {h h' : Hp} {v : Value} (hh : evEff P X call ρ o h = some (v, h')) {φ : Ren} {a : Act} {w : World} (hr : HR φ h.get h.n w) (hρ : ∀ x v, ρ x = some v → VR φ v (a.eval x))
    {K : Act → World → Prop} {Q : Exit → Act → World → Prop} (hK : ∀ φ' v' w', Step φ h.get h.n w φ' h'.get h'.n w' → VR φ' v v' → K (a.put o.dst v') w') : o.wp P a w K Q := by
  unfold evEff at hh
  unfold Oper.wp
  split at hh
  · rename_i v h1 ho
    cases hh
    obtain ⟨φ', v', w', h1, h2, h3⟩ := evE_run hX hr hρ ho
    rw [h2]
    exact hK φ' v' w' h3 h1
  · rename_i h1 ho
    cases hh
    obtain ⟨φ', w', h2, h3⟩ := evE_run hX hr hρ ho
    rw [h2]
    exact hK φ' _ w' h3 VR.undef
  · rename_i f args h1 ho
    obtain ⟨rfl, args', h1, h2⟩ := evE_run hX hr hρ ho
    rw [h2]
    refine (hC f args _ v h' hh φ args' w hr h1).mono ?_
    rintro e w' ⟨φ', v', rfl, h3, h4⟩
    exact hK φ' v' w' h4 h3
  · cases hh
/-- what an operation of a drawn region does -/
inductive Knd where
  | skip
  | val
  | alloc (B : Blk) (mk : Mk)
  | eff (q : Nat)
/-- the blocks, when k operations have acted -/
noncomputable def contD (N n0 : Nat) (kind : Nat → Knd) (V : Nat → Hp) (ins : Nat → Nat → Bool) (k id : Nat) : Option Blk :=
  if n0 ≤ id ∧ id < n0 + N then (match kind (id - n0) with
    | .alloc B _ => if ins k (id - n0) = true then (V k).get id else some B
    | _ => (V k).get id) else (V k).get id
/-- what is known of a region that draws its order: each operation gives its value in whatever order -/
structure DOK (P : Program) (X : FuncId → List Value → Option Value) (call : CallF) (ops : Array Oper) (s : St) (n0 : Nat) where
  anc : Nat → Nat → Prop
  val : Nat → Value
  rho : Nat → Operand → Option Value
  want : Nat → Bool
  kind : Nat → Knd
  m : Nat
  e : Nat → Nat
  V : Nat → Hp
  I : Nat → Hp
  ins : Nat → Nat → Bool
  hn0 : s.h.n ≤ n0
  hb0 : n0 + ops.size ≤ 65536
  edge : ∀ (i : Nat) (o : Oper), ops[i]? = some o → ∀ x ∈ o.after, Region.binds .any x = true → x.on < i
  hanc : ∀ (i : Nat) (o : Oper), ops[i]? = some o → ∀ j, anc i j → ∃ x ∈ o.after, Region.binds .any x = true ∧ (x.on = j ∨ anc x.on j)
  hdst : ∀ (i j : Nat) (oi oj : Oper) d, ops[i]? = some oi → ops[j]? = some oj → oi.dst = some d → oj.dst = some d → i = j
  hdk : ∀ (i : Nat) (o : Oper) d, ops[i]? = some o → o.dst = some d → d < s.k
  hrho : ∀ (i : Nat) (o : Oper) t v, ops[i]? = some o → rho i (.tmp t) = some v → t < s.k ∧ ((∃ (j : Nat) (oj : Oper), ops[j]? = some oj ∧ oj.dst = some t ∧ anc i j ∧ v = val j) ∨ ((∀ (j : Nat) (oj : Oper), ops[j]? = some oj → oj.dst = some t → j = i ∨ anc j i) ∧ s.T.get t = some v))
  hrho' : ∀ (i : Nat) (x : Operand) v, (∀ t, x ≠ .tmp t) → rho i x = some v → opnd s x = some v
  hwant : ∀ (i : Nat) (o : Oper), ops[i]? = some o → (o.guard = none ∧ want i = true) ∨ ∃ (j : Nat) (b : Bool) (p : Oper) (d : Tmp), o.guard = some (j, b) ∧ ops[j]? = some p ∧ p.dst = some d ∧ anc i j ∧ want i = (match val j with | .bool c => c == b | _ => false)
  hskip : ∀ (i : Nat) (o : Oper), ops[i]? = some o → want i = false → kind i = .skip ∧ val i = undef
  hwk : ∀ (i : Nat) (o : Oper), ops[i]? = some o → want i = true → kind i ≠ .skip
  hval : ∀ (i : Nat) (o : Oper), ops[i]? = some o → kind i = .val → ∀ k, k ≤ m → (∀ q, q < m → anc i (e q) → q < k) → (∀ q, q < m → anc (e q) i → k ≤ q) → evV P (contD ops.size n0 kind V ins k) (rho i) o = some (val i)
  halloc : ∀ (i : Nat) (o : Oper) B mk, ops[i]? = some o → kind i = .alloc B mk → evA P (rho i) o = some (B, mk) ∧ mk.ok = true ∧ val i = mk.val (n0 + i)
  hlive : ∀ i B mk, kind i = .alloc B mk → Blk.live (some B)
  heff : ∀ (i : Nat) (o : Oper) q, ops[i]? = some o → kind i = .eff q → q < m ∧ e q = i ∧ evEff P X call (rho i) o (I q) = some (val i, V (q + 1))
  he : ∀ q, q < m → kind (e q) = .eff q
  hel : ∀ q, q < m → ¬ ops.size ≤ e q
  hord : ∀ q q', q < q' → q' < m → anc (e q') (e q)
  hV0 : (V 0).n = n0 + ops.size ∧ (∀ id, (V 0).get id = s.h.get id)
  hins0 : ∀ j, ins 0 j = false
  hins : ∀ q j, q < m → ins (q + 1) j = true → ins q j = true ∨ anc (e q) j
  hmono : ∀ q j, q < m → ins q j = true → ins (q + 1) j = true
  hIn : ∀ q, q < m → (I q).n = (V q).n
  hI : ∀ q id, q < m → (I q).get id = if n0 ≤ id ∧ id < n0 + ops.size then (match kind (id - n0) with
    | .alloc B _ => if ins q (id - n0) = true then (V q).get id else if ins (q + 1) (id - n0) = true then some B else none
    | _ => (V q).get id) else (V q).get id
section
variable {P : Program} {X : FuncId → List Value → Option Value} {call : CallF} {ops : Array Oper} {s : St} {n0 : Nat}
noncomputable abbrev DOK.C (d : DOK P X call ops s n0) (k : Nat) : Nat → Option Blk := contD ops.size n0 d.kind d.V d.ins k
/-- is it in hand, but not yet to be seen by who acts? -/
def DOK.pend (d : DOK P X call ops s n0) (k id : Nat) : Prop := n0 ≤ id ∧ id < n0 + ops.size ∧ d.ins k (id - n0) = false ∧ ∃ B mk, d.kind (id - n0) = .alloc B mk
theorem DOK.hel2 (d : DOK P X call ops s n0) (q : Nat) (hq : q < d.m) : ∃ o, ops[d.e q]? = some o := by
  have := d.hel q hq
  exact ⟨_, Array.getElem?_eq_getElem (by omega)⟩
theorem DOK.insAnc (d : DOK P X call ops s n0) : ∀ k j, k ≤ d.m → d.ins k j = true → ∃ q, q < k ∧ d.anc (d.e q) j := by
  intro k
  induction k with
  | zero => intro j _ h; rw [d.hins0] at h; cases h
  | succ k ih =>
    intro j hk h
    rcases d.hins k j (by omega) h with h1 | h1
    · obtain ⟨q, q1, q2⟩ := ih j (by omega) h1
      exact ⟨q, by omega, q2⟩
    · exact ⟨k, by omega, h1⟩
theorem DOK.C_pend (d : DOK P X call ops s n0) {k id : Nat} (h : d.pend k id) : ∃ B mk, d.kind (id - n0) = .alloc B mk ∧ d.C k id = some B := by
  obtain ⟨h1, h2, h3, B, mk, h4⟩ := h
  refine ⟨B, mk, h4, ?_⟩
  show contD _ _ _ _ _ _ _ = _
  unfold contD
  rw [if_pos ⟨h1, h2⟩, h4]
  simp [h3]
theorem DOK.C_not (d : DOK P X call ops s n0) {k id : Nat} (h : ¬ d.pend k id) : d.C k id = (d.V k).get id := by
  show contD _ _ _ _ _ _ _ = _
  unfold contD
  split
  · rename_i hc
    split
    · rename_i B mk hk
      split
      · rfl
      · rename_i hi
        exact absurd ⟨hc.1, hc.2, by simpa using hi, B, mk, hk⟩ h
    · rfl
  · rfl
theorem DOK.I_pend (d : DOK P X call ops s n0) {q id : Nat} (hq : q < d.m) (h : d.pend (q + 1) id) : (d.I q).get id = none := by
  obtain ⟨h1, h2, h3, B, mk, h4⟩ := h
  rw [d.hI q id hq, if_pos ⟨h1, h2⟩, h4]
  have : d.ins q (id - n0) = false := by
    cases hb : d.ins q (id - n0) with
    | false => rfl
    | true => rw [d.hmono q _ hq hb] at h3; cases h3
  simp [this, h3]
theorem DOK.I_not (d : DOK P X call ops s n0) {q id : Nat} (hq : q < d.m) (h : ¬ d.pend (q + 1) id) : (d.I q).get id = d.C q id := by
  rw [d.hI q id hq]
  show _ = contD _ _ _ _ _ _ _
  unfold contD
  split
  · rename_i hc
    split
    · rename_i B mk hk
      split
      · rfl
      · split
        · rfl
        · rename_i hi
          exact absurd ⟨hc.1, hc.2, by simpa using hi, B, mk, hk⟩ h
    · rfl
  · rfl
def LD (listed : Array Bool) (i : Nat) : Prop := listed[i]? = some true
structure Inv (d : DOK P X call ops s n0) (φ0 : Ren) (w0 : World) (k : Nat) (φ : Ren) (listed : Array Bool) (a : Act) (w : World) : Prop where
  size : listed.size = ops.size
  closed : ∀ (i : Nat) (o : Oper), LD listed i → ops[i]? = some o → ∀ x ∈ o.after, Region.binds .any x = true → LD listed x.on
  km : k ≤ d.m
  pre : ∀ q, q < d.m → (LD listed (d.e q) ↔ q < k)
  step : StepM s.h.n φ0 s.h.get w0 φ (d.C k) (d.V k).n w
  big : n0 + ops.size ≤ (d.V k).n
  non : ∀ j, j < ops.size → ¬ LD listed j → φ (n0 + j) = none
  ad : DL φ0 s.D a.defers
  an : a.tmps.size = s.k
  t1 : ∀ (j : Nat) (oj : Oper) t, LD listed j → ops[j]? = some oj → oj.dst = some t → ∃ v', a.tmps[t]? = some v' ∧ VR φ (d.val j) v'
  t0 : ∀ t v, t < s.k → s.T.get t = some v → (∀ (j : Nat) (oj : Oper), LD listed j → ops[j]? = some oj → oj.dst ≠ some t) → ∃ v', a.tmps[t]? = some v' ∧ VR φ v v'
  gl : ∀ g cs, s.h.get g = some (.ro cs) → φ0 g = some g
theorem anc_listed (d : DOK P X call ops s n0) {φ0 : Ren} {w0 : World} {k : Nat} {φ : Ren} {listed : Array Bool} {a : Act} {w : World} (h : Inv d φ0 w0 k φ listed a w) :
    ∀ (i : Nat) (o : Oper), ops[i]? = some o → (∀ x ∈ o.after, Region.binds .any x = true → LD listed x.on) → ∀ j, d.anc i j → LD listed j := by
  intro i
  induction i using Nat.strongRecOn with
  | _ i ih =>
    intro o ho hx j hj
    obtain ⟨x, hxm, hxb, hxo⟩ := d.hanc i o ho j hj
    have hl := hx x hxm hxb
    rcases hxo with rfl | hxo
    · exact hl
    · have hlt := d.edge i o ho x hxm hxb
      have hsz : x.on < ops.size := by
        have := (Array.getElem?_eq_some_iff.1 ho).1
        omega
      have ho' : ops[x.on]? = some ops[x.on] := Array.getElem?_eq_getElem hsz
      exact ih x.on hlt _ ho' (fun y hy hb => h.closed x.on _ hl ho' y hy hb) j hxo
theorem anc_self (d : DOK P X call ops s n0) {φ0 : Ren} {w0 : World} {k : Nat} {φ : Ren} {listed : Array Bool} {a : Act} {w : World} (h : Inv d φ0 w0 k φ listed a w) {i j : Nat} {o : Oper} (ho : ops[i]? = some o) (hi : LD listed i) (hj : d.anc i j) : LD listed j :=
  anc_listed d h i o ho (fun x hx hb => h.closed i o hi ho x hx hb) j hj
end
end Go.Proofs.YtjkifbkehochoaaGreatDoor.Ev
namespace Go.Proofs.YtjkifbkehochoaaGreatDoor.Ev
section
variable {P : Program} {X : FuncId → List Value → Option Value} {call : CallF} {ops : Array Oper} {s : St} {n0 : Nat}
theorem LD_set {listed : Array Bool} {i j : Nat} : LD (listed.setIfInBounds i true) j ↔ (j = i ∧ i < listed.size) ∨ LD listed j := by
  unfold LD
  rw [Array.getElem?_setIfInBounds]
  by_cases h : i = j
  · subst h
    by_cases hlt : i < listed.size
    · simp [hlt]
    · simp [hlt]
  · rw [if_neg h]
    constructor
    · exact .inr
    · rintro (⟨h1, -⟩ | h1)
      · exact absurd h1.symm h
      · exact h1
/-- an operation that may be next -/
structure Rdy (listed : Array Bool) (i : Nat) (o : Oper) : Prop where
  ho : ops[i]? = some o
  no : ¬ LD listed i
  dep : ∀ x ∈ o.after, Region.binds .any x = true → LD listed x.on
theorem rho_ok (d : DOK P X call ops s n0) {φ0 : Ren} {w0 : World} {k : Nat} {φ : Ren} {listed : Array Bool} {a : Act} {w : World} (h : Inv d φ0 w0 k φ listed a w) {i : Nat} {o : Oper} (hr : Rdy (ops := ops) listed i o) (x : Operand) (v : Value) (hv : d.rho i x = some v) : VR φ v (a.eval x) := by
  cases x with
  | tmp t =>
    obtain ⟨hk, hw⟩ := d.hrho i o t v hr.ho hv
    rcases hw with ⟨j, oj, hj, hd, ha, rfl⟩ | ⟨hno, hT⟩
    · obtain ⟨v', h1, h2⟩ := h.t1 j oj t (anc_listed d h i o hr.ho hr.dep j ha) hj hd
      simp [Act.eval, h1, h2]
    · obtain ⟨v', h1, h2⟩ := h.t0 t v hk hT fun j oj hl hj hd => by
        rcases hno j oj hj hd with rfl | ha
        · exact hr.no hl
        · exact hr.no (anc_self d h hj hl ha)
      simp [Act.eval, h1, h2]
  | const c =>
    have := d.hrho' i (.const c) v (fun t => by simp) hv
    unfold opnd at this
    simp only at this
    split at this
    · rename_i hp
      rw [plainF_eq] at hp
      cases this
      exact VR.self 20 _ hp
    · cases this
  | func f =>
    have := d.hrho' i (.func f) v (fun t => by simp) hv
    unfold opnd at this
    cases this
    exact .func _ rfl (fun i x y hx => by simp at hx) rfl (fun i x y hx => by simp at hx)
  | global g =>
    have := d.hrho' i (.global g) v (fun t => by simp) hv
    unfold opnd at this
    simp only at this
    split at this
    · rename_i hg
      cases this
      exact .ptr (h.step.ext g g (h.gl _ _ hg)).1
    · cases this
theorem want_ok (d : DOK P X call ops s n0) {φ0 : Ren} {w0 : World} {k : Nat} {φ : Ren} {listed : Array Bool} {a : Act} {w : World} (h : Inv d φ0 w0 k φ listed a w) {i : Nat} {o : Oper} (hr : Rdy (ops := ops) listed i o) : Region.wanted o (yielded ops a.tmps) = d.want i := by
  unfold Region.wanted
  rcases d.hwant i o hr.ho with ⟨hg, hw⟩ | ⟨j, b, p, t, hg, hj, hp, ha, hw⟩
  · rw [hg, hw]
  · rw [hg, hw]
    obtain ⟨v', h1, h2⟩ := h.t1 j p t (anc_listed d h i o hr.ho hr.dep j ha) hj hp
    simp only [yielded, hj, Option.bind_some, hp, h1]
    generalize d.val j = u at *
    cases h2 <;> first | rfl | (rename_i c; cases c <;> cases b <;> rfl)
theorem Inv.next (d : DOK P X call ops s n0) {φ0 : Ren} {w0 : World} {k k' : Nat} {φ φ' : Ren} {listed : Array Bool} {a : Act} {w w' : World} (h : Inv d φ0 w0 k φ listed a w) {i : Nat} {o : Oper} (hr : Rdy (ops := ops) listed i o) {v' : Value}
    (hle : φ.le φ') (hst : StepM s.h.n φ0 s.h.get w0 φ' (d.C k') (d.V k').n w') (hkm : k' ≤ d.m) (hpre : ∀ q, q < d.m → (LD (listed.setIfInBounds i true) (d.e q) ↔ q < k')) (hbig : n0 + ops.size ≤ (d.V k').n)
    (hnon : ∀ j, j < ops.size → ¬ LD (listed.setIfInBounds i true) j → φ' (n0 + j) = none) (hv : VR φ' (d.val i) v') : Inv d φ0 w0 k' φ' (listed.setIfInBounds i true) (a.put o.dst v') w' := by
  have hi : i < ops.size := (Array.getElem?_eq_some_iff.1 hr.ho).1
  have hput : ∀ t, o.dst ≠ some t → (a.put o.dst v').tmps[t]? = a.tmps[t]? := fun t ht => by
    cases hd : o.dst with
    | none => rfl
    | some u =>
      simp only [Act.put]
      rw [Array.getElem?_setIfInBounds_ne (fun e => ht (by rw [hd, e]))]
  refine ⟨by simp [h.size], fun j oj hl hj x hx hb => ?_, hkm, hpre, hst, hbig, hnon, ?_, ?_, fun j oj t hl hj hd => ?_, fun t v ht hT hno => ?_, h.gl⟩
  · rw [LD_set] at hl ⊢
    rcases hl with ⟨rfl, -⟩ | hl
    · rw [hr.ho] at hj; cases hj
      exact .inr (hr.dep x hx hb)
    · exact .inr (h.closed j oj hl hj x hx hb)
  · cases hd : o.dst <;> exact h.ad
  · cases hd : o.dst with
    | none => exact h.an
    | some t => simp [Act.put, h.an]
  · rw [LD_set] at hl
    by_cases hji : j = i
    · subst hji
      rw [hr.ho] at hj; cases hj
      have hk := d.hdk j o t hr.ho hd
      refine ⟨v', ?_, hv⟩
      simp only [hd, Act.put]
      exact Array.getElem?_setIfInBounds_self_of_lt (by rw [h.an]; exact hk)
    · rcases hl with ⟨h1, -⟩ | hl
      · exact absurd h1 hji
      · obtain ⟨u, h1, h2⟩ := h.t1 j oj t hl hj hd
        refine ⟨u, ?_, h2.mono hle⟩
        rw [hput t fun hd' => hji (d.hdst j i oj o t hj hr.ho hd hd')]
        exact h1
  · have h0 : o.dst ≠ some t := hno i o (by rw [LD_set]; exact .inl ⟨rfl, by rw [h.size]; exact hi⟩) hr.ho
    obtain ⟨u, h1, h2⟩ := h.t0 t v ht hT fun j oj hl hj => hno j oj (by rw [LD_set]; exact .inr hl) hj
    exact ⟨u, by rw [hput t h0]; exact h1, h2.mono hle⟩
theorem HR.congr {φ : Ren} {C C' : Nat → Option Blk} {n : Nat} {w : World} (h : HR φ C n w) (hc : ∀ i, C' i = C i) : HR φ C' n w := by
  have : C' = C := funext hc
  rw [this]; exact h
theorem LD_of_ready {listed : Array Bool} {i : Nat} (hs : listed.size = ops.size) (h : i ∈ Region.ready .any ops listed) : ∃ o, Rdy (ops := ops) listed i o := by
  rw [mem_ready] at h
  obtain ⟨h1, o, ho, h2⟩ := h
  have hi : i < listed.size := by rw [hs]; exact (Array.getElem?_eq_some_iff.1 ho).1
  refine ⟨o, ho, fun hl => ?_, fun x hx hb => ?_⟩
  · unfold LD at hl
    rw [Array.getD_eq_getD_getElem?, hl] at h1
    cases h1
  · have := h2 x hx hb
    rw [Array.getD_eq_getD_getElem?] at this
    unfold LD
    cases hq : listed[x.on]? with
    | none => rw [hq] at this; cases this
    | some b => rw [hq] at this; simp at this; rw [this]
theorem all_listed (d : DOK P X call ops s n0) {listed : Array Bool} (hs : listed.size = ops.size) (h : Region.ready .any ops listed = []) : ∀ i, i < ops.size → LD listed i := by
  intro i
  induction i using Nat.strongRecOn with
  | _ i ih =>
    intro hi
    have ho : ops[i]? = some ops[i] := Array.getElem?_eq_getElem hi
    cases hl : listed[i]? with
    | none => rw [Array.getElem?_eq_none_iff] at hl; omega
    | some b =>
      cases b with
      | true => exact hl
      | false =>
        have : i ∈ Region.ready .any ops listed := by
          rw [mem_ready]
          refine ⟨by rw [Array.getD_eq_getD_getElem?, hl]; rfl, _, ho, fun x hx hb => ?_⟩
          have hlt := d.edge i _ ho x hx hb
          have := ih x.on hlt (by omega)
          unfold LD at this
          rw [Array.getD_eq_getD_getElem?, this]
          rfl
        rw [h] at this
        cases this
end
end Go.Proofs.YtjkifbkehochoaaGreatDoor.Ev

set_option linter.unusedSimpArgs false
set_option linter.unusedVariables false
namespace Go.Proofs.YtjkifbkehochoaaGreatDoor.Ev
section
variable {P : Program} {X : FuncId → List Value → Option Value} {call : CallF} {ops : Array Oper} {s : St} {n0 : Nat}
/-- the step of one that acts -/
theorem eff_step (d : DOK P X call ops s n0) {k : Nat} (hk : k < d.m) {φ φ' : Ren} {w w' : World} (hr : HR φ (d.C k) (d.V k).n w) (hbig : n0 + ops.size ≤ (d.V k).n)
    (hs : Step φ (d.I k).get (d.I k).n w φ' (d.V (k + 1)).get (d.V (k + 1)).n w') :
    StepM s.h.n φ (d.C k) w φ' (d.C (k + 1)) (d.V (k + 1)).n w' := by
  have hIn := d.hIn k hk
  rw [hIn] at hs
  have hlt := hr.lt
  have pk : ∀ id, d.pend (k + 1) id → d.pend k id := fun id ⟨h1, h2, h3, h4⟩ => by
    refine ⟨h1, h2, ?_, h4⟩
    cases hb : d.ins k (id - n0) with
    | false => rfl
    | true => rw [d.hmono k _ hk hb] at h3; cases h3
  have plt : ∀ id, d.pend (k + 1) id → id < (d.V k).n := fun id h => by have := h.2.1; omega
  have cp : ∀ id, d.pend (k + 1) id → ∃ B, Blk.live (some B) ∧ d.C k id = some B ∧ d.C (k + 1) id = some B := fun id h => by
    obtain ⟨B, mk, h1, h2⟩ := d.C_pend h
    obtain ⟨B', mk', h1', h2'⟩ := d.C_pend (pk id h)
    rw [h1] at h1'
    cases h1'
    exact ⟨B, d.hlive _ _ _ h1, h2', h2⟩
  have In : ∀ id, ¬ d.pend (k + 1) id → (d.I k).get id = d.C k id := fun id h => d.I_not hk h
  have Ip : ∀ id, d.pend (k + 1) id → (d.I k).get id = none := fun id h => d.I_pend hk h
  have Cn : ∀ id, ¬ d.pend (k + 1) id → d.C (k + 1) id = (d.V (k + 1)).get id := fun id h => d.C_not h
  have liveI : ∀ id, Blk.live ((d.I k).get id) → ¬ d.pend (k + 1) id ∧ Blk.live (d.C k id) := fun id h => by
    by_cases hp : d.pend (k + 1) id
    · rw [Ip id hp] at h; exact h.elim
    · rw [In id hp] at h; exact ⟨hp, h⟩
  have n0s := d.hn0
  have npl : ∀ id, id < s.h.n → ¬ d.pend (k + 1) id := fun id hi hp => by have := hp.1; omega
  -- what a name of the new state stands for, where its block is one that is seen
  have back : ∀ j b, φ' j = some b → b < w.heap.size → ¬ d.pend (k + 1) j → Blk.there ((d.V (k + 1)).get j) → ∃ j', ¬ d.pend (k + 1) j' ∧ φ j' = some b ∧ Blk.there (d.C k j') ∧ (Blk.live ((d.V (k + 1)).get j) → Blk.live (d.C k j')) ∧ (j < (d.V k).n → j' = j) := by
    intro j b hj hb hp ht
    by_cases hjn : j < (d.V k).n
    · refine ⟨j, hp, hs.old j b hjn hj, ?_, fun hl => (liveI j (hs.liv j hjn hl)).2, fun _ => rfl⟩
      by_cases hl : Blk.live ((d.V (k + 1)).get j)
      · exact Blk.live_there (liveI j (hs.liv j hjn hl)).2
      · unfold Blk.there at ht
        cases hv : (d.V (k + 1)).get j with
        | none => rw [hv] at ht; exact ht.elim
        | some B =>
          cases B with
          | ro cs =>
            have := hs.ro j cs hv
            rw [In j hp] at this
            rw [this]
            trivial
          | dead => rw [hv] at ht; exact ht.elim
          | cells c1 c2 c3 c4 => rw [hv] at hl; exact absurd trivial hl
          | obj o => rw [hv] at hl; exact absurd trivial hl
    · have hl : Blk.live ((d.V (k + 1)).get j) := by
        cases hv : (d.V (k + 1)).get j with
        | none => rw [hv] at ht; exact ht.elim
        | some B =>
          cases B with
          | ro cs =>
            have h1 := hs.ro j cs hv
            rw [In j hp] at h1
            have := hr.ro j cs h1
            omega
          | dead => rw [hv] at ht; exact ht.elim
          | cells c1 c2 c3 c4 => trivial
          | obj o => trivial
      rcases hs.new j b (by omega) hj hl with h1 | ⟨j', h1, h2⟩
      · omega
      · have := liveI j' h2
        exact ⟨j', this.1, h1, Blk.live_there this.2, fun _ => this.2, fun hh => absurd hh hjn⟩
  have pendold : ∀ id b, d.pend (k + 1) id → φ' id = some b → φ id = some b ∧ b < w.heap.size := fun id b hp hb => by
    have h1 := hs.old id b (plt id hp) hb
    exact ⟨h1, (hlt id b h1).2⟩
  have framep : ∀ id b, d.pend (k + 1) id → φ id = some b → w'.heap[b]? = w.heap[b]? := fun id b hp hb => by
    refine hs.frame b (hlt id b hb).2 fun j hj hl => ?_
    obtain ⟨q1, q2⟩ := liveI j hl
    obtain ⟨B, c0, c1, c2⟩ := cp id hp
    have := hr.inj j id b hj hb q2 (by rw [c1]; exact Blk.live_there c0)
    subst this
    exact q1 hp
  refine ⟨⟨hs.hr.bnd, fun i cs h => ?_, hs.hr.lt, fun i j b hi hj hl ht => ?_, fun i b hi => ?_⟩, hs.ext, fun i b hi h => hs.old i b (by have := hbig; omega) h, by have := hs.le; have := hbig; omega, fun i hi hl => ?_, fun i cs h => ?_, fun i b hi hb hl => ?_, hs.size, fun b hb hno => hs.frame b hb fun i hi hl => hno i hi (liveI i hl).2, hs.same⟩
  · by_cases hp : d.pend (k + 1) i
    · obtain ⟨B, c0, c1, c2⟩ := cp i hp
      rw [c2] at h; cases h; exact c0.elim
    · rw [Cn i hp] at h; exact hs.hr.ro i cs h
  · by_cases pi : d.pend (k + 1) i <;> by_cases pj : d.pend (k + 1) j
    · obtain ⟨B, c0, c1, c2⟩ := cp i pi
      obtain ⟨B', c0', c1', c2'⟩ := cp j pj
      exact hr.inj i j b (pendold i b pi hi).1 (pendold j b pj hj).1 (by rw [c1]; exact c0) (by rw [c1']; exact Blk.live_there c0')
    · obtain ⟨B, c0, c1, c2⟩ := cp i pi
      obtain ⟨h1, h2⟩ := pendold i b pi hi
      rw [Cn j pj] at ht
      obtain ⟨j', q1, q2, q3, -, -⟩ := back j b hj h2 pj ht
      have := hr.inj i j' b h1 q2 (by rw [c1]; exact c0) q3
      subst this
      exact absurd pi q1
    · obtain ⟨B, c0, c1, c2⟩ := cp j pj
      obtain ⟨h1, h2⟩ := pendold j b pj hj
      rw [Cn i pi] at hl
      obtain ⟨i', q1, q2, q3, q4, -⟩ := back i b hi h2 pi (Blk.live_there hl)
      have := hr.inj i' j b q2 h1 (q4 hl) (by rw [c1]; exact Blk.live_there c0)
      subst this
      exact absurd pj q1
    · rw [Cn i pi] at hl
      rw [Cn j pj] at ht
      exact hs.hr.inj i j b hi hj hl ht
  · by_cases hp : d.pend (k + 1) i
    · obtain ⟨B, c0, c1, c2⟩ := cp i hp
      have h1 := (pendold i b hp hi).1
      rw [c2, framep i b hp h1]
      have := hr.row i b h1
      rw [c1] at this
      exact this.mono hs.ext (hs.ext i b h1).2
    · rw [Cn i hp]; exact hs.hr.row i b hi
  · rw [Cn i (npl i hi)] at hl
    exact (liveI i (hs.liv i (by have := hbig; omega) hl)).2
  · by_cases hp : d.pend (k + 1) i
    · obtain ⟨B, c0, c1, c2⟩ := cp i hp
      rw [c2] at h; cases h; exact c0.elim
    · rw [Cn i hp] at h
      have := hs.ro i cs h
      rw [In i hp] at this
      exact this
  · by_cases hp : d.pend (k + 1) i
    · obtain ⟨B, c0, c1, c2⟩ := cp i hp
      exact .inr ⟨i, (pendold i b hp hb).1, by rw [c1]; exact c0⟩
    · rw [Cn i hp] at hl
      by_cases hin : i < (d.V k).n
      · exact .inr ⟨i, hs.old i b hin hb, (liveI i (hs.liv i hin hl)).2⟩
      · rcases hs.new i b (by omega) hb hl with h1 | ⟨j, h1, h2⟩
        · exact .inl h1
        · exact .inr ⟨j, h1, (liveI j h2).2⟩
end
end Go.Proofs.YtjkifbkehochoaaGreatDoor.Ev
namespace Go.Proofs.YtjkifbkehochoaaGreatDoor.Ev
section
variable {P : Program} {X : FuncId → List Value → Option Value} {call : CallF} {ops : Array Oper} {s : St} {n0 : Nat}
theorem wpOp_of {Q : Exit → Act → World → Prop} {i : Nat} {o : Oper} {K : Act → World → Prop} {a : Act} {w : World} {b : Bool} (ho : ops[i]? = some o) (hw : Region.wanted o (yielded ops a.tmps) = b) (h1 : b = true → o.wp P a w K Q) (h2 : b = false → K (a.put o.dst undef) w) : wpOp P ops Q i K a w := by
  unfold wpOp
  rw [ho]
  simp only [hw]
  cases b
  · simpa using h2 rfl
  · simpa using Or.inl (h1 rfl)
theorem draw_wp (hX : ExtOK P X) (hC : CallOK P call) (d : DOK P X call ops s n0) {φ0 : Ren} {w0 : World} {Q : Exit → Act → World → Prop}
    (hQ : ∀ φ a w, StepM s.h.n φ0 s.h.get w0 φ (d.C d.m) (d.V d.m).n w → DL φ0 s.D a.defers → a.tmps.size = s.k →
      (∀ (j : Nat) (oj : Oper) t, ops[j]? = some oj → oj.dst = some t → ∃ v', a.tmps[t]? = some v' ∧ VR φ (d.val j) v') →
      (∀ t v, t < s.k → s.T.get t = some v → (∀ (j : Nat) (oj : Oper), ops[j]? = some oj → oj.dst ≠ some t) → ∃ v', a.tmps[t]? = some v' ∧ VR φ v v') → Q .normal a w) :
    ∀ (fuel k : Nat) (φ : Ren) (listed : Array Bool) (a : Act) (w : World), (∃ l : List Nat, l.length ≤ fuel ∧ ∀ i, i < ops.size → LD listed i ∨ i ∈ l) → Inv d φ0 w0 k φ listed a w → wpAny P .any ops Q fuel listed a w := by
  have fin : ∀ (k : Nat) (φ : Ren) (listed : Array Bool) (a : Act) (w : World), Inv d φ0 w0 k φ listed a w → (∀ i, i < ops.size → LD listed i) → Q .normal a w := by
    intro k φ listed a w h hall
    have hkm : k = d.m := by
      rcases Nat.lt_or_ge k d.m with hlt | hge
      · have hk := d.he k hlt
        have hek : d.e k < ops.size := by
          rcases Nat.lt_or_ge (d.e k) ops.size with h1 | h1
          · exact h1
          · have := (h.pre k hlt)
            exfalso
            exact d.hel k hlt h1
        have := (h.pre k hlt).1 (hall _ hek)
        omega
      · have := h.km; omega
    subst hkm
    exact hQ φ a w h.step h.ad h.an (fun j oj t hj hd => h.t1 j oj t (hall j (Array.getElem?_eq_some_iff.1 hj).1) hj hd) fun t v ht hT hno => h.t0 t v ht hT fun j oj _ hj => hno j oj hj
  intro fuel
  induction fuel with
  | zero =>
    intro k φ listed a w ⟨l, hl, hall⟩ h
    have hl0 : l = [] := by cases l with | nil => rfl | cons _ _ => simp at hl
    subst hl0
    have hall' : ∀ i, i < ops.size → LD listed i := fun i hi => (hall i hi).resolve_right (by simp)
    refine ⟨?_, fin k φ listed a w h hall'⟩
    cases hr : Region.ready .any ops listed with
    | nil => rfl
    | cons i r =>
      obtain ⟨o, ho⟩ := LD_of_ready (ops := ops) h.size (show i ∈ Region.ready .any ops listed by rw [hr]; exact List.mem_cons_self ..)
      exact absurd (hall' i (Array.getElem?_eq_some_iff.1 ho.ho).1) ho.no
  | succ fuel ih =>
    intro k φ listed a w ⟨l, hl, hall⟩ h
    refine ⟨fun h0 => fin k φ listed a w h (all_listed d h.size h0), fun i hi => ?_⟩
    obtain ⟨o, hr⟩ := LD_of_ready (ops := ops) h.size hi
    have hin : i < ops.size := (Array.getElem?_eq_some_iff.1 hr.ho).1
    have hil : i ∈ l := (hall i hin).resolve_left hr.no
    have hnext : ∃ l' : List Nat, l'.length ≤ fuel ∧ ∀ j, j < ops.size → LD (listed.setIfInBounds i true) j ∨ j ∈ l' := by
      refine ⟨l.erase i, by rw [List.length_erase_of_mem hil]; omega, fun j hj => ?_⟩
      rw [LD_set]
      by_cases e : j = i
      · exact .inl (.inl ⟨e, by rw [h.size]; exact hin⟩)
      · rcases hall j hj with h1 | h1
        · exact .inl (.inr h1)
        · exact .inr ((List.mem_erase_of_ne e).2 h1)
    have hρ := rho_ok d h hr
    have hw := want_ok d h hr
    have hset : ∀ j, ¬ LD (listed.setIfInBounds i true) j → ¬ LD listed j := fun j hn hl => hn (by rw [LD_set]; exact .inr hl)
    have preSame : (∀ q, q < d.m → d.e q ≠ i) → ∀ q, q < d.m → (LD (listed.setIfInBounds i true) (d.e q) ↔ q < k) := fun hne q hq => by
      rw [← h.pre q hq, LD_set]
      constructor
      · rintro (⟨h1, -⟩ | h1)
        · exact absurd h1 (hne q hq)
        · exact h1
      · exact .inr
    have kindNe : (∀ q, d.kind i ≠ .eff q) → ∀ q, q < d.m → d.e q ≠ i := fun hk q hq he => hk q (by rw [← he]; exact d.he q hq)
    have anc0 := anc_listed d h i o hr.ho hr.dep
    refine wpOp_of hr.ho hw (fun hwt => ?_) fun hwf => ?_
    · cases hk : d.kind i with
      | skip => exact absurd hk (d.hwk i o hr.ho hwt)
      | val =>
        have hne := kindNe (fun q => by rw [hk]; simp)
        have hv := d.hval i o hr.ho hk k h.km (fun q hq ha => (h.pre q hq).1 (anc0 _ ha)) fun q hq ha => by
          rcases Nat.lt_or_ge q k with h1 | h1
          · obtain ⟨oq, hoq⟩ := d.hel2 q hq
            exact absurd (anc_self d h hoq ((h.pre q hq).2 h1) ha) hr.no
          · exact h1
        obtain ⟨v', h1, h2⟩ := evV_run (P := P) h.step.hr hρ hv
        unfold Oper.wp
        rw [h2]
        exact ih k φ _ _ w hnext (h.next d hr φ.le_refl h.step h.km (preSame hne) h.big (fun j hj hn => h.non j hj (hset j hn)) h1)
      | alloc B mk =>
        have hne := kindNe (fun q => by rw [hk]; simp)
        obtain ⟨g1, g2, g3⟩ := d.halloc i o B mk hr.ho hk
        obtain ⟨o', e1, e2, e3⟩ := evA_run (P := P) (w := w) hρ g1
        have hφ := h.non i hin hr.no
        have hpend : d.pend k (n0 + i) := by
          refine ⟨by omega, by omega, ?_, B, mk, by rw [Nat.add_sub_cancel_left]; exact hk⟩
          rw [Nat.add_sub_cancel_left]
          cases hb : d.ins k i with
          | false => rfl
          | true =>
            obtain ⟨q, hq, ha⟩ := d.insAnc k i h.km hb
            have hkm := h.km
            obtain ⟨oq, hoq⟩ := d.hel2 q (by omega)
            exact absurd (anc_self d h hoq ((h.pre q (by omega)).2 hq) ha) hr.no
        obtain ⟨B', mk', c1, c2⟩ := d.C_pend hpend
        rw [Nat.add_sub_cancel_left, hk] at c1
        cases c1
        have hle : φ.le (φ.at (n0 + i) w.heap.size 0) := Ren.at_ext hφ
        obtain ⟨w1, hw1⟩ : ∃ w1 : World, w1 = { w with heap := w.heap.push o' } := ⟨_, rfl⟩
        have hsz : w1.heap.size = w.heap.size + 1 := by rw [hw1]; simp
        have hr1 : HR (φ.at (n0 + i) w.heap.size 0) (d.C k) (d.V k).n w1 := h.step.hr.alloc hφ (by have := h.big; omega) (Nat.le_refl _) h.step.hr.bnd (by rw [hw1]) (e2 _ _ hle) e3 c2 fun j hj => rfl
        have hst : StepM s.h.n φ (d.C k) w (φ.at (n0 + i) w.heap.size 0) (d.C k) (d.V k).n w1 := by
          have hn0 := d.hn0
          refine ⟨hr1, hle, fun j b hj hb => ?_, by have := h.big; omega, fun _ _ hl => hl, fun _ _ hc => hc, fun j b hj hb hl => ?_, by omega, fun b hb _ => ?_, by rw [hw1]; exact ⟨rfl, rfl, rfl⟩⟩
          · rw [Ren.at_ne φ (by omega)] at hb; exact hb
          · by_cases e : j = n0 + i
            · subst e; rw [Ren.at_same] at hb; cases hb; exact .inl (Nat.le_refl _)
            · rw [Ren.at_ne φ e] at hb; exact .inr ⟨j, hb, hl⟩
          · rw [hw1, Array.getElem?_push_lt hb, Array.getElem?_eq_getElem hb]
        unfold Oper.wp
        rw [e1]
        rw [← hw1]
        refine ih k _ _ _ w1 hnext (h.next d hr hle (StepM.trans h.step hst (Nat.le_refl _)) h.km (preSame hne) h.big (fun j hj hn => ?_) ?_)
        · have : j ≠ i := fun e => hn (by rw [LD_set]; exact .inl ⟨e, by rw [h.size]; exact hin⟩)
          rw [Ren.at_ne φ (by omega)]
          exact h.non j hj (hset j hn)
        · rw [g3]; exact Mk.VR g2 (Ren.at_same ..)
      | eff q =>
        obtain ⟨hq, he, hh⟩ := d.heff i o q hr.ho hk
        have hqk : q = k := by
          have h1 : ¬ q < k := fun hlt => hr.no (by rw [← he]; exact (h.pre q hq).2 hlt)
          rcases Nat.lt_or_ge k q with h2 | h2
          · have ha := d.hord k q h2 hq
            rw [he] at ha
            have := (h.pre k (by omega)).1 (anc0 _ ha)
            omega
          · omega
        subst hqk
        have hrI : HR φ (d.I q).get (d.I q).n w := by
          rw [d.hIn q hq]
          refine ⟨h.step.hr.bnd, fun id cs hc => ?_, h.step.hr.lt, fun id j b hi hj hl ht => ?_, fun id b hi => ?_⟩
          · by_cases hp : d.pend (q + 1) id
            · rw [d.I_pend hq hp] at hc; cases hc
            · rw [d.I_not hq hp] at hc; exact h.step.hr.ro id cs hc
          · by_cases hp : d.pend (q + 1) id
            · rw [d.I_pend hq hp] at hl; exact hl.elim
            · by_cases hp' : d.pend (q + 1) j
              · rw [d.I_pend hq hp'] at ht; exact ht.elim
              · rw [d.I_not hq hp] at hl
                rw [d.I_not hq hp'] at ht
                exact h.step.hr.inj id j b hi hj hl ht
          · by_cases hp : d.pend (q + 1) id
            · rw [d.I_pend hq hp]; trivial
            · rw [d.I_not hq hp]; exact h.step.hr.row id b hi
        refine evEff_wp hX hC hh hrI hρ fun φ' v' w' hs hv => ?_
        have hst := eff_step d hq h.step.hr h.big hs
        have hle' := hs.le
        rw [d.hIn q hq] at hle'
        refine ih (q + 1) φ' _ _ w' hnext (h.next d hr hs.ext (StepM.trans h.step hst (Nat.le_refl _)) (by omega) (fun q' hq' => ?_) (by have := h.big; omega) (fun j hj hn => ?_) hv)
        · rw [LD_set, h.pre q' hq']
          constructor
          · rintro (⟨h1, -⟩ | h1)
            · have : q' = q := by
                have k1 := d.he q' hq'
                rw [h1, hk] at k1
                cases k1
                rfl
              omega
            · omega
          · intro hlt
            by_cases e : q' = q
            · subst e; exact .inl ⟨he, by rw [h.size]; exact hin⟩
            · exact .inr (by omega)
        · have hnone := h.non j hj (hset j hn)
          cases hφ' : φ' (n0 + j) with
          | none => rfl
          | some b =>
            have := hs.old (n0 + j) b (by rw [d.hIn q hq]; have := h.big; omega) hφ'
            rw [hnone] at this
            cases this
    · obtain ⟨hk, hv⟩ := d.hskip i o hr.ho hwf
      have hne := kindNe (fun q => by rw [hk]; simp)
      exact ih k φ _ _ w hnext (h.next d hr φ.le_refl h.step h.km (preSame hne) h.big (fun j hj hn => h.non j hj (hset j hn)) (by rw [hv]; exact VR.undef))
end
end Go.Proofs.YtjkifbkehochoaaGreatDoor.Ev
namespace Go.Proofs.YtjkifbkehochoaaGreatDoor.Ev
noncomputable def allB {α : Type} (f : α → Bool) (l : List α) : Bool := List.rec (motive := fun _ => Bool) true (fun x _ ih => match f x with | true => ih | false => false) l
theorem allB_spec {α : Type} {f : α → Bool} : ∀ {l : List α}, allB f l = true → ∀ x ∈ l, f x = true
  | [], _, x, hx => by cases hx
  | y :: l, h, x, hx => by
    replace h : (match f y with | true => allB f l | false => false) = true := h
    split at h
    · rename_i hy
      rcases List.mem_cons.1 hx with rfl | hx
      · exact hy
      · exact allB_spec h x hx
    · cases h
noncomputable def allI {α : Type} (f : Nat → α → Bool) (l : List α) : Nat → Bool := List.rec (motive := fun _ => Nat → Bool) (fun _ => true) (fun x _ ih i => match f i x with | true => ih (Nat.add i 1) | false => false) l
theorem allI_spec {α : Type} {f : Nat → α → Bool} : ∀ {l : List α} {i : Nat}, allI f l i = true → ∀ (j : Nat) x, l[j]? = some x → f (i + j) x = true
  | [], i, _, j, x, hx => by simp at hx
  | y :: l, i, h, j, x, hx => by
    replace h : (match f i y with | true => allI f l (i + 1) | false => false) = true := h
    split at h
    · rename_i hy
      cases j with
      | zero => simp at hx; subst hx; exact hy
      | succ j =>
        have := allI_spec h j x (by simpa using hx)
        rw [show i + (j + 1) = i + 1 + j by omega]; exact this
    · cases h
noncomputable def nthN (A : List Nat) (i : Nat) : Nat := match nth A i with
  | some a => a
  | none => 0
noncomputable def bits (A : List Nat) (i j : Nat) : Bool := Nat.testBit (nthN A i) j
noncomputable def orE (A : List Nat) (l : List Edge) : Nat := List.rec (motive := fun _ => Nat) 0 (fun x _ ih => match Region.binds .any x with
  | true => Nat.lor (Nat.lor (Nat.pow 2 x.on) (nthN A x.on)) ih
  | false => ih) l
theorem orE_spec {A : List Nat} {j : Nat} : ∀ {l : List Edge}, Nat.testBit (orE A l) j = true → ∃ x ∈ l, Region.binds .any x = true ∧ (x.on = j ∨ bits A x.on j = true)
  | [], h => by
    replace h : Nat.testBit 0 j = true := h
    simp at h
  | x :: l, h => by
    replace h : Nat.testBit (match Region.binds .any x with | true => Nat.lor (Nat.lor (Nat.pow 2 x.on) (nthN A x.on)) (orE A l) | false => orE A l) j = true := h
    split at h
    · rename_i hb
      replace h : Nat.testBit ((2 ^ x.on ||| nthN A x.on) ||| orE A l) j = true := h
      rw [Nat.testBit_or, Nat.testBit_or, Bool.or_eq_true, Bool.or_eq_true] at h
      rcases h with (h | h) | h
      · rw [Nat.testBit_two_pow] at h
        exact ⟨x, List.mem_cons_self .., hb, .inl (of_decide_eq_true h)⟩
      · exact ⟨x, List.mem_cons_self .., hb, .inr h⟩
      · obtain ⟨y, h1, h2⟩ := orE_spec h
        exact ⟨y, List.mem_cons_of_mem _ h1, h2⟩
    · obtain ⟨y, h1, h2⟩ := orE_spec h
      exact ⟨y, List.mem_cons_of_mem _ h1, h2⟩
noncomputable def snoc (l : List Nat) (a : Nat) : List Nat := List.rec (motive := fun _ => List Nat) [a] (fun x _ ih => x :: ih) l
noncomputable def masks (ops : List Oper) : List Nat → List Nat := List.rec (motive := fun _ => List Nat → List Nat) (fun A => A) (fun o _ ih A => ih (snoc A (orE A o.after.toList))) ops
noncomputable def tmpsOf (o : Oper) : List Nat := o.op.operands.toList.filterMap fun | .tmp t => some t | _ => none
noncomputable def memN (t : Nat) (l : List Nat) : Bool := List.rec (motive := fun _ => Bool) false (fun x _ ih => match Nat.beq t x with | true => true | false => ih) l
theorem memN_spec {t : Nat} : ∀ {l : List Nat}, memN t l = true → t ∈ l
  | [], h => by cases h
  | x :: l, h => by
    replace h : (match Nat.beq t x with | true => true | false => memN t l) = true := h
    split at h
    · rename_i hb; rw [Nat.eq_of_beq_eq_true hb]; exact List.mem_cons_self ..
    · exact List.mem_cons_of_mem _ (memN_spec h)
/-- what holds of the text of a region -/
noncomputable def statOK (ops : List Oper) (A : List Nat) : Bool :=
  allI (fun i o => Nat.beq (nthN A i) (orE A o.after.toList) &&
    allB (fun x => !(Region.binds .any x) || Nat.ble (Nat.add x.on 1) i) o.after.toList &&
    (match o.dst with
      | none => true
      | some d => allI (fun j p => Nat.beq i j || (match p.dst with | some d' => !(Nat.beq d d') | none => true)) ops 0) &&
    allB (fun t => allI (fun j p => match p.dst with
      | some d => !(Nat.beq d t) || ((Nat.ble i j || bits A i j) && (Nat.ble j i || bits A j i))
      | none => true) ops 0) (tmpsOf o)) ops 0
structure SOK (ops : Array Oper) (A : List Nat) : Prop where
  mask : ∀ (i : Nat) (o : Oper), ops[i]? = some o → nthN A i = orE A o.after.toList
  edge : ∀ (i : Nat) (o : Oper), ops[i]? = some o → ∀ x ∈ o.after, Region.binds .any x = true → x.on < i
  dst : ∀ (i j : Nat) (oi oj : Oper) d, ops[i]? = some oi → ops[j]? = some oj → oi.dst = some d → oj.dst = some d → i = j
  read : ∀ (i j : Nat) (oi oj : Oper) t, ops[i]? = some oi → ops[j]? = some oj → t ∈ tmpsOf oi → oj.dst = some t → (j < i → bits A i j = true) ∧ (i < j → bits A j i = true)
theorem SOK.of {ops : Array Oper} {A : List Nat} (h : statOK ops.toList A = true) : SOK ops A := by
  have key : ∀ (i : Nat) (o : Oper), ops[i]? = some o → _ := fun i o ho => allI_spec h i o (by simpa using ho)
  simp only [Nat.zero_add, Bool.and_eq_true] at key
  refine ⟨fun i o ho => Nat.eq_of_beq_eq_true (key i o ho).1.1.1, fun i o ho x hx hb => ?_, fun i j oi oj d hi hj h1 h2 => ?_, fun i j oi oj t hi hj ht hd => ?_⟩
  · have := allB_spec (key i o ho).1.1.2 x (by simpa using hx)
    rw [hb] at this
    simp only [Bool.not_true, Bool.false_or] at this
    exact Nat.le_of_ble_eq_true this
  · have := (key i oi hi).1.2
    rw [h1] at this
    have := allI_spec this j oj (by simpa using hj)
    simp only [Nat.zero_add, h2, Nat.beq_refl, Bool.not_true, Bool.or_false] at this
    exact Nat.eq_of_beq_eq_true this
  · have := allB_spec (key i oi hi).2 t ht
    have := allI_spec this j oj (by simpa using hj)
    simp only [Nat.zero_add, hd, Nat.beq_refl, Bool.not_true, Bool.false_or, Bool.and_eq_true, Bool.or_eq_true] at this
    refine ⟨fun hlt => this.1.resolve_left fun hb => ?_, fun hlt => this.2.resolve_left fun hb => ?_⟩
    · have := Nat.le_of_ble_eq_true hb; omega
    · have := Nat.le_of_ble_eq_true hb; omega
theorem SOK.anc {ops : Array Oper} {A : List Nat} (h : SOK ops A) (i : Nat) (o : Oper) (ho : ops[i]? = some o) (j : Nat) (hj : bits A i j = true) : ∃ x ∈ o.after, Region.binds .any x = true ∧ (x.on = j ∨ bits A x.on j = true) := by
  unfold bits at hj
  rw [h.mask i o ho] at hj
  obtain ⟨x, h1, h2⟩ := orE_spec hj
  exact ⟨x, by simpa using h1, h2⟩
theorem SOK.lt {ops : Array Oper} {A : List Nat} (h : SOK ops A) : ∀ (i : Nat) (o : Oper), ops[i]? = some o → ∀ j, bits A i j = true → j < i := by
  intro i
  induction i using Nat.strongRecOn with
  | _ i ih =>
    intro o ho j hj
    obtain ⟨x, h1, h2, h3⟩ := h.anc i o ho j hj
    have hlt := h.edge i o ho x h1 h2
    rcases h3 with rfl | h3
    · exact hlt
    · have hsz : x.on < ops.size := by have := (Array.getElem?_eq_some_iff.1 ho).1; omega
      have := ih x.on hlt _ (Array.getElem?_eq_getElem hsz) j h3
      omega
noncomputable def upd {α : Type} (f : Nat → α) (i : Nat) (x : α) : Nat → α := fun j => match Nat.beq j i with
  | true => x
  | false => f j
theorem upd_same {α : Type} (f : Nat → α) (i : Nat) (x : α) : upd f i x i = x := by unfold upd; rw [Nat.beq_refl]
theorem upd_ne {α : Type} (f : Nat → α) {i j : Nat} (x : α) (h : j ≠ i) : upd f i x j = f j := by
  unfold upd
  cases hb : Nat.beq j i with
  | true => exact absurd (Nat.eq_of_beq_eq_true hb) h
  | false => rfl
noncomputable def puts (n0 : Nat) (l : List (Nat × Blk)) (h : Hp) : Hp := List.rec (motive := fun _ => Hp) h (fun p _ ih => ih.put (Nat.add n0 p.1) p.2) l
theorem puts_n (n0 : Nat) (h : Hp) : ∀ l, (puts n0 l h).n = h.n
  | [] => rfl
  | p :: l => puts_n n0 h l
theorem puts_none {n0 : Nat} {h : Hp} {id : Nat} : ∀ {l : List (Nat × Blk)}, (∀ p ∈ l, n0 + p.1 < 65536) → (∀ p ∈ l, id ≠ n0 + p.1) → (puts n0 l h).get id = h.get id
  | [], _, _ => rfl
  | p :: l, hb, hn => by
    show ((puts n0 l h).put (n0 + p.1) p.2).get id = _
    rw [Hp.get_put _ _ (hb p (List.mem_cons_self ..)), if_neg (hn p (List.mem_cons_self ..))]
    exact puts_none (fun q hq => hb q (List.mem_cons_of_mem _ hq)) fun q hq => hn q (List.mem_cons_of_mem _ hq)
theorem puts_some {n0 : Nat} {h : Hp} {j : Nat} {B : Blk} : ∀ {l : List (Nat × Blk)}, (∀ p ∈ l, n0 + p.1 < 65536) → (∀ p ∈ l, p.1 = j → p.2 = B) → (j, B) ∈ l → (puts n0 l h).get (n0 + j) = some B
  | [], _, _, hm => by cases hm
  | p :: l, hb, hf, hm => by
    show ((puts n0 l h).put (n0 + p.1) p.2).get (n0 + j) = _
    rw [Hp.get_put _ _ (hb p (List.mem_cons_self ..))]
    by_cases e : p.1 = j
    · rw [if_pos (by omega), hf p (List.mem_cons_self ..) e]
    · rw [if_neg (by omega)]
      refine puts_some (fun q hq => hb q (List.mem_cons_of_mem _ hq)) (fun q hq => hf q (List.mem_cons_of_mem _ hq)) ?_
      rcases List.mem_cons.1 hm with h1 | h1
      · exact absurd (by rw [← h1]) e
      · exact h1
/-- does an operation look into memory? -/
noncomputable def isL (o : Oper) : Bool := match o.op with
  | .load _ _ | .lookup _ _ _ _ | .convert _ _ _ | .call _ => true
  | .binOp op _ _ _ _ => match op with
    | .eql | .neq => true
    | _ => false
  | _ => false
theorem evV_free {P : Program} {C C' : Nat → Option Blk} {ρ : Operand → Option Value} {o : Oper} (h : isL o = false) : evV P C ρ o = evV P C' ρ o := by
  obtain ⟨dst, op, ty, pos, after, guard⟩ := o
  cases op <;> first | rfl | (cases h; done) | skip
  rename_i op t x y yt
  have hb : ∀ a b, binV P C op t x y a b = binV P C' op t x y a b := fun a b => by
    unfold binV
    cases op <;> first | (cases h; done) | (split <;> rfl)
  show (ob (ρ x) fun a => ob (ρ y) fun b => binV P C op t x y a b) = (ob (ρ x) fun a => ob (ρ y) fun b => binV P C' op t x y a b)
  simp only [hb]
end Go.Proofs.YtjkifbkehochoaaGreatDoor.Ev
namespace Go.Proofs.YtjkifbkehochoaaGreatDoor.Ev
structure DA where
  T : TT
  h : Hp
  q : Nat
  pend : List (Nat × Blk)
  es : List Nat
  val : Nat → Value
  rho : Nat → Operand → Option Value
  want : Nat → Bool
  kind : Nat → Knd
  e : Nat → Nat
  V : Nat → Hp
  I : Nat → Hp
  ins : Nat → Nat → Bool
noncomputable def opndR (s : St) (T : TT) (o : Oper) (x : Operand) : Option Value := match x with
  | .tmp t => match memN t (tmpsOf o) with
    | true => opnd ⟨T, s.k, s.h, s.D⟩ (.tmp t)
    | false => none
  | x => opnd s x
noncomputable def wantD (A : List Nat) (ops : List Oper) (val : Nat → Value) (i : Nat) (o : Oper) : Option Bool := match o.guard with
  | none => some true
  | some (g, b) => match bits A i g, nth ops g with
    | true, some p => match p.dst with
      | some _ => some (match val g with | .bool c => c == b | _ => false)
      | none => none
    | _, _ => none
noncomputable def putT (k : Nat) (T : TT) (d : Option Tmp) (v : Value) : Option TT := match d with
  | none => some T
  | some d => match Nat.ble (Nat.add d 1) k with
    | true => some (TT.set T d v)
    | false => none
noncomputable def DA.core (z : DA) (i : Nat) (T : TT) (ρ : Operand → Option Value) (w : Bool) (kd : Knd) (v : Value) : DA :=
  ⟨T, z.h, z.q, z.pend, z.es, upd z.val i v, upd z.rho i ρ, upd z.want i w, upd z.kind i kd, z.e, z.V, z.I, z.ins⟩
noncomputable def liveB (B : Blk) : Bool := match B with
  | .cells _ _ _ _ | .obj _ => true
  | _ => false
noncomputable def isAlloc (k : Knd) : Bool := match k with
  | .alloc _ _ => true
  | _ => false
noncomputable def DA.acts (z : DA) (A : List Nat) (i : Nat) (I h : Hp) : DA :=
  ⟨z.T, h, Nat.add z.q 1, z.pend.filter fun p => !(bits A i p.1), i :: z.es, z.val, z.rho, z.want, z.kind, upd z.e z.q i, upd z.V (Nat.add z.q 1) h, upd z.I z.q I, upd z.ins (Nat.add z.q 1) fun j => z.ins z.q j || (bits A i j && isAlloc (z.kind j))⟩
noncomputable def DA.holds (z : DA) (i : Nat) (B : Blk) : DA := ⟨z.T, z.h, z.q, (i, B) :: z.pend, z.es, z.val, z.rho, z.want, z.kind, z.e, z.V, z.I, z.ins⟩
noncomputable def stepD (P : Program) (X : FuncId → List Value → Option Value) (call : CallF) (A : List Nat) (ops : List Oper) (s : St) (n0 : Nat) (i : Nat) (o : Oper) (z : DA) : Option DA :=
  match wantD A ops z.val i o with
  | none => none
  | some false => ob (putT s.k z.T o.dst undef) fun T => some (z.core i T (opndR s z.T o) false .skip undef)
  | some true => match evV P (puts n0 z.pend z.h).get (opndR s z.T o) o with
    | some v => ob (putT s.k z.T o.dst v) fun T => some (z.core i T (opndR s z.T o) true .val v)
    | none => match evA P (opndR s z.T o) o with
      | some (B, mk) => match mk.ok && liveB B with
        | true => ob (putT s.k z.T o.dst (mk.val (Nat.add n0 i))) fun T => some ((z.core i T (opndR s z.T o) true (.alloc B mk) (mk.val (Nat.add n0 i))).holds i B)
        | false => none
      | none => match allB (fun e => bits A i e) z.es with
        | true => ob (evEff P X call (opndR s z.T o) o (puts n0 (z.pend.filter fun p => bits A i p.1) z.h)) fun r => ob (putT s.k z.T o.dst r.1) fun T =>
            some ((z.acts A i (puts n0 (z.pend.filter fun p => bits A i p.1) z.h) r.2).core i T (opndR s z.T o) true (.eff z.q) r.1)
        | false => none
/-- what concerns values -/
structure CI (ops : Array Oper) (s : St) (A : List Nat) (z : DA) (i : Nat) : Prop where
  cT : ∀ t v, t < s.k → z.T.get t = some v → (∃ (j : Nat) (oj : Oper), j < i ∧ ops[j]? = some oj ∧ oj.dst = some t ∧ v = z.val j) ∨ ((∀ (j : Nat) (oj : Oper), j < i → ops[j]? = some oj → oj.dst ≠ some t) ∧ s.T.get t = some v)
  cd : ∀ (j : Nat) (oj : Oper) d, j < i → ops[j]? = some oj → oj.dst = some d → d < s.k
  cr : ∀ (j : Nat) (o : Oper) t v, j < i → ops[j]? = some o → z.rho j (.tmp t) = some v → t < s.k ∧ t ∈ tmpsOf o ∧ ((∃ (j' : Nat) (oj : Oper), j' < j ∧ ops[j']? = some oj ∧ oj.dst = some t ∧ v = z.val j') ∨ ((∀ (j' : Nat) (oj : Oper), j' < j → ops[j']? = some oj → oj.dst ≠ some t) ∧ s.T.get t = some v))
  cr' : ∀ (j : Nat) (x : Operand) v, j < i → (∀ t, x ≠ .tmp t) → z.rho j x = some v → opnd s x = some v
  cw : ∀ (j : Nat) (o : Oper), j < i → ops[j]? = some o → (o.guard = none ∧ z.want j = true) ∨ ∃ (g : Nat) (b : Bool) (p : Oper) (d : Tmp), o.guard = some (g, b) ∧ ops[g]? = some p ∧ p.dst = some d ∧ bits A j g = true ∧ z.want j = (match z.val g with | .bool c => c == b | _ => false)
  cs : ∀ j, j < i → z.want j = false → z.kind j = .skip ∧ z.val j = undef
  ck : ∀ j, j < i → z.want j = true → z.kind j ≠ .skip
  c0 : ∀ (j : Nat) (x : Operand) v, i ≤ j → z.rho j x = some v → False
theorem putT_run {k : Nat} {T T' : TT} {d : Option Tmp} {v : Value} (hk : k ≤ 4096) (h : putT k T d v = some T') : (∀ t, d = some t → t < k) ∧ ∀ t, t < k → T'.get t = if d = some t then some v else T.get t := by
  unfold putT at h
  split at h
  · cases h
    exact ⟨fun t ht => (nomatch ht), fun t _ => (if_neg (fun he => nomatch he)).symm⟩
  · rename_i d
    split at h
    · rename_i hle
      cases h
      have hd : d < k := Nat.le_of_ble_eq_true hle
      refine ⟨fun t ht => by cases ht; exact hd, fun t ht => ?_⟩
      by_cases e : d = t
      · subst e; rw [if_pos rfl]; exact TT.get_same _ _ _ (Nat.lt_of_lt_of_le hd hk)
      · rw [if_neg (fun he => e (by cases he; rfl))]
        exact TT.get_ne _ _ _ _ (Nat.lt_of_lt_of_le hd hk) (Nat.lt_of_lt_of_le ht hk) e
    · cases h
theorem CI.core {ops : Array Oper} {s : St} {A : List Nat} (hS : SOK ops A) (hk : s.k ≤ 4096) {z : DA} {i : Nat} (h : CI ops s A z i) {o : Oper} (ho : ops[i]? = some o) {T : TT} {w : Bool} {kd : Knd} {v : Value} (hw : wantD A ops.toList z.val i o = some w) (hp : putT s.k z.T o.dst v = some T)
    (h0 : w = false → kd = .skip ∧ v = undef) (h1 : w = true → kd ≠ .skip) : CI ops s A (z.core i T (opndR s z.T o) w kd v) (i + 1) := by
  obtain ⟨p1, p2⟩ := putT_run hk hp
  have vn : ∀ j, j < i → (z.core i T (opndR s z.T o) w kd v).val j = z.val j := fun j hj => upd_ne _ _ (by omega)
  have vs : (z.core i T (opndR s z.T o) w kd v).val i = v := upd_same _ _ _
  have rn : ∀ j, j < i → (z.core i T (opndR s z.T o) w kd v).rho j = z.rho j := fun j hj => upd_ne _ _ (by omega)
  have rs : (z.core i T (opndR s z.T o) w kd v).rho i = opndR s z.T o := upd_same _ _ _
  have wn : ∀ j, j < i → (z.core i T (opndR s z.T o) w kd v).want j = z.want j := fun j hj => upd_ne _ _ (by omega)
  have ws : (z.core i T (opndR s z.T o) w kd v).want i = w := upd_same _ _ _
  have kn : ∀ j, j < i → (z.core i T (opndR s z.T o) w kd v).kind j = z.kind j := fun j hj => upd_ne _ _ (by omega)
  have ks : (z.core i T (opndR s z.T o) w kd v).kind i = kd := upd_same _ _ _
  refine ⟨fun t u ht hu => ?_, fun j oj d hj hoj hd => ?_, fun j oj t u hj hoj hr => ?_, fun j x u hj hx hr => ?_, fun j oj hj hoj => ?_, fun j hj hw' => ?_, fun j hj hw' => ?_, fun j x u hj hr => ?_⟩
  · replace hu : T.get t = some u := hu
    rw [p2 t ht] at hu
    split at hu
    · rename_i hd
      cases hu
      exact .inl ⟨i, o, by omega, ho, hd, vs.symm⟩
    · rename_i hd
      rcases h.cT t u ht hu with ⟨j, oj, a1, a2, a3, a4⟩ | ⟨a1, a2⟩
      · exact .inl ⟨j, oj, by omega, a2, a3, by rw [vn j a1]; exact a4⟩
      · refine .inr ⟨fun j oj hj hoj => ?_, a2⟩
        by_cases e : j = i
        · subst e; rw [ho] at hoj; cases hoj; exact hd
        · exact a1 j oj (by omega) hoj
  · by_cases e : j = i
    · subst e; rw [ho] at hoj; cases hoj; exact p1 d hd
    · exact h.cd j oj d (by omega) hoj hd
  · by_cases e : j = i
    · subst e
      rw [ho] at hoj
      cases hoj
      rw [rs] at hr
      unfold opndR at hr
      simp only at hr
      split at hr
      · rename_i hm
        unfold opnd at hr
        simp only at hr
        split at hr
        · rename_i hle
          have hle : t < s.k := Nat.le_of_ble_eq_true hle
          refine ⟨hle, memN_spec hm, ?_⟩
          rcases h.cT t u hle hr with ⟨j', oj, a1, a2, a3, a4⟩ | ⟨a1, a2⟩
          · exact .inl ⟨j', oj, a1, a2, a3, by rw [vn j' a1]; exact a4⟩
          · exact .inr ⟨a1, a2⟩
        · cases hr
      · cases hr
    · rw [rn j (by omega)] at hr
      obtain ⟨b1, b2, b3⟩ := h.cr j oj t u (by omega) hoj hr
      refine ⟨b1, b2, ?_⟩
      rcases b3 with ⟨j', oj', a1, a2, a3, a4⟩ | b3
      · exact .inl ⟨j', oj', a1, a2, a3, by rw [vn j' (by omega)]; exact a4⟩
      · exact .inr b3
  · by_cases e : j = i
    · subst e
      rw [rs] at hr
      cases x with
      | tmp t => exact absurd rfl (hx t)
      | const c => exact hr
      | func f => exact hr
      | global g => exact hr
    · rw [rn j (by omega)] at hr
      exact h.cr' j x u (by omega) hx hr
  · by_cases e : j = i
    · subst e
      rw [ho] at hoj
      cases hoj
      rw [ws]
      unfold wantD at hw
      split at hw
      · rename_i hg; cases hw; exact .inl ⟨hg, rfl⟩
      · rename_i g b hg
        split at hw
        · rename_i p hb hp'
          rw [nth_eq] at hp'
          split at hw
          · rename_i d hd
            cases hw
            refine .inr ⟨g, b, p, d, hg, by simpa using hp', hd, hb, ?_⟩
            rw [vn g (hS.lt j o ho g hb)]
          · cases hw
        · cases hw
    · rw [wn j (by omega)]
      rcases h.cw j oj (by omega) hoj with h2 | ⟨g, b, p, d, a1, a2, a3, a4, a5⟩
      · exact .inl h2
      · exact .inr ⟨g, b, p, d, a1, a2, a3, a4, by rw [vn g (by have := hS.lt j oj hoj g a4; omega)]; exact a5⟩
  · by_cases e : j = i
    · subst e; rw [ws] at hw'; rw [ks, vs]; exact h0 hw'
    · rw [wn j (by omega)] at hw'; rw [kn j (by omega), vn j (by omega)]; exact h.cs j (by omega) hw'
  · by_cases e : j = i
    · subst e; rw [ws] at hw'; rw [ks]; exact h1 hw'
    · rw [wn j (by omega)] at hw'; rw [kn j (by omega)]; exact h.ck j (by omega) hw'
  · refine h.c0 j x u (by omega) ?_
    rw [← hr]
    exact (congrFun (upd_ne z.rho (opndR s z.T o) (show j ≠ i by omega)) x).symm
end Go.Proofs.YtjkifbkehochoaaGreatDoor.Ev
namespace Go.Proofs.YtjkifbkehochoaaGreatDoor.Ev
/-- what concerns blocks -/
structure EI (P : Program) (X : FuncId → List Value → Option Value) (call : CallF) (ops : Array Oper) (n0 : Nat) (h0 : Hp) (A : List Nat) (z : DA) (i : Nat) : Prop where
  a1 : ∀ (j : Nat) (o : Oper) B mk, j < i → ops[j]? = some o → z.kind j = .alloc B mk → evA P (z.rho j) o = some (B, mk) ∧ mk.ok = true ∧ z.val j = mk.val (n0 + j)
  al : ∀ j B mk, z.kind j = .alloc B mk → Blk.live (some B)
  v1 : ∀ (j : Nat) (o : Oper), j < i → ops[j]? = some o → z.kind j = .val → ∃ C, evV P C (z.rho j) o = some (z.val j)
  k0 : ∀ j, i ≤ j → z.kind j = .skip
  e1 : ∀ (j : Nat) (o : Oper) q, j < i → ops[j]? = some o → z.kind j = .eff q → q < z.q ∧ z.e q = j ∧ evEff P X call (z.rho j) o (z.I q) = some (z.val j, z.V (q + 1))
  e2 : ∀ q, q < z.q → z.kind (z.e q) = .eff q ∧ z.e q < i
  es : ∀ q, q < z.q → z.e q ∈ z.es
  e3 : ∀ q q', q < q' → q' < z.q → bits A (z.e q') (z.e q) = true
  vq : z.V z.q = z.h
  v0 : z.V 0 = h0
  i0 : ∀ j, z.ins 0 j = false
  ia : ∀ q j, q < z.q → z.ins (q + 1) j = true → z.ins q j = true ∨ bits A (z.e q) j = true
  im : ∀ q j, q < z.q → z.ins q j = true → z.ins (q + 1) j = true
  inn : ∀ q, q < z.q → (z.I q).n = (z.V q).n
  ea : ∀ q j B mk, q < z.q → z.kind j = .alloc B mk → z.ins q j = false → z.ins (q + 1) j = true → (z.I q).get (n0 + j) = some B
  eb : ∀ q id, q < z.q → (∀ j, id = n0 + j → z.ins (q + 1) j = true → z.ins q j = true) → (z.I q).get id = (z.V q).get id
  p1 : ∀ j B, (j, B) ∈ z.pend ↔ (∃ mk, z.kind j = .alloc B mk) ∧ z.ins z.q j = false
  p2 : ∀ q j, q ≤ z.q → z.ins q j = true → ∃ B mk, z.kind j = .alloc B mk
section
variable {P : Program} {X : FuncId → List Value → Option Value} {call : CallF} {ops : Array Oper} {n0 : Nat} {h0 : Hp} {A : List Nat}
/-- an operation that touches no block -/
theorem EI.core {z : DA} {i : Nat} (h : EI P X call ops n0 h0 A z i) {T : TT} {ρ : Operand → Option Value} {w : Bool} {kd : Knd} {v : Value} {o : Oper} (ho : ops[i]? = some o) (hk : kd = .skip ∨ (kd = .val ∧ ∃ C, evV P C ρ o = some v)) :
    EI P X call ops n0 h0 A (z.core i T ρ w kd v) (i + 1) := by
  have vn : ∀ j, j ≠ i → (z.core i T ρ w kd v).val j = z.val j := fun j hj => upd_ne _ _ hj
  have vs : (z.core i T ρ w kd v).val i = v := upd_same _ _ _
  have rn : ∀ j, j ≠ i → (z.core i T ρ w kd v).rho j = z.rho j := fun j hj => upd_ne _ _ hj
  have rs : (z.core i T ρ w kd v).rho i = ρ := upd_same _ _ _
  have kn : ∀ j, j ≠ i → (z.core i T ρ w kd v).kind j = z.kind j := fun j hj => upd_ne _ _ hj
  have ks : (z.core i T ρ w kd v).kind i = kd := upd_same _ _ _
  have kall : ∀ j B mk, (z.core i T ρ w kd v).kind j = .alloc B mk ↔ z.kind j = .alloc B mk := fun j B mk => by
    by_cases e : j = i
    · subst e
      rw [ks, h.k0 j (Nat.le_refl _)]
      rcases hk with rfl | ⟨rfl, -⟩ <;> simp
    · rw [kn j e]
  refine ⟨fun j oj B mk hj hoj hkd => ?_, fun j B mk hkd => h.al j B mk ((kall j B mk).1 hkd), fun j oj hj hoj hkd => ?_, fun j hj => ?_, fun j oj q hj hoj hkd => ?_, fun q hq => ?_, h.es, h.e3, h.vq, h.v0, h.i0, h.ia, h.im, h.inn,
    fun q j B mk hq hkd => h.ea q j B mk hq ((kall j B mk).1 hkd), h.eb, fun j B => ?_, fun q j hq hi => ?_⟩
  · have hkd2 := (kall j B mk).1 hkd
    have e : j ≠ i := fun e => by rw [e, h.k0 i (Nat.le_refl _)] at hkd2; cases hkd2
    rw [rn j e, vn j e]
    exact h.a1 j oj B mk (by omega) hoj hkd2
  · by_cases e : j = i
    · subst e
      rw [ho] at hoj
      cases hoj
      rw [ks] at hkd
      rcases hk with rfl | ⟨-, C, hC⟩
      · cases hkd
      · exact ⟨C, by rw [rs, vs]; exact hC⟩
    · rw [kn j e] at hkd
      rw [rn j e, vn j e]
      exact h.v1 j oj (by omega) hoj hkd
  · rw [kn j (by omega)]; exact h.k0 j (by omega)
  · by_cases e : j = i
    · subst e
      rw [ks] at hkd
      rcases hk with rfl | ⟨rfl, -⟩ <;> cases hkd
    · rw [kn j e] at hkd
      rw [rn j e, vn j e]
      exact h.e1 j oj q (by omega) hoj hkd
  · obtain ⟨a, b⟩ := h.e2 q hq
    exact ⟨by show (z.core i T ρ w kd v).kind (z.e q) = _; rw [kn _ (show z.e q ≠ i by omega)]; exact a, by show z.e q < i + 1; omega⟩
  · show (j, B) ∈ z.pend ↔ _
    rw [h.p1 j B]
    constructor
    · rintro ⟨⟨mk, a⟩, b⟩; exact ⟨⟨mk, (kall j B mk).2 a⟩, b⟩
    · rintro ⟨⟨mk, a⟩, b⟩; exact ⟨⟨mk, (kall j B mk).1 a⟩, b⟩
  · obtain ⟨B, mk, a⟩ := h.p2 q j hq hi
    exact ⟨B, mk, (kall j B mk).2 a⟩
/-- one that makes a block -/
theorem EI.alloc {z : DA} {i : Nat} (h : EI P X call ops n0 h0 A z i) {T : TT} {ρ : Operand → Option Value} {w : Bool} {B : Blk} {mk : Mk} {o : Oper} (ho : ops[i]? = some o) (hA : evA P ρ o = some (B, mk)) (hm : mk.ok = true) (hl : Blk.live (some B)) :
    EI P X call ops n0 h0 A ((z.core i T ρ w (.alloc B mk) (mk.val (n0 + i))).holds i B) (i + 1) := by
  obtain ⟨z', hz'⟩ : ∃ z', z' = (z.core i T ρ w (.alloc B mk) (mk.val (n0 + i))).holds i B := ⟨_, rfl⟩
  have vn : ∀ j, j ≠ i → z'.val j = z.val j := fun j hj => by rw [hz']; exact upd_ne _ _ hj
  have vs : z'.val i = mk.val (n0 + i) := by rw [hz']; exact upd_same _ _ _
  have rn : ∀ j, j ≠ i → z'.rho j = z.rho j := fun j hj => by rw [hz']; exact upd_ne _ _ hj
  have rs : z'.rho i = ρ := by rw [hz']; exact upd_same _ _ _
  have kn : ∀ j, j ≠ i → z'.kind j = z.kind j := fun j hj => by rw [hz']; exact upd_ne _ _ hj
  have ks : z'.kind i = .alloc B mk := by rw [hz']; exact upd_same _ _ _
  have noins : ∀ q, q ≤ z.q → z.ins q i = false := fun q hq => by
    cases hb : z.ins q i with
    | false => rfl
    | true =>
      obtain ⟨B', mk', a⟩ := h.p2 q i hq hb
      rw [h.k0 i (Nat.le_refl _)] at a
      cases a
  rw [← hz']
  have f1 : z'.q = z.q := by rw [hz']; rfl
  have f2 : z'.e = z.e := by rw [hz']; rfl
  have f3 : z'.V = z.V := by rw [hz']; rfl
  have f4 : z'.I = z.I := by rw [hz']; rfl
  have f5 : z'.ins = z.ins := by rw [hz']; rfl
  have f6 : z'.h = z.h := by rw [hz']; rfl
  have f7 : z'.es = z.es := by rw [hz']; rfl
  have f8 : z'.pend = (i, B) :: z.pend := by rw [hz']; rfl
  refine ⟨fun j oj B' mk' hj hoj hkd => ?_, fun j B' mk' hkd => ?_, fun j oj hj hoj hkd => ?_, fun j hj => ?_, fun j oj q hj hoj hkd => ?_, fun q hq => ?_, by rw [f1, f2, f7]; exact h.es, by rw [f1, f2]; exact h.e3, by rw [f1, f3, f6]; exact h.vq, by rw [f3]; exact h.v0, by rw [f5]; exact h.i0,
    by rw [f1, f2, f5]; exact h.ia, by rw [f1, f5]; exact h.im, by rw [f1, f3, f4]; exact h.inn, fun q j B' mk' hq hkd h1 h2 => ?_, by rw [f1, f3, f4, f5]; exact h.eb, fun j B' => ?_, fun q j hq hi => ?_⟩
  · by_cases e : j = i
    · subst e
      rw [ho] at hoj
      cases hoj
      rw [ks] at hkd
      cases hkd
      exact ⟨by rw [rs]; exact hA, hm, vs⟩
    · rw [kn j e] at hkd
      rw [rn j e, vn j e]
      exact h.a1 j oj B' mk' (by omega) hoj hkd
  · by_cases e : j = i
    · subst e; rw [ks] at hkd; cases hkd; exact hl
    · rw [kn j e] at hkd; exact h.al j B' mk' hkd
  · by_cases e : j = i
    · subst e; rw [ks] at hkd; cases hkd
    · rw [kn j e] at hkd
      rw [rn j e, vn j e]
      exact h.v1 j oj (by omega) hoj hkd
  · rw [kn j (by omega)]; exact h.k0 j (by omega)
  · by_cases e : j = i
    · subst e; rw [ks] at hkd; cases hkd
    · rw [kn j e] at hkd
      rw [rn j e, vn j e, f1, f2, f3, f4]
      exact h.e1 j oj q (by omega) hoj hkd
  · rw [f1] at hq
    obtain ⟨a, b⟩ := h.e2 q hq
    rw [f2]
    exact ⟨by rw [kn _ (show z.e q ≠ i by omega)]; exact a, by omega⟩
  · rw [f1] at hq
    rw [f5] at h1 h2
    by_cases e : j = i
    · subst e; rw [noins (q + 1) hq] at h2; cases h2
    · rw [kn j e] at hkd
      rw [f4]
      exact h.ea q j B' mk' hq hkd h1 h2
  · rw [f8, List.mem_cons, h.p1 j B', f5, f1]
    by_cases e : j = i
    · subst e
      rw [ks, h.k0 j (Nat.le_refl _)]
      constructor
      · rintro (a | ⟨⟨mk', a⟩, -⟩)
        · cases a; exact ⟨⟨mk, rfl⟩, noins _ (Nat.le_refl _)⟩
        · cases a
      · rintro ⟨⟨mk', a⟩, -⟩
        cases a
        exact .inl rfl
    · rw [kn j e]
      constructor
      · rintro (a | a)
        · cases a; exact absurd rfl e
        · exact a
      · exact .inr
  · rw [f1] at hq
    rw [f5] at hi
    obtain ⟨B', mk', a⟩ := h.p2 q j hq hi
    have e : j ≠ i := fun e => by subst e; rw [h.k0 j (Nat.le_refl _)] at a; cases a
    exact ⟨B', mk', by rw [kn j e]; exact a⟩
end
end Go.Proofs.YtjkifbkehochoaaGreatDoor.Ev
namespace Go.Proofs.YtjkifbkehochoaaGreatDoor.Ev
section
variable {P : Program} {X : FuncId → List Value → Option Value} {call : CallF} {ops : Array Oper} {n0 : Nat} {h0 : Hp} {A : List Nat}
/-- one that acts -/
theorem EI.acts {z : DA} {i : Nat} (h : EI P X call ops n0 h0 A z i) (hb : n0 + ops.size ≤ 65536) {T : TT} {ρ : Operand → Option Value} {w : Bool} {v : Value} {o : Oper} {I h' : Hp} (ho : ops[i]? = some o)
    (hI : I = puts n0 (z.pend.filter fun p => bits A i p.1) z.h) (he : evEff P X call ρ o I = some (v, h')) (hes : ∀ e ∈ z.es, bits A i e = true) :
    EI P X call ops n0 h0 A ((z.acts A i I h').core i T ρ w (.eff z.q) v) (i + 1) := by
  obtain ⟨z', hz'⟩ : ∃ z', z' = (z.acts A i I h').core i T ρ w (.eff z.q) v := ⟨_, rfl⟩
  have hin : i < ops.size := (Array.getElem?_eq_some_iff.1 ho).1
  have vn : ∀ j, j ≠ i → z'.val j = z.val j := fun j hj => by rw [hz']; exact upd_ne _ _ hj
  have vs : z'.val i = v := by rw [hz']; exact upd_same _ _ _
  have rn : ∀ j, j ≠ i → z'.rho j = z.rho j := fun j hj => by rw [hz']; exact upd_ne _ _ hj
  have rs : z'.rho i = ρ := by rw [hz']; exact upd_same _ _ _
  have kn : ∀ j, j ≠ i → z'.kind j = z.kind j := fun j hj => by rw [hz']; exact upd_ne _ _ hj
  have ks : z'.kind i = .eff z.q := by rw [hz']; exact upd_same _ _ _
  have f1 : z'.q = z.q + 1 := by rw [hz']; rfl
  have en : ∀ q, q ≠ z.q → z'.e q = z.e q := fun q hq => by rw [hz']; exact upd_ne _ _ hq
  have es : z'.e z.q = i := by rw [hz']; exact upd_same _ _ _
  have Vn : ∀ q, q ≠ z.q + 1 → z'.V q = z.V q := fun q hq => by rw [hz']; exact upd_ne _ _ hq
  have Vs : z'.V (z.q + 1) = h' := by rw [hz']; exact upd_same _ _ _
  have In : ∀ q, q ≠ z.q → z'.I q = z.I q := fun q hq => by rw [hz']; exact upd_ne _ _ hq
  have Is : z'.I z.q = I := by rw [hz']; exact upd_same _ _ _
  have nn : ∀ q, q ≠ z.q + 1 → z'.ins q = z.ins q := fun q hq => by rw [hz']; exact upd_ne _ _ hq
  have ns : ∀ j, z'.ins (z.q + 1) j = (z.ins z.q j || (bits A i j && isAlloc (z.kind j))) := fun j => by
    have : z'.ins (z.q + 1) = fun j => z.ins z.q j || (bits A i j && isAlloc (z.kind j)) := by rw [hz']; exact upd_same _ _ _
    rw [this]
  have f6 : z'.h = h' := by rw [hz']; rfl
  have f7 : z'.es = i :: z.es := by rw [hz']; rfl
  have f8 : z'.pend = z.pend.filter fun p => !(bits A i p.1) := by rw [hz']; rfl
  have kall : ∀ j B mk, z'.kind j = .alloc B mk ↔ z.kind j = .alloc B mk := fun j B mk => by
    by_cases e : j = i
    · subst e; rw [ks, h.k0 j (Nat.le_refl _)]; simp
    · rw [kn j e]
  have pl : ∀ j B, (j, B) ∈ z.pend → n0 + j < 65536 := fun j B hm => by
    obtain ⟨⟨mk, hk⟩, -⟩ := (h.p1 j B).1 hm
    have : j < i := by
      rcases Nat.lt_or_ge j i with h1 | h1
      · exact h1
      · rw [h.k0 j h1] at hk; cases hk
    omega
  have plf : ∀ p ∈ (z.pend.filter fun p => bits A i p.1), n0 + p.1 < 65536 := fun p hp => pl p.1 p.2 (List.mem_filter.1 hp).1
  have isA : ∀ {j B mk}, z.kind j = .alloc B mk → isAlloc (z.kind j) = true := fun {j B mk} hk => by rw [hk]; rfl
  rw [← hz']
  clear hz'
  refine ⟨fun j oj B mk hj hoj hkd => ?_, fun j B mk hkd => h.al j B mk ((kall j B mk).1 hkd), fun j oj hj hoj hkd => ?_, fun j hj => ?_, fun j oj q hj hoj hkd => ?_, fun q hq => ?_, fun q hq => ?_, fun q q' hlt hq => ?_, by rw [f1, Vs, f6], by rw [Vn 0 (by omega)]; exact h.v0,
    fun j => by rw [nn 0 (by omega)]; exact h.i0 j, fun q j hq hi => ?_, fun q j hq hi => ?_, fun q hq => ?_, fun q j B mk hq hkd h1 h2 => ?_, fun q id hq hi => ?_, fun j B => ?_, fun q j hq hi => ?_⟩
  · have hkd2 := (kall j B mk).1 hkd
    have e : j ≠ i := fun e => by rw [e, h.k0 i (Nat.le_refl _)] at hkd2; cases hkd2
    rw [rn j e, vn j e]
    exact h.a1 j oj B mk (by omega) hoj hkd2
  · have e : j ≠ i := fun e => by rw [e, ks] at hkd; cases hkd
    rw [kn j e] at hkd
    rw [rn j e, vn j e]
    exact h.v1 j oj (by omega) hoj hkd
  · rw [kn j (by omega)]; exact h.k0 j (by omega)
  · by_cases e : j = i
    · subst e
      rw [ks] at hkd
      cases hkd
      rw [ho] at hoj
      cases hoj
      rw [f1, es, rs, Is, vs, Vs]
      exact ⟨by omega, rfl, he⟩
    · rw [kn j e] at hkd
      obtain ⟨a, b, c⟩ := h.e1 j oj q (by omega) hoj hkd
      rw [f1, rn j e, vn j e, en q (by omega), In q (by omega), Vn (q + 1) (by omega)]
      exact ⟨by omega, b, c⟩
  · rw [f1] at hq
    by_cases e : q = z.q
    · subst e; rw [es, ks]; exact ⟨rfl, by omega⟩
    · obtain ⟨a, b⟩ := h.e2 q (by omega)
      rw [en q e, kn _ (by omega)]
      exact ⟨a, by omega⟩
  · rw [f1] at hq
    rw [f7]
    by_cases e : q = z.q
    · subst e; rw [es]; exact List.mem_cons_self ..
    · rw [en q e]; exact List.mem_cons_of_mem _ (h.es q (by omega))
  · rw [f1] at hq
    rw [en q (by omega)]
    by_cases e : q' = z.q
    · subst e; rw [es]; exact hes _ (h.es q hlt)
    · rw [en q' e]; exact h.e3 q q' hlt (by omega)
  · rw [f1] at hq
    rw [nn q (by omega)]
    by_cases e : q = z.q
    · subst e
      rw [ns] at hi
      rw [es]
      rcases Bool.or_eq_true_iff.1 hi with h1 | h1
      · exact .inl h1
      · exact .inr (Bool.and_eq_true_iff.1 h1).1
    · rw [nn _ (by omega)] at hi
      rw [en q e]
      exact h.ia q j (by omega) hi
  · rw [f1] at hq
    rw [nn q (by omega)] at hi
    by_cases e : q = z.q
    · subst e; rw [ns, hi, Bool.true_or]
    · rw [nn _ (by omega)]; exact h.im q j (by omega) hi
  · rw [f1] at hq
    rw [Vn q (by omega)]
    by_cases e : q = z.q
    · subst e; rw [Is, hI, puts_n, h.vq]
    · rw [In q e]; exact h.inn q (by omega)
  · rw [f1] at hq
    rw [nn q (by omega)] at h1
    have hkd := (kall j B mk).1 hkd
    by_cases e : q = z.q
    · subst e
      rw [ns, h1, Bool.false_or] at h2
      rw [Is, hI]
      refine puts_some plf (fun p hp hpj => ?_) (List.mem_filter.2 ⟨(h.p1 j B).2 ⟨⟨mk, hkd⟩, h1⟩, (Bool.and_eq_true_iff.1 h2).1⟩)
      obtain ⟨⟨mk', hk'⟩, -⟩ := (h.p1 p.1 p.2).1 (List.mem_filter.1 hp).1
      rw [hpj, hkd] at hk'
      cases hk'
      rfl
    · rw [nn _ (by omega)] at h2
      rw [In q e]
      exact h.ea q j B mk (by omega) hkd h1 h2
  · rw [f1] at hq
    rw [Vn q (by omega)]
    rw [nn q (by omega)] at hi
    by_cases e : q = z.q
    · subst e
      rw [Is, hI, h.vq]
      refine puts_none plf fun p hp hid => ?_
      obtain ⟨a, b⟩ := List.mem_filter.1 hp
      obtain ⟨⟨mk', hk'⟩, c⟩ := (h.p1 p.1 p.2).1 a
      have := hi p.1 hid (by rw [ns, isA hk', Bool.and_true]; rw [show bits A i p.1 = true from b, Bool.or_true])
      rw [c] at this
      cases this
    · rw [nn _ (by omega)] at hi
      rw [In q e]
      exact h.eb q id (by omega) hi
  · rw [f8, List.mem_filter, h.p1 j B, f1, ns]
    constructor
    · rintro ⟨⟨⟨mk, a⟩, b⟩, c⟩
      exact ⟨⟨mk, (kall j B mk).2 a⟩, by rw [b, Bool.false_or]; simp only [Bool.not_eq_true'] at c; rw [c]; rfl⟩
    · rintro ⟨⟨mk, a⟩, b⟩
      have a := (kall j B mk).1 a
      rw [Bool.or_eq_false_iff, isA a, Bool.and_true] at b
      exact ⟨⟨⟨mk, a⟩, b.1⟩, by simp only [b.2, Bool.not_false]⟩
  · rw [f1] at hq
    by_cases e : q = z.q + 1
    · subst e
      rw [ns] at hi
      rcases Bool.or_eq_true_iff.1 hi with h1 | h1
      · obtain ⟨B, mk, a⟩ := h.p2 z.q j (Nat.le_refl _) h1
        exact ⟨B, mk, (kall j B mk).2 a⟩
      · have h2 := (Bool.and_eq_true_iff.1 h1).2
        unfold isAlloc at h2
        split at h2
        · rename_i B mk hk; exact ⟨B, mk, (kall j B mk).2 hk⟩
        · cases h2
    · rw [nn q e] at hi
      obtain ⟨B, mk, a⟩ := h.p2 q j (by omega) hi
      exact ⟨B, mk, (kall j B mk).2 a⟩
end
end Go.Proofs.YtjkifbkehochoaaGreatDoor.Ev
namespace Go.Proofs.YtjkifbkehochoaaGreatDoor.Ev
theorem liveB_spec {B : Blk} (h : liveB B = true) : Blk.live (some B) := by
  unfold liveB at h
  unfold Blk.live
  split at h
  · trivial
  · trivial
  · cases h
section
variable {P : Program} {X : FuncId → List Value → Option Value} {call : CallF} {ops : Array Oper} {s : St} {n0 : Nat} {h0 : Hp} {A : List Nat}
theorem CI.acts {z : DA} {i j : Nat} {I h' : Hp} (h : CI ops s A z i) : CI ops s A (z.acts A j I h') i := ⟨h.cT, h.cd, h.cr, h.cr', h.cw, h.cs, h.ck, h.c0⟩
theorem CI.holds {z : DA} {i j : Nat} {B : Blk} (h : CI ops s A z i) : CI ops s A (z.holds j B) i := ⟨h.cT, h.cd, h.cr, h.cr', h.cw, h.cs, h.ck, h.c0⟩
theorem stepD_ok (hS : SOK ops A) (hk : s.k ≤ 4096) (hb : n0 + ops.size ≤ 65536) {z z' : DA} {i : Nat} {o : Oper} (ho : ops[i]? = some o) (hc : CI ops s A z i) (he : EI P X call ops n0 h0 A z i) (h : stepD P X call A ops.toList s n0 i o z = some z') :
    CI ops s A z' (i + 1) ∧ EI P X call ops n0 h0 A z' (i + 1) := by
  unfold stepD at h
  split at h
  · cases h
  · rename_i hw
    obtain ⟨T, h1, h2⟩ := ob_some h
    cases h2
    exact ⟨hc.core hS hk ho hw h1 (fun _ => ⟨rfl, rfl⟩) (fun x => nomatch x), he.core ho (.inl rfl)⟩
  · rename_i hw
    split at h
    · rename_i v hv
      obtain ⟨T, h1, h2⟩ := ob_some h
      cases h2
      exact ⟨hc.core hS hk ho hw h1 (fun x => nomatch x) (fun _ x => nomatch x), he.core ho (.inr ⟨rfl, _, hv⟩)⟩
    · split at h
      · rename_i B mk hA
        split at h
        · rename_i hm
          obtain ⟨m1, m2⟩ := Bool.and_eq_true_iff.1 hm
          obtain ⟨T, h1, h2⟩ := ob_some h
          cases h2
          exact ⟨(hc.core (kd := .alloc B mk) hS hk ho hw h1 (fun x => nomatch x) (fun _ x => nomatch x)).holds, he.alloc ho hA m1 (liveB_spec m2)⟩
        · cases h
      · split at h
        · rename_i hes
          obtain ⟨r, h1, h2⟩ := ob_some h
          obtain ⟨T, h3, h4⟩ := ob_some h2
          cases h4
          obtain ⟨v, h'⟩ := r
          exact ⟨CI.core hS hk hc.acts ho hw h3 (fun x => nomatch x) (fun _ x => nomatch x), he.acts hb ho rfl h1 (allB_spec hes)⟩
        · cases h
noncomputable def runD (P : Program) (X : FuncId → List Value → Option Value) (call : CallF) (A : List Nat) (ops : List Oper) (s : St) (n0 : Nat) (l : List Oper) : Nat → DA → Option DA :=
  List.rec (motive := fun _ => Nat → DA → Option DA) (fun _ z => some z) (fun o _ ih i z => ob (stepD P X call A ops s n0 i o z) fun z => ih (Nat.add i 1) z) l
theorem runD_ok (hS : SOK ops A) (hk : s.k ≤ 4096) (hb : n0 + ops.size ≤ 65536) : ∀ (l : List Oper) (i : Nat) (z z' : DA), (∀ (j : Nat) o, l[j]? = some o → ops[i + j]? = some o) → CI ops s A z i → EI P X call ops n0 h0 A z i → runD P X call A ops.toList s n0 l i z = some z' →
    CI ops s A z' (i + l.length) ∧ EI P X call ops n0 h0 A z' (i + l.length)
  | [], i, z, z', _, hc, he, h => by cases h; exact ⟨hc, he⟩
  | o :: l, i, z, z', hl, hc, he, h => by
    obtain ⟨z1, h1, h2⟩ := ob_some (show ob (stepD P X call A ops.toList s n0 i o z) (fun z => runD P X call A ops.toList s n0 l (i + 1) z) = some z' from h)
    obtain ⟨c1, c2⟩ := stepD_ok hS hk hb (hl 0 o rfl) hc he h1
    have := runD_ok hS hk hb l (i + 1) z1 z' (fun j p hp => by rw [show i + 1 + j = i + (j + 1) by omega]; exact hl (j + 1) p (by simpa using hp)) c1 c2 h2
    rw [show i + (o :: l).length = i + 1 + l.length by simp; omega]
    exact this
noncomputable def initD (s : St) (h0 : Hp) : DA := ⟨s.T, h0, 0, [], [], fun _ => undef, fun _ _ => none, fun _ => true, fun _ => .skip, fun _ => 0, fun _ => h0, fun _ => h0, fun _ _ => false⟩
theorem CI.init {h0 : Hp} : CI ops s A (initD s h0) 0 :=
  ⟨fun t v ht hv => .inr ⟨fun j oj hj => by omega, hv⟩, fun j _ _ hj => by omega, fun j _ _ _ hj => by omega, fun j _ _ hj => by omega, fun j _ hj => by omega, fun j hj => by omega, fun j hj => by omega, fun j x v _ h => (by cases h)⟩
theorem EI.init {h0 : Hp} : EI P X call ops n0 h0 A (initD s h0) 0 where
  a1 := fun j _ _ _ hj => by omega
  al := fun j B mk hk => by cases hk
  v1 := fun j _ hj => by omega
  k0 := fun j _ => rfl
  e1 := fun j _ _ hj => by omega
  e2 := fun q hq => absurd hq (Nat.not_lt_zero _)
  es := fun q hq => absurd hq (Nat.not_lt_zero _)
  e3 := fun q q' h1 hq => absurd hq (Nat.not_lt_zero _)
  vq := rfl
  v0 := rfl
  i0 := fun j => rfl
  ia := fun q j hq => absurd hq (Nat.not_lt_zero _)
  im := fun q j hq => absurd hq (Nat.not_lt_zero _)
  inn := fun q hq => absurd hq (Nat.not_lt_zero _)
  ea := fun q j B mk hq => absurd hq (Nat.not_lt_zero _)
  eb := fun q id hq => absurd hq (Nat.not_lt_zero _)
  p1 := fun j B => ⟨fun h => (by cases h), fun ⟨⟨_, h⟩, _⟩ => (by cases h)⟩
  p2 := fun q j hq h => by cases h
end
end Go.Proofs.YtjkifbkehochoaaGreatDoor.Ev
namespace Go.Proofs.YtjkifbkehochoaaGreatDoor.Ev
/-- equality of values, by reckoning -/
noncomputable def bytesB (l : List UInt8) : List UInt8 → Bool := List.rec (motive := fun _ => List UInt8 → Bool)
  (fun m => List.casesOn m true fun _ _ => false)
  (fun a _ ih m => List.casesOn m false fun b m => match Nat.beq a.toNat b.toNat with | true => ih m | false => false) l
theorem bytesB_spec : ∀ {l m : List UInt8}, bytesB l m = true → l = m
  | [], [], _ => rfl
  | [], b :: m, h => by cases h
  | a :: l, [], h => by cases h
  | a :: l, b :: m, h => by
    replace h : (match Nat.beq a.toNat b.toNat with | true => bytesB l m | false => false) = true := h
    split at h
    · rename_i hb
      rw [UInt8.toNat_inj.1 (Nat.eq_of_beq_eq_true hb), bytesB_spec h]
    · cases h
noncomputable def addrB (a b : Option Addr) : Bool := match a, b with
  | none, none => true
  | some x, some y => match x.spot, y.spot with
    | none, none => Nat.beq x.block y.block && Nat.beq x.off y.off
    | some p, some q => Nat.beq x.block y.block && Nat.beq x.off y.off && Nat.beq p q
    | _, _ => false
  | _, _ => false
theorem addrB_spec {a b : Option Addr} (h : addrB a b = true) : a = b := by
  unfold addrB at h
  split at h
  · rfl
  · rename_i x y
    obtain ⟨xb, xo, xs⟩ := x
    obtain ⟨yb, yo, ys⟩ := y
    simp only at h
    split at h
    · simp only [Bool.and_eq_true, Nat.beq_eq] at h
      rw [h.1, h.2]
    · simp only [Bool.and_eq_true, Nat.beq_eq] at h
      rw [h.1.1, h.1.2, h.2]
    · cases h
  · cases h
noncomputable def listB (f : Value → Value → Bool) (l : List Value) : List Value → Bool := List.rec (motive := fun _ => List Value → Bool)
  (fun m => List.casesOn m true fun _ _ => false)
  (fun a _ ih m => List.casesOn m false fun b m => match f a b with | true => ih m | false => false) l
theorem listB_spec {f : Value → Value → Bool} (hf : ∀ a b, f a b = true → a = b) : ∀ {l m : List Value}, listB f l m = true → l = m
  | [], [], _ => rfl
  | [], b :: m, h => by cases h
  | a :: l, [], h => by cases h
  | a :: l, b :: m, h => by
    replace h : (match f a b with | true => listB f l m | false => false) = true := h
    split at h
    · rename_i hb
      rw [hf _ _ hb, listB_spec hf h]
    · cases h
noncomputable def veq (n : Nat) : Value → Value → Bool := Nat.rec (motive := fun _ => Value → Value → Bool) (fun _ _ => false) (fun _ ih a b => match a with
  | .bool x => (match b with | .bool y => x == y | _ => false)
  | .int k x => (match b with | .int k' y => decide (k = k') && decide (x = y) | _ => false)
  | .float k x => (match b with | .float k' y => decide (k = k') && Nat.beq x y | _ => false)
  | .string x => (match b with | .string y => bytesB x.data.toList y.data.toList | _ => false)
  | .pointer x => (match b with | .pointer y => addrB x y | _ => false)
  | .slice x l c => (match b with | .slice y l' c' => addrB x y && Nat.beq l l' && Nat.beq c c' | _ => false)
  | .map (some x) => (match b with | .map (some y) => Nat.beq x y | _ => false)
  | .map none => (match b with | .map none => true | _ => false)
  | .func f x y => (match b with | .func f' x' y' => decide (f = f') && listB ih x.toList x'.toList && listB ih y.toList y'.toList | _ => false)
  | .nilFunc => (match b with | .nilFunc => true | _ => false)
  | .nilIface => (match b with | .nilIface => true | _ => false)
  | .iface t x => (match b with | .iface t' y => Nat.beq t t' && ih x y | _ => false)
  | .agg x => (match b with | .agg y => listB ih x.toList y.toList | _ => false)
  | .tuple x => (match b with | .tuple y => listB ih x.toList y.toList | _ => false)
  | _ => false) n
theorem veq_spec : ∀ {n : Nat} {a b : Value}, veq n a b = true → a = b
  | 0, _, _, h => by cases h
  | n + 1, a, b, h => by
    have ih : ∀ a b, veq n a b = true → a = b := fun a b h => veq_spec h
    have arr : ∀ {x y : Array Value}, listB (veq n) x.toList y.toList = true → x = y := fun {x y} h => Array.toList_inj.1 (listB_spec ih h)
    cases a with
    | bool x => cases b <;> first | (cases h; done) | (rw [eq_of_beq (show (x == _) = true from h)])
    | int k x => cases b <;> first | (cases h; done) | (obtain ⟨h1, h2⟩ := Bool.and_eq_true_iff.1 h; rw [of_decide_eq_true h1, of_decide_eq_true h2])
    | float k x => cases b <;> first | (cases h; done) | (obtain ⟨h1, h2⟩ := Bool.and_eq_true_iff.1 h; rw [of_decide_eq_true h1, Nat.eq_of_beq_eq_true h2])
    | string x =>
      cases b <;> first | (cases h; done) | skip
      rename_i y
      have := Array.toList_inj.1 (bytesB_spec h)
      obtain ⟨x⟩ := x
      obtain ⟨y⟩ := y
      simp only at this
      rw [this]
    | pointer x => cases b <;> first | (cases h; done) | (rw [addrB_spec h])
    | slice x l c => cases b <;> first | (cases h; done) | (obtain ⟨h1, h2⟩ := Bool.and_eq_true_iff.1 h; obtain ⟨h1, h3⟩ := Bool.and_eq_true_iff.1 h1; rw [addrB_spec h1, Nat.eq_of_beq_eq_true h2, Nat.eq_of_beq_eq_true h3])
    | map x =>
      cases b <;> first | (cases x <;> cases h; done) | skip
      rename_i y
      cases x <;> cases y <;> first | rfl | (cases h; done) | (rw [Nat.eq_of_beq_eq_true h])
    | func f x y => cases b <;> first | (cases h; done) | (obtain ⟨h1, h2⟩ := Bool.and_eq_true_iff.1 h; obtain ⟨h1, h3⟩ := Bool.and_eq_true_iff.1 h1; rw [of_decide_eq_true h1, arr h2, arr h3])
    | nilFunc => cases b <;> first | rfl | (cases h; done)
    | nilIface => cases b <;> first | rfl | (cases h; done)
    | iface t x => cases b <;> first | (cases h; done) | (obtain ⟨h1, h2⟩ := Bool.and_eq_true_iff.1 h; rw [Nat.eq_of_beq_eq_true h1, ih _ _ h2])
    | agg x => cases b <;> first | (cases h; done) | (rw [arr h])
    | tuple x => cases b <;> first | (cases h; done) | (rw [arr h])
    | complex => cases h
    | chan => cases h
end Go.Proofs.YtjkifbkehochoaaGreatDoor.Ev
